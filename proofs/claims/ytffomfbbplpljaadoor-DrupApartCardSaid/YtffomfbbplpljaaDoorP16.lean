/- A part of the proof: Ab74, K59, K60, K62, K70, K25, K72, K73, K74, K75, K76, K77, K78, K81, K82. -/
import Derived.Test.YtffomfbbplpljaaDoorP15
import Derived.Lib.ConvBytes
import Derived.Lib.SlBytesConst
set_option linter.unusedVariables false
set_option linter.unusedSimpArgs false
set_option linter.unusedSimpArgs false
set_option linter.unusedVariables false
set_option linter.unusedSectionVars false
namespace Ab
open Go
variable [Draws]

theorem lit_run {P : Program} {T : Tab} (hT : TabOk P T) {w : World} {ok : Nat → Prop} {π : List Value} {t e : TypeId} {r re : TRow} {len : Nat} {ps : List (Nat × AV)} {vs : List (Nat × Value)} {xs : List D} (hr : tlook T t = some r) (hk : r.kd = .slice e) (hre : tlook T e = some re)
    (hp : RelPs w ok π ps vs) (hxs : litParts re.size 0 ps = some xs) (hlen : xs.length = len) (hl0 : len ≠ 0) (hble : len * re.size ≤ 16777216) (hz0 : re.size ≠ 0) :
    ∃ us, RelE w ok re.size xs us ∧ (Instr.buildSlice t len vs.toArray).run P w = .ok (.slice (some ⟨w.heap.size, 0, none⟩) len len) (w.alloc (.cells us.toArray e)) := by
  have ht := slice_elem hT hr hk
  obtain ⟨z, hzr, hzc, hzf, _, _⟩ := (tab_row hT hre).zero
  have hzl : z.cells.size = re.size := by
    have := (tab_row hT hre).zl
    rw [← hzc] at this
    simpa using this
  obtain ⟨us, h1, h2⟩ := lit_rel hxs hp [] ((List.range (len * re.size)).map fun i => z.cells[i % z.cells.size]!) (by simp) (by simp [hlen])
  simp only [List.nil_append] at h2
  refine ⟨us, h1, ?_⟩
  have hsz := (tab_row hT hre).sizeOf w
  have h2' : Instr.fill (fun i => some (i * re.size, re.size)) (Array.map (fun i => z.cells[i % z.cells.size]!) (Array.range (len * re.size))) vs = some us.toArray := by
    rw [← h2]
    congr 1
    apply Array.ext'
    simp
  have hl0' : len * re.size ≠ 0 := fun h => (Nat.mul_eq_zero.1 h).elim hl0 hz0
  simp [Instr.buildSlice, run_underlying ht, hsz, hl0', show ¬ 16777216 < len * re.size by omega, hzr, h2', run_newRow]

section
variable {P : Program} [Globals P] {T : Tab} {f : FuncId} {n : Nat} {C : Cx} {R : AV → List (Option AObj) → Prop} {env : Env} {objs : List (Option AObj)} {ops : Array Oper}

/-- A constant string's bytes: a literal row, turned to its own type. -/
theorem sat_constB {i j : Nat} {r : List Nat} {k : List Item} {o1 o2 : Oper} {e1 e2 : Env} {t e : TypeId} {rt re : TRow} {len : Nat} {ps : List (Nat × Operand)} {az : List (Nat × AV)} {xs : List D} {d1 : Tmp} (hT : TabOk P T)
    (ho1 : ops[i]? = some o1) (hw1 : wantE ops env o1 = .yes) (hop1 : o1.op = .buildSlice t len ⟨ps⟩) (hd1 : o1.dst = some d1) (hp : parts env ps = some az) (hr : tlook T t = some rt) (hk : rt.kd = .slice e) (hre : tlook T e = some re) (h8 : re.kd = .int .u8) (hsz : re.size = 1)
    (hxs : litParts re.size 0 az = some xs) (hlen : xs.length = len) (hl0 : len ≠ 0) (hble : len ≤ 16777216) (hput1 : putE n (some d1) .dead env = some e1)
    (ho2 : ops[j]? = some o2) (hw2 : wantE ops e1 o2 = .yes) (hop2 : o2.op = .convert t t (.tmp d1)) (hput2 : putE n o2.dst (.d (.sl 1 xs (litRd xs))) e1 = some e2)
    (h : ASat P f n C (.inRegion ops r :: k) e2 objs R) : ASat P f n C (.inRegion ops (i :: j :: r) :: k) env objs R := by
  intro π w tmps hn hm hh he
  have hps := parts_rel (ds := []) he hp
  obtain ⟨us, hE, hrun⟩ := lit_run hT hr hk hre hps hxs hlen hl0 (by rw [hsz, Nat.mul_one]; exact hble) (by rw [hsz]; decide)
  have ht := slice_elem hT hr hk
  have heU := int_type hT hre h8
  -- the row
  have hr1 : (execOp (Act.eval ⟨tmps, []⟩) o1).run P w = .ok (.value (.slice (some ⟨w.heap.size, 0, none⟩) len len)) (w.alloc (.cells us.toArray e)) := by
    unfold execOp
    rw [hop1]
    have := hrun
    simp only [Sem.run_bind, Sem.run_pure]
    have e3 : (Array.map (fun x => (x.1, Act.eval ⟨tmps, []⟩ x.2)) ⟨ps⟩ : Array (Nat × Value)) = (ps.map fun x => (x.1, Act.eval ⟨tmps, []⟩ x.2)).toArray := by simp
    first
      | (rw [e3]; rw [this]; rfl)
      | (simp only [e3, this]; rfl)
      | (simpa using this)
  refine .opVal ho1 ((wanted_of he).1 hw1) hr1 ?_
  rw [hd1]
  -- behind it
  have hlt : d1 < n := by
    simp only [putE] at hput1
    cases hb : Nat.blt d1 n with
    | false => rw [hb] at hput1; cases hput1
    | true => simpa [Nat.blt_eq] using hb
  have hul := hE.length
  rw [hsz, Nat.mul_one] at hul
  have hext1 : ∀ b, b < w.heap.size → (w.alloc (.cells us.toArray e)).heap[b]? = w.heap[b]? := fun b hb => heap_push_old _ hb
  have htr1 := tr_plain (w' := w.alloc (.cells us.toArray e)) hm rfl rfl ⟨rfl, dr_mono (Nat.le_refl _)⟩ (by rw [alloc_heap]; simp) hext1
  obtain ⟨p1, p2⟩ := put_rel (dst := some d1) (a := .dead) (v := .slice (some ⟨w.heap.size, 0, none⟩) len len) (env_tr he htr1) hn hput1 .dead
  have hget : (putT (some d1) (.slice (some ⟨w.heap.size, 0, none⟩) len len) tmps).getD d1 undef = .slice (some ⟨w.heap.size, 0, none⟩) len len := by
    simp [putT, Array.getD_eq_getD_getElem?, Array.getElem?_setIfInBounds, hn, hlt]
  have hr2 : (execOp (Act.eval ⟨putT (some d1) (.slice (some ⟨w.heap.size, 0, none⟩) len len) tmps, []⟩) o2).run P (w.alloc (.cells us.toArray e)) = .ok (.value (.slice (some ⟨w.heap.size, 0, none⟩) len len)) (w.alloc (.cells us.toArray e (us.toArray.size, us.toArray.size + 1))) := by
    unfold execOp
    rw [hop2]
    have e4 : Act.eval ⟨putT (some d1) (.slice (some ⟨w.heap.size, 0, none⟩) len len) tmps, []⟩ (.tmp d1) = .slice (some ⟨w.heap.size, 0, none⟩) len len := hget
    have := Go.Lib.run_convert_bytes_const (P := P) w t e us.toArray len len ht heU
    simp only [Sem.run_bind, Sem.run_pure, e4, this]
    rfl
  refine .opVal ho2 ((wanted_of p1).1 hw2) hr2 ?_
  have hext2 : ∀ b, b < w.heap.size → (w.alloc (.cells us.toArray e (us.toArray.size, us.toArray.size + 1))).heap[b]? = w.heap[b]? := fun b hb => heap_push_old _ hb
  have htr2 := tr_plain (w' := w.alloc (.cells us.toArray e (us.toArray.size, us.toArray.size + 1))) hm rfl rfl ⟨rfl, dr_mono (Nat.le_refl _)⟩ (by rw [alloc_heap]; simp) hext2
  have he2 : EnvRel (w.alloc (.cells us.toArray e (us.toArray.size, us.toArray.size + 1))) (okOf C.X π objs) π e1 (putT (some d1) (.slice (some ⟨w.heap.size, 0, none⟩) len len) tmps) :=
    (put_rel (dst := some d1) (a := .dead) (v := .slice (some ⟨w.heap.size, 0, none⟩) len len) (env_tr he htr2) hn hput1 .dead).1
  have hdata : RelV (w.alloc (.cells us.toArray e (us.toArray.size, us.toArray.size + 1))) (okOf C.X π objs) π (.d (.sl 1 xs (litRd xs))) (.slice (some ⟨w.heap.size, 0, none⟩) len len) := by
    have hk2 : Keeps w (okOf C.X π objs) (w.alloc (.cells us.toArray e (us.toArray.size, us.toArray.size + 1))) (okOf C.X π objs) := fun b o u a1 a2 => ⟨a1, cell_push _ a2⟩
    subst hlen
    rw [hsz] at hE
    refine .d (.sl (us := us) (hE.mono hk2) (fun q hq => ⟨new_okb hm, ?_⟩) (Nat.le_refl _) ?_ (litRd_ok xs))
    · rw [Nat.zero_add]
      exact cell_of_heap (heap_push_new _)
    · have hml : maxLen = 9223372036854775807 := rfl
      omega
  obtain ⟨q1, q2⟩ := put_rel he2 p2 hput2 hdata
  exact h π _ _ q2 htr2.mem (hist_tr hh htr2) q1

/-- A string's bytes, in a slice of the call's own. -/
theorem sat_strB {i : Nat} {r : List Nat} {k : List Item} {o : Oper} {e2 : Env} {src dst e : TypeId} {rs rd re : TRow} {xo : Operand} {bs : List UInt8} (hT : TabOk P T) (ho : ops[i]? = some o) (hw : wantE ops env o = .yes) (hop : o.op = .convert src dst xo) (hx : opnd env xo = some (.d (.v (.string ⟨bs.toArray⟩))))
    (hrs : tlook T src = some rs) (hks : rs.kd = .str) (hrd : tlook T dst = some rd) (hkd : rd.kd = .slice e) (hre : tlook T e = some re) (h8 : re.kd = .int .u8) (hlen : bs.length ≤ 1000000000)
    (hput : putE n o.dst (.gs objs.length) env = some e2) (h : ASat P f n C (.inRegion ops r :: k) e2 (objs ++ [some (gL e 1 eU8 0 bs)]) R) : ASat P f n C (.inRegion ops (i :: r) :: k) env objs R := by
  refine sat_op ⟨none, false, .gs objs.length, none, objs ++ [some (gL e 1 eU8 0 bs)]⟩ ho hw (fun X π w tmps m he _ => ?_) trivial hput h
  have hax := look_ok (P := P) he hx
  have hs := str_type hT hrs hks
  have hd := slice_elem hT hrd hkd
  have heU := int_type hT hre h8
  have hrun := Go.Lib.run_convert_string_bytes (P := P) w src dst e ⟨bs.toArray⟩ hs hd heU
  have hsize : (⟨bs.toArray⟩ : ByteArray).size = bs.length := by simp [ByteArray.size]
  have hml : maxLen = 9223372036854775807 := rfl
  rw [hsize] at hrun
  have hcell := Go.Lib.bytesWorld_cell w e ⟨bs.toArray⟩
  have hold : ∀ b, b < w.heap.size → (Go.Lib.bytesWorld w e ⟨bs.toArray⟩).heap[b]? = w.heap[b]? := fun b hb => Go.Lib.bytesWorld_at_old w e _ b hb
  have hnew := Go.Lib.bytesWorld_at_new w e ⟨bs.toArray⟩
  have hhs := Go.Lib.bytesWorld_size w e ⟨bs.toArray⟩
  have hout : (Go.Lib.bytesWorld w e ⟨bs.toArray⟩).os = w.os ∧ (Go.Lib.bytesWorld w e ⟨bs.toArray⟩).tape = w.tape ∧ (Go.Lib.bytesWorld w e ⟨bs.toArray⟩).output = w.output ∧ w.drawn ≤ (Go.Lib.bytesWorld w e ⟨bs.toArray⟩).drawn := by
    unfold Go.Lib.bytesWorld World.freeze
    rw [if_neg (by decide)]
    exact ⟨rfl, rfl, rfl, Nat.le_succ _⟩
  have hc1 := grownCap_ge w bs.length 0 e
  have hc2 := grownCap_le_maxLen w bs.length 0 e (by omega)
  have hclen : (Go.Lib.bytesCells w e ⟨bs.toArray⟩).size = grownCap w bs.length 0 e := by
    simp only [Go.Lib.bytesCells, hsize, Array.size_append, Array.size_map, List.size_toArray, Array.size_replicate]
    omega
  generalize grownCap w bs.length 0 e = c at hc1 hc2 hclen hrun
  generalize Go.Lib.bytesCells w e ⟨bs.toArray⟩ = BC at hnew hclen
  generalize Go.Lib.bytesWorld w e ⟨bs.toArray⟩ = W at *
  obtain ⟨BC⟩ := BC
  simp only [List.size_toArray] at hclen hnew
  have hh' : ∀ b, blk (.slice (some ⟨w.heap.size, 0, none⟩) bs.length c) = some b → w.heap.size ≤ b := by
    intro b hb
    cases c <;> cases hb
    exact Nat.le_refl _
  refine ⟨.slice (some ⟨w.heap.size, 0, none⟩) bs.length c, W, π ++ [.slice (some ⟨w.heap.size, 0, none⟩) bs.length c], ?_, tr_newW m hout.1 hout.2.1 ⟨hout.2.2.1, dr_mono hout.2.2.2⟩ (by rw [hhs]; omega) hold _ (gL e 1 eU8 0 bs) hh' ?_, fun _ => .gs (nth_new m.len _)⟩
  · unfold execOp
    rw [hop]
    simp only [Sem.run_bind, hax, hrun, Result.andThen_ok, Sem.run_pure]
    rfl
  · cases c with
    | zero =>
      obtain rfl : bs = [] := List.eq_nil_of_length_eq_zero (by omega)
      exact .gnil
    | succ c =>
      have hls : (bs.map fun b => Value.int .u8 (b.toNat : Int)).length = bs.length := by simp
      have hk := new_keepsW (X := X) (π := π) (objs := objs) hold (.slice (some ⟨w.heap.size, 0, none⟩) bs.length (c + 1)) (gL e 1 eU8 0 bs) m.len hh'
      have := RelO.grow (w := W) (ok := okOf X (π ++ [.slice (some ⟨w.heap.size, 0, none⟩) bs.length (c + 1)]) (objs ++ [some (gL e 1 eU8 0 bs)])) (π := π ++ [.slice (some ⟨w.heap.size, 0, none⟩) bs.length (c + 1)]) (e := e) (s := 1) (b := w.heap.size) (o := 0) (c := c) (xs := bs.map eU8) (us := bs.map fun b => Value.int .u8 (b.toNat : Int))
        (vs := BC) (rd := fun i => eU8 (bs.getD i 0)) (fz := (BC.length, BC.length + 1)) hnew (fun q hq => by omega) (strEs_rel bs) (fun q hq => ?_) (by rw [List.length_map]; exact hc1) hc2 (by omega) (map_rd eU8 0 bs)
      · rw [List.length_map] at this
        exact this
      · rw [hls] at hq
        have h1 := hcell q (by rw [hsize]; exact hq)
        have h2 := cell_of_heap (i := q) hnew
        rw [h2] at h1
        rw [Nat.zero_add, h1]
        simp [hq, List.getD_eq_getElem?_getD]
end
end Ab
namespace Go.Proofs.YtffomfbbplpljaaDoor
open Go Ab Go.RowKit
set_option maxRecDepth 100000
set_option linter.unusedVariables false
set_option linter.unusedSimpArgs false
set_option maxHeartbeats 4000000

/-! The document's example. -/
@[reducible] def xaL : List (List Int) := [[1, 2], [1, -2], [-1, 2], [-1, -2]]
@[reducible] def xaP : List Sp := [(false, [1], ()), (false, [], ())]
@[reducible] def xaT : List UInt8 := [49, 32, 48, 10, 48, 10]
theorem xa_parse : paR xaT 2 = .inr (xaP, 6) := by kernel_rfl
theorem xa_print : proofT xaP = xaT := by kernel_rfl
theorem fo2 {l : List (List Int)} {a : List Int} {x y : Int} (hc : [x, y] ∈ l) (h : Fo l a (-x)) : Fo l a y := by
  by_cases hxy : x = y
  · subst hxy
    refine .unit hc (by simp) fun z hz hne => ?_
    have : z = x := by simpa using hz
    exact absurd this hne
  refine .unit hc (by simp) fun z hz hne => ?_
  rcases List.mem_cons.1 hz with rfl | hz
  · exact h
  · exact absurd (List.mem_singleton.1 hz) hne
theorem cf2 {l : List (List Int)} {a : List Int} {x y : Int} (hc : [x, y] ∈ l) (h : Fo l a (-x)) (k : Fo l a (-y)) : Cf l a := .inr ⟨_, hc, fun z hz => by
  rcases List.mem_cons.1 hz with rfl | hz
  · exact h
  · rw [List.mem_singleton.1 hz]
    exact k⟩
theorem fnn {l : List (List Int)} {a : List Int} {x : Int} (h : Fo l a x) : Fo l a (-(-x)) := by rwa [Int.neg_neg]
theorem xa_ref1 : refB xaL [1] = true := by
  have f1 : Fo xaL ([1].map fun x : Int => -x) (-1) := .mem (by decide)
  have f2 : Fo xaL ([1].map fun x : Int => -x) 2 := fo2 (x := 1) (by decide) f1
  exact refB_iff.2 (cf2 (x := 1) (y := -2) (by decide) f1 (fnn f2))
theorem xa_ref2 : refB (xaL ++ [[1]]) [] = true := by
  have f1 : Fo (xaL ++ [[1]]) (([] : List Int).map fun x : Int => -x) 1 := .unit (c := [1]) (by decide) (by decide) fun y hy hne => absurd (List.mem_singleton.1 hy) hne
  have f2 : Fo (xaL ++ [[1]]) (([] : List Int).map fun x : Int => -x) 2 := fo2 (x := -1) (by decide) (fnn f1)
  exact refB_iff.2 (cf2 (x := -1) (y := -2) (by decide) (fnn f1) (fnn f2))
theorem xa_chk : chk xaL 0 xaP = (1, 0) := by
  rw [chk]
  have h1 : stepR xaL (false, [1], ()) = some (xaL ++ [[1]]) := by simp only [stepR, Bool.false_eq_true, if_false, xa_ref1, if_true]
  rw [h1]
  simp only [List.cons_ne_nil, and_false, if_false]
  rw [chk]
  have h2 : stepR (xaL ++ [[1]]) (false, [], ()) = some (xaL ++ [[1]] ++ [[]]) := by simp only [stepR, Bool.false_eq_true, if_false, xa_ref2, if_true]
  rw [h2]
  simp
theorem xa_cls : Cls 2 xaL := ⟨by decide, by decide⟩
theorem str_eqB (a b : List UInt8) : ((⟨a.toArray⟩ : ByteArray).toList == (⟨b.toArray⟩ : ByteArray).toList) = decide (a = b) := strBy a b
theorem DLe.ofC {s : Nat} {xs ys : List D} {rd rd' : Nat → D} (h : CLe (.sl s xs rd) (.sl s ys rd')) : DLe (.sl s xs rd) (.sl s ys rd') := by
  intro w ok v hv
  have hf : flat v = true := by cases hv <;> rfl
  have h1 : RelL w ok [D.sl s xs rd] [v] := .cons hv hf .nil
  have h2 : RelL w ok [D.sl s ys rd'] [v] := h w ok [v] h1
  cases h2 with | cons h _ _ => exact h
theorem xa_le : VLe (.d (.ag [.v (.int .i64 2), .sl 1 (xaL.map fun c => .sl 1 (c.map eI) (litRd (c.map eI))) (litRd (xaL.map fun c => .sl 1 (c.map eI) (litRd (c.map eI))))])) (.d (eCnf 2 xaL)) :=
  VLe.dag ⟨.refl _, DLe.ofC (lit_rows eI 0 xaL 1), trivial⟩
theorem shown_call : ACall Tryd.prog 8 [] [] (fun r o => r = vB true) := by
  refine acall_enter Tryd.func8 rfl rfl (Nat.le_of_ble_eq_true rfl) fun C hC hCl hDs hGk => ?_
  refine sat_steps 17 tabOk Tryd.func8 rfl trivial ?_
  refine sat_constB tabOk rfl rfl rfl rfl rfl rfl rfl rfl rfl rfl rfl rfl (by decide) (by decide) rfl rfl rfl rfl rfl ?_
  refine sat_call tabOk Tryd.func8 rfl trivial (parse_call xaT 2 (by decide)) ⟨.eL rfl, .refl _, trivial⟩ rfl ⟨_, rfl⟩ ?_ ?_
  · rintro r o rfl
    rw [xa_parse]
    rfl
  rintro _ o rfl
  rw [xa_parse]
  refine sat_call tabOk Tryd.func8 rfl trivial (Check_call (n := 2) (l0 := xaL) (p := xaP) (by decide) xa_cls (by decide) (by decide)) ⟨?_, .refl _, trivial⟩ rfl ⟨_, rfl⟩ (by rintro r o rfl; rfl) ?_
  · exact xa_le
  rintro _ o rfl
  rw [xa_chk]
  refine sat_call tabOk Tryd.func8 rfl trivial (Check_call (n := 2) (l0 := xaL) (p := []) (by decide) xa_cls (by decide) (by decide)) ⟨?_, .nil, trivial⟩ rfl ⟨_, rfl⟩ (by rintro r o rfl; rfl) ?_
  · exact xa_le
  rintro _ o rfl
  refine sat_branch tabOk Tryd.func8 rfl trivial (fun _ => ?_) (fun h => by cases h)
  refine sat_branch tabOk Tryd.func8 rfl trivial (fun _ => ?_) (fun h => by cases h)
  refine sat_branch tabOk Tryd.func8 rfl trivial (fun _ => ?_) (fun h => by cases h)
  refine sat_branch tabOk Tryd.func8 rfl trivial (fun _ => ?_) (fun h => by cases h)
  refine sat_branch tabOk Tryd.func8 rfl trivial (fun _ => ?_) (fun h => by cases h)
  refine sat_branch tabOk Tryd.func8 rfl trivial (fun _ => ?_) (fun h => by cases h)
  refine sat_branch tabOk Tryd.func8 rfl trivial (fun _ => ?_) (fun h => by cases h)
  refine sat_call tabOk Tryd.func8 rfl trivial (dRight_call 2 xaP (by decide) (by decide)) (.refl _) rfl ⟨_, rfl⟩ (by rintro r o rfl; rfl) ?_
  rintro _ o rfl
  refine sat_branch tabOk Tryd.func8 rfl trivial (fun _ => ?_) (fun h => by cases h)
  refine sat_call tabOk Tryd.func8 rfl trivial (dSame_call xaP xaP) (.refl _) rfl ⟨_, rfl⟩ (by rintro r o rfl; rfl) ?_
  rintro _ o rfl
  rw [decide_eq_true (rfl : xaP = xaP)]
  refine sat_branch tabOk Tryd.func8 rfl trivial (fun _ => ?_) (fun h => by cases h)
  refine sat_call tabOk Tryd.func8 rfl trivial (dPrint_call xaP (by decide) (by decide)) (.refl _) rfl ⟨_, rfl⟩ (by rintro r o rfl; rfl) ?_
  rintro _ o rfl
  refine sat_ret tabOk Tryd.func8 rfl trivial ?_
  show vB ((⟨(proofT xaP).toArray⟩ : ByteArray).toList == (⟨xaT.toArray⟩ : ByteArray).toList) = _
  rw [xa_print, str_eqB, decide_eq_true rfl]
end Go.Proofs.YtffomfbbplpljaaDoor
namespace Go.Proofs.YtffomfbbplpljaaDoor
open Go Ab Go.RowKit
set_option maxRecDepth 100000
set_option linter.unusedVariables false
set_option linter.unusedSimpArgs false
set_option maxHeartbeats 4000000

def smallP (p : List Sp) (m : Int) : Bool := decide ((p.length : Int) ≤ m) && p.all (fun s => decide ((s.2.1.length : Int) ≤ m))
theorem pSmall_call (p : List Sp) (m : Int) : ACall Tryd.prog 18 [.d (eSps p), vI .i64 m] [] (fun r o => r = vB (smallP p m)) := by
  refine acall_enter Tryd.func18 rfl rfl (Nat.le_of_ble_eq_true rfl) fun C hC hCl hDs hGk => ?_
  refine sat_len (t := 0) rfl fun hlen => ?_
  rw [List.length_map] at hlen
  refine sat_branch tabOk Tryd.func18 rfl trivial (fun h => ?_) (fun h => ?_)
  · refine sat_ret tabOk Tryd.func18 rfl trivial ?_
    show vB false = vB _
    have : ¬ (p.length : Int) ≤ m := by simpa using h
    simp [this, smallP]
  have hm : (p.length : Int) ≤ m := by simpa using h
  refine sat_stop tabOk Tryd.func18 rfl trivial ?_
  refine sat_while (α := Nat) (fun i => [(0, .d (eSps p)), (1, vI .i64 m), (5, vI .i64 (i : Int))]) (fun _ => []) (fun i => i ≤ p.length ∧ smallP p m = (p.drop i).all (fun s => decide ((s.2.1.length : Int) ≤ m))) (fun i => p.length - i) 0 ⟨Nat.zero_le _, by simp [smallP, hm]⟩ ?_ ?_
  · exact fun h => sat_le h hC hCl ⟨⟨_, rfl, .refl _⟩, ⟨_, rfl, .refl _⟩, ⟨_, rfl, .refl _⟩, trivial⟩ trivial rfl rfl (Nat.zero_le _)
  rintro i ⟨hi, hc⟩ ih
  refine sat_branch tabOk Tryd.func18 rfl trivial (fun hb => ?_) (fun hb => ?_)
  · have hb : decide ((i : Int) < (((p.map eSp).length : Nat) : Int)) = true := hb
    rw [decide_eq_true_eq, List.length_map] at hb
    have hlt : i < p.length := by omega
    have hget : p.getD i (false, [], ()) = p[i] := by simp [hlt]
    rw [List.drop_eq_getElem_cons hlt, List.all_cons] at hc
    rw [← hget] at hc
    refine sat_branch tabOk Tryd.func18 rfl (by simp only [andP, and_true, true_and, Int.toNat_natCast, List.length_map, List.length_append, List.length_cons, List.length_nil, List.length_replicate]; omega) (fun hb2 => ?_) (fun hb2 => ?_)
    · have hb2 : ¬ (((p.getD i (false, [], ())).2.1.length : Nat) : Int) ≤ m := by
        have hb2 : decide (((((p.getD i (false, [], ())).2.1.map eI).length : Nat) : Int) > m) = true := hb2
        rw [decide_eq_true_eq, List.length_map] at hb2
        omega
      refine sat_ret tabOk Tryd.func18 rfl trivial ?_
      rw [hc, decide_eq_false hb2]
      rfl
    · have hb2 : (((p.getD i (false, [], ())).2.1.length : Nat) : Int) ≤ m := by
        have hb2 : decide (((((p.getD i (false, [], ())).2.1.map eI).length : Nat) : Int) > m) = false := hb2
        rw [decide_eq_false_iff_not, List.length_map] at hb2
        omega
      refine sat_stop tabOk Tryd.func18 rfl trivial ?_
      refine sat_le (ih (i + 1) ⟨by omega, ?_⟩ (by omega)) hC hCl ⟨⟨_, rfl, .refl _⟩, ⟨_, rfl, .refl _⟩, ⟨_, rfl, .of (by rw [wrap_id (by omega) (by omega)]; rfl)⟩, trivial⟩ trivial rfl rfl (Nat.zero_le _)
      rw [hc, decide_eq_true hb2, Bool.true_and]
  · have hb : decide ((i : Int) < (((p.map eSp).length : Nat) : Int)) = false := hb
    rw [decide_eq_false_iff_not, List.length_map] at hb
    obtain rfl : i = p.length := by omega
    rw [List.drop_length] at hc
    refine sat_ret tabOk Tryd.func18 rfl trivial ?_
    rw [hc]
    rfl
def rightP (n : Int) (p : List Sp) : Bool := decide (0 ≤ n ∧ n ≤ 100000 ∧ p.length ≤ 20000) && p.all (fun s => clOk n s.2.1)
theorem rightB_one {n : Int} (hn : 0 ≤ n ∧ n ≤ 100000) (c : List Int) : rightB n [c] = clOk n c := by simp [rightB, hn.1, hn.2]
theorem cnf1_le (n : Int) (c : List Int) : VLe (.d (.ag [eI n, .sl 1 [eIs c] (litRd [eIs c])])) (.d (eCnf n [c])) := VLe.dag ⟨.refl _, DLe.eL rfl, trivial⟩
theorem pRight_call (n : Int) (p : List Sp) (hpl : ∀ s ∈ p, s.2.1.length ≤ maxLen) : ACall Tryd.prog 16 [vI .i64 n, .d (eSps p)] [] (fun r o => r = vB (rightP n p)) := by
  refine acall_enter Tryd.func16 rfl rfl (Nat.le_of_ble_eq_true rfl) fun C hC hCl hDs hGk => ?_
  refine sat_len (t := 1) rfl fun hlen => ?_
  rw [List.length_map] at hlen
  refine sat_branch tabOk Tryd.func16 rfl trivial (fun h1 => ?_) (fun h1 => ?_)
  · have h1 : n < 0 := by simpa using h1
    refine sat_branch tabOk Tryd.func16 rfl trivial (fun _ => ?_) (fun h => by cases h)
    refine sat_branch tabOk Tryd.func16 rfl trivial (fun _ => ?_) (fun h => by cases h)
    refine sat_ret tabOk Tryd.func16 rfl trivial ?_
    rw [rightP, decide_eq_false (by omega)]
    rfl
  have h1 : 0 ≤ n := by simpa using h1
  refine sat_branch tabOk Tryd.func16 rfl trivial (fun h2 => ?_) (fun h2 => ?_)
  · have h2 : 100000 < n := by simpa using h2
    refine sat_branch tabOk Tryd.func16 rfl trivial (fun _ => ?_) (fun h => by cases h)
    refine sat_ret tabOk Tryd.func16 rfl trivial ?_
    rw [rightP, decide_eq_false (by omega)]
    rfl
  have h2 : n ≤ 100000 := by simpa using h2
  refine sat_branch tabOk Tryd.func16 rfl trivial (fun h3 => ?_) (fun h3 => ?_)
  · have h3 : decide ((((p.map eSp).length : Nat) : Int) > 20000) = true := h3
    rw [decide_eq_true_eq, List.length_map] at h3
    refine sat_ret tabOk Tryd.func16 rfl trivial ?_
    rw [rightP, decide_eq_false (by omega)]
    rfl
  have h3 : p.length ≤ 20000 := by
    have h3 : decide ((((p.map eSp).length : Nat) : Int) > 20000) = false := h3
    rw [decide_eq_false_iff_not, List.length_map] at h3
    omega
  have hR : rightP n p = p.all (fun s => clOk n s.2.1) := by rw [rightP, decide_eq_true ⟨h1, h2, h3⟩, Bool.true_and]
  refine sat_stop tabOk Tryd.func16 rfl trivial ?_
  refine sat_while (α := Nat) (fun i => [(0, vI .i64 n), (1, .d (eSps p)), (5, vI .i64 (i : Int))]) (fun _ => []) (fun i => i ≤ p.length ∧ rightP n p = (p.drop i).all (fun s => clOk n s.2.1)) (fun i => p.length - i) 0 ⟨Nat.zero_le _, hR⟩ ?_ ?_
  · exact fun h => sat_le h hC hCl ⟨⟨_, rfl, .refl _⟩, ⟨_, rfl, .refl _⟩, ⟨_, rfl, .refl _⟩, trivial⟩ trivial rfl rfl (Nat.zero_le _)
  rintro i ⟨hi, hc⟩ ih
  refine sat_branch tabOk Tryd.func16 rfl trivial (fun hb => ?_) (fun hb => ?_)
  · have hb : decide ((i : Int) < (((p.map eSp).length : Nat) : Int)) = true := hb
    rw [decide_eq_true_eq, List.length_map] at hb
    have hlt : i < p.length := by omega
    have hget : p.getD i (false, [], ()) = p[i] := by simp [hlt]
    rw [List.drop_eq_getElem_cons hlt, List.all_cons] at hc
    rw [← hget] at hc
    have hml : maxLen = 9223372036854775807 := rfl
    have hlm := hpl _ (List.getElem_mem hlt)
    rw [← hget] at hlm
    refine sat_call tabOk Tryd.func16 rfl (by simp only [andP, and_true, true_and, Int.toNat_natCast, List.length_map, List.length_append, List.length_cons, List.length_nil, List.length_replicate]; omega) (Right_call n [(p.getD i (false, [], ())).2.1] (by rw [hml]; simp) (by intro c hc; rw [List.mem_singleton.1 hc]; exact hlm)) ⟨cnf1_le n _, trivial⟩ rfl ⟨_, rfl⟩ (by rintro r o rfl; rfl) ?_
    rintro _ o rfl
    rw [rightB_one ⟨h1, h2⟩]
    cases hcl : clOk n (p.getD i (false, [], ())).2.1 with
    | false =>
      refine sat_branch tabOk Tryd.func16 rfl trivial (fun _ => ?_) (fun h => by cases h)
      refine sat_ret tabOk Tryd.func16 rfl trivial ?_
      rw [hc, hcl]
      rfl
    | true =>
      refine sat_branch tabOk Tryd.func16 rfl trivial (fun h => by cases h) (fun _ => ?_)
      refine sat_stop tabOk Tryd.func16 rfl trivial ?_
      refine sat_le (ih (i + 1) ⟨by omega, ?_⟩ (by omega)) hC hCl ⟨⟨_, rfl, .refl _⟩, ⟨_, rfl, .refl _⟩, ⟨_, rfl, .of (by rw [wrap_id (by omega) (by omega)]; rfl)⟩, trivial⟩ trivial rfl rfl (Nat.zero_le _)
      rw [hc, hcl, Bool.true_and]
  · have hb : decide ((i : Int) < (((p.map eSp).length : Nat) : Int)) = false := hb
    rw [decide_eq_false_iff_not, List.length_map] at hb
    obtain rfl : i = p.length := by omega
    rw [List.drop_length] at hc
    refine sat_ret tabOk Tryd.func16 rfl trivial ?_
    rw [hc]
    rfl
end Go.Proofs.YtffomfbbplpljaaDoor
namespace Go.Proofs.YtffomfbbplpljaaDoor
open Go Ab Go.RowKit
set_option maxRecDepth 100000
set_option linter.unusedVariables false
set_option linter.unusedSimpArgs false
set_option maxHeartbeats 4000000

theorem sp_eq (x y : Sp) : x = y ↔ x.1 = y.1 ∧ x.2.1 = y.2.1 := by
  obtain ⟨d, c, ⟨⟩⟩ := x
  obtain ⟨e, k, ⟨⟩⟩ := y
  simp
theorem pSame_call (a b : List Sp) : ACall Tryd.prog 15 [.d (eSps a), .d (eSps b)] [] (fun r o => r = vB (decide (a = b))) := by
  refine acall_enter Tryd.func15 rfl rfl (Nat.le_of_ble_eq_true rfl) fun C hC hCl hDs hGk => ?_
  refine sat_len (t := 0) rfl fun hlen => ?_
  rw [List.length_map] at hlen
  refine sat_branch tabOk Tryd.func15 rfl trivial (fun h => ?_) (fun h => ?_)
  · refine sat_ret tabOk Tryd.func15 rfl trivial ?_
    show vB false = vB _
    have : a ≠ b := by rintro rfl; simp at h
    simp [this]
  have hl : a.length = b.length := by simp at h; omega
  refine sat_stop tabOk Tryd.func15 rfl trivial ?_
  refine sat_while (α := Nat) (fun i => [(0, .d (eSps a)), (1, .d (eSps b)), (5, vI .i64 (i : Int))]) (fun _ => []) (fun i => i ≤ a.length ∧ a.take i = b.take i) (fun i => a.length - i) 0 ⟨Nat.zero_le _, rfl⟩ ?_ ?_
  · exact fun h => sat_le h hC hCl ⟨⟨_, rfl, .refl _⟩, ⟨_, rfl, .refl _⟩, ⟨_, rfl, .refl _⟩, trivial⟩ trivial rfl rfl (Nat.zero_le _)
  rintro i ⟨hi, hc⟩ ih
  refine sat_branch tabOk Tryd.func15 rfl trivial (fun hb => ?_) (fun hb => ?_) <;> simp only [decide_eq_true_eq, decide_eq_false_iff_not, List.length_map] at hb
  · have hlt : i < a.length := by omega
    have hlb : i < b.length := by omega
    have ea : a.getD i (false, [], ()) = a[i] := by simp [hlt]
    have eb : b.getD i (false, [], ()) = b[i] := by simp [hlb]
    have no : a[i] ≠ b[i] → vB false = vB (decide (a = b)) := fun hne => by
      have : a ≠ b := by rintro rfl; exact hne rfl
      simp [this]
    refine sat_drawT 10 tabOk Tryd.func15 rfl rfl trivial (by kernel_rfl) ?_
    refine ds_done tabOk rfl (by simp only [andP, and_true, true_and, Int.toNat_natCast, List.length_map, List.length_append, List.length_cons, List.length_nil, List.length_replicate]; omega) ?_
    refine sat_call tabOk Tryd.func15 rfl trivial (Ints_call (a.getD i (false, [], ())).2.1 (b.getD i (false, [], ())).2.1) (.refl _) rfl ⟨_, rfl⟩ (by rintro r o rfl; rfl) ?_
    rintro _ o rfl
    refine sat_drawT 13 tabOk Tryd.func15 rfl rfl trivial (by kernel_rfl) ?_
    refine ds_branch tabOk rfl trivial (fun h1 => ?_) (fun h1 => ?_)
    · have h1 : (!decide ((a.getD i (false, [], ())).2.1 = (b.getD i (false, [], ())).2.1)) = true := h1
      refine ds_done tabOk rfl trivial ?_
      refine sat_branch tabOk Tryd.func15 rfl trivial (fun _ => ?_) (fun h => by cases h)
      refine sat_ret tabOk Tryd.func15 rfl trivial (no fun e => ?_)
      rw [← ea, ← eb] at e
      rw [e] at h1
      simp at h1
    · have h1 : (!decide ((a.getD i (false, [], ())).2.1 = (b.getD i (false, [], ())).2.1)) = false := h1
      have h1 : (a.getD i (false, [], ())).2.1 = (b.getD i (false, [], ())).2.1 := by simpa using h1
      refine ds_done tabOk rfl (by simp only [andP, and_true, true_and, Int.toNat_natCast, List.length_map, List.length_append, List.length_cons, List.length_nil, List.length_replicate]; omega) ?_
      refine sat_branch tabOk Tryd.func15 rfl trivial (fun h2 => ?_) (fun h2 => ?_)
      · have h2 : ((a.getD i (false, [], ())).1 != (b.getD i (false, [], ())).1) = true := h2
        refine sat_ret tabOk Tryd.func15 rfl trivial (no fun e => ?_)
        rw [← ea, ← eb] at e
        rw [e] at h2
        simp at h2
      · have h2 : ((a.getD i (false, [], ())).1 != (b.getD i (false, [], ())).1) = false := h2
        have h2 : (a.getD i (false, [], ())).1 = (b.getD i (false, [], ())).1 := by simpa using h2
        have h3 : a[i] = b[i] := by rw [← ea, ← eb]; exact (sp_eq _ _).2 ⟨h2, h1⟩
        refine sat_stop tabOk Tryd.func15 rfl trivial ?_
        refine sat_le (ih (i + 1) ⟨by omega, ?_⟩ (by omega)) hC hCl ⟨⟨_, rfl, .refl _⟩, ⟨_, rfl, .refl _⟩, ⟨_, rfl, .of (by rw [wrap_id (by omega) (by omega)]; rfl)⟩, trivial⟩ trivial rfl rfl (Nat.zero_le _)
        rw [List.take_add_one, List.take_add_one, hc, List.getElem?_eq_getElem hlt, List.getElem?_eq_getElem hlb, h3]
  · obtain rfl : i = a.length := by omega
    refine sat_ret tabOk Tryd.func15 rfl trivial ?_
    rw [List.take_length, hl, List.take_length] at hc
    rw [decide_eq_true hc]
    rfl
end Go.Proofs.YtffomfbbplpljaaDoor
namespace Go.Proofs.YtffomfbbplpljaaDoor
open Go Ab Go.RowKit
set_option maxRecDepth 100000
set_option linter.unusedVariables false
set_option linter.unusedSimpArgs false
set_option maxHeartbeats 4000000

/-- What may be asked about. -/
structure MayP (n : Int) (l : List (List Int)) (p : List Sp) : Prop where
  n0 : 0 ≤ n
  n1 : n ≤ 40
  ll : l.length ≤ 20
  pl : p.length ≤ 20
  lit : ∀ c ∈ l, ∀ x ∈ c, litOk n x
  cl : ∀ c ∈ l, c.length ≤ 20
  plit : ∀ s ∈ p, ∀ x ∈ s.2.1, litOk n x
  pcl : ∀ s ∈ p, s.2.1.length ≤ 20
theorem MayP.ps {n : Int} {l : List (List Int)} {p : List Sp} (h : MayP n l p) : ∀ s ∈ p, (∀ x ∈ s.2.1, litOk n x) ∧ s.2.1.length ≤ 1000 := fun s hs => ⟨h.plit s hs, Nat.le_trans (h.pcl s hs) (by decide)⟩
theorem clOk_lit {n : Int} {c : List Int} (h : clOk n c = true) : ∀ x ∈ c, litOk n x := by
  unfold clOk at h
  rw [Bool.and_eq_true] at h
  exact fun x hx => of_decide_eq_true (List.all_eq_true.1 h.2 x hx)
end Go.Proofs.YtffomfbbplpljaaDoor
namespace Go.Proofs.YtffomfbbplpljaaDoor
open Go Ab
set_option maxRecDepth 100000
set_option linter.unusedVariables false
set_option linter.unusedSimpArgs false

@[reducible] def eB (b : Bool) : D := .v (.bool b)
/-! ### SOUND -/
end Go.Proofs.YtffomfbbplpljaaDoor
namespace Go.Proofs.YtffomfbbplpljaaDoor
open Go Ab Go.RowKit
set_option maxRecDepth 100000
set_option linter.unusedVariables false
set_option linter.unusedSimpArgs false

end Go.Proofs.YtffomfbbplpljaaDoor
namespace Go.Proofs.YtffomfbbplpljaaDoor
open Go Ab Go.RowKit Go.Lib
set_option maxRecDepth 100000
set_option linter.unusedVariables false
set_option linter.unusedSimpArgs false

/-! Numbers and their digits. -/
theorem u8_nat8 {k : Nat} (h : k < 256) : (UInt8.ofNat k).toNat = k := by
  rw [UInt8.toNat_ofNat']
  exact Nat.mod_eq_of_lt h
theorem dec_dig (u : Nat) : ∀ c ∈ decDigits u, isDig c = true := by
  induction u using Nat.strongRecOn with
  | _ u ih =>
    intro c hc
    rw [decDigits] at hc
    split at hc
    · rename_i h
      rw [List.mem_singleton] at hc
      subst hc
      unfold isDig
      rw [u8_nat8 (by omega), decide_eq_true_eq]
      omega
    · rename_i h
      rcases List.mem_append.1 hc with hc | hc
      · exact ih _ (by omega) c hc
      · rw [List.mem_singleton] at hc
        subst hc
        unfold isDig
        rw [u8_nat8 (by omega), decide_eq_true_eq]
        omega
theorem dec_ne (u : Nat) : decDigits u ≠ [] := by
  rw [decDigits]
  split <;> simp
theorem numN_dec (u : Nat) : numN (decDigits u) = u := by
  induction u using Nat.strongRecOn with
  | _ u ih =>
    rw [decDigits]
    split
    · rename_i h
      simp only [numN, List.foldl_cons, List.foldl_nil]
      rw [u8_nat8 (by omega)]
      omega
    · rename_i h
      rw [numN_snoc, ih _ (by omega), u8_nat8 (by omega)]
      omega
theorem dec_head (u : Nat) (h : 1 ≤ u) : ∃ c r, decDigits u = c :: r ∧ c ≠ 48 := by
  induction u using Nat.strongRecOn with
  | _ u ih =>
    rw [decDigits]
    split
    · rename_i h2
      refine ⟨_, _, rfl, fun e => ?_⟩
      have := congrArg UInt8.toNat e
      rw [u8_nat8 (by omega)] at this
      have e48 : (48 : UInt8).toNat = 48 := rfl
      omega
    · rename_i h2
      obtain ⟨c, r, h3, h4⟩ := ih (u / 10) (by omega) (by omega)
      rw [h3]
      exact ⟨c, _, rfl, h4⟩
theorem dig_val {c : UInt8} (h : isDig c = true) : 48 ≤ c.toNat ∧ c.toNat ≤ 57 := of_decide_eq_true h
theorem dec_numN : ∀ (k : Nat) (ds : List UInt8), ds.length = k + 1 → (∀ c ∈ ds, isDig c = true) → (ds.getD 0 0 = 48 → ds.length = 1) → decDigits (numN ds) = ds
  | 0, ds, hl, hd, _ => by
    obtain ⟨c, rfl⟩ := List.length_eq_one_iff.1 hl
    obtain ⟨h1, h2⟩ := dig_val (hd c List.mem_cons_self)
    have e : numN [c] = c.toNat - 48 := by simp [numN]
    rw [e, decDigits, dif_pos (by omega)]
    congr 1
    apply UInt8.toNat_inj.1
    rw [u8_nat8 (by omega)]
    omega
  | k + 1, ds, hl, hd, h0 => by
    obtain ⟨a, c, rfl⟩ : ∃ a c, ds = a ++ [c] := by
      have hne : ds ≠ [] := by intro e; rw [e] at hl; cases hl
      exact ⟨ds.dropLast, ds.getLast hne, (List.dropLast_concat_getLast hne).symm⟩
    have hal : a.length = k + 1 := by simpa using hl
    obtain ⟨x, r, rfl⟩ : ∃ x r, a = x :: r := by
      cases a with
      | nil => cases hal
      | cons x r => exact ⟨x, r, rfl⟩
    have hx : x ≠ 48 := fun e => by
      have := h0 (by rw [e]; rfl)
      rw [hl] at this
      omega
    obtain ⟨h1, h2⟩ := dig_val (hd c (by simp))
    obtain ⟨h3, h4⟩ := dig_val (hd x (by simp))
    have hxn : x.toNat ≠ 48 := fun e => hx (UInt8.toNat_inj.1 e)
    have hge : 1 ≤ numN (x :: r) := by
      have := numN_pre [x] r
      have e : numN [x] = x.toNat - 48 := by simp [numN]
      have e2 : [x] ++ r = x :: r := rfl
      rw [e2] at this
      omega
    have ih := dec_numN k (x :: r) hal (fun y hy => hd y (List.mem_append_left _ hy)) (fun e => absurd e hx)
    rw [numN_snoc, decDigits, dif_neg (by omega), show (numN (x :: r) * 10 + (c.toNat - 48)) / 10 = numN (x :: r) by omega, ih, show (numN (x :: r) * 10 + (c.toNat - 48)) % 10 = c.toNat - 48 by omega]
    congr 2
    apply UInt8.toNat_inj.1
    rw [u8_nat8 (by omega)]
    omega
theorem runN_all : ∀ {ds : List UInt8}, (∀ c ∈ ds, isDig c = true) → ∀ (r : List UInt8), runN isDig (ds ++ r) = ds.length + runN isDig r
  | [], _, r => by simp
  | c :: ds, h, r => by
    have h1 := dig_val (h c List.mem_cons_self)
    rw [List.cons_append, runN_cons, if_pos ⟨by omega, h c List.mem_cons_self⟩, runN_all (fun x hx => h x (List.mem_cons_of_mem _ hx)) r, List.length_cons]
    omega
theorem runN_stop {c : UInt8} {r : List UInt8} (h : isDig c = false) : runN isDig (c :: r) = 0 := by
  rw [runN_cons, if_neg (fun hh => by rw [h] at hh; cases hh.2)]
theorem runN_dig (l : List UInt8) : ∀ c ∈ l.take (runN isDig l), isDig c = true := by
  induction l with
  | nil => simp
  | cons x r ih =>
    rw [runN_cons]
    split
    · rename_i h
      intro c hc
      rw [List.take_succ_cons] at hc
      rcases List.mem_cons.1 hc with rfl | hc
      · exact h.2
      · exact ih c hc
    · simp
end Go.Proofs.YtffomfbbplpljaaDoor
namespace Go.Proofs.YtffomfbbplpljaaDoor
open Go Ab Go.RowKit Go.Lib
set_option maxRecDepth 100000
set_option linter.unusedVariables false
set_option linter.unusedSimpArgs false

/-! What is read at a place hangs on what stands from there on. -/
theorem drop_pre (a b : List UInt8) (i : Nat) : (a ++ b).drop (a.length + i) = b.drop i := by rw [← List.drop_drop, List.drop_left]
theorem isAt_pre (a b : List UInt8) (i : Nat) (hi : i ≤ b.length) (s : List UInt8) : isAt (a ++ b) ((a.length + i : Nat) : Int) s = isAt b (i : Int) s := by
  unfold isAt
  rw [decide_eq_true (show (0 : Int) ≤ ((a.length + i : Nat) : Int) ∧ ((a.length + i : Nat) : Int) ≤ (a ++ b).length by rw [List.length_append]; omega), decide_eq_true (show (0 : Int) ≤ (i : Int) ∧ (i : Int) ≤ b.length by omega), Int.toNat_natCast, Int.toNat_natCast, drop_pre]
theorem isTo_pre (a b : List UInt8) (i : Nat) (hi : i ≤ b.length) (s : List UInt8) : isTo (a ++ b) ((a.length + i : Nat) : Int) s = a.length + isTo b (i : Int) s := by
  have h1 : (0 : Int) ≤ ((a.length + i : Nat) : Int) ∧ ((a.length + i : Nat) : Int) ≤ (a ++ b).length := by rw [List.length_append]; omega
  have h2 : (0 : Int) ≤ (i : Int) ∧ (i : Int) ≤ b.length := by omega
  unfold isTo
  rw [if_neg (not_not_intro h1), if_neg (not_not_intro h2), Int.toNat_natCast, Int.toNat_natCast, drop_pre]
  split <;> omega
theorem getD_pre (a b : List UInt8) (i : Nat) : (a ++ b).getD (a.length + i) 0 = b.getD i 0 := by
  rw [List.getD_eq_getElem?_getD, List.getD_eq_getElem?_getD, List.getElem?_append_right (by omega), Nat.add_sub_cancel_left]
theorem numR_pre (a b : List UInt8) (i : Nat) (hi : i ≤ b.length) (most : Int) : numR (a ++ b) ((a.length + i : Nat) : Int) most = ((numR b (i : Int) most).1, a.length + (numR b (i : Int) most).2.1, (numR b (i : Int) most).2.2) := by
  have h1 : (0 : Int) ≤ ((a.length + i : Nat) : Int) ∧ ((a.length + i : Nat) : Int) ≤ (a ++ b).length := by rw [List.length_append]; omega
  have h2 : (0 : Int) ≤ (i : Int) ∧ (i : Int) ≤ b.length := by omega
  unfold numR numDs
  rw [if_neg (not_not_intro h1), if_neg (not_not_intro h2), Int.toNat_natCast, Int.toNat_natCast, drop_pre, getD_pre]
  split
  · simp
  · split
    · simp
    · simp only [Prod.mk.injEq, true_and, and_true]
      omega
theorem signR_pre (a b : List UInt8) (i : Nat) (hi : i ≤ b.length) (most : Int) : signR (a ++ b) ((a.length + i : Nat) : Int) most = ((signR b (i : Int) most).1, a.length + (signR b (i : Int) most).2.1, (signR b (i : Int) most).2.2) := by
  have h1 : (0 : Int) ≤ ((a.length + i : Nat) : Int) ∧ ((a.length + i : Nat) : Int) ≤ (a ++ b).length := by rw [List.length_append]; omega
  have h2 : (0 : Int) ≤ (i : Int) ∧ (i : Int) ≤ b.length := by omega
  unfold signR
  rw [if_neg (not_not_intro h1), if_neg (not_not_intro h2), isAt_pre a b i hi, isTo_pre a b i hi]
  have h3 := isTo_ge (b := b) (at_ := (i : Int)) (s := sMinus) h2.1 h2.2
  obtain ⟨j, hj⟩ : ∃ j : Nat, isTo b (i : Int) sMinus = j := ⟨(isTo b (i : Int) sMinus).toNat, by omega⟩
  rw [hj] at h3 ⊢
  have e : (a.length : Int) + (j : Int) = ((a.length + j : Nat) : Int) := by omega
  rw [e, numR_pre a b j (by omega)]
  split
  · rfl
  · split
    · simp
    · split
      · simp
      · rfl
end Go.Proofs.YtffomfbbplpljaaDoor
namespace Go.Proofs.YtffomfbbplpljaaDoor
open Go Ab Go.RowKit Go.Lib
set_option maxRecDepth 100000
set_option linter.unusedVariables false
set_option linter.unusedSimpArgs false

/-! A clause that stands there: where it stands, and how much is tried. -/
def shR {α : Type} (k : Nat) : (Int × Int) ⊕ (α × Int) → (Int × Int) ⊕ (α × Int)
  | .inl (x, e) => .inl (k + x, e)
  | .inr (l, p) => .inr (l, k + p)
theorem clR_pre (a b : List UInt8) (n : Int) : ∀ (f i : Nat) (out : List Int), i ≤ b.length → clR (a ++ b) n f ((a.length + i : Nat) : Int) out = shR a.length (clR b n f (i : Int) out)
  | 0, i, out, hi => by simp [clR, shR]
  | f + 1, i, out, hi => by
    rw [clR, clR, signR_pre a b i hi n]
    have hp := @signR_pl b (i : Int) n
    generalize signR b (i : Int) n = sg at *
    obtain ⟨v, nx, e⟩ := sg
    simp only at hp ⊢
    split
    · simp [shR]
    · rename_i he
      have he : e = 0 := Decidable.not_not.1 he
      obtain ⟨h1, h2, h3⟩ := hp he
      obtain ⟨j, rfl⟩ : ∃ j : Nat, nx = j := ⟨nx.toNat, by omega⟩
      have ej : (a.length : Int) + (j : Int) = ((a.length + j : Nat) : Int) := by omega
      have hj : j ≤ b.length := by omega
      rw [ej, isAt_pre a b j hj, isAt_pre a b j hj, isTo_pre a b j hj, isTo_pre a b j hj]
      split
      · split
        · simp [shR]
        · simp only [shR, ej]
      · split
        · simp [shR]
        · split
          · rename_i hs
            have hpl := isTo_pl hs
            obtain ⟨q, hq⟩ : ∃ q : Nat, isTo b (j : Int) sSp = q := ⟨(isTo b (j : Int) sSp).toNat, by have := hpl.2.1; simp only [List.length_cons, List.length_nil] at this; omega⟩
            rw [hq] at hpl ⊢
            have eq : (a.length : Int) + (q : Int) = ((a.length + q : Nat) : Int) := by omega
            rw [eq]
            exact clR_pre a b n f q _ (by omega)
          · simp only [shR, ej]
theorem clR_fuel (b : List UInt8) (n : Int) : ∀ (f g i : Nat) (out : List Int), i ≤ b.length → b.length - i < f → b.length - i < g → clR b n f (i : Int) out = clR b n g (i : Int) out
  | 0, _, i, out, hi, hf, _ => absurd hf (Nat.not_lt_zero _)
  | _, 0, i, out, hi, _, hg => absurd hg (Nat.not_lt_zero _)
  | f + 1, g + 1, i, out, hi, hf, hg => by
    rw [clR, clR]
    have hp := @signR_pl b (i : Int) n
    generalize signR b (i : Int) n = sg at *
    obtain ⟨v, nx, e⟩ := sg
    simp only at hp ⊢
    split
    · rfl
    · rename_i he
      have he : e = 0 := Decidable.not_not.1 he
      obtain ⟨h1, h2, h3⟩ := hp he
      split
      · rfl
      · split
        · rfl
        · split
          · rename_i hs
            have hpl := isTo_pl hs
            have h4 := hpl.2.1
            simp only [List.length_cons, List.length_nil] at h4
            obtain ⟨q, hq⟩ : ∃ q : Nat, isTo b nx sSp = q := ⟨(isTo b nx sSp).toNat, by omega⟩
            rw [hq] at hpl h4 ⊢
            exact clR_fuel b n f g q _ (by omega) (by omega) (by omega)
          · rfl
/-! What is printed is read. -/
theorem isAt_here (l s r : List UInt8) : isAt (l ++ (s ++ r)) (l.length : Int) s = true := by
  have h := isAt_pre l (s ++ r) 0 (Nat.zero_le _) s
  rw [Nat.add_zero] at h
  rw [h]
  unfold isAt
  rw [decide_eq_true (by simp; omega), Bool.true_and]
  simp
theorem isTo_here (l s r : List UInt8) : isTo (l ++ (s ++ r)) (l.length : Int) s = l.length + s.length := (isTo_pl (isAt_here l s r)).2.1
theorem isAt_no {c d : UInt8} {r s : List UInt8} (h : c ≠ d) : isAt (c :: r) 0 (d :: s) = false := by
  unfold isAt
  simp [List.isPrefixOf, h.symm]
theorem numR_dec {u : Nat} {n : Int} (hn : (u : Int) ≤ n) (hm : u ≤ 2147483647) {c : UInt8} (hc : isDig c = false) (r : List UInt8) : numR (decDigits u ++ c :: r) 0 n = ((u : Int), ((decDigits u).length : Int), 0) := by
  have h0 : (0 : Int) ≤ 0 ∧ (0 : Int) ≤ (decDigits u ++ c :: r).length := by omega
  have hrun : runN isDig (decDigits u ++ c :: r) = (decDigits u).length := by rw [runN_all (dec_dig u), runN_stop hc, Nat.add_zero]
  have hds : numDs (decDigits u ++ c :: r) 0 = decDigits u := by rw [numDs, List.drop_zero, hrun, List.take_left]
  unfold numR
  rw [if_neg (not_not_intro h0)]
  simp only [Int.toNat_zero, List.drop_zero, hrun, hds, numN_dec]
  rw [if_neg, if_neg]
  · simp
  · omega
  · rintro (h | ⟨h1, h2⟩)
    · exact dec_ne u (List.eq_nil_of_length_eq_zero h)
    · rcases Nat.eq_zero_or_pos u with rfl | hu
      · rw [decDigits] at h2
        simp at h2
      · obtain ⟨x, t, h3, h4⟩ := dec_head u hu
        rw [h3] at h1
        exact h4 h1
theorem signR_dec {u : Nat} {n : Int} (hn : (u : Int) ≤ n) (hm : u ≤ 2147483647) {c : UInt8} (hc : isDig c = false) (r : List UInt8) : signR (decDigits u ++ c :: r) 0 n = ((u : Int), ((decDigits u).length : Int), 0) := by
  have h0 : (0 : Int) ≤ 0 ∧ (0 : Int) ≤ (decDigits u ++ c :: r).length := by omega
  have hat : isAt (decDigits u ++ c :: r) 0 sMinus = false := by
    cases hd : decDigits u with
    | nil => exact absurd hd (dec_ne u)
    | cons x t =>
      refine isAt_no fun e => ?_
      have := dec_dig u x (by rw [hd]; exact List.mem_cons_self)
      rw [e] at this
      exact absurd this (by decide)
  have hto : isTo (decDigits u ++ c :: r) 0 sMinus = 0 := by
    have h2 := hat
    unfold isAt at h2
    rw [decide_eq_true h0, Bool.true_and] at h2
    rw [isTo, if_neg (not_not_intro h0), if_neg (by rw [h2]; decide)]
  unfold signR
  rw [if_neg (not_not_intro h0), if_pos hat, hto, numR_dec hn hm hc]
theorem signR_neg {u : Nat} {n : Int} (h1 : 1 ≤ u) (hn : (u : Int) ≤ n) (hm : u ≤ 2147483647) {c : UInt8} (hc : isDig c = false) (r : List UInt8) : signR (45 :: decDigits u ++ c :: r) 0 n = (-(u : Int), ((45 :: decDigits u).length : Int), 0) := by
  have h0 : (0 : Int) ≤ 0 ∧ (0 : Int) ≤ (45 :: decDigits u ++ c :: r).length := by omega
  have hat : isAt (45 :: decDigits u ++ c :: r) 0 sMinus = true := isAt_here [] [45] (decDigits u ++ c :: r)
  have hto : isTo (45 :: decDigits u ++ c :: r) 0 sMinus = 1 := isTo_here [] [45] (decDigits u ++ c :: r)
  have hnum := numR_pre [45] (decDigits u ++ c :: r) 0 (Nat.zero_le _) n
  have hnum : numR (45 :: decDigits u ++ c :: r) 1 n = ((u : Int), 1 + ((decDigits u).length : Int), 0) := by
    have e : ((List.length [(45 : UInt8)] + 0 : Nat) : Int) = 1 := rfl
    rw [e] at hnum
    have e2 : ((0 : Nat) : Int) = 0 := rfl
    rw [e2, numR_dec hn hm hc] at hnum
    exact hnum
  unfold signR
  rw [if_neg (not_not_intro h0), if_neg (by rw [hat]; decide), hto, hnum]
  simp only
  rw [if_neg (by omega), if_neg (by simp)]
  simp only [List.length_cons, Prod.mk.injEq, and_true, true_and]
  omega
theorem lit_read {n x : Int} (hx : litOk n x) (hn : n ≤ 100000) {c : UInt8} (hc : isDig c = false) (r : List UInt8) : signR (tItoa x ++ c :: r) 0 n = (x, ((tItoa x).length : Int), 0) := by
  obtain ⟨h0, h1, h2⟩ := hx
  by_cases hp : x < 0
  · obtain ⟨u, rfl⟩ : ∃ u : Nat, x = -(u : Int) := ⟨x.natAbs, by omega⟩
    have e : tItoa (-(u : Int)) = 45 :: decDigits u := itoa_neg u (by omega)
    rw [e]
    exact signR_neg (by omega) (by omega) (by omega) hc r
  · obtain ⟨u, rfl⟩ : ∃ u : Nat, x = (u : Int) := ⟨x.toNat, by omega⟩
    have e : tItoa (u : Int) = decDigits u := itoa_nonneg u
    rw [e]
    exact signR_dec (by omega) (by omega) hc r
theorem clause_read {n : Int} (hn : 0 ≤ n ∧ n ≤ 100000) (r : List UInt8) : ∀ (c out : List Int) (f : Nat), (∀ x ∈ c, litOk n x) → out.length + c.length ≤ 1000 → c.length < f → clR (litsT c ++ ([48, 10] ++ r)) n f 0 out = .inr (out ++ c, ((litsT c).length : Int) + 2)
  | _, _, 0, _, _, hf => absurd hf (Nat.not_lt_zero _)
  | [], out, f + 1, _, _, _ => by
    have h := signR_dec (u := 0) (n := n) (by omega) (by decide) (c := 10) (by decide) r
    have e : decDigits 0 = [48] := by rw [decDigits]; rfl
    rw [e] at h
    have e2 : litsT [] ++ ([48, 10] ++ r) = [48] ++ 10 :: r := rfl
    rw [e2, clR, h]
    simp only [ne_eq, not_true, if_false, if_true]
    have h2 := isAt_here [48] [10] r
    have h3 := isTo_here [48] [10] r
    have e3 : [48] ++ ([10] ++ r) = [48] ++ 10 :: r := rfl
    rw [e3] at h2 h3
    have e4 : ((List.length [(48 : UInt8)] : Nat) : Int) = 1 := rfl
    rw [e4] at h2 h3 ⊢
    rw [if_pos h2, h3]
    simp [litsT]
  | x :: c, out, f + 1, hc, ho, hf => by
    have hx := hc x List.mem_cons_self
    have e1 : litsT (x :: c) ++ ([48, 10] ++ r) = tItoa x ++ 32 :: (litsT c ++ ([48, 10] ++ r)) := by
      simp [litsT, lit1]
    have h := lit_read hx hn.2 (c := 32) (by decide) (litsT c ++ ([48, 10] ++ r))
    rw [e1, clR, h]
    simp only [ne_eq, not_true, if_false]
    rw [if_neg hx.1, if_neg (by simp only [List.length_cons] at ho; omega)]
    have h2 := isAt_here (tItoa x) [32] (litsT c ++ ([48, 10] ++ r))
    have h3 := isTo_here (tItoa x) [32] (litsT c ++ ([48, 10] ++ r))
    have e3 : tItoa x ++ ([32] ++ (litsT c ++ ([48, 10] ++ r))) = tItoa x ++ 32 :: (litsT c ++ ([48, 10] ++ r)) := rfl
    rw [e3] at h2 h3
    rw [if_pos h2, h3]
    have h4 := clR_pre (tItoa x ++ [32]) (litsT c ++ ([48, 10] ++ r)) n f 0 (out ++ [x]) (Nat.zero_le _)
    have e5 : tItoa x ++ [32] ++ (litsT c ++ ([48, 10] ++ r)) = tItoa x ++ 32 :: (litsT c ++ ([48, 10] ++ r)) := by simp
    have e6 : (((tItoa x ++ [32]).length + 0 : Nat) : Int) = ((tItoa x).length : Int) + ((List.length [(32 : UInt8)] : Nat) : Int) := by simp
    have e7 : ((0 : Nat) : Int) = 0 := rfl
    rw [e5, e6, e7, clause_read hn r c (out ++ [x]) f (fun y hy => hc y (List.mem_cons_of_mem _ hy)) (by simp only [List.length_append, List.length_cons, List.length_nil] at ho ⊢; omega) (by simp only [List.length_cons] at hf; omega)] at h4
    rw [h4]
    simp only [shR, litsT, lit1, List.flatMap_cons, List.length_append, List.append_assoc, List.cons_append, List.nil_append, List.length_cons, List.length_nil]
    congr 2
    omega
end Go.Proofs.YtffomfbbplpljaaDoor
namespace Go.Proofs.YtffomfbbplpljaaDoor
open Go Ab Go.RowKit Go.Lib
set_option maxRecDepth 100000
set_option linter.unusedVariables false
set_option linter.unusedSimpArgs false

/-! A proof that is printed is read. -/
theorem clR_bnd (b : List UInt8) (n : Int) (i : Nat) (out : List Int) (f : Nat) {l : List Int} {e : Int} (h : clR b n f (i : Int) out = .inr (l, e)) : ∃ q : Nat, e = q ∧ i < q ∧ q ≤ b.length := by
  obtain ⟨h1, h2⟩ := clR_pl h
  exact ⟨e.toNat, by omega, by omega, by omega⟩
theorem isTo_nat (b : List UInt8) (i : Nat) (hi : i ≤ b.length) (s : List UInt8) : ∃ q : Nat, isTo b (i : Int) s = q ∧ i ≤ q ∧ q ≤ b.length := by
  obtain ⟨h1, h2⟩ := isTo_ge (b := b) (at_ := (i : Int)) (s := s) (by omega) (by omega)
  exact ⟨(isTo b (i : Int) s).toNat, by omega, by omega, by omega⟩
theorem shR_sh {α : Type} (j k : Nat) (q : (Int × Int) ⊕ (α × Int)) : shR j (shR k q) = shR (j + k) q := by
  rcases q with ⟨x, e⟩ | ⟨l, p⟩ <;> simp only [shR, Sum.inl.injEq, Sum.inr.injEq, Prod.mk.injEq, and_true, true_and] <;> omega
theorem paL_pre (a b : List UInt8) (n : Int) : ∀ (f i : Nat) (out : List Sp), i ≤ b.length → paL (a ++ b) n f ((a.length + i : Nat) : Int) out = shR a.length (paL b n f (i : Int) out)
  | 0, i, out, hi => by simp [paL, shR]
  | f + 1, i, out, hi => by
    rw [paL, paL]
    have hlt : (((a.length + i : Nat) : Int) < ((a ++ b).length : Nat)) ↔ ((i : Int) < (b.length : Nat)) := by rw [List.length_append]; omega
    by_cases h : (i : Int) < (b.length : Nat)
    · rw [if_neg (not_not_intro (hlt.2 h)), if_neg (not_not_intro h)]
      split
      · simp [shR]
      · rw [isAt_pre a b i hi, isTo_pre a b i hi]
        obtain ⟨q, hq, h1, h2⟩ := isTo_nat b i hi sDel
        rw [hq]
        have e : (a.length : Int) + (q : Int) = ((a.length + q : Nat) : Int) := by omega
        rw [e, clR_pre a b n _ q [] h2, clR_fuel b n ((a ++ b).length + 1) (b.length + 1) q [] h2 (by rw [List.length_append]; omega) (by omega)]
        cases hc : clR b n (b.length + 1) (q : Int) [] with
        | inl x => simp only [shR]
        | inr x =>
          obtain ⟨c, e⟩ := x
          obtain ⟨k, rfl, h3, h4⟩ := clR_bnd b n q [] _ hc
          simp only [shR]
          have e2 : (a.length : Int) + (k : Int) = ((a.length + k : Nat) : Int) := by omega
          rw [e2]
          exact paL_pre a b n f k _ h4
    · rw [if_pos (fun hh => h (hlt.1 hh)), if_pos h]
      simp [shR]
theorem paL_fuel (b : List UInt8) (n : Int) : ∀ (f g i : Nat) (out : List Sp), i ≤ b.length → b.length - i < f → b.length - i < g → paL b n f (i : Int) out = paL b n g (i : Int) out
  | 0, _, i, out, hi, hf, _ => absurd hf (Nat.not_lt_zero _)
  | _, 0, i, out, hi, _, hg => absurd hg (Nat.not_lt_zero _)
  | f + 1, g + 1, i, out, hi, hf, hg => by
    rw [paL, paL]
    split
    · rfl
    · split
      · rfl
      · obtain ⟨q, hq, h1, h2⟩ := isTo_nat b i hi sDel
        rw [hq]
        cases hc : clR b n (b.length + 1) (q : Int) [] with
        | inl x => rfl
        | inr x =>
          obtain ⟨c, e⟩ := x
          obtain ⟨k, rfl, h3, h4⟩ := clR_bnd b n q [] _ hc
          exact paL_fuel b n f g k _ h4 (by omega) (by omega)
/-- What was read ahead stands ahead. -/
def mapO (p : List Sp) : (Int × Int) ⊕ (List Sp × Int) → (Int × Int) ⊕ (List Sp × Int)
  | .inl x => .inl x
  | .inr (l, e) => .inr (p ++ l, e)
theorem paL_out (b : List UInt8) (n : Int) (p : List Sp) : ∀ (f i : Nat) (out : List Sp), i ≤ b.length → p.length + out.length + (b.length - i) < 20000 → paL b n f (i : Int) (p ++ out) = mapO p (paL b n f (i : Int) out)
  | 0, i, out, hi, _ => by simp [paL, mapO]
  | f + 1, i, out, hi, hl => by
    rw [paL, paL]
    split
    · simp [mapO]
    · rw [if_neg (by rw [List.length_append]; omega), if_neg (by omega)]
      obtain ⟨q, hq, h1, h2⟩ := isTo_nat b i hi sDel
      rw [hq]
      cases hc : clR b n (b.length + 1) (q : Int) [] with
      | inl x => rfl
      | inr x =>
        obtain ⟨c, e⟩ := x
        obtain ⟨k, rfl, h3, h4⟩ := clR_bnd b n q [] _ hc
        simp only
        rw [List.append_assoc]
        exact paL_out b n p f k _ h4 (by simp only [List.length_append, List.length_cons, List.length_nil]; omega)
/-- The first byte of a clause's text is no 'd'. -/
theorem lits_head (c : List Int) (r : List UInt8) : ∃ h t, litsT c ++ ([48, 10] ++ r) = h :: t ∧ h ≠ 100 := by
  cases c with
  | nil => exact ⟨48, 10 :: r, rfl, by decide⟩
  | cons x c =>
    have hd : ∃ h t, tItoa x = h :: t ∧ h ≠ 100 := by
      show ∃ h t, itoa x = h :: t ∧ h ≠ 100
      unfold itoa
      split
      · exact ⟨45, _, rfl, by decide⟩
      · cases hx : decDigits x.toNat with
        | nil => exact absurd hx (dec_ne _)
        | cons y t =>
          refine ⟨y, t, rfl, fun e => ?_⟩
          have := dec_dig x.toNat y (by rw [hx]; exact List.mem_cons_self)
          rw [e] at this
          exact absurd this (by decide)
    obtain ⟨h, t, h1, h2⟩ := hd
    refine ⟨h, t ++ ([32] ++ litsT c) ++ ([48, 10] ++ r), ?_, h2⟩
    simp only [litsT, List.flatMap_cons, lit1, h1, List.cons_append, List.append_assoc, List.nil_append]
theorem del_read (d : Bool) (c : List Int) (r : List UInt8) : isAt (delT d ++ (litsT c ++ ([48, 10] ++ r))) 0 sDel = d ∧ isTo (delT d ++ (litsT c ++ ([48, 10] ++ r))) 0 sDel = (delT d).length := by
  cases d with
  | true =>
    exact ⟨isAt_here [] [100, 32] _, isTo_here [] [100, 32] _⟩
  | false =>
    obtain ⟨h, t, h1, h2⟩ := lits_head c r
    have e : delT false ++ (litsT c ++ ([48, 10] ++ r)) = h :: t := h1
    rw [e]
    have hat := isAt_no (r := t) (s := [32]) h2
    refine ⟨hat, ?_⟩
    have h0 : (0 : Int) ≤ 0 ∧ (0 : Int) ≤ (h :: t).length := by omega
    have hat2 := hat
    unfold isAt at hat2
    rw [decide_eq_true h0, Bool.true_and] at hat2
    rw [isTo, if_neg (not_not_intro h0), if_neg (by rw [hat2]; decide)]
    rfl
theorem step_read {n : Int} (hn : 0 ≤ n ∧ n ≤ 100000) (s : Sp) (r : List UInt8) (f : Nat) (out : List Sp) (hs : ∀ x ∈ s.2.1, litOk n x) (hl : s.2.1.length ≤ 1000) (ho : out.length ≠ 20000) :
    paL (stepT s ++ r) n (f + 1) 0 out = shR (stepT s).length (paL r n f 0 (out ++ [s])) := by
  obtain ⟨d, c, ⟨⟩⟩ := s
  simp only at hs hl
  have e0 : stepT (d, c, ()) ++ r = delT d ++ (litsT c ++ ([48, 10] ++ r)) := by simp [stepT]
  have hpos : (0 : Int) < (stepT (d, c, ()) ++ r).length := by
    simp only [stepT, List.length_append, List.length_cons, List.length_nil]
    omega
  rw [paL, if_neg (not_not_intro hpos), if_neg ho, e0, (del_read d c r).1, (del_read d c r).2]
  have h1 := clR_pre (delT d) (litsT c ++ ([48, 10] ++ r)) n ((delT d ++ (litsT c ++ ([48, 10] ++ r))).length + 1) 0 [] (Nat.zero_le _)
  have hcl : c.length ≤ (litsT c).length := by
    clear h1 hpos e0 hs hl ho
    induction c with
    | nil => simp
    | cons x c ih =>
      simp only [litsT, List.flatMap_cons, lit1, List.length_append, List.length_cons, List.length_nil] at ih ⊢
      omega
  have e7 : ((0 : Nat) : Int) = 0 := rfl
  simp only [Nat.add_zero] at h1
  rw [e7, clause_read hn r c [] _ hs (by simpa using hl) (by simp only [List.length_append, List.length_cons]; omega)] at h1
  rw [h1]
  have h2 := paL_pre (stepT (d, c, ())) r n f 0 (out ++ [(d, c, ())]) (Nat.zero_le _)
  simp only [Nat.add_zero] at h2
  rw [e7, e0] at h2
  refine Eq.trans ?_ h2
  show paL (delT d ++ (litsT c ++ ([48, 10] ++ r))) n f ((delT d).length + (((litsT c).length : Int) + 2)) (out ++ [(d, c, ())]) = _
  congr 1
  simp only [stepT, List.length_append, List.length_cons, List.length_nil]
  omega
theorem proof_read {n : Int} (hn : 0 ≤ n ∧ n ≤ 100000) (b : List UInt8) : ∀ (p out : List Sp) (f : Nat), (∀ s ∈ p, (∀ x ∈ s.2.1, litOk n x) ∧ s.2.1.length ≤ 1000) → out.length + p.length ≤ 20000 → p.length ≤ f →
    paL (proofT p ++ b) n f 0 out = shR (proofT p).length (paL b n (f - p.length) 0 (out ++ p))
  | [], out, f, _, _, _ => by
    have h := paL_pre [] b n f 0 out (Nat.zero_le _)
    have e7 : ((0 : Nat) : Int) = 0 := rfl
    simp only [List.length_nil, Nat.add_zero, e7] at h
    simpa [proofT] using h
  | s :: p, out, 0, _, _, hf => absurd hf (by simp)
  | s :: p, out, f + 1, hp, ho, hf => by
    obtain ⟨h1, h2⟩ := hp s List.mem_cons_self
    have e : proofT (s :: p) ++ b = stepT s ++ (proofT p ++ b) := by simp [proofT]
    simp only [List.length_cons] at ho hf
    rw [e, step_read hn s _ f out h1 h2 (by omega), proof_read hn b p (out ++ [s]) f (fun t ht => hp t (List.mem_cons_of_mem _ ht)) (by simp only [List.length_append, List.length_cons, List.length_nil]; omega) (by omega), shR_sh]
    have e2 : (stepT s).length + (proofT p).length = (proofT (s :: p)).length := by simp [proofT]
    have e3 : out ++ [s] ++ p = out ++ s :: p := by simp
    rw [e2, e3, List.length_cons, Nat.add_sub_add_right]
theorem proof_len (p : List Sp) : p.length ≤ (proofT p).length := by
  induction p with
  | nil => simp
  | cons s p ih =>
    simp only [proofT, List.flatMap_cons, stepT, List.length_append, List.length_cons, List.length_nil] at ih ⊢
    omega
/-- One behind the other. -/
theorem read_app {n : Int} (hn : 0 ≤ n ∧ n ≤ 100000) {p : List Sp} (hp : ∀ s ∈ p, (∀ x ∈ s.2.1, litOk n x) ∧ s.2.1.length ≤ 1000) (b : List UInt8) (hl : p.length + b.length < 20000) (h1 : (proofT p ++ b).length ≤ 100000) :
    paR (proofT p ++ b) n = shR (proofT p).length (mapO p (paR b n)) := by
  have hpl := proof_len p
  have h1' := h1
  rw [List.length_append] at h1'
  rw [paR, if_neg (by omega), paR, if_neg (by omega), proof_read hn b p [] _ hp (by simp only [List.length_nil]; omega) (by rw [List.length_append]; omega)]
  have h2 := paL_out b n p ((proofT p ++ b).length + 1 - p.length) 0 [] (Nat.zero_le _) (by simp only [List.length_nil]; omega)
  have e7 : ((0 : Nat) : Int) = 0 := rfl
  rw [List.append_nil, e7] at h2
  rw [List.nil_append, h2]
  have h3 := paL_fuel b n ((proofT p ++ b).length + 1 - p.length) (b.length + 1) 0 [] (Nat.zero_le _) (by rw [List.length_append]; omega) (by omega)
  rw [e7] at h3
  rw [h3]
/-- What is printed is parsed. -/
theorem read_print {n : Int} (hn : 0 ≤ n ∧ n ≤ 100000) {p : List Sp} (hp : ∀ s ∈ p, (∀ x ∈ s.2.1, litOk n x) ∧ s.2.1.length ≤ 1000) (hl : p.length < 20000) (h1 : (proofT p).length ≤ 100000) :
    paR (proofT p) n = .inr (p, ((proofT p).length : Int)) := by
  have h := read_app hn hp [] (by simpa using hl) (by simpa using h1)
  rw [List.append_nil] at h
  have e : paR [] n = .inr ([], 0) := by simp [paR, paL]
  rw [h, e]
  simp [shR, mapO]
end Go.Proofs.YtffomfbbplpljaaDoor
namespace Go.Proofs.YtffomfbbplpljaaDoor
open Go Ab Go.RowKit Go.Lib
set_option maxRecDepth 100000
set_option linter.unusedVariables false
set_option linter.unusedSimpArgs false

/-! What is parsed has its bytes for its text. -/
theorem isAt_inv {b s : List UInt8} {i : Nat} (h : isAt b (i : Int) s = true) : i + s.length ≤ b.length ∧ isTo b (i : Int) s = ((i + s.length : Nat) : Int) ∧ b.drop i = s ++ b.drop (i + s.length) := by
  obtain ⟨h1, h2, h3⟩ := isTo_pl h
  refine ⟨by omega, by omega, ?_⟩
  unfold isAt at h
  rw [Bool.and_eq_true, Int.toNat_natCast] at h
  obtain ⟨t, ht⟩ := List.isPrefixOf_iff_prefix.1 h.2
  rw [← List.drop_drop, ← ht, List.drop_left]
theorem numR_inv {b : List UInt8} {i : Nat} {n v nx : Int} (h : numR b (i : Int) n = (v, nx, 0)) : ∃ (u q : Nat), v = u ∧ nx = q ∧ i < q ∧ q ≤ b.length ∧ (u : Int) ≤ n ∧ u ≤ 2147483647 ∧ b.drop i = decDigits u ++ b.drop q := by
  have hz : (numR b (i : Int) n).2.2 = 0 := by rw [h]
  have hpl := numR_pl hz
  rw [h] at hpl
  simp only at hpl
  unfold numR at h
  rw [if_neg (not_not_intro ⟨by omega, by omega⟩), Int.toNat_natCast] at h
  split at h
  · simp at h
  · rename_i h1
    split at h
    · simp at h
    · rename_i h2
      simp only [Prod.mk.injEq] at h
      obtain ⟨rfl, rfl, -⟩ := h
      have hk := runN_le isDig (b.drop i)
      rw [List.length_drop] at hk
      have hdig := runN_dig (b.drop i)
      unfold numDs at h2 ⊢
      generalize hkk : runN isDig (b.drop i) = k at *
      have hk0 : k ≠ 0 := fun e => h1 (.inl e)
      obtain ⟨m, rfl⟩ : ∃ m, k = m + 1 := ⟨k - 1, by omega⟩
      have hl : ((b.drop i).take (m + 1)).length = m + 1 := by rw [List.length_take, List.length_drop]; omega
      have h0 : ((b.drop i).take (m + 1)).getD 0 0 = 48 → ((b.drop i).take (m + 1)).length = 1 := fun e => by
        have e2 : ((b.drop i).take (m + 1)).getD 0 0 = b.getD i 0 := by
          simp [List.getD_eq_getElem?_getD, List.getElem?_take, List.getElem?_drop]
        rw [e2] at e
        rw [hl]
        have : ¬ 1 < m + 1 := fun hh => h1 (.inr ⟨e, hh⟩)
        omega
      refine ⟨_, i + (m + 1), rfl, by omega, by omega, by omega, by omega, by omega, ?_⟩
      rw [dec_numN m _ hl hdig h0, ← List.drop_drop, List.take_append_drop]
theorem signR_inv {b : List UInt8} {i : Nat} {n v nx : Int} (h : signR b (i : Int) n = (v, nx, 0)) : ∃ q : Nat, nx = q ∧ i < q ∧ q ≤ b.length ∧ -n ≤ v ∧ v ≤ n ∧ b.drop i = tItoa v ++ b.drop q := by
  have hz : (signR b (i : Int) n).2.2 = 0 := by rw [h]
  have hpl := signR_pl hz
  rw [h] at hpl
  simp only at hpl
  unfold signR at h
  rw [if_neg (not_not_intro ⟨by omega, by omega⟩)] at h
  split at h
  · rename_i h1
    have h1b : i ≤ b.length := by omega
    have e : isTo b (i : Int) sMinus = i := by
      unfold isAt at h1
      rw [decide_eq_true (by omega), Bool.true_and] at h1
      rw [isTo, if_neg (not_not_intro ⟨by omega, by omega⟩), if_neg (by rw [h1]; decide)]
    rw [e] at h
    obtain ⟨u, q, rfl, rfl, h2, h3, h4, h5, h6⟩ := numR_inv h
    refine ⟨q, rfl, h2, h3, by omega, h4, ?_⟩
    rw [h6]
    show _ = itoa (u : Int) ++ _
    rw [itoa_nonneg]
  · rename_i h1
    have h1 : isAt b (i : Int) sMinus = true := by simpa using h1
    obtain ⟨g1, g2, g3⟩ := isAt_inv h1
    rw [g2] at h
    split at h
    · simp at h
    · rename_i h2
      split at h
      · rename_i h3
        simp only [Prod.mk.injEq] at h
        exact absurd h.2.2 h3
      · rename_i h3
        have h3 := Decidable.not_not.1 h3
        generalize hn : numR b ((i + [(45 : UInt8)].length : Nat) : Int) n = r at *
        obtain ⟨v0, nx0, e0⟩ := r
        simp only at h h2 h3
        subst h3
        simp only [Prod.mk.injEq] at h
        obtain ⟨rfl, rfl, -⟩ := h
        obtain ⟨u, q, rfl, rfl, k2, k3, k4, k5, k6⟩ := numR_inv hn
        have hu : u ≠ 0 := fun e => h2 ⟨rfl, by omega⟩
        refine ⟨q, rfl, by simp only [List.length_cons, List.length_nil] at k2; omega, k3, by omega, by omega, ?_⟩
        rw [g3]
        show _ = itoa (-(u : Int)) ++ _
        rw [itoa_neg u (by omega), k6]
        rfl
theorem clR_inv {b : List UInt8} {n : Int} (hn : 0 ≤ n) : ∀ {f i : Nat} {out l : List Int} {e : Int}, clR b n f (i : Int) out = .inr (l, e) → out.length ≤ 1000 → ∃ (c : List Int) (q : Nat), l = out ++ c ∧ e = q ∧ q ≤ b.length ∧ (∀ x ∈ c, litOk n x) ∧ l.length ≤ 1000 ∧ b.drop i = litsT c ++ ([48, 10] ++ b.drop q)
  | 0, _, _, _, _, h, _ => by simp [clR] at h
  | f + 1, i, out, l, e, h, ho => by
    rw [clR] at h
    split at h
    · cases h
    · rename_i h0
      have h0 : (signR b (i : Int) n).2.2 = 0 := Decidable.not_not.1 h0
      generalize hs : signR b (i : Int) n = r at *
      obtain ⟨v, nx, e0⟩ := r
      simp only at h0 h
      subst h0
      obtain ⟨q, rfl, g1, g2, g3, g4, g5⟩ := signR_inv hs
      split at h
      · rename_i hv
        subst hv
        split at h
        · rename_i ha
          obtain ⟨k1, k2, k3⟩ := isAt_inv ha
          simp only [Sum.inr.injEq, Prod.mk.injEq] at h
          obtain ⟨rfl, rfl⟩ := h
          refine ⟨[], q + 1, by simp, k2, k1, by simp, ho, ?_⟩
          rw [g5, k3]
          have : tItoa 0 = [48] := by
            show itoa 0 = _
            unfold itoa
            rw [if_neg (by decide)]
            show decDigits 0 = _
            rw [decDigits]
            rfl
          rw [this]
          rfl
        · cases h
      · rename_i hv
        split at h
        · cases h
        · rename_i hol
          split at h
          · rename_i ha
            obtain ⟨k1, k2, k3⟩ := isAt_inv ha
            rw [k2] at h
            obtain ⟨c, p, m1, m2, m3, m4, m5, m6⟩ := clR_inv hn h (by simp only [List.length_append, List.length_cons, List.length_nil]; omega)
            refine ⟨v :: c, p, by rw [m1]; simp, m2, m3, fun x hx => ?_, m5, ?_⟩
            · rcases List.mem_cons.1 hx with rfl | hx
              · exact ⟨hv, g3, g4⟩
              · exact m4 x hx
            · rw [g5, k3, m6]
              simp [litsT, lit1]
          · cases h
theorem paL_inv {b : List UInt8} {n : Int} (hn : 0 ≤ n) : ∀ {f i : Nat} {out l : List Sp} {e : Int}, i ≤ b.length → paL b n f (i : Int) out = .inr (l, e) → out.length ≤ 20000 → ∃ p : List Sp, l = out ++ p ∧ e = b.length ∧ (∀ s ∈ p, (∀ x ∈ s.2.1, litOk n x) ∧ s.2.1.length ≤ 1000) ∧ l.length ≤ 20000 ∧ b.drop i = proofT p
  | 0, _, _, _, _, _, h, _ => by simp [paL] at h
  | f + 1, i, out, l, e, hi, h, ho => by
    rw [paL] at h
    split at h
    · rename_i h1
      simp only [Sum.inr.injEq, Prod.mk.injEq] at h
      obtain ⟨rfl, rfl⟩ := h
      have : i = b.length := by omega
      subst this
      exact ⟨[], by simp, rfl, by simp, ho, by simp [proofT]⟩
    · rename_i h1
      split at h
      · cases h
      · rename_i h2
        obtain ⟨q, hq, q1, q2⟩ := isTo_nat b i hi sDel
        rw [hq] at h
        cases hc : clR b n (b.length + 1) (q : Int) [] with
        | inl x => rw [hc] at h; cases h
        | inr x =>
          obtain ⟨c, e1⟩ := x
          rw [hc] at h
          obtain ⟨c', k, k1, rfl, k3, k4, k5, k6⟩ := clR_inv hn hc (by simp)
          rw [List.nil_append] at k1
          subst k1
          obtain ⟨p, m1, m2, m3, m4, m5⟩ := paL_inv hn k3 h (by simp only [List.length_append, List.length_cons, List.length_nil]; omega)
          have hdel : b.drop i = delT (isAt b (i : Int) sDel) ++ b.drop q := by
            cases ha : isAt b (i : Int) sDel with
            | true =>
              obtain ⟨j1, j2, j3⟩ := isAt_inv ha
              rw [j2] at hq
              have : q = i + sDel.length := by omega
              rw [this]
              exact j3
            | false =>
              unfold isAt at ha
              rw [decide_eq_true (by omega), Bool.true_and] at ha
              rw [isTo, if_neg (not_not_intro ⟨by omega, by omega⟩), if_neg (by rw [ha]; decide)] at hq
              have : q = i := by omega
              rw [this]
              rfl
          refine ⟨(isAt b (i : Int) sDel, c, ()) :: p, by rw [m1]; simp, m2, fun s hs => ?_, m4, ?_⟩
          · rcases List.mem_cons.1 hs with rfl | hs
            · exact ⟨k4, k5⟩
            · exact m3 s hs
          · rw [hdel, k6, m5]
            simp [proofT, stepT]
/-! Where a text is wrong. -/
theorem clR_err {b : List UInt8} {n : Int} : ∀ {f i : Nat} {out : List Int} {a e : Int}, i ≤ b.length → clR b n f (i : Int) out = .inl (a, e) → 0 ≤ a ∧ a ≤ b.length ∧ e ≠ 0
  | 0, i, out, a, e, hi, h => by
    simp only [clR, Sum.inl.injEq, Prod.mk.injEq] at h
    obtain ⟨rfl, rfl⟩ := h
    exact ⟨by omega, by omega, by decide⟩
  | f + 1, i, out, a, e, hi, h => by
    rw [clR] at h
    split at h
    · rename_i h0
      simp only [Sum.inl.injEq, Prod.mk.injEq] at h
      obtain ⟨rfl, rfl⟩ := h
      exact ⟨by omega, by omega, h0⟩
    · rename_i h0
      have hp := signR_pl (Decidable.not_not.1 h0)
      generalize signR b (i : Int) n = r at *
      obtain ⟨v, nx, e0⟩ := r
      simp only at hp h
      split at h
      · split at h
        · cases h
        · simp only [Sum.inl.injEq, Prod.mk.injEq] at h
          obtain ⟨rfl, rfl⟩ := h
          exact ⟨by omega, by omega, by decide⟩
      · split at h
        · simp only [Sum.inl.injEq, Prod.mk.injEq] at h
          obtain ⟨rfl, rfl⟩ := h
          exact ⟨by omega, by omega, by decide⟩
        · split at h
          · rename_i ha
            obtain ⟨k1, k2, k3⟩ := isTo_pl ha
            obtain ⟨q, hq⟩ : ∃ q : Nat, isTo b nx sSp = q := ⟨(isTo b nx sSp).toNat, by omega⟩
            rw [hq] at h k3
            exact clR_err (by omega) h
          · simp only [Sum.inl.injEq, Prod.mk.injEq] at h
            obtain ⟨rfl, rfl⟩ := h
            exact ⟨by omega, by omega, by decide⟩
theorem paL_err {b : List UInt8} {n : Int} : ∀ {f i : Nat} {out : List Sp} {a e : Int}, i ≤ b.length → paL b n f (i : Int) out = .inl (a, e) → 0 ≤ a ∧ a ≤ b.length ∧ e ≠ 0
  | 0, i, out, a, e, hi, h => by
    simp only [paL, Sum.inl.injEq, Prod.mk.injEq] at h
    obtain ⟨rfl, rfl⟩ := h
    exact ⟨by omega, by omega, by decide⟩
  | f + 1, i, out, a, e, hi, h => by
    rw [paL] at h
    split at h
    · cases h
    · split at h
      · simp only [Sum.inl.injEq, Prod.mk.injEq] at h
        obtain ⟨rfl, rfl⟩ := h
        exact ⟨by omega, by omega, by decide⟩
      · obtain ⟨q, hq, q1, q2⟩ := isTo_nat b i hi sDel
        rw [hq] at h
        cases hc : clR b n (b.length + 1) (q : Int) [] with
        | inl x =>
          rw [hc] at h
          obtain ⟨a', e'⟩ := x
          simp only [Sum.inl.injEq, Prod.mk.injEq] at h
          obtain ⟨rfl, rfl⟩ := h
          exact clR_err q2 hc
        | inr x =>
          obtain ⟨c, e1⟩ := x
          rw [hc] at h
          obtain ⟨k, rfl, k3, k4⟩ := clR_bnd b n q [] _ hc
          exact paL_err k4 h
theorem paR_inv {b : List UInt8} {n : Int} (hn : 0 ≤ n) {l : List Sp} {e : Int} (h : paR b n = .inr (l, e)) : e = b.length ∧ (∀ s ∈ l, (∀ x ∈ s.2.1, litOk n x) ∧ s.2.1.length ≤ 1000) ∧ l.length ≤ 20000 ∧ b = proofT l := by
  unfold paR at h
  split at h
  · cases h
  · obtain ⟨p, h1, h2, h3, h4, h5⟩ := paL_inv (i := 0) hn (Nat.zero_le _) h (by simp)
    rw [List.nil_append] at h1
    subst h1
    exact ⟨h2, h3, h4, by simpa using h5⟩
theorem paR_err {b : List UInt8} {n : Int} {a e : Int} (h : paR b n = .inl (a, e)) : 0 ≤ a ∧ a ≤ b.length ∧ e ≠ 0 := by
  unfold paR at h
  split at h
  · simp only [Sum.inl.injEq, Prod.mk.injEq] at h
    obtain ⟨rfl, rfl⟩ := h
    exact ⟨by omega, by omega, by decide⟩
  · exact paL_err (i := 0) (Nat.zero_le _) h
end Go.Proofs.YtffomfbbplpljaaDoor
namespace Go.Proofs.YtffomfbbplpljaaDoor
open Go Ab Go.RowKit
set_option maxRecDepth 100000
set_option linter.unusedVariables false
set_option linter.unusedSimpArgs false

/-! More clauses; a proof's end. -/
/-! Clauses whose order, and whose literals' order, is another. -/
end Go.Proofs.YtffomfbbplpljaaDoor
namespace Go.Proofs.YtffomfbbplpljaaDoor
open Go Ab Go.RowKit
set_option maxRecDepth 100000
set_option linter.unusedVariables false
set_option linter.unusedSimpArgs false
set_option maxHeartbeats 4000000

theorem litOk_i64 {n x : Int} (hn : n ≤ 100000) (h : litOk n x) : -1000000 ≤ x ∧ x ≤ 1000000 := by
  unfold litOk at h
  omega
end Go.Proofs.YtffomfbbplpljaaDoor
namespace Go.Proofs.YtffomfbbplpljaaDoor
open Go Ab Go.RowKit
set_option maxRecDepth 100000
set_option linter.unusedVariables false
set_option linter.unusedSimpArgs false
set_option maxHeartbeats 4000000

theorem smallP_of {p : List Sp} {m : Nat} (h : smallP p m = true) : p.length ≤ m ∧ ∀ s ∈ p, s.2.1.length ≤ m := by
  unfold smallP at h
  rw [Bool.and_eq_true, decide_eq_true_eq, List.all_eq_true] at h
  exact ⟨by omega, fun s hs => by
    have := h.2 s hs
    rw [decide_eq_true_eq] at this
    omega⟩
theorem rightP_lit {n : Int} {p : List Sp} (h : rightP n p = true) : (0 ≤ n ∧ n ≤ 100000) ∧ ∀ s ∈ p, ∀ x ∈ s.2.1, litOk n x := by
  unfold rightP at h
  rw [Bool.and_eq_true, decide_eq_true_eq, List.all_eq_true] at h
  exact ⟨⟨h.1.1, h.1.2.1⟩, fun s hs => clOk_lit (h.2 s hs)⟩
theorem proofT_app (p q : List Sp) : proofT (p ++ q) = proofT p ++ proofT q := by simp [proofT]
theorem proofT_inj {n : Int} (hn : 0 ≤ n ∧ n ≤ 100000) {p q : List Sp} (hp : ∀ s ∈ p, (∀ x ∈ s.2.1, litOk n x) ∧ s.2.1.length ≤ 1000) (hpl : p.length < 20000) (hpT : (proofT p).length ≤ 100000) (hq : ∀ s ∈ q, (∀ x ∈ s.2.1, litOk n x) ∧ s.2.1.length ≤ 1000) (hql : q.length < 20000) (hqT : (proofT q).length ≤ 100000) : proofT p = proofT q ↔ p = q := by
  refine ⟨fun h => ?_, fun h => by rw [h]⟩
  have h1 := read_print hn hp hpl hpT
  rw [h, read_print hn hq hql hqT] at h1
  simp only [Sum.inr.injEq, Prod.mk.injEq] at h1
  exact h1.1.symm
/-- What a text behind a proof's comes to. -/
theorem paA_app {n : Int} (hn : 0 ≤ n) (k : Nat) (p : List Sp) (b : List UInt8) : ∃ x y a e, paA (paR b n) = tupOf [.d (eSps x), vI .i64 a, vI .i64 e] ∧ paA (shR k (mapO p (paR b n))) = tupOf [.d (eSps y), vI .i64 (k + a), vI .i64 e] ∧ 0 ≤ a ∧ a ≤ b.length := by
  cases hq : paR b n with
  | inl q =>
    obtain ⟨a, e⟩ := q
    obtain ⟨h1, h2, -⟩ := paR_err hq
    exact ⟨[], [], a, e, rfl, rfl, h1, h2⟩
  | inr q =>
    obtain ⟨x, a⟩ := q
    obtain ⟨h1, -⟩ := paR_inv hn hq
    exact ⟨x, p ++ x, a, 0, rfl, rfl, by omega, by omega⟩

@[reducible] def apIn (p q : List Sp) (n : Int) (b : List UInt8) : D := .ag [eSps p, eSps q, eI n, eBy b]
theorem apart_call (p q : List Sp) (n : Int) (b : List UInt8) (hpm : ∀ s ∈ p, s.2.1.length ≤ maxLen) (hqm : ∀ s ∈ q, s.2.1.length ≤ maxLen) : ACall Tryd.prog 6 [.d (apIn p q n b)] [] (fun r o => r = vB true) := by
  refine acall_enter Tryd.func6 rfl rfl (Nat.le_of_ble_eq_true rfl) fun C hC hCl hDs hGk => ?_
  refine sat_call tabOk Tryd.func6 rfl trivial shown_call (.refl _) rfl ⟨_, rfl⟩ (by rintro r o rfl; rfl) ?_
  rintro _ o rfl
  refine sat_branch tabOk Tryd.func6 rfl trivial (fun h1 => ?_) (fun h1 => ?_)
  · repeat refine sat_branch tabOk Tryd.func6 rfl trivial (fun _ => ?_) (fun h => by cases h)
    exact sat_ret tabOk Tryd.func6 rfl trivial rfl
  refine sat_branch tabOk Tryd.func6 rfl trivial (fun h2 => ?_) (fun h2 => ?_)
  · repeat refine sat_branch tabOk Tryd.func6 rfl trivial (fun _ => ?_) (fun h => by cases h)
    exact sat_ret tabOk Tryd.func6 rfl trivial rfl
  refine sat_call tabOk Tryd.func6 rfl trivial (pSmall_call p 20) (.refl _) rfl ⟨_, rfl⟩ (by rintro r o rfl; rfl) ?_
  rintro _ o rfl
  cases hsp : smallP p 20 with
  | false =>
    repeat refine sat_branch tabOk Tryd.func6 rfl trivial (fun _ => ?_) (fun h => by cases h)
    exact sat_ret tabOk Tryd.func6 rfl trivial rfl
  | true =>
  refine sat_branch tabOk Tryd.func6 rfl trivial (fun h => by cases h) (fun _ => ?_)
  refine sat_call tabOk Tryd.func6 rfl trivial (pSmall_call q 20) (.refl _) rfl ⟨_, rfl⟩ (by rintro r o rfl; rfl) ?_
  rintro _ o rfl
  cases hsq : smallP q 20 with
  | false =>
    repeat refine sat_branch tabOk Tryd.func6 rfl trivial (fun _ => ?_) (fun h => by cases h)
    exact sat_ret tabOk Tryd.func6 rfl trivial rfl
  | true =>
  refine sat_branch tabOk Tryd.func6 rfl trivial (fun h => by cases h) (fun _ => ?_)
  refine sat_call tabOk Tryd.func6 rfl trivial (pRight_call n p hpm) (.refl _) rfl ⟨_, rfl⟩ (by rintro r o rfl; rfl) ?_
  rintro _ o rfl
  cases hrp : rightP n p with
  | false =>
    repeat refine sat_branch tabOk Tryd.func6 rfl trivial (fun _ => ?_) (fun h => by cases h)
    exact sat_ret tabOk Tryd.func6 rfl trivial rfl
  | true =>
  refine sat_branch tabOk Tryd.func6 rfl trivial (fun h => by cases h) (fun _ => ?_)
  refine sat_call tabOk Tryd.func6 rfl trivial (pRight_call n q hqm) (.refl _) rfl ⟨_, rfl⟩ (by rintro r o rfl; rfl) ?_
  rintro _ o rfl
  cases hrq : rightP n q with
  | false =>
    repeat refine sat_branch tabOk Tryd.func6 rfl trivial (fun _ => ?_) (fun h => by cases h)
    exact sat_ret tabOk Tryd.func6 rfl trivial rfl
  | true =>
  refine sat_branch tabOk Tryd.func6 rfl trivial (fun h => by cases h) (fun _ => ?_)
  refine sat_branch tabOk Tryd.func6 rfl trivial (fun h3 => ?_) (fun h3 => ?_)
  · exact sat_ret tabOk Tryd.func6 rfl trivial rfl
  have h3 : b.length ≤ 500 := by
    have h3 : decide ((((b.map eU8).length : Nat) : Int) > 500) = false := h3
    rw [decide_eq_false_iff_not, List.length_map] at h3
    omega
  obtain ⟨hn, hpl⟩ := rightP_lit hrp
  obtain ⟨-, hql⟩ := rightP_lit hrq
  obtain ⟨sp1, sp2⟩ := smallP_of (m := 20) hsp
  obtain ⟨sq1, sq2⟩ := smallP_of (m := 20) hsq
  have hps : ∀ s ∈ p, (∀ x ∈ s.2.1, litOk n x) ∧ s.2.1.length ≤ 1000 := fun s hs => ⟨hpl s hs, Nat.le_trans (sp2 s hs) (by decide)⟩
  have hqs : ∀ s ∈ q, (∀ x ∈ s.2.1, litOk n x) ∧ s.2.1.length ≤ 1000 := fun s hs => ⟨hql s hs, Nat.le_trans (sq2 s hs) (by decide)⟩
  have hbs : ∀ s ∈ p ++ q, (∀ x ∈ s.2.1, litOk n x) ∧ s.2.1.length ≤ 1000 := fun s hs => (List.mem_append.1 hs).elim (hps s) (hqs s)
  have prn : ∀ {l : List Sp}, (∀ s ∈ l, (∀ x ∈ s.2.1, litOk n x) ∧ s.2.1.length ≤ 1000) → ∀ s ∈ l, (∀ x ∈ s.2.1, -1000000 ≤ x ∧ x ≤ 1000000) ∧ s.2.1.length ≤ 1000 := fun h s hs => ⟨fun x hx => litOk_i64 hn.2 ((h s hs).1 x hx), (h s hs).2⟩
  have hpT : (proofT p).length ≤ 20 * (20 * 22 + 4) := Nat.le_trans (proofT_len (m := 20) fun s hs => ⟨fun x hx => by have := litOk_i64 hn.2 (hpl s hs x hx); omega, sp2 s hs⟩) (Nat.mul_le_mul_right _ sp1)
  have hqT : (proofT q).length ≤ 20 * (20 * 22 + 4) := Nat.le_trans (proofT_len (m := 20) fun s hs => ⟨fun x hx => by have := litOk_i64 hn.2 (hql s hs x hx); omega, sq2 s hs⟩) (Nat.mul_le_mul_right _ sq1)
  refine sat_call tabOk Tryd.func6 rfl trivial (dPrint_call p (prn hps) (by omega)) (.refl _) rfl ⟨_, rfl⟩ (by rintro r o rfl; rfl) ?_
  rintro _ o rfl
  refine sat_call tabOk Tryd.func6 rfl trivial (dPrint_call q (prn hqs) (by omega)) (.refl _) rfl ⟨_, rfl⟩ (by rintro r o rfl; rfl) ?_
  rintro _ o rfl
  refine sat_steps 6 tabOk Tryd.func6 rfl trivial ?_
  refine sat_steps 3 tabOk Tryd.func6 rfl ?nd ?_
  case nd =>
    refine ⟨?_, ?_, trivial⟩
    · show ((p.map eSp).length + (q.map eSp).length) * 32 ≤ 140737488355328
      rw [List.length_map, List.length_map]
      omega
    · show (p.map eSp).length * 32 ≤ 140737488355328
      rw [List.length_map]
      omega
  refine sat_freeze 1 rfl ?_
  refine sat_steps 5 tabOk Tryd.func6 rfl trivial ?_
  refine sat_strB (bs := proofT p) tabOk rfl rfl rfl rfl rfl rfl rfl rfl rfl rfl (by omega) rfl ?_
  refine sat_steps 2 tabOk Tryd.func6 rfl ?nd ?_
  case nd =>
    refine ⟨?_, trivial⟩
    show ((List.map eU8 (proofT p)).length + (List.map eU8 b).length) * 1 ≤ 140737488355328
    rw [List.length_map, List.length_map]
    omega
  refine sat_freeze 2 rfl ?_
  have hT2 : (proofT p ++ b).length ≤ 100000 := by
    rw [List.length_append]
    omega
  have hra := read_app hn hps b (by omega) hT2
  obtain ⟨x, y, a, e, hb1, hb2, ha0, ha1⟩ := paA_app hn.1 (proofT p).length p b
  refine sat_call tabOk Tryd.func6 rfl trivial (parse_call (proofT p ++ b) n (by omega)) ⟨VLe.eL (by rw [List.map_append]), .refl _, trivial⟩ rfl ⟨_, rfl⟩ ?_ ?_
  · rintro r o rfl
    rw [hra, hb2]
    rfl
  rintro _ o rfl
  rw [hra, hb2]
  refine sat_call tabOk Tryd.func6 rfl trivial (parse_call b n (by omega)) ⟨.refl _, .refl _, trivial⟩ rfl ⟨_, rfl⟩ ?_ ?_
  · rintro r o rfl
    rw [hb1]
    rfl
  rintro _ o rfl
  rw [hb1]
  refine sat_branch tabOk Tryd.func6 rfl trivial (fun _ => ?_) (fun h => by cases h)
  refine sat_call tabOk Tryd.func6 rfl trivial (pSame_call p q) (.refl _) rfl ⟨_, rfl⟩ (by rintro r o rfl; rfl) ?_
  rintro _ o rfl
  have hinj : decide (proofT p = proofT q) = decide (p = q) := decide_eq_decide.2 (proofT_inj hn hps (by omega) (by omega) hqs (by omega) (by omega))
  refine sat_branch tabOk Tryd.func6 rfl trivial (fun h4 => ?_) (fun h4 => ?_)
  rotate_left
  · have h4 : ((((⟨(proofT p).toArray⟩ : ByteArray).toList == (⟨(proofT q).toArray⟩ : ByteArray).toList)) == decide (p = q)) = false := h4
    rw [str_eqB, hinj] at h4
    simp at h4
  refine sat_call tabOk Tryd.func6 rfl trivial (dPrint_call (p ++ q) (prn hbs) (by rw [List.length_append]; omega)) ⟨VLe.eL (by rw [List.map_append]), trivial⟩ rfl ⟨_, rfl⟩ (by rintro r o rfl; rfl) ?_
  rintro _ o rfl
  have hs5 : (⟨(proofT p).toArray⟩ : ByteArray).size + (⟨(proofT q).toArray⟩ : ByteArray).size ≤ 9223372036854775807 := by
    show (proofT p).length + (proofT q).length ≤ _
    omega
  refine sat_branch tabOk Tryd.func6 rfl ⟨hs5, trivial⟩ (fun h5 => ?_) (fun h5 => ?_)
  rotate_left
  · have h5 : ((⟨(proofT (p ++ q)).toArray⟩ : ByteArray).toList == ((⟨(proofT p).toArray⟩ : ByteArray) ++ (⟨(proofT q).toArray⟩ : ByteArray)).toList) = false := h5
    rw [catStr, str_eqB, proofT_app] at h5
    simp at h5
  refine sat_branch tabOk Tryd.func6 rfl trivial (fun h6 => ?_) (fun h6 => ?_)
  rotate_left
  · have h6 : (e == e) = false := h6
    simp at h6
  refine sat_ret tabOk Tryd.func6 rfl trivial ?_
  show vB ((((proofT p).length : Int) + a) == IntKind.i64.wrap (((proofT p).length : Int) + a)) = vB true
  rw [wrap_id (by omega) (by omega), beq_self_eq_true]
end Go.Proofs.YtffomfbbplpljaaDoor
