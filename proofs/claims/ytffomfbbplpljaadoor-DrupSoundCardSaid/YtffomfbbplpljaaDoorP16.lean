/- A part of the proof: Ab74, K59, K60, K70, K25, K72, K80. -/
import Derived.Test.YtffomfbbplpljaaDoorP15
import Derived.Lib.ConvBytes
import Derived.Lib.SlBytesConst
set_option linter.unusedVariables false
set_option linter.unusedSimpArgs false
set_option linter.unusedSimpArgs false
set_option linter.unusedVariables false
set_option linter.unusedSectionVars false
namespace Ab
open Go
variable [Draws]

theorem lit_run {P : Program} {T : Tab} (hT : TabOk P T) {w : World} {ok : Nat → Prop} {π : List Value} {t e : TypeId} {r re : TRow} {len : Nat} {ps : List (Nat × AV)} {vs : List (Nat × Value)} {xs : List D} (hr : tlook T t = some r) (hk : r.kd = .slice e) (hre : tlook T e = some re)
    (hp : RelPs w ok π ps vs) (hxs : litParts re.size 0 ps = some xs) (hlen : xs.length = len) (hl0 : len ≠ 0) (hble : len * re.size ≤ 16777216) (hz0 : re.size ≠ 0) :
    ∃ us, RelE w ok re.size xs us ∧ (Instr.buildSlice t len vs.toArray).run P w = .ok (.slice (some ⟨w.heap.size, 0, none⟩) len len) (w.alloc (.cells us.toArray e)) := by
  have ht := slice_elem hT hr hk
  obtain ⟨z, hzr, hzc, hzf, _, _⟩ := (tab_row hT hre).zero
  have hzl : z.cells.size = re.size := by
    have := (tab_row hT hre).zl
    rw [← hzc] at this
    simpa using this
  obtain ⟨us, h1, h2⟩ := lit_rel hxs hp [] ((List.range (len * re.size)).map fun i => z.cells[i % z.cells.size]!) (by simp) (by simp [hlen])
  simp only [List.nil_append] at h2
  refine ⟨us, h1, ?_⟩
  have hsz := (tab_row hT hre).sizeOf w
  have h2' : Instr.fill (fun i => some (i * re.size, re.size)) (Array.map (fun i => z.cells[i % z.cells.size]!) (Array.range (len * re.size))) vs = some us.toArray := by
    rw [← h2]
    congr 1
    apply Array.ext'
    simp
  have hl0' : len * re.size ≠ 0 := fun h => (Nat.mul_eq_zero.1 h).elim hl0 hz0
  simp [Instr.buildSlice, run_underlying ht, hsz, hl0', show ¬ 16777216 < len * re.size by omega, hzr, h2', run_newRow]

section
variable {P : Program} [Globals P] {T : Tab} {f : FuncId} {n : Nat} {C : Cx} {R : AV → List (Option AObj) → Prop} {env : Env} {objs : List (Option AObj)} {ops : Array Oper}

/-- A constant string's bytes: a literal row, turned to its own type. -/
theorem sat_constB {i j : Nat} {r : List Nat} {k : List Item} {o1 o2 : Oper} {e1 e2 : Env} {t e : TypeId} {rt re : TRow} {len : Nat} {ps : List (Nat × Operand)} {az : List (Nat × AV)} {xs : List D} {d1 : Tmp} (hT : TabOk P T)
    (ho1 : ops[i]? = some o1) (hw1 : wantE ops env o1 = .yes) (hop1 : o1.op = .buildSlice t len ⟨ps⟩) (hd1 : o1.dst = some d1) (hp : parts env ps = some az) (hr : tlook T t = some rt) (hk : rt.kd = .slice e) (hre : tlook T e = some re) (h8 : re.kd = .int .u8) (hsz : re.size = 1)
    (hxs : litParts re.size 0 az = some xs) (hlen : xs.length = len) (hl0 : len ≠ 0) (hble : len ≤ 16777216) (hput1 : putE n (some d1) .dead env = some e1)
    (ho2 : ops[j]? = some o2) (hw2 : wantE ops e1 o2 = .yes) (hop2 : o2.op = .convert t t (.tmp d1)) (hput2 : putE n o2.dst (.d (.sl 1 xs (litRd xs))) e1 = some e2)
    (h : ASat P f n C (.inRegion ops r :: k) e2 objs R) : ASat P f n C (.inRegion ops (i :: j :: r) :: k) env objs R := by
  intro π w tmps hn hm hh he
  have hps := parts_rel (ds := []) he hp
  obtain ⟨us, hE, hrun⟩ := lit_run hT hr hk hre hps hxs hlen hl0 (by rw [hsz, Nat.mul_one]; exact hble) (by rw [hsz]; decide)
  have ht := slice_elem hT hr hk
  have heU := int_type hT hre h8
  -- the row
  have hr1 : (execOp (Act.eval ⟨tmps, []⟩) o1).run P w = .ok (.value (.slice (some ⟨w.heap.size, 0, none⟩) len len)) (w.alloc (.cells us.toArray e)) := by
    unfold execOp
    rw [hop1]
    have := hrun
    simp only [Sem.run_bind, Sem.run_pure]
    have e3 : (Array.map (fun x => (x.1, Act.eval ⟨tmps, []⟩ x.2)) ⟨ps⟩ : Array (Nat × Value)) = (ps.map fun x => (x.1, Act.eval ⟨tmps, []⟩ x.2)).toArray := by simp
    first
      | (rw [e3]; rw [this]; rfl)
      | (simp only [e3, this]; rfl)
      | (simpa using this)
  refine .opVal ho1 ((wanted_of he).1 hw1) hr1 ?_
  rw [hd1]
  -- behind it
  have hlt : d1 < n := by
    simp only [putE] at hput1
    cases hb : Nat.blt d1 n with
    | false => rw [hb] at hput1; cases hput1
    | true => simpa [Nat.blt_eq] using hb
  have hul := hE.length
  rw [hsz, Nat.mul_one] at hul
  have hext1 : ∀ b, b < w.heap.size → (w.alloc (.cells us.toArray e)).heap[b]? = w.heap[b]? := fun b hb => heap_push_old _ hb
  have htr1 := tr_plain (w' := w.alloc (.cells us.toArray e)) hm rfl rfl ⟨rfl, dr_mono (Nat.le_refl _)⟩ (by rw [alloc_heap]; simp) hext1
  obtain ⟨p1, p2⟩ := put_rel (dst := some d1) (a := .dead) (v := .slice (some ⟨w.heap.size, 0, none⟩) len len) (env_tr he htr1) hn hput1 .dead
  have hget : (putT (some d1) (.slice (some ⟨w.heap.size, 0, none⟩) len len) tmps).getD d1 undef = .slice (some ⟨w.heap.size, 0, none⟩) len len := by
    simp [putT, Array.getD_eq_getD_getElem?, Array.getElem?_setIfInBounds, hn, hlt]
  have hr2 : (execOp (Act.eval ⟨putT (some d1) (.slice (some ⟨w.heap.size, 0, none⟩) len len) tmps, []⟩) o2).run P (w.alloc (.cells us.toArray e)) = .ok (.value (.slice (some ⟨w.heap.size, 0, none⟩) len len)) (w.alloc (.cells us.toArray e (us.toArray.size, us.toArray.size + 1))) := by
    unfold execOp
    rw [hop2]
    have e4 : Act.eval ⟨putT (some d1) (.slice (some ⟨w.heap.size, 0, none⟩) len len) tmps, []⟩ (.tmp d1) = .slice (some ⟨w.heap.size, 0, none⟩) len len := hget
    have := Go.Lib.run_convert_bytes_const (P := P) w t e us.toArray len len ht heU
    simp only [Sem.run_bind, Sem.run_pure, e4, this]
    rfl
  refine .opVal ho2 ((wanted_of p1).1 hw2) hr2 ?_
  have hext2 : ∀ b, b < w.heap.size → (w.alloc (.cells us.toArray e (us.toArray.size, us.toArray.size + 1))).heap[b]? = w.heap[b]? := fun b hb => heap_push_old _ hb
  have htr2 := tr_plain (w' := w.alloc (.cells us.toArray e (us.toArray.size, us.toArray.size + 1))) hm rfl rfl ⟨rfl, dr_mono (Nat.le_refl _)⟩ (by rw [alloc_heap]; simp) hext2
  have he2 : EnvRel (w.alloc (.cells us.toArray e (us.toArray.size, us.toArray.size + 1))) (okOf C.X π objs) π e1 (putT (some d1) (.slice (some ⟨w.heap.size, 0, none⟩) len len) tmps) :=
    (put_rel (dst := some d1) (a := .dead) (v := .slice (some ⟨w.heap.size, 0, none⟩) len len) (env_tr he htr2) hn hput1 .dead).1
  have hdata : RelV (w.alloc (.cells us.toArray e (us.toArray.size, us.toArray.size + 1))) (okOf C.X π objs) π (.d (.sl 1 xs (litRd xs))) (.slice (some ⟨w.heap.size, 0, none⟩) len len) := by
    have hk2 : Keeps w (okOf C.X π objs) (w.alloc (.cells us.toArray e (us.toArray.size, us.toArray.size + 1))) (okOf C.X π objs) := fun b o u a1 a2 => ⟨a1, cell_push _ a2⟩
    subst hlen
    rw [hsz] at hE
    refine .d (.sl (us := us) (hE.mono hk2) (fun q hq => ⟨new_okb hm, ?_⟩) (Nat.le_refl _) ?_ (litRd_ok xs))
    · rw [Nat.zero_add]
      exact cell_of_heap (heap_push_new _)
    · have hml : maxLen = 9223372036854775807 := rfl
      omega
  obtain ⟨q1, q2⟩ := put_rel he2 p2 hput2 hdata
  exact h π _ _ q2 htr2.mem (hist_tr hh htr2) q1

end
end Ab
namespace Go.Proofs.YtffomfbbplpljaaDoor
open Go Ab Go.RowKit
set_option maxRecDepth 100000
set_option linter.unusedVariables false
set_option linter.unusedSimpArgs false
set_option maxHeartbeats 4000000

/-! The document's example. -/
@[reducible] def xaL : List (List Int) := [[1, 2], [1, -2], [-1, 2], [-1, -2]]
@[reducible] def xaP : List Sp := [(false, [1], ()), (false, [], ())]
@[reducible] def xaT : List UInt8 := [49, 32, 48, 10, 48, 10]
theorem xa_parse : paR xaT 2 = .inr (xaP, 6) := by kernel_rfl
theorem xa_print : proofT xaP = xaT := by kernel_rfl
theorem fo2 {l : List (List Int)} {a : List Int} {x y : Int} (hc : [x, y] ∈ l) (h : Fo l a (-x)) : Fo l a y := by
  by_cases hxy : x = y
  · subst hxy
    refine .unit hc (by simp) fun z hz hne => ?_
    have : z = x := by simpa using hz
    exact absurd this hne
  refine .unit hc (by simp) fun z hz hne => ?_
  rcases List.mem_cons.1 hz with rfl | hz
  · exact h
  · exact absurd (List.mem_singleton.1 hz) hne
theorem cf2 {l : List (List Int)} {a : List Int} {x y : Int} (hc : [x, y] ∈ l) (h : Fo l a (-x)) (k : Fo l a (-y)) : Cf l a := .inr ⟨_, hc, fun z hz => by
  rcases List.mem_cons.1 hz with rfl | hz
  · exact h
  · rw [List.mem_singleton.1 hz]
    exact k⟩
theorem fnn {l : List (List Int)} {a : List Int} {x : Int} (h : Fo l a x) : Fo l a (-(-x)) := by rwa [Int.neg_neg]
theorem xa_ref1 : refB xaL [1] = true := by
  have f1 : Fo xaL ([1].map fun x : Int => -x) (-1) := .mem (by decide)
  have f2 : Fo xaL ([1].map fun x : Int => -x) 2 := fo2 (x := 1) (by decide) f1
  exact refB_iff.2 (cf2 (x := 1) (y := -2) (by decide) f1 (fnn f2))
theorem xa_ref2 : refB (xaL ++ [[1]]) [] = true := by
  have f1 : Fo (xaL ++ [[1]]) (([] : List Int).map fun x : Int => -x) 1 := .unit (c := [1]) (by decide) (by decide) fun y hy hne => absurd (List.mem_singleton.1 hy) hne
  have f2 : Fo (xaL ++ [[1]]) (([] : List Int).map fun x : Int => -x) 2 := fo2 (x := -1) (by decide) (fnn f1)
  exact refB_iff.2 (cf2 (x := -1) (y := -2) (by decide) (fnn f1) (fnn f2))
theorem xa_chk : chk xaL 0 xaP = (1, 0) := by
  rw [chk]
  have h1 : stepR xaL (false, [1], ()) = some (xaL ++ [[1]]) := by simp only [stepR, Bool.false_eq_true, if_false, xa_ref1, if_true]
  rw [h1]
  simp only [List.cons_ne_nil, and_false, if_false]
  rw [chk]
  have h2 : stepR (xaL ++ [[1]]) (false, [], ()) = some (xaL ++ [[1]] ++ [[]]) := by simp only [stepR, Bool.false_eq_true, if_false, xa_ref2, if_true]
  rw [h2]
  simp
theorem xa_cls : Cls 2 xaL := ⟨by decide, by decide⟩
theorem str_eqB (a b : List UInt8) : ((⟨a.toArray⟩ : ByteArray).toList == (⟨b.toArray⟩ : ByteArray).toList) = decide (a = b) := strBy a b
theorem DLe.ofC {s : Nat} {xs ys : List D} {rd rd' : Nat → D} (h : CLe (.sl s xs rd) (.sl s ys rd')) : DLe (.sl s xs rd) (.sl s ys rd') := by
  intro w ok v hv
  have hf : flat v = true := by cases hv <;> rfl
  have h1 : RelL w ok [D.sl s xs rd] [v] := .cons hv hf .nil
  have h2 : RelL w ok [D.sl s ys rd'] [v] := h w ok [v] h1
  cases h2 with | cons h _ _ => exact h
theorem xa_le : VLe (.d (.ag [.v (.int .i64 2), .sl 1 (xaL.map fun c => .sl 1 (c.map eI) (litRd (c.map eI))) (litRd (xaL.map fun c => .sl 1 (c.map eI) (litRd (c.map eI))))])) (.d (eCnf 2 xaL)) :=
  VLe.dag ⟨.refl _, DLe.ofC (lit_rows eI 0 xaL 1), trivial⟩
theorem shown_call : ACall Tryd.prog 8 [] [] (fun r o => r = vB true) := by
  refine acall_enter Tryd.func8 rfl rfl (Nat.le_of_ble_eq_true rfl) fun C hC hCl hDs hGk => ?_
  refine sat_steps 17 tabOk Tryd.func8 rfl trivial ?_
  refine sat_constB tabOk rfl rfl rfl rfl rfl rfl rfl rfl rfl rfl rfl rfl (by decide) (by decide) rfl rfl rfl rfl rfl ?_
  refine sat_call tabOk Tryd.func8 rfl trivial (parse_call xaT 2 (by decide)) ⟨.eL rfl, .refl _, trivial⟩ rfl ⟨_, rfl⟩ ?_ ?_
  · rintro r o rfl
    rw [xa_parse]
    rfl
  rintro _ o rfl
  rw [xa_parse]
  refine sat_call tabOk Tryd.func8 rfl trivial (Check_call (n := 2) (l0 := xaL) (p := xaP) (by decide) xa_cls (by decide) (by decide)) ⟨?_, .refl _, trivial⟩ rfl ⟨_, rfl⟩ (by rintro r o rfl; rfl) ?_
  · exact xa_le
  rintro _ o rfl
  rw [xa_chk]
  refine sat_call tabOk Tryd.func8 rfl trivial (Check_call (n := 2) (l0 := xaL) (p := []) (by decide) xa_cls (by decide) (by decide)) ⟨?_, .nil, trivial⟩ rfl ⟨_, rfl⟩ (by rintro r o rfl; rfl) ?_
  · exact xa_le
  rintro _ o rfl
  refine sat_branch tabOk Tryd.func8 rfl trivial (fun _ => ?_) (fun h => by cases h)
  refine sat_branch tabOk Tryd.func8 rfl trivial (fun _ => ?_) (fun h => by cases h)
  refine sat_branch tabOk Tryd.func8 rfl trivial (fun _ => ?_) (fun h => by cases h)
  refine sat_branch tabOk Tryd.func8 rfl trivial (fun _ => ?_) (fun h => by cases h)
  refine sat_branch tabOk Tryd.func8 rfl trivial (fun _ => ?_) (fun h => by cases h)
  refine sat_branch tabOk Tryd.func8 rfl trivial (fun _ => ?_) (fun h => by cases h)
  refine sat_branch tabOk Tryd.func8 rfl trivial (fun _ => ?_) (fun h => by cases h)
  refine sat_call tabOk Tryd.func8 rfl trivial (dRight_call 2 xaP (by decide) (by decide)) (.refl _) rfl ⟨_, rfl⟩ (by rintro r o rfl; rfl) ?_
  rintro _ o rfl
  refine sat_branch tabOk Tryd.func8 rfl trivial (fun _ => ?_) (fun h => by cases h)
  refine sat_call tabOk Tryd.func8 rfl trivial (dSame_call xaP xaP) (.refl _) rfl ⟨_, rfl⟩ (by rintro r o rfl; rfl) ?_
  rintro _ o rfl
  rw [decide_eq_true (rfl : xaP = xaP)]
  refine sat_branch tabOk Tryd.func8 rfl trivial (fun _ => ?_) (fun h => by cases h)
  refine sat_call tabOk Tryd.func8 rfl trivial (dPrint_call xaP (by decide) (by decide)) (.refl _) rfl ⟨_, rfl⟩ (by rintro r o rfl; rfl) ?_
  rintro _ o rfl
  refine sat_ret tabOk Tryd.func8 rfl trivial ?_
  show vB ((⟨(proofT xaP).toArray⟩ : ByteArray).toList == (⟨xaT.toArray⟩ : ByteArray).toList) = _
  rw [xa_print, str_eqB, decide_eq_true rfl]
end Go.Proofs.YtffomfbbplpljaaDoor
namespace Go.Proofs.YtffomfbbplpljaaDoor
open Go Ab Go.RowKit
set_option maxRecDepth 100000
set_option linter.unusedVariables false
set_option linter.unusedSimpArgs false
set_option maxHeartbeats 4000000

def smallP (p : List Sp) (m : Int) : Bool := decide ((p.length : Int) ≤ m) && p.all (fun s => decide ((s.2.1.length : Int) ≤ m))
theorem pSmall_call (p : List Sp) (m : Int) : ACall Tryd.prog 18 [.d (eSps p), vI .i64 m] [] (fun r o => r = vB (smallP p m)) := by
  refine acall_enter Tryd.func18 rfl rfl (Nat.le_of_ble_eq_true rfl) fun C hC hCl hDs hGk => ?_
  refine sat_len (t := 0) rfl fun hlen => ?_
  rw [List.length_map] at hlen
  refine sat_branch tabOk Tryd.func18 rfl trivial (fun h => ?_) (fun h => ?_)
  · refine sat_ret tabOk Tryd.func18 rfl trivial ?_
    show vB false = vB _
    have : ¬ (p.length : Int) ≤ m := by simpa using h
    simp [this, smallP]
  have hm : (p.length : Int) ≤ m := by simpa using h
  refine sat_stop tabOk Tryd.func18 rfl trivial ?_
  refine sat_while (α := Nat) (fun i => [(0, .d (eSps p)), (1, vI .i64 m), (5, vI .i64 (i : Int))]) (fun _ => []) (fun i => i ≤ p.length ∧ smallP p m = (p.drop i).all (fun s => decide ((s.2.1.length : Int) ≤ m))) (fun i => p.length - i) 0 ⟨Nat.zero_le _, by simp [smallP, hm]⟩ ?_ ?_
  · exact fun h => sat_le h hC hCl ⟨⟨_, rfl, .refl _⟩, ⟨_, rfl, .refl _⟩, ⟨_, rfl, .refl _⟩, trivial⟩ trivial rfl rfl (Nat.zero_le _)
  rintro i ⟨hi, hc⟩ ih
  refine sat_branch tabOk Tryd.func18 rfl trivial (fun hb => ?_) (fun hb => ?_)
  · have hb : decide ((i : Int) < (((p.map eSp).length : Nat) : Int)) = true := hb
    rw [decide_eq_true_eq, List.length_map] at hb
    have hlt : i < p.length := by omega
    have hget : p.getD i (false, [], ()) = p[i] := by simp [hlt]
    rw [List.drop_eq_getElem_cons hlt, List.all_cons] at hc
    rw [← hget] at hc
    refine sat_branch tabOk Tryd.func18 rfl (by simp only [andP, and_true, true_and, Int.toNat_natCast, List.length_map, List.length_append, List.length_cons, List.length_nil, List.length_replicate]; omega) (fun hb2 => ?_) (fun hb2 => ?_)
    · have hb2 : ¬ (((p.getD i (false, [], ())).2.1.length : Nat) : Int) ≤ m := by
        have hb2 : decide (((((p.getD i (false, [], ())).2.1.map eI).length : Nat) : Int) > m) = true := hb2
        rw [decide_eq_true_eq, List.length_map] at hb2
        omega
      refine sat_ret tabOk Tryd.func18 rfl trivial ?_
      rw [hc, decide_eq_false hb2]
      rfl
    · have hb2 : (((p.getD i (false, [], ())).2.1.length : Nat) : Int) ≤ m := by
        have hb2 : decide (((((p.getD i (false, [], ())).2.1.map eI).length : Nat) : Int) > m) = false := hb2
        rw [decide_eq_false_iff_not, List.length_map] at hb2
        omega
      refine sat_stop tabOk Tryd.func18 rfl trivial ?_
      refine sat_le (ih (i + 1) ⟨by omega, ?_⟩ (by omega)) hC hCl ⟨⟨_, rfl, .refl _⟩, ⟨_, rfl, .refl _⟩, ⟨_, rfl, .of (by rw [wrap_id (by omega) (by omega)]; rfl)⟩, trivial⟩ trivial rfl rfl (Nat.zero_le _)
      rw [hc, decide_eq_true hb2, Bool.true_and]
  · have hb : decide ((i : Int) < (((p.map eSp).length : Nat) : Int)) = false := hb
    rw [decide_eq_false_iff_not, List.length_map] at hb
    obtain rfl : i = p.length := by omega
    rw [List.drop_length] at hc
    refine sat_ret tabOk Tryd.func18 rfl trivial ?_
    rw [hc]
    rfl
def rightP (n : Int) (p : List Sp) : Bool := decide (0 ≤ n ∧ n ≤ 100000 ∧ p.length ≤ 20000) && p.all (fun s => clOk n s.2.1)
theorem rightB_one {n : Int} (hn : 0 ≤ n ∧ n ≤ 100000) (c : List Int) : rightB n [c] = clOk n c := by simp [rightB, hn.1, hn.2]
theorem cnf1_le (n : Int) (c : List Int) : VLe (.d (.ag [eI n, .sl 1 [eIs c] (litRd [eIs c])])) (.d (eCnf n [c])) := VLe.dag ⟨.refl _, DLe.eL rfl, trivial⟩
theorem pRight_call (n : Int) (p : List Sp) (hpl : ∀ s ∈ p, s.2.1.length ≤ maxLen) : ACall Tryd.prog 16 [vI .i64 n, .d (eSps p)] [] (fun r o => r = vB (rightP n p)) := by
  refine acall_enter Tryd.func16 rfl rfl (Nat.le_of_ble_eq_true rfl) fun C hC hCl hDs hGk => ?_
  refine sat_len (t := 1) rfl fun hlen => ?_
  rw [List.length_map] at hlen
  refine sat_branch tabOk Tryd.func16 rfl trivial (fun h1 => ?_) (fun h1 => ?_)
  · have h1 : n < 0 := by simpa using h1
    refine sat_branch tabOk Tryd.func16 rfl trivial (fun _ => ?_) (fun h => by cases h)
    refine sat_branch tabOk Tryd.func16 rfl trivial (fun _ => ?_) (fun h => by cases h)
    refine sat_ret tabOk Tryd.func16 rfl trivial ?_
    rw [rightP, decide_eq_false (by omega)]
    rfl
  have h1 : 0 ≤ n := by simpa using h1
  refine sat_branch tabOk Tryd.func16 rfl trivial (fun h2 => ?_) (fun h2 => ?_)
  · have h2 : 100000 < n := by simpa using h2
    refine sat_branch tabOk Tryd.func16 rfl trivial (fun _ => ?_) (fun h => by cases h)
    refine sat_ret tabOk Tryd.func16 rfl trivial ?_
    rw [rightP, decide_eq_false (by omega)]
    rfl
  have h2 : n ≤ 100000 := by simpa using h2
  refine sat_branch tabOk Tryd.func16 rfl trivial (fun h3 => ?_) (fun h3 => ?_)
  · have h3 : decide ((((p.map eSp).length : Nat) : Int) > 20000) = true := h3
    rw [decide_eq_true_eq, List.length_map] at h3
    refine sat_ret tabOk Tryd.func16 rfl trivial ?_
    rw [rightP, decide_eq_false (by omega)]
    rfl
  have h3 : p.length ≤ 20000 := by
    have h3 : decide ((((p.map eSp).length : Nat) : Int) > 20000) = false := h3
    rw [decide_eq_false_iff_not, List.length_map] at h3
    omega
  have hR : rightP n p = p.all (fun s => clOk n s.2.1) := by rw [rightP, decide_eq_true ⟨h1, h2, h3⟩, Bool.true_and]
  refine sat_stop tabOk Tryd.func16 rfl trivial ?_
  refine sat_while (α := Nat) (fun i => [(0, vI .i64 n), (1, .d (eSps p)), (5, vI .i64 (i : Int))]) (fun _ => []) (fun i => i ≤ p.length ∧ rightP n p = (p.drop i).all (fun s => clOk n s.2.1)) (fun i => p.length - i) 0 ⟨Nat.zero_le _, hR⟩ ?_ ?_
  · exact fun h => sat_le h hC hCl ⟨⟨_, rfl, .refl _⟩, ⟨_, rfl, .refl _⟩, ⟨_, rfl, .refl _⟩, trivial⟩ trivial rfl rfl (Nat.zero_le _)
  rintro i ⟨hi, hc⟩ ih
  refine sat_branch tabOk Tryd.func16 rfl trivial (fun hb => ?_) (fun hb => ?_)
  · have hb : decide ((i : Int) < (((p.map eSp).length : Nat) : Int)) = true := hb
    rw [decide_eq_true_eq, List.length_map] at hb
    have hlt : i < p.length := by omega
    have hget : p.getD i (false, [], ()) = p[i] := by simp [hlt]
    rw [List.drop_eq_getElem_cons hlt, List.all_cons] at hc
    rw [← hget] at hc
    have hml : maxLen = 9223372036854775807 := rfl
    have hlm := hpl _ (List.getElem_mem hlt)
    rw [← hget] at hlm
    refine sat_call tabOk Tryd.func16 rfl (by simp only [andP, and_true, true_and, Int.toNat_natCast, List.length_map, List.length_append, List.length_cons, List.length_nil, List.length_replicate]; omega) (Right_call n [(p.getD i (false, [], ())).2.1] (by rw [hml]; simp) (by intro c hc; rw [List.mem_singleton.1 hc]; exact hlm)) ⟨cnf1_le n _, trivial⟩ rfl ⟨_, rfl⟩ (by rintro r o rfl; rfl) ?_
    rintro _ o rfl
    rw [rightB_one ⟨h1, h2⟩]
    cases hcl : clOk n (p.getD i (false, [], ())).2.1 with
    | false =>
      refine sat_branch tabOk Tryd.func16 rfl trivial (fun _ => ?_) (fun h => by cases h)
      refine sat_ret tabOk Tryd.func16 rfl trivial ?_
      rw [hc, hcl]
      rfl
    | true =>
      refine sat_branch tabOk Tryd.func16 rfl trivial (fun h => by cases h) (fun _ => ?_)
      refine sat_stop tabOk Tryd.func16 rfl trivial ?_
      refine sat_le (ih (i + 1) ⟨by omega, ?_⟩ (by omega)) hC hCl ⟨⟨_, rfl, .refl _⟩, ⟨_, rfl, .refl _⟩, ⟨_, rfl, .of (by rw [wrap_id (by omega) (by omega)]; rfl)⟩, trivial⟩ trivial rfl rfl (Nat.zero_le _)
      rw [hc, hcl, Bool.true_and]
  · have hb : decide ((i : Int) < (((p.map eSp).length : Nat) : Int)) = false := hb
    rw [decide_eq_false_iff_not, List.length_map] at hb
    obtain rfl : i = p.length := by omega
    rw [List.drop_length] at hc
    refine sat_ret tabOk Tryd.func16 rfl trivial ?_
    rw [hc]
    rfl
def mayB (n : Int) (l : List (List Int)) (p : List Sp) : Bool := decide (n ≤ 40) && (decide ((l.length : Int) ≤ 20) && l.all (fun c => decide ((c.length : Int) ≤ 20))) && rightB n l && smallP p 20 && rightP n p
theorem may_call (n : Int) (l : List (List Int)) (p : List Sp) (hll : l.length ≤ maxLen) (hcl : ∀ c ∈ l, c.length ≤ maxLen) (hpl : ∀ s ∈ p, s.2.1.length ≤ maxLen) : ACall Tryd.prog 9 [.d (eCnf n l), .d (eSps p)] [] (fun r o => r = vB (mayB n l p)) := by
  refine acall_enter Tryd.func9 rfl rfl (Nat.le_of_ble_eq_true rfl) fun C hC hCl hDs hGk => ?_
  have hm : ∀ b1 b2 b3 b4 b5 : Bool, b1 = decide (n ≤ 40) → b2 = (decide ((l.length : Int) ≤ 20) && l.all (fun c => decide ((c.length : Int) ≤ 20))) → b3 = rightB n l → b4 = smallP p 20 → b5 = rightP n p → mayB n l p = (b1 && b2 && b3 && b4 && b5) := by
    rintro _ _ _ _ _ rfl rfl rfl rfl rfl
    rfl
  refine sat_branch tabOk Tryd.func9 rfl trivial (fun h1 => ?_) (fun h1 => ?_)
  rotate_left
  · have h1 : decide (n ≤ 40) = false := h1
    refine sat_branch tabOk Tryd.func9 rfl trivial (fun h => by cases h) (fun _ => ?_)
    refine sat_branch tabOk Tryd.func9 rfl trivial (fun h => by cases h) (fun _ => ?_)
    refine sat_branch tabOk Tryd.func9 rfl trivial (fun h => by cases h) (fun _ => ?_)
    refine sat_ret tabOk Tryd.func9 rfl trivial ?_
    rw [hm _ _ _ _ _ h1.symm rfl rfl rfl rfl]
    simp
    rfl
  have h1 : decide (n ≤ 40) = true := h1
  refine sat_call tabOk Tryd.func9 rfl trivial (Small_call n l 20 hll) (.refl _) rfl ⟨_, rfl⟩ (by rintro r o rfl; rfl) ?_
  rintro _ o rfl
  cases h2 : (decide ((l.length : Int) ≤ 20) && l.all (fun c => decide ((c.length : Int) ≤ 20))) with
  | false =>
    refine sat_branch tabOk Tryd.func9 rfl trivial (fun h => by cases h) (fun _ => ?_)
    refine sat_branch tabOk Tryd.func9 rfl trivial (fun h => by cases h) (fun _ => ?_)
    refine sat_branch tabOk Tryd.func9 rfl trivial (fun h => by cases h) (fun _ => ?_)
    refine sat_ret tabOk Tryd.func9 rfl trivial ?_
    rw [hm _ _ _ _ _ h1.symm h2.symm rfl rfl rfl]
    simp
    rfl
  | true =>
  refine sat_branch tabOk Tryd.func9 rfl trivial (fun _ => ?_) (fun h => by cases h)
  refine sat_call tabOk Tryd.func9 rfl trivial (Right_call n l hll hcl) (.refl _) rfl ⟨_, rfl⟩ (by rintro r o rfl; rfl) ?_
  rintro _ o rfl
  cases h3 : rightB n l with
  | false =>
    refine sat_branch tabOk Tryd.func9 rfl trivial (fun h => by cases h) (fun _ => ?_)
    refine sat_branch tabOk Tryd.func9 rfl trivial (fun h => by cases h) (fun _ => ?_)
    refine sat_ret tabOk Tryd.func9 rfl trivial ?_
    rw [hm _ _ _ _ _ h1.symm h2.symm h3.symm rfl rfl]
    simp
    rfl
  | true =>
  refine sat_branch tabOk Tryd.func9 rfl trivial (fun _ => ?_) (fun h => by cases h)
  refine sat_call tabOk Tryd.func9 rfl trivial (pSmall_call p 20) (.refl _) rfl ⟨_, rfl⟩ (by rintro r o rfl; rfl) ?_
  rintro _ o rfl
  cases h4 : smallP p 20 with
  | false =>
    refine sat_branch tabOk Tryd.func9 rfl trivial (fun h => by cases h) (fun _ => ?_)
    refine sat_ret tabOk Tryd.func9 rfl trivial ?_
    rw [hm _ _ _ _ _ h1.symm h2.symm h3.symm h4.symm rfl]
    simp
    rfl
  | true =>
  refine sat_branch tabOk Tryd.func9 rfl trivial (fun _ => ?_) (fun h => by cases h)
  refine sat_call tabOk Tryd.func9 rfl trivial (pRight_call n p hpl) (.refl _) rfl ⟨_, rfl⟩ (by rintro r o rfl; rfl) ?_
  rintro _ o rfl
  refine sat_ret tabOk Tryd.func9 rfl trivial ?_
  rw [hm _ _ _ _ _ h1.symm h2.symm h3.symm h4.symm rfl]
  simp
  rfl
end Go.Proofs.YtffomfbbplpljaaDoor
namespace Go.Proofs.YtffomfbbplpljaaDoor
open Go Ab Go.RowKit
set_option maxRecDepth 100000
set_option linter.unusedVariables false
set_option linter.unusedSimpArgs false
set_option maxHeartbeats 4000000

/-- What may be asked about. -/
structure MayP (n : Int) (l : List (List Int)) (p : List Sp) : Prop where
  n0 : 0 ≤ n
  n1 : n ≤ 40
  ll : l.length ≤ 20
  pl : p.length ≤ 20
  lit : ∀ c ∈ l, ∀ x ∈ c, litOk n x
  cl : ∀ c ∈ l, c.length ≤ 20
  plit : ∀ s ∈ p, ∀ x ∈ s.2.1, litOk n x
  pcl : ∀ s ∈ p, s.2.1.length ≤ 20
theorem MayP.cls {n : Int} {l : List (List Int)} {p : List Sp} (h : MayP n l p) : Cls n l := ⟨h.lit, fun c hc => Nat.le_trans (h.cl c hc) (by decide)⟩
theorem MayP.ps {n : Int} {l : List (List Int)} {p : List Sp} (h : MayP n l p) : ∀ s ∈ p, (∀ x ∈ s.2.1, litOk n x) ∧ s.2.1.length ≤ 1000 := fun s hs => ⟨h.plit s hs, Nat.le_trans (h.pcl s hs) (by decide)⟩
theorem clOk_lit {n : Int} {c : List Int} (h : clOk n c = true) : ∀ x ∈ c, litOk n x := by
  unfold clOk at h
  rw [Bool.and_eq_true] at h
  exact fun x hx => of_decide_eq_true (List.all_eq_true.1 h.2 x hx)
theorem may_of {n : Int} {l : List (List Int)} {p : List Sp} (h : mayB n l p = true) : MayP n l p := by
  unfold mayB rightB smallP rightP at h
  simp only [Bool.and_eq_true, decide_eq_true_eq] at h
  obtain ⟨⟨⟨⟨h1, h2, h3⟩, ⟨h4, h5, h6⟩, h7⟩, h8, h9⟩, _, h10⟩ := h
  refine ⟨h4, h1, by omega, by omega, fun c hc => clOk_lit (List.all_eq_true.1 h7 c hc), fun c hc => ?_, fun s hs => clOk_lit (List.all_eq_true.1 h10 s hs), fun s hs => ?_⟩
  · have := List.all_eq_true.1 h3 c hc
    rw [decide_eq_true_eq] at this
    omega
  · have := List.all_eq_true.1 h9 s hs
    rw [decide_eq_true_eq] at this
    omega
end Go.Proofs.YtffomfbbplpljaaDoor
namespace Go.Proofs.YtffomfbbplpljaaDoor
open Go Ab
set_option maxRecDepth 100000
set_option linter.unusedVariables false
set_option linter.unusedSimpArgs false

@[reducible] def eB (b : Bool) : D := .v (.bool b)
@[reducible] def eBs (m : List Bool) : D := eL 1 eB false m
/-- A literal is true in a model (variables from 1 on). -/
def litAt (m : List Bool) (x : Int) (k : Nat) : Prop := (m.getD k false = true ∧ x = (k : Int) + 1) ∨ (m.getD k false = false ∧ x = -(k : Int) - 1)
def litT (m : List Bool) (x : Int) : Prop := ∃ k, k < m.length ∧ litAt m x k
def clT (c : List Int) (m : List Bool) : Prop := ∃ x ∈ c, litT m x
def boolR (p : Prop) (r : AV) (_ : List (Option AObj)) : Prop := ∃ b, r = vB b ∧ (b = true ↔ p)
theorem boolR_refs {p : Prop} : ∀ r o, boolR p r o → refsB 0 r = true := by rintro r o ⟨b, rfl, _⟩; rfl

theorem Clause_call (c : List Int) (m : List Bool) : ACall Tryd.prog 12 [.d (eIs c), .d (eBs m)] [] (boolR (clT c m)) := by
  refine acall_enter Tryd.func12 rfl rfl (Nat.le_of_ble_eq_true rfl) fun C hC hCl hDs hGk => ?_
  refine sat_len (t := 0) rfl fun hlc => ?_
  refine sat_len (t := 1) rfl fun hlm => ?_
  rw [List.length_map] at hlc hlm
  refine sat_stop tabOk Tryd.func12 rfl trivial ?_
  refine sat_while (α := Nat) (fun i => [(0, .d (eIs c)), (1, .d (eBs m)), (5, vI .i64 i)]) (fun _ => []) (fun i => i ≤ c.length ∧ ∀ x ∈ c.take i, ¬ litT m x) (fun i => c.length - i) 0 ⟨Nat.zero_le _, by simp⟩ ?_ ?_
  · exact fun h => sat_le h hC hCl ⟨⟨_, rfl, .refl _⟩, ⟨_, rfl, .refl _⟩, ⟨_, rfl, .refl _⟩, trivial⟩ trivial rfl rfl (Nat.zero_le _)
  rintro i ⟨hi, hd⟩ ih
  refine sat_branch tabOk Tryd.func12 rfl trivial (fun hb => ?_) (fun hb => ?_) <;> simp only [decide_eq_true_eq, decide_eq_false_iff_not, List.length_map] at hb
  · have hlt : i < c.length := by omega
    have hget : c.getD i 0 = c[i] := by simp [hlt]
    have htk : c.take (i + 1) = c.take i ++ [c[i]] := by rw [List.take_add_one]; simp [hlt]
    have hmem := List.getElem_mem hlt
    generalize hx : c[i] = x at *
    refine sat_stop tabOk Tryd.func12 rfl trivial ?_
    refine sat_while (α := Nat) (fun k => [(0, .d (eIs c)), (1, .d (eBs m)), (5, vI .i64 i), (6, vI .i64 k)]) (fun _ => []) (fun k => k ≤ m.length ∧ ∀ j, j < k → ¬ litAt m x j) (fun k => m.length - k) 0 ⟨Nat.zero_le _, by omega⟩ ?_ ?_
    · exact fun h => sat_le h hC hCl ⟨⟨_, rfl, .refl _⟩, ⟨_, rfl, .refl _⟩, ⟨_, rfl, .refl _⟩, ⟨_, rfl, .refl _⟩, trivial⟩ trivial rfl rfl (Nat.zero_le _)
    rintro k ⟨hk, hdk⟩ ihk
    refine sat_branch tabOk Tryd.func12 rfl trivial (fun hb => ?_) (fun hb => ?_) <;> simp only [decide_eq_true_eq, decide_eq_false_iff_not, List.length_map] at hb
    · have hltk : k < m.length := by omega
      have w1 : IntKind.i64.wrap ((k : Int) + 1) = (k : Int) + 1 := wrap_id (by omega) (by omega)
      have w2 : IntKind.i64.wrap (0 - (k : Int)) = -(k : Int) := by rw [wrap_id (by omega) (by omega), Int.zero_sub]
      have w3 : IntKind.i64.wrap (-(k : Int) - 1) = -(k : Int) - 1 := wrap_id (by omega) (by omega)
      have next : ¬ litAt m x k → ASat Tryd.prog 12 Tryd.f12.ntmps C _ _ _ _ := fun h => ihk (k + 1) ⟨by omega, fun j hj => by
        by_cases e : j = k
        · rw [e]; exact h
        · exact hdk j (by omega)⟩ (by omega)
      refine sat_branch tabOk Tryd.func12 rfl ?_ (fun h1 => ?_) (fun h1 => ?_)
      · exact (by simp only [andP, and_true, true_and, Int.toNat_natCast, List.length_map, List.length_append, List.length_cons, List.length_nil, List.length_replicate]; omega)
      · have h1 : m.getD k false = true := by simpa using h1
        refine sat_branch tabOk Tryd.func12 rfl ?_ (fun h2 => ?_) (fun h2 => ?_)
        · exact (by simp only [andP, and_true, true_and, Int.toNat_natCast, List.length_map, List.length_append, List.length_cons, List.length_nil, List.length_replicate]; omega)
        · have h2 : x = (k : Int) + 1 := by rw [← hget]; simpa [w1] using h2
          refine sat_branch tabOk Tryd.func12 rfl trivial (fun _ => ?_) (fun h => by cases h)
          exact sat_ret tabOk Tryd.func12 rfl trivial ⟨true, rfl, fun _ => ⟨x, hmem, k, hltk, .inl ⟨h1, h2⟩⟩, fun _ => rfl⟩
        have h2 : x ≠ (k : Int) + 1 := by rw [← hget]; simpa [w1] using h2
        refine sat_branch tabOk Tryd.func12 rfl ?_ (fun h3 => ?_) (fun h3 => ?_)
        · exact (by simp only [andP, and_true, true_and, Int.toNat_natCast, List.length_map, List.length_append, List.length_cons, List.length_nil, List.length_replicate]; omega)
        · have h3 : m.getD k false = false := by simpa using h3
          rw [h1] at h3; cases h3
        refine sat_branch tabOk Tryd.func12 rfl trivial (fun h => by cases h) (fun _ => ?_)
        refine sat_stop tabOk Tryd.func12 rfl trivial ?_
        refine sat_le (next ?_) hC hCl ⟨⟨_, rfl, .refl _⟩, ⟨_, rfl, .refl _⟩, ⟨_, rfl, .refl _⟩, ⟨_, rfl, .of (by rw [wrap_id (by omega) (by omega)]; rfl)⟩, trivial⟩ trivial rfl rfl (Nat.zero_le _)
        rintro (⟨_, e⟩ | ⟨e, _⟩)
        · exact h2 e
        · rw [h1] at e; cases e
      · have h1 : m.getD k false = false := by simpa using h1
        refine sat_branch tabOk Tryd.func12 rfl trivial (fun h => by cases h) (fun _ => ?_)
        refine sat_branch tabOk Tryd.func12 rfl ?_ (fun h3 => ?_) (fun h3 => ?_)
        · exact (by simp only [andP, and_true, true_and, Int.toNat_natCast, List.length_map, List.length_append, List.length_cons, List.length_nil, List.length_replicate]; omega)
        · refine sat_branch tabOk Tryd.func12 rfl ?_ (fun h2 => ?_) (fun h2 => ?_)
          · exact (by simp only [andP, and_true, true_and, Int.toNat_natCast, List.length_map, List.length_append, List.length_cons, List.length_nil, List.length_replicate]; omega)
          · have h2 : x = -(k : Int) - 1 := by simp only [Int.toNat_natCast, w2, w3, beq_iff_eq] at h2; rw [← hget]; exact h2
            exact sat_ret tabOk Tryd.func12 rfl trivial ⟨true, rfl, fun _ => ⟨x, hmem, k, hltk, .inr ⟨h1, h2⟩⟩, fun _ => rfl⟩
          have h2 : x ≠ -(k : Int) - 1 := by simp only [Int.toNat_natCast, w2, w3, beq_eq_false_iff_ne] at h2; rw [← hget]; exact h2
          refine sat_stop tabOk Tryd.func12 rfl trivial ?_
          refine sat_le (next ?_) hC hCl ⟨⟨_, rfl, .refl _⟩, ⟨_, rfl, .refl _⟩, ⟨_, rfl, .refl _⟩, ⟨_, rfl, .of (by rw [wrap_id (by omega) (by omega)]; rfl)⟩, trivial⟩ trivial rfl rfl (Nat.zero_le _)
          rintro (⟨e, _⟩ | ⟨_, e⟩)
          · rw [h1] at e; cases e
          · exact h2 e
        · have h3 : m.getD k false = true := by simpa using h3
          rw [h1] at h3; cases h3
    · obtain rfl : k = m.length := by omega
      refine sat_stop tabOk Tryd.func12 rfl trivial ?_
      refine sat_le (ih (i + 1) ⟨by omega, fun y hy => ?_⟩ (by omega)) hC hCl ⟨⟨_, rfl, .refl _⟩, ⟨_, rfl, .refl _⟩, ⟨_, rfl, .of (by rw [wrap_id (by omega) (by omega)]; rfl)⟩, trivial⟩ trivial rfl rfl (Nat.zero_le _)
      rw [htk] at hy
      rcases List.mem_append.1 hy with hy | hy
      · exact hd y hy
      · rw [List.mem_singleton.1 hy]
        rintro ⟨k, hk, h⟩
        exact hdk k hk h
  · obtain rfl : i = c.length := by omega
    rw [List.take_length] at hd
    exact sat_ret tabOk Tryd.func12 rfl trivial ⟨false, rfl, fun h => (by cases h), fun ⟨x, hx, h⟩ => absurd h (hd x hx)⟩

def holdsT (l : List (List Int)) (m : List Bool) : Prop := ∀ c ∈ l, clT c m
theorem Holds_call (n : Int) (l : List (List Int)) (m : List Bool) (hll : l.length ≤ maxLen) : ACall Tryd.prog 10 [.d (.ag [eI n, eIss l]), .d (eBs m)] [] (boolR (holdsT l m)) := by
  have hml : maxLen = 9223372036854775807 := rfl
  refine acall_enter Tryd.func10 rfl rfl (Nat.le_of_ble_eq_true rfl) fun C hC hCl hDs hGk => ?_
  refine sat_stop tabOk Tryd.func10 rfl trivial ?_
  refine sat_while (α := Nat) (fun i => [(1, .d (eBs m)), (2, .ptr 0 0), (5, vI .i64 i)]) (fun _ => [some (.cells 24 [.d (eI n), .d (eIss l)])]) (fun i => i ≤ l.length ∧ ∀ c ∈ l.take i, clT c m) (fun i => l.length - i) 0 ⟨Nat.zero_le _, by simp⟩ ?_ ?_
  · exact fun h => sat_le h hC hCl ⟨⟨_, rfl, .refl _⟩, ⟨_, rfl, .refl _⟩, ⟨_, rfl, .refl _⟩, trivial⟩ ⟨.refl _, trivial⟩ rfl rfl (Nat.zero_le _)
  rintro i ⟨hi, hd⟩ ih
  refine sat_branch tabOk Tryd.func10 rfl trivial (fun hb => ?_) (fun hb => ?_) <;> simp only [decide_eq_true_eq, decide_eq_false_iff_not, List.length_map] at hb
  · have hlt : i < l.length := by omega
    have hget : l.getD i [] = l[i] := by simp [hlt]
    have htk : l.take (i + 1) = l.take i ++ [l[i]] := by rw [List.take_add_one]; simp [hlt]
    have hmem := List.getElem_mem hlt
    generalize hx : l[i] = c at *
    refine sat_call tabOk Tryd.func10 rfl ?_ (Clause_call c m) ⟨.of (by show AV.d (eIs (l.getD i [])) = _; rw [hget]), .refl _, trivial⟩ rfl ⟨_, rfl⟩ boolR_refs ?_
    · exact (by simp only [andP, and_true, true_and, Int.toNat_natCast, List.length_map, List.length_append, List.length_cons, List.length_nil, List.length_replicate]; omega)
    rintro r o ⟨b, rfl, hb2⟩
    refine sat_branch tabOk Tryd.func10 rfl trivial (fun h1 => ?_) (fun h1 => ?_)
    · have h1 : b = false := by simpa using h1
      refine sat_ret tabOk Tryd.func10 rfl trivial ⟨false, rfl, fun h => (by cases h), fun h => ?_⟩
      have := hb2.2 (h c hmem)
      rw [h1] at this
      exact this
    have h1 : b = true := by simpa using h1
    refine sat_stop tabOk Tryd.func10 rfl trivial ?_
    refine sat_le (ih (i + 1) ⟨by omega, fun y hy => ?_⟩ (by omega)) hC hCl ⟨⟨_, rfl, .refl _⟩, ⟨_, rfl, .refl _⟩, ⟨_, rfl, .of (by rw [wrap_id (by omega) (by omega)]; rfl)⟩, trivial⟩ ⟨.refl _, trivial⟩ rfl rfl (Nat.zero_le _)
    rw [htk] at hy
    rcases List.mem_append.1 hy with hy | hy
    · exact hd y hy
    · rw [List.mem_singleton.1 hy]; exact hb2.1 h1
  · obtain rfl : i = l.length := by omega
    rw [List.take_length] at hd
    exact sat_ret tabOk Tryd.func10 rfl trivial ⟨true, rfl, fun _ => hd, fun _ => rfl⟩

/-! ### SOUND -/
theorem litT_neg {m : List Bool} {x : Int} (h : litT m x) : ¬ litT m (-x) := by
  obtain ⟨k, hk, h⟩ := h
  rintro ⟨j, hj, h2⟩
  rcases h with ⟨h, e⟩ | ⟨h, e⟩ <;> rcases h2 with ⟨h2, e2⟩ | ⟨h2, e2⟩
  · omega
  · obtain rfl : k = j := by omega
    rw [h] at h2; cases h2
  · obtain rfl : k = j := by omega
    rw [h] at h2; cases h2
  · omega
theorem litT_or {n : Int} {m : List Bool} {x : Int} (hx : litOk n x) (hm : (m.length : Int) = n) : litT m x ∨ litT m (-x) := by
  obtain ⟨h0, h1, h2⟩ := hx
  have hk : va x - 1 < m.length := by unfold va; omega
  have hv : ((va x - 1 : Nat) : Int) = max x (-x) - 1 := by unfold va; omega
  cases hb : m.getD (va x - 1) false with
  | true =>
    rcases Int.lt_or_lt_of_ne h0 with h | h
    · exact .inr ⟨_, hk, .inl ⟨hb, by omega⟩⟩
    · exact .inl ⟨_, hk, .inl ⟨hb, by omega⟩⟩
  | false =>
    rcases Int.lt_or_lt_of_ne h0 with h | h
    · exact .inl ⟨_, hk, .inr ⟨hb, by omega⟩⟩
    · exact .inr ⟨_, hk, .inr ⟨hb, by omega⟩⟩
theorem fo_sound {l : List (List Int)} {a : List Int} {m : List Bool} (hl : holdsT l m) (ha : ∀ x ∈ a, litT m x) {x : Int} (h : Fo l a x) : litT m x := by
  induction h with
  | mem hx => exact ha _ hx
  | unit hc hx _ ih =>
    rename_i c x hr
    obtain ⟨z, hz, ht⟩ := hl c hc
    by_cases e : z = x
    · rw [← e]; exact ht
    · exact absurd (ih z hz e) (litT_neg ht)
theorem cf_sound {l : List (List Int)} {a : List Int} {m : List Bool} (hl : holdsT l m) (ha : ∀ x ∈ a, litT m x) : ¬ Cf l a := by
  rintro (⟨x, h1, h2⟩ | ⟨c, hc, hall⟩)
  · exact litT_neg (fo_sound hl ha h1) (fo_sound hl ha h2)
  · obtain ⟨z, hz, ht⟩ := hl c hc
    exact litT_neg ht (fo_sound hl ha (hall z hz))
theorem ref_sound {n : Int} {l : List (List Int)} {c : List Int} {m : List Bool} (hl : holdsT l m) (hc : ∀ x ∈ c, litOk n x) (hm : (m.length : Int) = n) (h : Cf l (c.map fun x => -x)) : clT c m := by
  apply Classical.byContradiction
  intro hn
  refine cf_sound hl (fun x hx => ?_) h
  obtain ⟨y, hy, rfl⟩ := List.mem_map.1 hx
  exact (litT_or (hc y hy) hm).resolve_left fun ht => hn ⟨y, hy, ht⟩
end Go.Proofs.YtffomfbbplpljaaDoor
namespace Go.Proofs.YtffomfbbplpljaaDoor
open Go Ab Go.RowKit
set_option maxRecDepth 100000
set_option linter.unusedVariables false
set_option linter.unusedSimpArgs false

theorem takeR_sub {l l' : List (List Int)} {c : List Int} (h : takeR l c = some l') : ∀ d ∈ l', d ∈ l := by
  unfold takeR at h
  cases hf : l.findIdx? (eqS c) with
  | none => rw [hf] at h; cases h
  | some j =>
    rw [hf] at h
    simp only [Option.map_some, Option.some.injEq] at h
    subst h
    intro d hd
    rcases List.mem_append.1 hd with hd | hd
    · exact List.mem_of_mem_take hd
    · exact List.mem_of_mem_drop hd
/-- Where a proof ends, and how it may. -/
theorem chk_range : ∀ (p : List Sp) (l : List (List Int)) (i : Nat), i ≤ (chk l i p).1 ∧ (chk l i p).1 ≤ i + p.length ∧ ((chk l i p).2 = 0 ∨ (chk l i p).2 = 4 ∨ (chk l i p).2 = 6)
  | [], l, i => by simp [chk]
  | s :: r, l, i => by
    rw [chk]
    cases stepR l s with
    | none =>
      refine ⟨Nat.le_refl _, Nat.le_add_right _ _, ?_⟩
      simp only
      split
      · exact .inr (.inl rfl)
      · exact .inr (.inr rfl)
    | some l' =>
      simp only
      split
      · exact ⟨Nat.le_refl _, Nat.le_add_right _ _, .inl rfl⟩
      · obtain ⟨h1, h2, h3⟩ := chk_range r l' (i + 1)
        refine ⟨by omega, ?_, h3⟩
        simp only [List.length_cons]
        omega
theorem stepR_sound {n : Int} {l l' : List (List Int)} {s : Sp} {m : List Bool} (hl : holdsT l m) (hs : ∀ x ∈ s.2.1, litOk n x) (hm : (m.length : Int) = n) (h : stepR l s = some l') : holdsT l' m ∧ (s.1 = false → clT s.2.1 m) := by
  unfold stepR at h
  cases hd : s.1 with
  | true =>
    rw [hd] at h
    simp only [if_true] at h
    exact ⟨fun c hc => hl c (takeR_sub h c hc), fun h => by cases h⟩
  | false =>
    rw [hd] at h
    simp only [Bool.false_eq_true, if_false] at h
    split at h
    · rename_i hr
      cases h
      have hc := ref_sound hl hs hm (refB_iff.1 hr)
      refine ⟨fun c hcm => ?_, fun _ => hc⟩
      rcases List.mem_append.1 hcm with h1 | h1
      · exact hl c h1
      · rw [List.mem_singleton.1 h1]
        exact hc
    · cases h
/-- In a model of the clauses nothing that was added fails, and the empty clause is not added. -/
theorem chk_sound {n : Int} {m : List Bool} (hm : (m.length : Int) = n) : ∀ (p : List Sp) (l : List (List Int)) (i : Nat), holdsT l m → (∀ s ∈ p, ∀ x ∈ s.2.1, litOk n x) → (chk l i p).2 ≠ 0 ∧ ∀ k (hk : k < p.length), i + k < (chk l i p).1 → p[k].1 = false → clT p[k].2.1 m
  | [], l, i, _, _ => by simp [chk]
  | s :: r, l, i, hl, hp => by
    rw [chk]
    cases hst : stepR l s with
    | none =>
      simp only
      refine ⟨by split <;> decide, fun k _ hk => ?_⟩
      omega
    | some l' =>
      obtain ⟨q1, q2⟩ := stepR_sound hl (hp s List.mem_cons_self) hm hst
      simp only
      split
      · rename_i he
        have := q2 he.1
        rw [he.2] at this
        obtain ⟨x, hx, _⟩ := this
        cases hx
      · obtain ⟨h1, h2⟩ := chk_sound hm r l' (i + 1) q1 fun t ht => hp t (List.mem_cons_of_mem _ ht)
        refine ⟨h1, fun k hk hki => ?_⟩
        cases k with
        | zero => exact q2
        | succ k => exact h2 k (by simpa using hk) (by omega)
end Go.Proofs.YtffomfbbplpljaaDoor
namespace Go.Proofs.YtffomfbbplpljaaDoor
open Go Ab Go.RowKit
set_option maxRecDepth 100000
set_option linter.unusedVariables false
set_option linter.unusedSimpArgs false
set_option maxHeartbeats 4000000

theorem sound_call (n : Int) (l : List (List Int)) (p : List Sp) (m : List Bool) (hll : l.length ≤ maxLen) (hcl : ∀ c ∈ l, c.length ≤ maxLen) (hpl : ∀ s ∈ p, s.2.1.length ≤ maxLen) : ACall Tryd.prog 3 [.d (eCnf n l), .d (eSps p), .d (eBs m)] [] (fun r o => r = vB true) := by
  refine acall_enter Tryd.func3 rfl rfl (Nat.le_of_ble_eq_true rfl) fun C hC hCl hDs hGk => ?_
  refine sat_call tabOk Tryd.func3 rfl trivial shown_call (.refl _) rfl ⟨_, rfl⟩ (by rintro r o rfl; rfl) ?_
  rintro _ o rfl
  refine sat_call tabOk Tryd.func3 rfl trivial (may_call n l p hll hcl hpl) (.refl _) rfl ⟨_, rfl⟩ (by rintro r o rfl; rfl) ?_
  rintro _ o rfl
  cases hm : mayB n l p with
  | false =>
    refine sat_branch tabOk Tryd.func3 rfl trivial (fun _ => ?_) (fun h => by cases h)
    refine sat_branch tabOk Tryd.func3 rfl trivial (fun _ => ?_) (fun h => by cases h)
    exact sat_ret tabOk Tryd.func3 rfl trivial rfl
  | true =>
    have h := may_of hm
    refine sat_branch tabOk Tryd.func3 rfl trivial (fun h => by cases h) (fun _ => ?_)
    refine sat_branch tabOk Tryd.func3 rfl trivial (fun h1 => ?_) (fun h1 => ?_)
    · exact sat_ret tabOk Tryd.func3 rfl trivial rfl
    have h1 : (((((m.map eB).length : Nat) : Int) != n)) = false := h1
    have h1 : (m.length : Int) = n := by
      rw [bne_eq_false_iff_eq, List.length_map] at h1
      exact h1
    refine sat_call tabOk Tryd.func3 rfl trivial (Holds_call n l m hll) (.refl _) rfl ⟨_, rfl⟩ boolR_refs ?_
    rintro _ o ⟨hb, rfl, hbi⟩
    refine sat_call tabOk Tryd.func3 rfl trivial (Check_call (n := n) (l0 := l) (p := p) ⟨h.n0, Int.le_trans h.n1 (by decide)⟩ h.cls h.ps (by have := h.ll; have := h.pl; omega)) (.refl _) rfl ⟨_, rfl⟩ (by rintro r o rfl; rfl) ?_
    rintro _ o rfl
    obtain ⟨r1, r2, r3⟩ := chk_range p l 0
    have hs : hb = true → (chk l 0 p).2 ≠ 0 ∧ ∀ k (hk : k < p.length), 0 + k < (chk l 0 p).1 → p[k].1 = false → clT p[k].2.1 m := fun he => chk_sound h1 p l 0 (hbi.1 he) h.plit
    have hpl2 := h.pl
    generalize chk l 0 p = q at *
    obtain ⟨i, e⟩ := q
    simp only at r1 r2 r3 hs
    refine sat_branch tabOk Tryd.func3 rfl trivial (fun h2 => ?_) (fun h2 => ?_)
    · have h2 : decide ((i : Int) < 0) = true := h2
      rw [decide_eq_true_eq] at h2
      omega
    refine sat_branch tabOk Tryd.func3 rfl trivial (fun h3 => ?_) (fun h3 => ?_)
    · have h3 : decide ((i : Int) > (((p.map eSp).length : Nat) : Int)) = true := h3
      rw [decide_eq_true_eq, List.length_map] at h3
      omega
    apply letK (p := ASat Tryd.prog 3 Tryd.f3.ntmps C _ [(1, .d (eSps p)), (2, .d (eBs m)), (7, vB true), (8, vB hb), (9, vI .i64 (i : Int)), (10, vI .i64 e), (11, vI .i64 (0 : Int))] [] (fun r o => r = vB true))
    · intro key
      refine sat_branch tabOk Tryd.func3 rfl trivial (fun h4 => ?_) (fun h4 => ?_)
      · have h4 : (e == 0) = true := h4
        rw [beq_iff_eq] at h4
        have h5 : hb = false := by
          cases hb with
          | false => rfl
          | true => exact absurd h4 (hs rfl).1
        subst h5
        refine sat_branch tabOk Tryd.func3 rfl trivial (fun h => by cases h) (fun _ => ?_)
        refine sat_stop tabOk Tryd.func3 rfl trivial ?_
        exact sat_le key hC hCl ⟨⟨_, rfl, .refl _⟩, ⟨_, rfl, .refl _⟩, ⟨_, rfl, .refl _⟩, ⟨_, rfl, .refl _⟩, ⟨_, rfl, .refl _⟩, ⟨_, rfl, .refl _⟩, ⟨_, rfl, .refl _⟩, trivial⟩ trivial rfl rfl (Nat.zero_le _)
      · refine sat_branch tabOk Tryd.func3 rfl trivial (fun h => by cases h) (fun _ => ?_)
        refine sat_stop tabOk Tryd.func3 rfl trivial ?_
        exact sat_le key hC hCl ⟨⟨_, rfl, .refl _⟩, ⟨_, rfl, .refl _⟩, ⟨_, rfl, .refl _⟩, ⟨_, rfl, .refl _⟩, ⟨_, rfl, .refl _⟩, ⟨_, rfl, .refl _⟩, ⟨_, rfl, .refl _⟩, trivial⟩ trivial rfl rfl (Nat.zero_le _)
    refine sat_while (α := Nat) (fun k => [(1, .d (eSps p)), (2, .d (eBs m)), (7, vB true), (8, vB hb), (9, vI .i64 (i : Int)), (10, vI .i64 e), (11, vI .i64 (k : Int))]) (fun k => []) (fun k => k ≤ i) (fun k => i - k) 0 (Nat.zero_le _) ?_ ?_
    · exact fun h => sat_le h hC hCl ⟨⟨_, rfl, .refl _⟩, ⟨_, rfl, .refl _⟩, ⟨_, rfl, .refl _⟩, ⟨_, rfl, .refl _⟩, ⟨_, rfl, .refl _⟩, ⟨_, rfl, .refl _⟩, ⟨_, rfl, .refl _⟩, trivial⟩ trivial rfl rfl (Nat.zero_le _)
    rintro k hk ih
    apply letK (p := ASat Tryd.prog 3 Tryd.f3.ntmps C _ [(54, .lit false), (7, vB true), (10, vI .i64 e)] [] (fun r o => r = vB true))
    · intro key2
      refine sat_branch tabOk Tryd.func3 rfl trivial (fun h4 => ?_) (fun h4 => ?_)
      · have h4 : decide ((k : Int) < (i : Int)) = true := h4
        rw [decide_eq_true_eq] at h4
        cases hb with
        | false =>
          refine sat_branch tabOk Tryd.func3 rfl trivial (fun h => by cases h) (fun _ => ?_)
          exact sat_le key2 hC hCl ⟨⟨_, rfl, .refl _⟩, ⟨_, rfl, .refl _⟩, ⟨_, rfl, .refl _⟩, trivial⟩ trivial rfl rfl (Nat.zero_le _)
        | true =>
          obtain ⟨hs1, hs2⟩ := hs rfl
          have hkp : k < p.length := by omega
          have eg : p.getD k (false, [], ()) = p[k] := by simp [hkp]
          refine sat_branch tabOk Tryd.func3 rfl trivial (fun _ => ?_) (fun h => by cases h)
          refine sat_branch tabOk Tryd.func3 rfl (by simp only [andP, and_true, true_and, Int.toNat_natCast, List.length_map, List.length_append, List.length_cons, List.length_nil, List.length_replicate]; omega) (fun h5 => ?_) (fun h5 => ?_)
          · have h5 : (!(p.getD k (false, [], ())).1) = true := h5
            refine sat_call tabOk Tryd.func3 rfl (by simp only [andP, and_true, true_and, Int.toNat_natCast, List.length_map, List.length_append, List.length_cons, List.length_nil, List.length_replicate]; omega) (Clause_call (p.getD k (false, [], ())).2.1 m) (.refl _) rfl ⟨_, rfl⟩ boolR_refs ?_
            rintro _ o ⟨cb, rfl, hcb⟩
            have : cb = true := hcb.2 (by rw [eg]; exact hs2 k hkp (by omega) (by rw [← eg]; simpa using h5))
            subst this
            refine sat_branch tabOk Tryd.func3 rfl trivial (fun h => by cases h) (fun _ => ?_)
            refine sat_stop tabOk Tryd.func3 rfl trivial ?_
            exact sat_le (ih (k + 1) (by omega) (by omega)) hC hCl ⟨⟨_, rfl, .refl _⟩, ⟨_, rfl, .refl _⟩, ⟨_, rfl, .refl _⟩, ⟨_, rfl, .refl _⟩, ⟨_, rfl, .refl _⟩, ⟨_, rfl, .refl _⟩, ⟨_, rfl, .of (by rw [wrap_id (by omega) (by omega)]; rfl)⟩, trivial⟩ trivial rfl rfl (Nat.zero_le _)
          · refine sat_branch tabOk Tryd.func3 rfl trivial (fun h => by cases h) (fun _ => ?_)
            refine sat_stop tabOk Tryd.func3 rfl trivial ?_
            exact sat_le (ih (k + 1) (by omega) (by omega)) hC hCl ⟨⟨_, rfl, .refl _⟩, ⟨_, rfl, .refl _⟩, ⟨_, rfl, .refl _⟩, ⟨_, rfl, .refl _⟩, ⟨_, rfl, .refl _⟩, ⟨_, rfl, .refl _⟩, ⟨_, rfl, .of (by rw [wrap_id (by omega) (by omega)]; rfl)⟩, trivial⟩ trivial rfl rfl (Nat.zero_le _)
      · refine sat_branch tabOk Tryd.func3 rfl trivial (fun h => by cases h) (fun _ => ?_)
        exact sat_le key2 hC hCl ⟨⟨_, rfl, .refl _⟩, ⟨_, rfl, .refl _⟩, ⟨_, rfl, .refl _⟩, trivial⟩ trivial rfl rfl (Nat.zero_le _)
    rcases r3 with rfl | rfl | rfl
    · refine sat_branch tabOk Tryd.func3 rfl trivial (fun _ => ?_) (fun h => by cases h)
      refine sat_branch tabOk Tryd.func3 rfl trivial (fun _ => ?_) (fun h => by cases h)
      refine sat_branch tabOk Tryd.func3 rfl trivial (fun _ => ?_) (fun h => by cases h)
      exact sat_ret tabOk Tryd.func3 rfl trivial rfl
    · refine sat_branch tabOk Tryd.func3 rfl trivial (fun _ => ?_) (fun h => by cases h)
      refine sat_branch tabOk Tryd.func3 rfl trivial (fun h => by cases h) (fun _ => ?_)
      refine sat_branch tabOk Tryd.func3 rfl trivial (fun h => by cases h) (fun _ => ?_)
      exact sat_ret tabOk Tryd.func3 rfl trivial rfl
    · refine sat_branch tabOk Tryd.func3 rfl trivial (fun _ => ?_) (fun h => by cases h)
      refine sat_branch tabOk Tryd.func3 rfl trivial (fun h => by cases h) (fun _ => ?_)
      refine sat_branch tabOk Tryd.func3 rfl trivial (fun _ => ?_) (fun h => by cases h)
      exact sat_ret tabOk Tryd.func3 rfl trivial rfl
end Go.Proofs.YtffomfbbplpljaaDoor
