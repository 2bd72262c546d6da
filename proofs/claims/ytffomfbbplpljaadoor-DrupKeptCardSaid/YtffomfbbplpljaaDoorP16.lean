/- A part of the proof: Ab74, K59, K60, K70, K25, K72, K78, K84. -/
import Derived.Test.YtffomfbbplpljaaDoorP15
import Derived.Lib.ConvBytes
import Derived.Lib.SlBytesConst
set_option linter.unusedVariables false
set_option linter.unusedSimpArgs false
set_option linter.unusedSimpArgs false
set_option linter.unusedVariables false
set_option linter.unusedSectionVars false
namespace Ab
open Go
variable [Draws]

theorem lit_run {P : Program} {T : Tab} (hT : TabOk P T) {w : World} {ok : Nat → Prop} {π : List Value} {t e : TypeId} {r re : TRow} {len : Nat} {ps : List (Nat × AV)} {vs : List (Nat × Value)} {xs : List D} (hr : tlook T t = some r) (hk : r.kd = .slice e) (hre : tlook T e = some re)
    (hp : RelPs w ok π ps vs) (hxs : litParts re.size 0 ps = some xs) (hlen : xs.length = len) (hl0 : len ≠ 0) (hble : len * re.size ≤ 16777216) (hz0 : re.size ≠ 0) :
    ∃ us, RelE w ok re.size xs us ∧ (Instr.buildSlice t len vs.toArray).run P w = .ok (.slice (some ⟨w.heap.size, 0, none⟩) len len) (w.alloc (.cells us.toArray e)) := by
  have ht := slice_elem hT hr hk
  obtain ⟨z, hzr, hzc, hzf, _, _⟩ := (tab_row hT hre).zero
  have hzl : z.cells.size = re.size := by
    have := (tab_row hT hre).zl
    rw [← hzc] at this
    simpa using this
  obtain ⟨us, h1, h2⟩ := lit_rel hxs hp [] ((List.range (len * re.size)).map fun i => z.cells[i % z.cells.size]!) (by simp) (by simp [hlen])
  simp only [List.nil_append] at h2
  refine ⟨us, h1, ?_⟩
  have hsz := (tab_row hT hre).sizeOf w
  have h2' : Instr.fill (fun i => some (i * re.size, re.size)) (Array.map (fun i => z.cells[i % z.cells.size]!) (Array.range (len * re.size))) vs = some us.toArray := by
    rw [← h2]
    congr 1
    apply Array.ext'
    simp
  have hl0' : len * re.size ≠ 0 := fun h => (Nat.mul_eq_zero.1 h).elim hl0 hz0
  simp [Instr.buildSlice, run_underlying ht, hsz, hl0', show ¬ 16777216 < len * re.size by omega, hzr, h2', run_newRow]

section
variable {P : Program} [Globals P] {T : Tab} {f : FuncId} {n : Nat} {C : Cx} {R : AV → List (Option AObj) → Prop} {env : Env} {objs : List (Option AObj)} {ops : Array Oper}

/-- A constant string's bytes: a literal row, turned to its own type. -/
theorem sat_constB {i j : Nat} {r : List Nat} {k : List Item} {o1 o2 : Oper} {e1 e2 : Env} {t e : TypeId} {rt re : TRow} {len : Nat} {ps : List (Nat × Operand)} {az : List (Nat × AV)} {xs : List D} {d1 : Tmp} (hT : TabOk P T)
    (ho1 : ops[i]? = some o1) (hw1 : wantE ops env o1 = .yes) (hop1 : o1.op = .buildSlice t len ⟨ps⟩) (hd1 : o1.dst = some d1) (hp : parts env ps = some az) (hr : tlook T t = some rt) (hk : rt.kd = .slice e) (hre : tlook T e = some re) (h8 : re.kd = .int .u8) (hsz : re.size = 1)
    (hxs : litParts re.size 0 az = some xs) (hlen : xs.length = len) (hl0 : len ≠ 0) (hble : len ≤ 16777216) (hput1 : putE n (some d1) .dead env = some e1)
    (ho2 : ops[j]? = some o2) (hw2 : wantE ops e1 o2 = .yes) (hop2 : o2.op = .convert t t (.tmp d1)) (hput2 : putE n o2.dst (.d (.sl 1 xs (litRd xs))) e1 = some e2)
    (h : ASat P f n C (.inRegion ops r :: k) e2 objs R) : ASat P f n C (.inRegion ops (i :: j :: r) :: k) env objs R := by
  intro π w tmps hn hm hh he
  have hps := parts_rel (ds := []) he hp
  obtain ⟨us, hE, hrun⟩ := lit_run hT hr hk hre hps hxs hlen hl0 (by rw [hsz, Nat.mul_one]; exact hble) (by rw [hsz]; decide)
  have ht := slice_elem hT hr hk
  have heU := int_type hT hre h8
  -- the row
  have hr1 : (execOp (Act.eval ⟨tmps, []⟩) o1).run P w = .ok (.value (.slice (some ⟨w.heap.size, 0, none⟩) len len)) (w.alloc (.cells us.toArray e)) := by
    unfold execOp
    rw [hop1]
    have := hrun
    simp only [Sem.run_bind, Sem.run_pure]
    have e3 : (Array.map (fun x => (x.1, Act.eval ⟨tmps, []⟩ x.2)) ⟨ps⟩ : Array (Nat × Value)) = (ps.map fun x => (x.1, Act.eval ⟨tmps, []⟩ x.2)).toArray := by simp
    first
      | (rw [e3]; rw [this]; rfl)
      | (simp only [e3, this]; rfl)
      | (simpa using this)
  refine .opVal ho1 ((wanted_of he).1 hw1) hr1 ?_
  rw [hd1]
  -- behind it
  have hlt : d1 < n := by
    simp only [putE] at hput1
    cases hb : Nat.blt d1 n with
    | false => rw [hb] at hput1; cases hput1
    | true => simpa [Nat.blt_eq] using hb
  have hul := hE.length
  rw [hsz, Nat.mul_one] at hul
  have hext1 : ∀ b, b < w.heap.size → (w.alloc (.cells us.toArray e)).heap[b]? = w.heap[b]? := fun b hb => heap_push_old _ hb
  have htr1 := tr_plain (w' := w.alloc (.cells us.toArray e)) hm rfl rfl ⟨rfl, dr_mono (Nat.le_refl _)⟩ (by rw [alloc_heap]; simp) hext1
  obtain ⟨p1, p2⟩ := put_rel (dst := some d1) (a := .dead) (v := .slice (some ⟨w.heap.size, 0, none⟩) len len) (env_tr he htr1) hn hput1 .dead
  have hget : (putT (some d1) (.slice (some ⟨w.heap.size, 0, none⟩) len len) tmps).getD d1 undef = .slice (some ⟨w.heap.size, 0, none⟩) len len := by
    simp [putT, Array.getD_eq_getD_getElem?, Array.getElem?_setIfInBounds, hn, hlt]
  have hr2 : (execOp (Act.eval ⟨putT (some d1) (.slice (some ⟨w.heap.size, 0, none⟩) len len) tmps, []⟩) o2).run P (w.alloc (.cells us.toArray e)) = .ok (.value (.slice (some ⟨w.heap.size, 0, none⟩) len len)) (w.alloc (.cells us.toArray e (us.toArray.size, us.toArray.size + 1))) := by
    unfold execOp
    rw [hop2]
    have e4 : Act.eval ⟨putT (some d1) (.slice (some ⟨w.heap.size, 0, none⟩) len len) tmps, []⟩ (.tmp d1) = .slice (some ⟨w.heap.size, 0, none⟩) len len := hget
    have := Go.Lib.run_convert_bytes_const (P := P) w t e us.toArray len len ht heU
    simp only [Sem.run_bind, Sem.run_pure, e4, this]
    rfl
  refine .opVal ho2 ((wanted_of p1).1 hw2) hr2 ?_
  have hext2 : ∀ b, b < w.heap.size → (w.alloc (.cells us.toArray e (us.toArray.size, us.toArray.size + 1))).heap[b]? = w.heap[b]? := fun b hb => heap_push_old _ hb
  have htr2 := tr_plain (w' := w.alloc (.cells us.toArray e (us.toArray.size, us.toArray.size + 1))) hm rfl rfl ⟨rfl, dr_mono (Nat.le_refl _)⟩ (by rw [alloc_heap]; simp) hext2
  have he2 : EnvRel (w.alloc (.cells us.toArray e (us.toArray.size, us.toArray.size + 1))) (okOf C.X π objs) π e1 (putT (some d1) (.slice (some ⟨w.heap.size, 0, none⟩) len len) tmps) :=
    (put_rel (dst := some d1) (a := .dead) (v := .slice (some ⟨w.heap.size, 0, none⟩) len len) (env_tr he htr2) hn hput1 .dead).1
  have hdata : RelV (w.alloc (.cells us.toArray e (us.toArray.size, us.toArray.size + 1))) (okOf C.X π objs) π (.d (.sl 1 xs (litRd xs))) (.slice (some ⟨w.heap.size, 0, none⟩) len len) := by
    have hk2 : Keeps w (okOf C.X π objs) (w.alloc (.cells us.toArray e (us.toArray.size, us.toArray.size + 1))) (okOf C.X π objs) := fun b o u a1 a2 => ⟨a1, cell_push _ a2⟩
    subst hlen
    rw [hsz] at hE
    refine .d (.sl (us := us) (hE.mono hk2) (fun q hq => ⟨new_okb hm, ?_⟩) (Nat.le_refl _) ?_ (litRd_ok xs))
    · rw [Nat.zero_add]
      exact cell_of_heap (heap_push_new _)
    · have hml : maxLen = 9223372036854775807 := rfl
      omega
  obtain ⟨q1, q2⟩ := put_rel he2 p2 hput2 hdata
  exact h π _ _ q2 htr2.mem (hist_tr hh htr2) q1

end
end Ab
namespace Go.Proofs.YtffomfbbplpljaaDoor
open Go Ab Go.RowKit
set_option maxRecDepth 100000
set_option linter.unusedVariables false
set_option linter.unusedSimpArgs false
set_option maxHeartbeats 4000000

/-! The document's example. -/
@[reducible] def xaL : List (List Int) := [[1, 2], [1, -2], [-1, 2], [-1, -2]]
@[reducible] def xaP : List Sp := [(false, [1], ()), (false, [], ())]
@[reducible] def xaT : List UInt8 := [49, 32, 48, 10, 48, 10]
theorem xa_parse : paR xaT 2 = .inr (xaP, 6) := by kernel_rfl
theorem xa_print : proofT xaP = xaT := by kernel_rfl
theorem fo2 {l : List (List Int)} {a : List Int} {x y : Int} (hc : [x, y] ∈ l) (h : Fo l a (-x)) : Fo l a y := by
  by_cases hxy : x = y
  · subst hxy
    refine .unit hc (by simp) fun z hz hne => ?_
    have : z = x := by simpa using hz
    exact absurd this hne
  refine .unit hc (by simp) fun z hz hne => ?_
  rcases List.mem_cons.1 hz with rfl | hz
  · exact h
  · exact absurd (List.mem_singleton.1 hz) hne
theorem cf2 {l : List (List Int)} {a : List Int} {x y : Int} (hc : [x, y] ∈ l) (h : Fo l a (-x)) (k : Fo l a (-y)) : Cf l a := .inr ⟨_, hc, fun z hz => by
  rcases List.mem_cons.1 hz with rfl | hz
  · exact h
  · rw [List.mem_singleton.1 hz]
    exact k⟩
theorem fnn {l : List (List Int)} {a : List Int} {x : Int} (h : Fo l a x) : Fo l a (-(-x)) := by rwa [Int.neg_neg]
theorem xa_ref1 : refB xaL [1] = true := by
  have f1 : Fo xaL ([1].map fun x : Int => -x) (-1) := .mem (by decide)
  have f2 : Fo xaL ([1].map fun x : Int => -x) 2 := fo2 (x := 1) (by decide) f1
  exact refB_iff.2 (cf2 (x := 1) (y := -2) (by decide) f1 (fnn f2))
theorem xa_ref2 : refB (xaL ++ [[1]]) [] = true := by
  have f1 : Fo (xaL ++ [[1]]) (([] : List Int).map fun x : Int => -x) 1 := .unit (c := [1]) (by decide) (by decide) fun y hy hne => absurd (List.mem_singleton.1 hy) hne
  have f2 : Fo (xaL ++ [[1]]) (([] : List Int).map fun x : Int => -x) 2 := fo2 (x := -1) (by decide) (fnn f1)
  exact refB_iff.2 (cf2 (x := -1) (y := -2) (by decide) (fnn f1) (fnn f2))
theorem xa_chk : chk xaL 0 xaP = (1, 0) := by
  rw [chk]
  have h1 : stepR xaL (false, [1], ()) = some (xaL ++ [[1]]) := by simp only [stepR, Bool.false_eq_true, if_false, xa_ref1, if_true]
  rw [h1]
  simp only [List.cons_ne_nil, and_false, if_false]
  rw [chk]
  have h2 : stepR (xaL ++ [[1]]) (false, [], ()) = some (xaL ++ [[1]] ++ [[]]) := by simp only [stepR, Bool.false_eq_true, if_false, xa_ref2, if_true]
  rw [h2]
  simp
theorem xa_cls : Cls 2 xaL := ⟨by decide, by decide⟩
theorem str_eqB (a b : List UInt8) : ((⟨a.toArray⟩ : ByteArray).toList == (⟨b.toArray⟩ : ByteArray).toList) = decide (a = b) := strBy a b
theorem DLe.ofC {s : Nat} {xs ys : List D} {rd rd' : Nat → D} (h : CLe (.sl s xs rd) (.sl s ys rd')) : DLe (.sl s xs rd) (.sl s ys rd') := by
  intro w ok v hv
  have hf : flat v = true := by cases hv <;> rfl
  have h1 : RelL w ok [D.sl s xs rd] [v] := .cons hv hf .nil
  have h2 : RelL w ok [D.sl s ys rd'] [v] := h w ok [v] h1
  cases h2 with | cons h _ _ => exact h
theorem xa_le : VLe (.d (.ag [.v (.int .i64 2), .sl 1 (xaL.map fun c => .sl 1 (c.map eI) (litRd (c.map eI))) (litRd (xaL.map fun c => .sl 1 (c.map eI) (litRd (c.map eI))))])) (.d (eCnf 2 xaL)) :=
  VLe.dag ⟨.refl _, DLe.ofC (lit_rows eI 0 xaL 1), trivial⟩
theorem shown_call : ACall Tryd.prog 8 [] [] (fun r o => r = vB true) := by
  refine acall_enter Tryd.func8 rfl rfl (Nat.le_of_ble_eq_true rfl) fun C hC hCl hDs hGk => ?_
  refine sat_steps 17 tabOk Tryd.func8 rfl trivial ?_
  refine sat_constB tabOk rfl rfl rfl rfl rfl rfl rfl rfl rfl rfl rfl rfl (by decide) (by decide) rfl rfl rfl rfl rfl ?_
  refine sat_call tabOk Tryd.func8 rfl trivial (parse_call xaT 2 (by decide)) ⟨.eL rfl, .refl _, trivial⟩ rfl ⟨_, rfl⟩ ?_ ?_
  · rintro r o rfl
    rw [xa_parse]
    rfl
  rintro _ o rfl
  rw [xa_parse]
  refine sat_call tabOk Tryd.func8 rfl trivial (Check_call (n := 2) (l0 := xaL) (p := xaP) (by decide) xa_cls (by decide) (by decide)) ⟨?_, .refl _, trivial⟩ rfl ⟨_, rfl⟩ (by rintro r o rfl; rfl) ?_
  · exact xa_le
  rintro _ o rfl
  rw [xa_chk]
  refine sat_call tabOk Tryd.func8 rfl trivial (Check_call (n := 2) (l0 := xaL) (p := []) (by decide) xa_cls (by decide) (by decide)) ⟨?_, .nil, trivial⟩ rfl ⟨_, rfl⟩ (by rintro r o rfl; rfl) ?_
  · exact xa_le
  rintro _ o rfl
  refine sat_branch tabOk Tryd.func8 rfl trivial (fun _ => ?_) (fun h => by cases h)
  refine sat_branch tabOk Tryd.func8 rfl trivial (fun _ => ?_) (fun h => by cases h)
  refine sat_branch tabOk Tryd.func8 rfl trivial (fun _ => ?_) (fun h => by cases h)
  refine sat_branch tabOk Tryd.func8 rfl trivial (fun _ => ?_) (fun h => by cases h)
  refine sat_branch tabOk Tryd.func8 rfl trivial (fun _ => ?_) (fun h => by cases h)
  refine sat_branch tabOk Tryd.func8 rfl trivial (fun _ => ?_) (fun h => by cases h)
  refine sat_branch tabOk Tryd.func8 rfl trivial (fun _ => ?_) (fun h => by cases h)
  refine sat_call tabOk Tryd.func8 rfl trivial (dRight_call 2 xaP (by decide) (by decide)) (.refl _) rfl ⟨_, rfl⟩ (by rintro r o rfl; rfl) ?_
  rintro _ o rfl
  refine sat_branch tabOk Tryd.func8 rfl trivial (fun _ => ?_) (fun h => by cases h)
  refine sat_call tabOk Tryd.func8 rfl trivial (dSame_call xaP xaP) (.refl _) rfl ⟨_, rfl⟩ (by rintro r o rfl; rfl) ?_
  rintro _ o rfl
  rw [decide_eq_true (rfl : xaP = xaP)]
  refine sat_branch tabOk Tryd.func8 rfl trivial (fun _ => ?_) (fun h => by cases h)
  refine sat_call tabOk Tryd.func8 rfl trivial (dPrint_call xaP (by decide) (by decide)) (.refl _) rfl ⟨_, rfl⟩ (by rintro r o rfl; rfl) ?_
  rintro _ o rfl
  refine sat_ret tabOk Tryd.func8 rfl trivial ?_
  show vB ((⟨(proofT xaP).toArray⟩ : ByteArray).toList == (⟨xaT.toArray⟩ : ByteArray).toList) = _
  rw [xa_print, str_eqB, decide_eq_true rfl]
end Go.Proofs.YtffomfbbplpljaaDoor
namespace Go.Proofs.YtffomfbbplpljaaDoor
open Go Ab Go.RowKit
set_option maxRecDepth 100000
set_option linter.unusedVariables false
set_option linter.unusedSimpArgs false
set_option maxHeartbeats 4000000

def smallP (p : List Sp) (m : Int) : Bool := decide ((p.length : Int) ≤ m) && p.all (fun s => decide ((s.2.1.length : Int) ≤ m))
theorem pSmall_call (p : List Sp) (m : Int) : ACall Tryd.prog 18 [.d (eSps p), vI .i64 m] [] (fun r o => r = vB (smallP p m)) := by
  refine acall_enter Tryd.func18 rfl rfl (Nat.le_of_ble_eq_true rfl) fun C hC hCl hDs hGk => ?_
  refine sat_len (t := 0) rfl fun hlen => ?_
  rw [List.length_map] at hlen
  refine sat_branch tabOk Tryd.func18 rfl trivial (fun h => ?_) (fun h => ?_)
  · refine sat_ret tabOk Tryd.func18 rfl trivial ?_
    show vB false = vB _
    have : ¬ (p.length : Int) ≤ m := by simpa using h
    simp [this, smallP]
  have hm : (p.length : Int) ≤ m := by simpa using h
  refine sat_stop tabOk Tryd.func18 rfl trivial ?_
  refine sat_while (α := Nat) (fun i => [(0, .d (eSps p)), (1, vI .i64 m), (5, vI .i64 (i : Int))]) (fun _ => []) (fun i => i ≤ p.length ∧ smallP p m = (p.drop i).all (fun s => decide ((s.2.1.length : Int) ≤ m))) (fun i => p.length - i) 0 ⟨Nat.zero_le _, by simp [smallP, hm]⟩ ?_ ?_
  · exact fun h => sat_le h hC hCl ⟨⟨_, rfl, .refl _⟩, ⟨_, rfl, .refl _⟩, ⟨_, rfl, .refl _⟩, trivial⟩ trivial rfl rfl (Nat.zero_le _)
  rintro i ⟨hi, hc⟩ ih
  refine sat_branch tabOk Tryd.func18 rfl trivial (fun hb => ?_) (fun hb => ?_)
  · have hb : decide ((i : Int) < (((p.map eSp).length : Nat) : Int)) = true := hb
    rw [decide_eq_true_eq, List.length_map] at hb
    have hlt : i < p.length := by omega
    have hget : p.getD i (false, [], ()) = p[i] := by simp [hlt]
    rw [List.drop_eq_getElem_cons hlt, List.all_cons] at hc
    rw [← hget] at hc
    refine sat_branch tabOk Tryd.func18 rfl (by simp only [andP, and_true, true_and, Int.toNat_natCast, List.length_map, List.length_append, List.length_cons, List.length_nil, List.length_replicate]; omega) (fun hb2 => ?_) (fun hb2 => ?_)
    · have hb2 : ¬ (((p.getD i (false, [], ())).2.1.length : Nat) : Int) ≤ m := by
        have hb2 : decide (((((p.getD i (false, [], ())).2.1.map eI).length : Nat) : Int) > m) = true := hb2
        rw [decide_eq_true_eq, List.length_map] at hb2
        omega
      refine sat_ret tabOk Tryd.func18 rfl trivial ?_
      rw [hc, decide_eq_false hb2]
      rfl
    · have hb2 : (((p.getD i (false, [], ())).2.1.length : Nat) : Int) ≤ m := by
        have hb2 : decide (((((p.getD i (false, [], ())).2.1.map eI).length : Nat) : Int) > m) = false := hb2
        rw [decide_eq_false_iff_not, List.length_map] at hb2
        omega
      refine sat_stop tabOk Tryd.func18 rfl trivial ?_
      refine sat_le (ih (i + 1) ⟨by omega, ?_⟩ (by omega)) hC hCl ⟨⟨_, rfl, .refl _⟩, ⟨_, rfl, .refl _⟩, ⟨_, rfl, .of (by rw [wrap_id (by omega) (by omega)]; rfl)⟩, trivial⟩ trivial rfl rfl (Nat.zero_le _)
      rw [hc, decide_eq_true hb2, Bool.true_and]
  · have hb : decide ((i : Int) < (((p.map eSp).length : Nat) : Int)) = false := hb
    rw [decide_eq_false_iff_not, List.length_map] at hb
    obtain rfl : i = p.length := by omega
    rw [List.drop_length] at hc
    refine sat_ret tabOk Tryd.func18 rfl trivial ?_
    rw [hc]
    rfl
def rightP (n : Int) (p : List Sp) : Bool := decide (0 ≤ n ∧ n ≤ 100000 ∧ p.length ≤ 20000) && p.all (fun s => clOk n s.2.1)
theorem rightB_one {n : Int} (hn : 0 ≤ n ∧ n ≤ 100000) (c : List Int) : rightB n [c] = clOk n c := by simp [rightB, hn.1, hn.2]
theorem cnf1_le (n : Int) (c : List Int) : VLe (.d (.ag [eI n, .sl 1 [eIs c] (litRd [eIs c])])) (.d (eCnf n [c])) := VLe.dag ⟨.refl _, DLe.eL rfl, trivial⟩
theorem pRight_call (n : Int) (p : List Sp) (hpl : ∀ s ∈ p, s.2.1.length ≤ maxLen) : ACall Tryd.prog 16 [vI .i64 n, .d (eSps p)] [] (fun r o => r = vB (rightP n p)) := by
  refine acall_enter Tryd.func16 rfl rfl (Nat.le_of_ble_eq_true rfl) fun C hC hCl hDs hGk => ?_
  refine sat_len (t := 1) rfl fun hlen => ?_
  rw [List.length_map] at hlen
  refine sat_branch tabOk Tryd.func16 rfl trivial (fun h1 => ?_) (fun h1 => ?_)
  · have h1 : n < 0 := by simpa using h1
    refine sat_branch tabOk Tryd.func16 rfl trivial (fun _ => ?_) (fun h => by cases h)
    refine sat_branch tabOk Tryd.func16 rfl trivial (fun _ => ?_) (fun h => by cases h)
    refine sat_ret tabOk Tryd.func16 rfl trivial ?_
    rw [rightP, decide_eq_false (by omega)]
    rfl
  have h1 : 0 ≤ n := by simpa using h1
  refine sat_branch tabOk Tryd.func16 rfl trivial (fun h2 => ?_) (fun h2 => ?_)
  · have h2 : 100000 < n := by simpa using h2
    refine sat_branch tabOk Tryd.func16 rfl trivial (fun _ => ?_) (fun h => by cases h)
    refine sat_ret tabOk Tryd.func16 rfl trivial ?_
    rw [rightP, decide_eq_false (by omega)]
    rfl
  have h2 : n ≤ 100000 := by simpa using h2
  refine sat_branch tabOk Tryd.func16 rfl trivial (fun h3 => ?_) (fun h3 => ?_)
  · have h3 : decide ((((p.map eSp).length : Nat) : Int) > 20000) = true := h3
    rw [decide_eq_true_eq, List.length_map] at h3
    refine sat_ret tabOk Tryd.func16 rfl trivial ?_
    rw [rightP, decide_eq_false (by omega)]
    rfl
  have h3 : p.length ≤ 20000 := by
    have h3 : decide ((((p.map eSp).length : Nat) : Int) > 20000) = false := h3
    rw [decide_eq_false_iff_not, List.length_map] at h3
    omega
  have hR : rightP n p = p.all (fun s => clOk n s.2.1) := by rw [rightP, decide_eq_true ⟨h1, h2, h3⟩, Bool.true_and]
  refine sat_stop tabOk Tryd.func16 rfl trivial ?_
  refine sat_while (α := Nat) (fun i => [(0, vI .i64 n), (1, .d (eSps p)), (5, vI .i64 (i : Int))]) (fun _ => []) (fun i => i ≤ p.length ∧ rightP n p = (p.drop i).all (fun s => clOk n s.2.1)) (fun i => p.length - i) 0 ⟨Nat.zero_le _, hR⟩ ?_ ?_
  · exact fun h => sat_le h hC hCl ⟨⟨_, rfl, .refl _⟩, ⟨_, rfl, .refl _⟩, ⟨_, rfl, .refl _⟩, trivial⟩ trivial rfl rfl (Nat.zero_le _)
  rintro i ⟨hi, hc⟩ ih
  refine sat_branch tabOk Tryd.func16 rfl trivial (fun hb => ?_) (fun hb => ?_)
  · have hb : decide ((i : Int) < (((p.map eSp).length : Nat) : Int)) = true := hb
    rw [decide_eq_true_eq, List.length_map] at hb
    have hlt : i < p.length := by omega
    have hget : p.getD i (false, [], ()) = p[i] := by simp [hlt]
    rw [List.drop_eq_getElem_cons hlt, List.all_cons] at hc
    rw [← hget] at hc
    have hml : maxLen = 9223372036854775807 := rfl
    have hlm := hpl _ (List.getElem_mem hlt)
    rw [← hget] at hlm
    refine sat_call tabOk Tryd.func16 rfl (by simp only [andP, and_true, true_and, Int.toNat_natCast, List.length_map, List.length_append, List.length_cons, List.length_nil, List.length_replicate]; omega) (Right_call n [(p.getD i (false, [], ())).2.1] (by rw [hml]; simp) (by intro c hc; rw [List.mem_singleton.1 hc]; exact hlm)) ⟨cnf1_le n _, trivial⟩ rfl ⟨_, rfl⟩ (by rintro r o rfl; rfl) ?_
    rintro _ o rfl
    rw [rightB_one ⟨h1, h2⟩]
    cases hcl : clOk n (p.getD i (false, [], ())).2.1 with
    | false =>
      refine sat_branch tabOk Tryd.func16 rfl trivial (fun _ => ?_) (fun h => by cases h)
      refine sat_ret tabOk Tryd.func16 rfl trivial ?_
      rw [hc, hcl]
      rfl
    | true =>
      refine sat_branch tabOk Tryd.func16 rfl trivial (fun h => by cases h) (fun _ => ?_)
      refine sat_stop tabOk Tryd.func16 rfl trivial ?_
      refine sat_le (ih (i + 1) ⟨by omega, ?_⟩ (by omega)) hC hCl ⟨⟨_, rfl, .refl _⟩, ⟨_, rfl, .refl _⟩, ⟨_, rfl, .of (by rw [wrap_id (by omega) (by omega)]; rfl)⟩, trivial⟩ trivial rfl rfl (Nat.zero_le _)
      rw [hc, hcl, Bool.true_and]
  · have hb : decide ((i : Int) < (((p.map eSp).length : Nat) : Int)) = false := hb
    rw [decide_eq_false_iff_not, List.length_map] at hb
    obtain rfl : i = p.length := by omega
    rw [List.drop_length] at hc
    refine sat_ret tabOk Tryd.func16 rfl trivial ?_
    rw [hc]
    rfl
def mayB (n : Int) (l : List (List Int)) (p : List Sp) : Bool := decide (n ≤ 40) && (decide ((l.length : Int) ≤ 20) && l.all (fun c => decide ((c.length : Int) ≤ 20))) && rightB n l && smallP p 20 && rightP n p
theorem may_call (n : Int) (l : List (List Int)) (p : List Sp) (hll : l.length ≤ maxLen) (hcl : ∀ c ∈ l, c.length ≤ maxLen) (hpl : ∀ s ∈ p, s.2.1.length ≤ maxLen) : ACall Tryd.prog 9 [.d (eCnf n l), .d (eSps p)] [] (fun r o => r = vB (mayB n l p)) := by
  refine acall_enter Tryd.func9 rfl rfl (Nat.le_of_ble_eq_true rfl) fun C hC hCl hDs hGk => ?_
  have hm : ∀ b1 b2 b3 b4 b5 : Bool, b1 = decide (n ≤ 40) → b2 = (decide ((l.length : Int) ≤ 20) && l.all (fun c => decide ((c.length : Int) ≤ 20))) → b3 = rightB n l → b4 = smallP p 20 → b5 = rightP n p → mayB n l p = (b1 && b2 && b3 && b4 && b5) := by
    rintro _ _ _ _ _ rfl rfl rfl rfl rfl
    rfl
  refine sat_branch tabOk Tryd.func9 rfl trivial (fun h1 => ?_) (fun h1 => ?_)
  rotate_left
  · have h1 : decide (n ≤ 40) = false := h1
    refine sat_branch tabOk Tryd.func9 rfl trivial (fun h => by cases h) (fun _ => ?_)
    refine sat_branch tabOk Tryd.func9 rfl trivial (fun h => by cases h) (fun _ => ?_)
    refine sat_branch tabOk Tryd.func9 rfl trivial (fun h => by cases h) (fun _ => ?_)
    refine sat_ret tabOk Tryd.func9 rfl trivial ?_
    rw [hm _ _ _ _ _ h1.symm rfl rfl rfl rfl]
    simp
    rfl
  have h1 : decide (n ≤ 40) = true := h1
  refine sat_call tabOk Tryd.func9 rfl trivial (Small_call n l 20 hll) (.refl _) rfl ⟨_, rfl⟩ (by rintro r o rfl; rfl) ?_
  rintro _ o rfl
  cases h2 : (decide ((l.length : Int) ≤ 20) && l.all (fun c => decide ((c.length : Int) ≤ 20))) with
  | false =>
    refine sat_branch tabOk Tryd.func9 rfl trivial (fun h => by cases h) (fun _ => ?_)
    refine sat_branch tabOk Tryd.func9 rfl trivial (fun h => by cases h) (fun _ => ?_)
    refine sat_branch tabOk Tryd.func9 rfl trivial (fun h => by cases h) (fun _ => ?_)
    refine sat_ret tabOk Tryd.func9 rfl trivial ?_
    rw [hm _ _ _ _ _ h1.symm h2.symm rfl rfl rfl]
    simp
    rfl
  | true =>
  refine sat_branch tabOk Tryd.func9 rfl trivial (fun _ => ?_) (fun h => by cases h)
  refine sat_call tabOk Tryd.func9 rfl trivial (Right_call n l hll hcl) (.refl _) rfl ⟨_, rfl⟩ (by rintro r o rfl; rfl) ?_
  rintro _ o rfl
  cases h3 : rightB n l with
  | false =>
    refine sat_branch tabOk Tryd.func9 rfl trivial (fun h => by cases h) (fun _ => ?_)
    refine sat_branch tabOk Tryd.func9 rfl trivial (fun h => by cases h) (fun _ => ?_)
    refine sat_ret tabOk Tryd.func9 rfl trivial ?_
    rw [hm _ _ _ _ _ h1.symm h2.symm h3.symm rfl rfl]
    simp
    rfl
  | true =>
  refine sat_branch tabOk Tryd.func9 rfl trivial (fun _ => ?_) (fun h => by cases h)
  refine sat_call tabOk Tryd.func9 rfl trivial (pSmall_call p 20) (.refl _) rfl ⟨_, rfl⟩ (by rintro r o rfl; rfl) ?_
  rintro _ o rfl
  cases h4 : smallP p 20 with
  | false =>
    refine sat_branch tabOk Tryd.func9 rfl trivial (fun h => by cases h) (fun _ => ?_)
    refine sat_ret tabOk Tryd.func9 rfl trivial ?_
    rw [hm _ _ _ _ _ h1.symm h2.symm h3.symm h4.symm rfl]
    simp
    rfl
  | true =>
  refine sat_branch tabOk Tryd.func9 rfl trivial (fun _ => ?_) (fun h => by cases h)
  refine sat_call tabOk Tryd.func9 rfl trivial (pRight_call n p hpl) (.refl _) rfl ⟨_, rfl⟩ (by rintro r o rfl; rfl) ?_
  rintro _ o rfl
  refine sat_ret tabOk Tryd.func9 rfl trivial ?_
  rw [hm _ _ _ _ _ h1.symm h2.symm h3.symm h4.symm rfl]
  simp
  rfl
end Go.Proofs.YtffomfbbplpljaaDoor
namespace Go.Proofs.YtffomfbbplpljaaDoor
open Go Ab Go.RowKit
set_option maxRecDepth 100000
set_option linter.unusedVariables false
set_option linter.unusedSimpArgs false
set_option maxHeartbeats 4000000

/-- What may be asked about. -/
structure MayP (n : Int) (l : List (List Int)) (p : List Sp) : Prop where
  n0 : 0 ≤ n
  n1 : n ≤ 40
  ll : l.length ≤ 20
  pl : p.length ≤ 20
  lit : ∀ c ∈ l, ∀ x ∈ c, litOk n x
  cl : ∀ c ∈ l, c.length ≤ 20
  plit : ∀ s ∈ p, ∀ x ∈ s.2.1, litOk n x
  pcl : ∀ s ∈ p, s.2.1.length ≤ 20
theorem MayP.cls {n : Int} {l : List (List Int)} {p : List Sp} (h : MayP n l p) : Cls n l := ⟨h.lit, fun c hc => Nat.le_trans (h.cl c hc) (by decide)⟩
theorem MayP.ps {n : Int} {l : List (List Int)} {p : List Sp} (h : MayP n l p) : ∀ s ∈ p, (∀ x ∈ s.2.1, litOk n x) ∧ s.2.1.length ≤ 1000 := fun s hs => ⟨h.plit s hs, Nat.le_trans (h.pcl s hs) (by decide)⟩
theorem clOk_lit {n : Int} {c : List Int} (h : clOk n c = true) : ∀ x ∈ c, litOk n x := by
  unfold clOk at h
  rw [Bool.and_eq_true] at h
  exact fun x hx => of_decide_eq_true (List.all_eq_true.1 h.2 x hx)
theorem may_of {n : Int} {l : List (List Int)} {p : List Sp} (h : mayB n l p = true) : MayP n l p := by
  unfold mayB rightB smallP rightP at h
  simp only [Bool.and_eq_true, decide_eq_true_eq] at h
  obtain ⟨⟨⟨⟨h1, h2, h3⟩, ⟨h4, h5, h6⟩, h7⟩, h8, h9⟩, _, h10⟩ := h
  refine ⟨h4, h1, by omega, by omega, fun c hc => clOk_lit (List.all_eq_true.1 h7 c hc), fun c hc => ?_, fun s hs => clOk_lit (List.all_eq_true.1 h10 s hs), fun s hs => ?_⟩
  · have := List.all_eq_true.1 h3 c hc
    rw [decide_eq_true_eq] at this
    omega
  · have := List.all_eq_true.1 h9 s hs
    rw [decide_eq_true_eq] at this
    omega
end Go.Proofs.YtffomfbbplpljaaDoor
namespace Go.Proofs.YtffomfbbplpljaaDoor
open Go Ab
set_option maxRecDepth 100000
set_option linter.unusedVariables false
set_option linter.unusedSimpArgs false

@[reducible] def eB (b : Bool) : D := .v (.bool b)
/-! ### SOUND -/
end Go.Proofs.YtffomfbbplpljaaDoor
namespace Go.Proofs.YtffomfbbplpljaaDoor
open Go Ab Go.RowKit
set_option maxRecDepth 100000
set_option linter.unusedVariables false
set_option linter.unusedSimpArgs false

/-- Where a proof ends, and how it may. -/
theorem chk_range : ∀ (p : List Sp) (l : List (List Int)) (i : Nat), i ≤ (chk l i p).1 ∧ (chk l i p).1 ≤ i + p.length ∧ ((chk l i p).2 = 0 ∨ (chk l i p).2 = 4 ∨ (chk l i p).2 = 6)
  | [], l, i => by simp [chk]
  | s :: r, l, i => by
    rw [chk]
    cases stepR l s with
    | none =>
      refine ⟨Nat.le_refl _, Nat.le_add_right _ _, ?_⟩
      simp only
      split
      · exact .inr (.inl rfl)
      · exact .inr (.inr rfl)
    | some l' =>
      simp only
      split
      · exact ⟨Nat.le_refl _, Nat.le_add_right _ _, .inl rfl⟩
      · obtain ⟨h1, h2, h3⟩ := chk_range r l' (i + 1)
        refine ⟨by omega, ?_, h3⟩
        simp only [List.length_cons]
        omega
end Go.Proofs.YtffomfbbplpljaaDoor
namespace Go.Proofs.YtffomfbbplpljaaDoor
open Go Ab Go.RowKit
set_option maxRecDepth 100000
set_option linter.unusedVariables false
set_option linter.unusedSimpArgs false

/-! More clauses; a proof's end. -/
/-! Clauses whose order, and whose literals' order, is another. -/
def Eqv (l l' : List (List Int)) : Prop := (l.map sortU).Perm (l'.map sortU)
theorem eqv_mem {l l' : List (List Int)} (h : Eqv l l') {c : List Int} (hc : c ∈ l) : ∃ c' ∈ l', ∀ x, x ∈ c' ↔ x ∈ c := by
  have h1 : sortU c ∈ l'.map sortU := h.mem_iff.1 (List.mem_map_of_mem hc)
  obtain ⟨c', h2, h3⟩ := List.mem_map.1 h1
  exact ⟨c', h2, fun x => by rw [← sortU_mem c' x, h3, sortU_mem]⟩
theorem fo_eqv {l l' : List (List Int)} {a : List Int} (h : Eqv l l') {x : Int} (hf : Fo l a x) : Fo l' a x := by
  induction hf with
  | mem h1 => exact .mem h1
  | unit hc hx _ ih =>
    obtain ⟨c', h2, h3⟩ := eqv_mem h hc
    exact .unit h2 ((h3 _).2 hx) fun y hy hne => ih y ((h3 y).1 hy) hne
theorem cf_eqv {l l' : List (List Int)} {a : List Int} (h : Eqv l l') (hf : Cf l a) : Cf l' a := by
  rcases hf with ⟨x, h1, h2⟩ | ⟨c, hc, h1⟩
  · exact .inl ⟨x, fo_eqv h h1, fo_eqv h h2⟩
  · obtain ⟨c', h2, h3⟩ := eqv_mem h hc
    exact .inr ⟨c', h2, fun y hy => fo_eqv h (h1 y ((h3 y).1 hy))⟩
theorem ref_eqv {l l' : List (List Int)} (h : Eqv l l') (c : List Int) : refB l c = refB l' c := by
  rw [Bool.eq_iff_iff, refB_iff, refB_iff]
  exact ⟨cf_eqv h, cf_eqv (List.Perm.symm h)⟩
theorem take_spec (c : List Int) : ∀ l : List (List Int), (takeR l c).map (fun l' => l'.map sortU) = if sortU c ∈ l.map sortU then some ((l.map sortU).erase (sortU c)) else none
  | [] => by simp [takeR]
  | d :: l => by
    have ih := take_spec c l
    by_cases h : sortU d = sortU c
    · have h1 : takeR (d :: l) c = some l := by
        have : eqS c d = true := by rw [eqS, decide_eq_true h]
        simp [takeR, List.findIdx?_cons, this]
      rw [h1, if_pos (by rw [List.map_cons, h]; exact List.mem_cons_self)]
      simp [h]
    · have hf : eqS c d = false := by rw [eqS, decide_eq_false h]
      have h1 : takeR (d :: l) c = (takeR l c).map (d :: ·) := by
        unfold takeR
        rw [List.findIdx?_cons, hf]
        cases l.findIdx? (eqS c) <;> simp
      rw [h1, Option.map_map]
      have h2 : ((fun l' : List (List Int) => l'.map sortU) ∘ (d :: ·)) = fun l' => sortU d :: l'.map sortU := rfl
      rw [h2]
      have h3 : (sortU c ∈ (d :: l).map sortU) ↔ sortU c ∈ l.map sortU := by
        rw [List.map_cons, List.mem_cons]
        exact ⟨fun hh => hh.resolve_left fun e => h e.symm, .inr⟩
      have h4 : ((d :: l).map sortU).erase (sortU c) = sortU d :: (l.map sortU).erase (sortU c) := by
        rw [List.map_cons, List.erase_cons_tail (by simpa using h)]
      cases ht : takeR l c with
      | none =>
        rw [ht] at ih
        by_cases hm : sortU c ∈ l.map sortU
        · rw [if_pos hm] at ih
          cases ih
        · rw [if_neg (fun hh => hm (h3.1 hh))]
          rfl
      | some l' =>
        rw [ht] at ih
        by_cases hm : sortU c ∈ l.map sortU
        · rw [if_pos hm] at ih
          rw [if_pos (h3.2 hm), h4]
          simp only [Option.map_some, Option.some.injEq] at ih ⊢
          rw [ih]
        · rw [if_neg hm] at ih
          cases ih
theorem take_eqv {l l' : List (List Int)} (h : Eqv l l') (c : List Int) : (takeR l c = none ∧ takeR l' c = none) ∨ ∃ m m', takeR l c = some m ∧ takeR l' c = some m' ∧ Eqv m m' := by
  have h1 := take_spec c l
  have h2 := take_spec c l'
  have hm : sortU c ∈ l.map sortU ↔ sortU c ∈ l'.map sortU := h.mem_iff
  by_cases hc : sortU c ∈ l.map sortU
  · rw [if_pos hc] at h1
    rw [if_pos (hm.1 hc)] at h2
    obtain ⟨m, e1, e2⟩ := Option.map_eq_some_iff.1 h1
    obtain ⟨m', e3, e4⟩ := Option.map_eq_some_iff.1 h2
    refine .inr ⟨m, m', e1, e3, ?_⟩
    unfold Eqv
    rw [e2, e4]
    exact List.Perm.erase _ h
  · rw [if_neg hc] at h1
    rw [if_neg (fun hh => hc (hm.2 hh))] at h2
    exact .inl ⟨Option.map_eq_none_iff.1 h1, Option.map_eq_none_iff.1 h2⟩
theorem chk_eqv : ∀ (p : List Sp) (l l' : List (List Int)) (i j : Nat), Eqv l l' → chk l' (i + j) p = ((chk l i p).1 + j, (chk l i p).2)
  | [], l, l', i, j, _ => by simp [chk]
  | s :: r, l, l', i, j, h => by
    rw [chk, chk]
    have e : i + j + 1 = (i + 1) + j := by omega
    cases hd : s.1 with
    | true =>
      have h1 : stepR l s = takeR l s.2.1 := by simp [stepR, hd]
      have h2 : stepR l' s = takeR l' s.2.1 := by simp [stepR, hd]
      rw [h1, h2]
      rcases take_eqv h s.2.1 with ⟨e1, e2⟩ | ⟨m, m', e1, e2, e3⟩
      · rw [e1, e2]
      · rw [e1, e2]
        simp only [reduceCtorEq, false_and, if_false]
        rw [e]
        exact chk_eqv r m m' (i + 1) j e3
    | false =>
      have h1 : stepR l s = if refB l s.2.1 = true then some (l ++ [s.2.1]) else none := by simp [stepR, hd]
      have h2 : stepR l' s = if refB l s.2.1 = true then some (l' ++ [s.2.1]) else none := by simp [stepR, hd, ref_eqv h]
      rw [h1, h2]
      by_cases hr : refB l s.2.1 = true
      · rw [if_pos hr, if_pos hr]
        simp only [true_and]
        split
        · rfl
        · rw [e]
          refine chk_eqv r _ _ (i + 1) j ?_
          unfold Eqv
          rw [List.map_append, List.map_append]
          exact h.append_right _
      · rw [if_neg hr, if_neg hr]
/-- A clause that is added, and taken away, leaves what was. -/
theorem chk_kept {l : List (List Int)} {c : List Int} (hc : c ≠ []) (p : List Sp) :
    chk l 0 ((false, c, ()) :: (true, c, ()) :: p) = (0, 6) ∨ chk l 0 ((false, c, ()) :: (true, c, ()) :: p) = ((chk l 0 p).1 + 2, (chk l 0 p).2) := by
  rw [chk]
  simp only [stepR, Bool.false_eq_true, if_false]
  cases hr : refB l c with
  | false =>
    left
    simp
  | true =>
    right
    simp only [if_true]
    rw [if_neg (fun h => hc h.2), chk]
    simp only [stepR, if_true]
    have h1 := take_spec c (l ++ [c])
    rw [if_pos (by rw [List.map_append]; exact List.mem_append_right _ (by simp))] at h1
    obtain ⟨m, e1, e2⟩ := Option.map_eq_some_iff.1 h1
    rw [e1]
    simp only [reduceCtorEq, false_and, if_false]
    refine chk_eqv p l m 0 2 ?_
    unfold Eqv
    rw [e2, List.map_append]
    have hp : (l.map sortU ++ [c].map sortU).Perm (sortU c :: l.map sortU) := by
      exact List.perm_append_comm (l₁ := l.map sortU) (l₂ := [sortU c])
    have h3 := hp.erase (sortU c)
    rw [List.erase_cons_head] at h3
    exact h3.symm
end Go.Proofs.YtffomfbbplpljaaDoor
namespace Go.Proofs.YtffomfbbplpljaaDoor
open Go Ab Go.RowKit
set_option maxRecDepth 100000
set_option linter.unusedVariables false
set_option linter.unusedSimpArgs false
set_option maxHeartbeats 4000000

theorem kept_call (n : Int) (l : List (List Int)) (p : List Sp) (c : List Int) (hll : l.length ≤ maxLen) (hcl : ∀ c ∈ l, c.length ≤ maxLen) (hpl : ∀ s ∈ p, s.2.1.length ≤ maxLen) (hcm : c.length ≤ maxLen) : ACall Tryd.prog 7 [.d (eCnf n l), .d (eSps p), .d (eIs c)] [] (fun r o => r = vB true) := by
  refine acall_enter Tryd.func7 rfl rfl (Nat.le_of_ble_eq_true rfl) fun C hC hCl hDs hGk => ?_
  have hml : maxLen = 9223372036854775807 := rfl
  refine sat_call tabOk Tryd.func7 rfl trivial shown_call (.refl _) rfl ⟨_, rfl⟩ (by rintro r o rfl; rfl) ?_
  rintro _ o rfl
  refine sat_call tabOk Tryd.func7 rfl trivial (may_call n l p hll hcl hpl) (.refl _) rfl ⟨_, rfl⟩ (by rintro r o rfl; rfl) ?_
  rintro _ o rfl
  cases hm : mayB n l p with
  | false =>
    refine sat_branch tabOk Tryd.func7 rfl trivial (fun _ => ?_) (fun h => by cases h)
    refine sat_branch tabOk Tryd.func7 rfl trivial (fun _ => ?_) (fun h => by cases h)
    refine sat_branch tabOk Tryd.func7 rfl trivial (fun _ => ?_) (fun h => by cases h)
    refine sat_branch tabOk Tryd.func7 rfl trivial (fun _ => ?_) (fun h => by cases h)
    refine sat_branch tabOk Tryd.func7 rfl trivial (fun _ => ?_) (fun h => by cases h)
    exact sat_ret tabOk Tryd.func7 rfl trivial rfl
  | true =>
  have h := may_of hm
  have hn : 0 ≤ n ∧ n ≤ 100000 := ⟨h.n0, Int.le_trans h.n1 (by decide)⟩
  refine sat_branch tabOk Tryd.func7 rfl trivial (fun h => by cases h) (fun _ => ?_)
  refine sat_branch tabOk Tryd.func7 rfl trivial (fun h1 => ?_) (fun h1 => ?_)
  · refine sat_branch tabOk Tryd.func7 rfl trivial (fun _ => ?_) (fun h => by cases h)
    refine sat_branch tabOk Tryd.func7 rfl trivial (fun _ => ?_) (fun h => by cases h)
    refine sat_branch tabOk Tryd.func7 rfl trivial (fun _ => ?_) (fun h => by cases h)
    exact sat_ret tabOk Tryd.func7 rfl trivial rfl
  have h1 : c ≠ [] := fun e => by
    subst e
    cases h1
  refine sat_branch tabOk Tryd.func7 rfl trivial (fun h2 => ?_) (fun h2 => ?_)
  · refine sat_branch tabOk Tryd.func7 rfl trivial (fun _ => ?_) (fun h => by cases h)
    refine sat_branch tabOk Tryd.func7 rfl trivial (fun _ => ?_) (fun h => by cases h)
    exact sat_ret tabOk Tryd.func7 rfl trivial rfl
  have h2 : c.length ≤ 20 := by
    have h2 : decide ((((c.map eI).length : Nat) : Int) > 20) = false := h2
    rw [decide_eq_false_iff_not, List.length_map] at h2
    omega
  refine sat_call tabOk Tryd.func7 rfl trivial (Right_call n [c] (by rw [hml]; simp) (by intro d hd; rw [List.mem_singleton.1 hd]; exact hcm)) ⟨cnf1_le n _, trivial⟩ rfl ⟨_, rfl⟩ (by rintro r o rfl; rfl) ?_
  rintro _ o rfl
  rw [rightB_one hn]
  cases hk : clOk n c with
  | false =>
    refine sat_branch tabOk Tryd.func7 rfl trivial (fun _ => ?_) (fun h => by cases h)
    refine sat_branch tabOk Tryd.func7 rfl trivial (fun _ => ?_) (fun h => by cases h)
    exact sat_ret tabOk Tryd.func7 rfl trivial rfl
  | true =>
  refine sat_branch tabOk Tryd.func7 rfl trivial (fun h => by cases h) (fun _ => ?_)
  refine sat_branch tabOk Tryd.func7 rfl trivial (fun h3 => ?_) (fun h3 => ?_)
  · exact sat_ret tabOk Tryd.func7 rfl trivial rfl
  have h3 : p.length ≤ 18 := by
    have h3 : decide ((((p.map eSp).length : Nat) : Int) > 18) = false := h3
    rw [decide_eq_false_iff_not, List.length_map] at h3
    omega
  refine sat_steps 8 tabOk Tryd.func7 rfl trivial ?_
  refine sat_litG _ tabOk rfl rfl rfl rfl rfl trivial rfl ?_
  refine sat_steps 3 tabOk Tryd.func7 rfl ?nd ?_
  · refine ⟨?_, trivial⟩
    show (2 + (List.map eSp p).length) * 32 ≤ 140737488355328
    rw [List.length_map]
    omega
  refine sat_freeze 1 rfl ?_
  have hps : ∀ s ∈ ((false, c, ()) :: (true, c, ()) :: p : List Sp), (∀ x ∈ s.2.1, litOk n x) ∧ s.2.1.length ≤ 1000 :=
    List.forall_mem_cons.2 ⟨⟨clOk_lit hk, Nat.le_trans h2 (by decide)⟩, List.forall_mem_cons.2 ⟨⟨clOk_lit hk, Nat.le_trans h2 (by decide)⟩, h.ps⟩⟩
  have hsz : l.length + ((false, c, ()) :: (true, c, ()) :: p : List Sp).length ≤ 1000 := by
    have := h.ll
    simp only [List.length_cons]
    omega
  refine sat_call tabOk Tryd.func7 rfl trivial (Check_call (n := n) (l0 := l) (p := ((false, c, ()) :: (true, c, ()) :: p)) hn h.cls hps hsz) ⟨.refl _, VLe.eL rfl, trivial⟩ rfl ⟨_, rfl⟩ (by rintro r o rfl; rfl) ?_
  rintro _ o rfl
  refine sat_call tabOk Tryd.func7 rfl trivial (Check_call (n := n) (l0 := l) (p := p) hn h.cls h.ps (by have := h.ll; have := h.pl; omega)) (.refl _) rfl ⟨_, rfl⟩ (by rintro r o rfl; rfl) ?_
  rintro _ o rfl
  have hkp := chk_kept (l := l) h1 p
  obtain ⟨r1, r2, r3⟩ := chk_range p l 0
  generalize chk l 0 p = q at *
  generalize chk l 0 ((false, c, ()) :: (true, c, ()) :: p) = q' at *
  obtain ⟨i, e⟩ := q
  rcases hkp with rfl | rfl
  · refine sat_branch tabOk Tryd.func7 rfl trivial (fun _ => ?_) (fun h => by cases h)
    refine sat_branch tabOk Tryd.func7 rfl trivial (fun _ => ?_) (fun h => by cases h)
    exact sat_ret tabOk Tryd.func7 rfl trivial rfl
  · refine sat_branch tabOk Tryd.func7 rfl trivial (fun h4 => ?_) (fun h4 => ?_)
    · have h4 : ((((i + 2 : Nat) : Int)) == 0) = true := h4
      rw [beq_iff_eq] at h4
      omega
    refine sat_branch tabOk Tryd.func7 rfl trivial (fun h => by cases h) (fun _ => ?_)
    refine sat_branch tabOk Tryd.func7 rfl trivial (fun _ => ?_) (fun h => by cases h)
    have he : (e == e) = true := by simp
    refine sat_steps 4 tabOk Tryd.func7 rfl trivial ?_
    have he : (e == e) = true := by simp
    simp only [he]
    refine sat_branch tabOk Tryd.func7 rfl trivial (fun _ => ?_) (fun h => by cases h)
    have hi : (((i + 2 : Nat) : Int) == IntKind.i64.wrap ((i : Int) + 2)) = true := by
      have r2 : i ≤ 0 + p.length := r2
      rw [wrap_id (by omega) (by omega), beq_iff_eq]
      omega
    refine sat_steps 5 tabOk Tryd.func7 rfl trivial ?_
    simp only [hi]
    exact sat_ret tabOk Tryd.func7 rfl trivial rfl
end Go.Proofs.YtffomfbbplpljaaDoor
