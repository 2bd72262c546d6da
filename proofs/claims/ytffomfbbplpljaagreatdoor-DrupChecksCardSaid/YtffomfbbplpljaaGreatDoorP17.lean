/- A part of the proof: Ab74, K59, K60, K70, K61, K71. -/
import Derived.Test.YtffomfbbplpljaaGreatDoorP16
import Derived.Lib.ConvBytes
import Derived.Lib.SlBytesConst
set_option linter.unusedVariables false
set_option linter.unusedSimpArgs false
set_option linter.unusedSimpArgs false
set_option linter.unusedVariables false
set_option linter.unusedSectionVars false
namespace Ab
open Go
variable [Draws]

theorem lit_run {P : Program} {T : Tab} (hT : TabOk P T) {w : World} {ok : Nat → Prop} {π : List Value} {t e : TypeId} {r re : TRow} {len : Nat} {ps : List (Nat × AV)} {vs : List (Nat × Value)} {xs : List D} (hr : tlook T t = some r) (hk : r.kd = .slice e) (hre : tlook T e = some re)
    (hp : RelPs w ok π ps vs) (hxs : litParts re.size 0 ps = some xs) (hlen : xs.length = len) (hl0 : len ≠ 0) (hble : len * re.size ≤ 16777216) (hz0 : re.size ≠ 0) :
    ∃ us, RelE w ok re.size xs us ∧ (Instr.buildSlice t len vs.toArray).run P w = .ok (.slice (some ⟨w.heap.size, 0, none⟩) len len) (w.alloc (.cells us.toArray e)) := by
  have ht := slice_elem hT hr hk
  obtain ⟨z, hzr, hzc, hzf, _, _⟩ := (tab_row hT hre).zero
  have hzl : z.cells.size = re.size := by
    have := (tab_row hT hre).zl
    rw [← hzc] at this
    simpa using this
  obtain ⟨us, h1, h2⟩ := lit_rel hxs hp [] ((List.range (len * re.size)).map fun i => z.cells[i % z.cells.size]!) (by simp) (by simp [hlen])
  simp only [List.nil_append] at h2
  refine ⟨us, h1, ?_⟩
  have hsz := (tab_row hT hre).sizeOf w
  have h2' : Instr.fill (fun i => some (i * re.size, re.size)) (Array.map (fun i => z.cells[i % z.cells.size]!) (Array.range (len * re.size))) vs = some us.toArray := by
    rw [← h2]
    congr 1
    apply Array.ext'
    simp
  have hl0' : len * re.size ≠ 0 := fun h => (Nat.mul_eq_zero.1 h).elim hl0 hz0
  simp [Instr.buildSlice, run_underlying ht, hsz, hl0', show ¬ 16777216 < len * re.size by omega, hzr, h2', run_newRow]

section
variable {P : Program} [Globals P] {T : Tab} {f : FuncId} {n : Nat} {C : Cx} {R : AV → List (Option AObj) → Prop} {env : Env} {objs : List (Option AObj)} {ops : Array Oper}

/-- A constant string's bytes: a literal row, turned to its own type. -/
theorem sat_constB {i j : Nat} {r : List Nat} {k : List Item} {o1 o2 : Oper} {e1 e2 : Env} {t e : TypeId} {rt re : TRow} {len : Nat} {ps : List (Nat × Operand)} {az : List (Nat × AV)} {xs : List D} {d1 : Tmp} (hT : TabOk P T)
    (ho1 : ops[i]? = some o1) (hw1 : wantE ops env o1 = .yes) (hop1 : o1.op = .buildSlice t len ⟨ps⟩) (hd1 : o1.dst = some d1) (hp : parts env ps = some az) (hr : tlook T t = some rt) (hk : rt.kd = .slice e) (hre : tlook T e = some re) (h8 : re.kd = .int .u8) (hsz : re.size = 1)
    (hxs : litParts re.size 0 az = some xs) (hlen : xs.length = len) (hl0 : len ≠ 0) (hble : len ≤ 16777216) (hput1 : putE n (some d1) .dead env = some e1)
    (ho2 : ops[j]? = some o2) (hw2 : wantE ops e1 o2 = .yes) (hop2 : o2.op = .convert t t (.tmp d1)) (hput2 : putE n o2.dst (.d (.sl 1 xs (litRd xs))) e1 = some e2)
    (h : ASat P f n C (.inRegion ops r :: k) e2 objs R) : ASat P f n C (.inRegion ops (i :: j :: r) :: k) env objs R := by
  intro π w tmps hn hm hh he
  have hps := parts_rel (ds := []) he hp
  obtain ⟨us, hE, hrun⟩ := lit_run hT hr hk hre hps hxs hlen hl0 (by rw [hsz, Nat.mul_one]; exact hble) (by rw [hsz]; decide)
  have ht := slice_elem hT hr hk
  have heU := int_type hT hre h8
  -- the row
  have hr1 : (execOp (Act.eval ⟨tmps, []⟩) o1).run P w = .ok (.value (.slice (some ⟨w.heap.size, 0, none⟩) len len)) (w.alloc (.cells us.toArray e)) := by
    unfold execOp
    rw [hop1]
    have := hrun
    simp only [Sem.run_bind, Sem.run_pure]
    have e3 : (Array.map (fun x => (x.1, Act.eval ⟨tmps, []⟩ x.2)) ⟨ps⟩ : Array (Nat × Value)) = (ps.map fun x => (x.1, Act.eval ⟨tmps, []⟩ x.2)).toArray := by simp
    first
      | (rw [e3]; rw [this]; rfl)
      | (simp only [e3, this]; rfl)
      | (simpa using this)
  refine .opVal ho1 ((wanted_of he).1 hw1) hr1 ?_
  rw [hd1]
  -- behind it
  have hlt : d1 < n := by
    simp only [putE] at hput1
    cases hb : Nat.blt d1 n with
    | false => rw [hb] at hput1; cases hput1
    | true => simpa [Nat.blt_eq] using hb
  have hul := hE.length
  rw [hsz, Nat.mul_one] at hul
  have hext1 : ∀ b, b < w.heap.size → (w.alloc (.cells us.toArray e)).heap[b]? = w.heap[b]? := fun b hb => heap_push_old _ hb
  have htr1 := tr_plain (w' := w.alloc (.cells us.toArray e)) hm rfl rfl ⟨rfl, dr_mono (Nat.le_refl _)⟩ (by rw [alloc_heap]; simp) hext1
  obtain ⟨p1, p2⟩ := put_rel (dst := some d1) (a := .dead) (v := .slice (some ⟨w.heap.size, 0, none⟩) len len) (env_tr he htr1) hn hput1 .dead
  have hget : (putT (some d1) (.slice (some ⟨w.heap.size, 0, none⟩) len len) tmps).getD d1 undef = .slice (some ⟨w.heap.size, 0, none⟩) len len := by
    simp [putT, Array.getD_eq_getD_getElem?, Array.getElem?_setIfInBounds, hn, hlt]
  have hr2 : (execOp (Act.eval ⟨putT (some d1) (.slice (some ⟨w.heap.size, 0, none⟩) len len) tmps, []⟩) o2).run P (w.alloc (.cells us.toArray e)) = .ok (.value (.slice (some ⟨w.heap.size, 0, none⟩) len len)) (w.alloc (.cells us.toArray e (us.toArray.size, us.toArray.size + 1))) := by
    unfold execOp
    rw [hop2]
    have e4 : Act.eval ⟨putT (some d1) (.slice (some ⟨w.heap.size, 0, none⟩) len len) tmps, []⟩ (.tmp d1) = .slice (some ⟨w.heap.size, 0, none⟩) len len := hget
    have := Go.Lib.run_convert_bytes_const (P := P) w t e us.toArray len len ht heU
    simp only [Sem.run_bind, Sem.run_pure, e4, this]
    rfl
  refine .opVal ho2 ((wanted_of p1).1 hw2) hr2 ?_
  have hext2 : ∀ b, b < w.heap.size → (w.alloc (.cells us.toArray e (us.toArray.size, us.toArray.size + 1))).heap[b]? = w.heap[b]? := fun b hb => heap_push_old _ hb
  have htr2 := tr_plain (w' := w.alloc (.cells us.toArray e (us.toArray.size, us.toArray.size + 1))) hm rfl rfl ⟨rfl, dr_mono (Nat.le_refl _)⟩ (by rw [alloc_heap]; simp) hext2
  have he2 : EnvRel (w.alloc (.cells us.toArray e (us.toArray.size, us.toArray.size + 1))) (okOf C.X π objs) π e1 (putT (some d1) (.slice (some ⟨w.heap.size, 0, none⟩) len len) tmps) :=
    (put_rel (dst := some d1) (a := .dead) (v := .slice (some ⟨w.heap.size, 0, none⟩) len len) (env_tr he htr2) hn hput1 .dead).1
  have hdata : RelV (w.alloc (.cells us.toArray e (us.toArray.size, us.toArray.size + 1))) (okOf C.X π objs) π (.d (.sl 1 xs (litRd xs))) (.slice (some ⟨w.heap.size, 0, none⟩) len len) := by
    have hk2 : Keeps w (okOf C.X π objs) (w.alloc (.cells us.toArray e (us.toArray.size, us.toArray.size + 1))) (okOf C.X π objs) := fun b o u a1 a2 => ⟨a1, cell_push _ a2⟩
    subst hlen
    rw [hsz] at hE
    refine .d (.sl (us := us) (hE.mono hk2) (fun q hq => ⟨new_okb hm, ?_⟩) (Nat.le_refl _) ?_ (litRd_ok xs))
    · rw [Nat.zero_add]
      exact cell_of_heap (heap_push_new _)
    · have hml : maxLen = 9223372036854775807 := rfl
      omega
  obtain ⟨q1, q2⟩ := put_rel he2 p2 hput2 hdata
  exact h π _ _ q2 htr2.mem (hist_tr hh htr2) q1

end
end Ab
namespace Go.Proofs.YtffomfbbplpljaaGreatDoor
open Go Ab Go.RowKit
set_option maxRecDepth 100000
set_option linter.unusedVariables false
set_option linter.unusedSimpArgs false
set_option maxHeartbeats 4000000

/-! The document's example. -/
@[reducible] def xaL : List (List Int) := [[1, 2], [1, -2], [-1, 2], [-1, -2]]
@[reducible] def xaP : List Sp := [(false, [1], ()), (false, [], ())]
@[reducible] def xaT : List UInt8 := [49, 32, 48, 10, 48, 10]
theorem xa_parse : paR xaT 2 = .inr (xaP, 6) := by kernel_rfl
theorem xa_print : proofT xaP = xaT := by kernel_rfl
theorem fo2 {l : List (List Int)} {a : List Int} {x y : Int} (hc : [x, y] ∈ l) (h : Fo l a (-x)) : Fo l a y := by
  by_cases hxy : x = y
  · subst hxy
    refine .unit hc (by simp) fun z hz hne => ?_
    have : z = x := by simpa using hz
    exact absurd this hne
  refine .unit hc (by simp) fun z hz hne => ?_
  rcases List.mem_cons.1 hz with rfl | hz
  · exact h
  · exact absurd (List.mem_singleton.1 hz) hne
theorem cf2 {l : List (List Int)} {a : List Int} {x y : Int} (hc : [x, y] ∈ l) (h : Fo l a (-x)) (k : Fo l a (-y)) : Cf l a := .inr ⟨_, hc, fun z hz => by
  rcases List.mem_cons.1 hz with rfl | hz
  · exact h
  · rw [List.mem_singleton.1 hz]
    exact k⟩
theorem fnn {l : List (List Int)} {a : List Int} {x : Int} (h : Fo l a x) : Fo l a (-(-x)) := by rwa [Int.neg_neg]
theorem xa_ref1 : refB xaL [1] = true := by
  have f1 : Fo xaL ([1].map fun x : Int => -x) (-1) := .mem (by decide)
  have f2 : Fo xaL ([1].map fun x : Int => -x) 2 := fo2 (x := 1) (by decide) f1
  exact refB_iff.2 (cf2 (x := 1) (y := -2) (by decide) f1 (fnn f2))
theorem xa_ref2 : refB (xaL ++ [[1]]) [] = true := by
  have f1 : Fo (xaL ++ [[1]]) (([] : List Int).map fun x : Int => -x) 1 := .unit (c := [1]) (by decide) (by decide) fun y hy hne => absurd (List.mem_singleton.1 hy) hne
  have f2 : Fo (xaL ++ [[1]]) (([] : List Int).map fun x : Int => -x) 2 := fo2 (x := -1) (by decide) (fnn f1)
  exact refB_iff.2 (cf2 (x := -1) (y := -2) (by decide) (fnn f1) (fnn f2))
theorem xa_chk : chk xaL 0 xaP = (1, 0) := by
  rw [chk]
  have h1 : stepR xaL (false, [1], ()) = some (xaL ++ [[1]]) := by simp only [stepR, Bool.false_eq_true, if_false, xa_ref1, if_true]
  rw [h1]
  simp only [List.cons_ne_nil, and_false, if_false]
  rw [chk]
  have h2 : stepR (xaL ++ [[1]]) (false, [], ()) = some (xaL ++ [[1]] ++ [[]]) := by simp only [stepR, Bool.false_eq_true, if_false, xa_ref2, if_true]
  rw [h2]
  simp
theorem xa_cls : Cls 2 xaL := ⟨by decide, by decide⟩
theorem str_eqB (a b : List UInt8) : ((⟨a.toArray⟩ : ByteArray).toList == (⟨b.toArray⟩ : ByteArray).toList) = decide (a = b) := strBy a b
theorem DLe.ofC {s : Nat} {xs ys : List D} {rd rd' : Nat → D} (h : CLe (.sl s xs rd) (.sl s ys rd')) : DLe (.sl s xs rd) (.sl s ys rd') := by
  intro w ok v hv
  have hf : flat v = true := by cases hv <;> rfl
  have h1 : RelL w ok [D.sl s xs rd] [v] := .cons hv hf .nil
  have h2 : RelL w ok [D.sl s ys rd'] [v] := h w ok [v] h1
  cases h2 with | cons h _ _ => exact h
theorem xa_le : VLe (.d (.ag [.v (.int .i64 2), .sl 1 (xaL.map fun c => .sl 1 (c.map eI) (litRd (c.map eI))) (litRd (xaL.map fun c => .sl 1 (c.map eI) (litRd (c.map eI))))])) (.d (eCnf 2 xaL)) :=
  VLe.dag ⟨.refl _, DLe.ofC (lit_rows eI 0 xaL 1), trivial⟩
theorem shown_call : ACall Tryz.prog 4 [] [] (fun r o => r = vB true) := by
  refine acall_enter Tryz.func4 rfl rfl (Nat.le_of_ble_eq_true rfl) fun C hC hCl hDs hGk => ?_
  refine sat_steps 17 tabOk Tryz.func4 rfl trivial ?_
  refine sat_constB tabOk rfl rfl rfl rfl rfl rfl rfl rfl rfl rfl rfl rfl (by decide) (by decide) rfl rfl rfl rfl rfl ?_
  refine sat_call tabOk Tryz.func4 rfl trivial (parse_call xaT 2 (by decide)) ⟨.eL rfl, .refl _, trivial⟩ rfl ⟨_, rfl⟩ ?_ ?_
  · rintro r o rfl
    rw [xa_parse]
    rfl
  rintro _ o rfl
  rw [xa_parse]
  refine sat_call tabOk Tryz.func4 rfl trivial (Check_call (n := 2) (l0 := xaL) (p := xaP) (by decide) xa_cls (by decide) (by decide)) ⟨?_, .refl _, trivial⟩ rfl ⟨_, rfl⟩ (by rintro r o rfl; rfl) ?_
  · exact xa_le
  rintro _ o rfl
  rw [xa_chk]
  refine sat_call tabOk Tryz.func4 rfl trivial (Check_call (n := 2) (l0 := xaL) (p := []) (by decide) xa_cls (by decide) (by decide)) ⟨?_, .nil, trivial⟩ rfl ⟨_, rfl⟩ (by rintro r o rfl; rfl) ?_
  · exact xa_le
  rintro _ o rfl
  refine sat_branch tabOk Tryz.func4 rfl trivial (fun _ => ?_) (fun h => by cases h)
  refine sat_branch tabOk Tryz.func4 rfl trivial (fun _ => ?_) (fun h => by cases h)
  refine sat_branch tabOk Tryz.func4 rfl trivial (fun _ => ?_) (fun h => by cases h)
  refine sat_branch tabOk Tryz.func4 rfl trivial (fun _ => ?_) (fun h => by cases h)
  refine sat_branch tabOk Tryz.func4 rfl trivial (fun _ => ?_) (fun h => by cases h)
  refine sat_branch tabOk Tryz.func4 rfl trivial (fun _ => ?_) (fun h => by cases h)
  refine sat_branch tabOk Tryz.func4 rfl trivial (fun _ => ?_) (fun h => by cases h)
  refine sat_call tabOk Tryz.func4 rfl trivial (dRight_call 2 xaP (by decide) (by decide)) (.refl _) rfl ⟨_, rfl⟩ (by rintro r o rfl; rfl) ?_
  rintro _ o rfl
  refine sat_branch tabOk Tryz.func4 rfl trivial (fun _ => ?_) (fun h => by cases h)
  refine sat_call tabOk Tryz.func4 rfl trivial (dSame_call xaP xaP) (.refl _) rfl ⟨_, rfl⟩ (by rintro r o rfl; rfl) ?_
  rintro _ o rfl
  rw [decide_eq_true (rfl : xaP = xaP)]
  refine sat_branch tabOk Tryz.func4 rfl trivial (fun _ => ?_) (fun h => by cases h)
  refine sat_call tabOk Tryz.func4 rfl trivial (dPrint_call xaP (by decide) (by decide)) (.refl _) rfl ⟨_, rfl⟩ (by rintro r o rfl; rfl) ?_
  rintro _ o rfl
  refine sat_ret tabOk Tryz.func4 rfl trivial ?_
  show vB ((⟨(proofT xaP).toArray⟩ : ByteArray).toList == (⟨xaT.toArray⟩ : ByteArray).toList) = _
  rw [xa_print, str_eqB, decide_eq_true rfl]
end Go.Proofs.YtffomfbbplpljaaGreatDoor
namespace Go.Proofs.YtffomfbbplpljaaGreatDoor
open Go Ab Go.RowKit
set_option maxRecDepth 100000
set_option linter.unusedVariables false
set_option linter.unusedSimpArgs false
set_option maxHeartbeats 4000000

def smallP (p : List Sp) (m : Int) : Bool := decide ((p.length : Int) ≤ m) && p.all (fun s => decide ((s.2.1.length : Int) ≤ m))
theorem pSmall_call (p : List Sp) (m : Int) : ACall Tryz.prog 14 [.d (eSps p), vI .i64 m] [] (fun r o => r = vB (smallP p m)) := by
  refine acall_enter Tryz.func14 rfl rfl (Nat.le_of_ble_eq_true rfl) fun C hC hCl hDs hGk => ?_
  refine sat_len (t := 0) rfl fun hlen => ?_
  rw [List.length_map] at hlen
  refine sat_branch tabOk Tryz.func14 rfl trivial (fun h => ?_) (fun h => ?_)
  · refine sat_ret tabOk Tryz.func14 rfl trivial ?_
    show vB false = vB _
    have : ¬ (p.length : Int) ≤ m := by simpa using h
    simp [this, smallP]
  have hm : (p.length : Int) ≤ m := by simpa using h
  refine sat_stop tabOk Tryz.func14 rfl trivial ?_
  refine sat_while (α := Nat) (fun i => [(0, .d (eSps p)), (1, vI .i64 m), (5, vI .i64 (i : Int))]) (fun _ => []) (fun i => i ≤ p.length ∧ smallP p m = (p.drop i).all (fun s => decide ((s.2.1.length : Int) ≤ m))) (fun i => p.length - i) 0 ⟨Nat.zero_le _, by simp [smallP, hm]⟩ ?_ ?_
  · exact fun h => sat_le h hC hCl ⟨⟨_, rfl, .refl _⟩, ⟨_, rfl, .refl _⟩, ⟨_, rfl, .refl _⟩, trivial⟩ trivial rfl rfl (Nat.zero_le _)
  rintro i ⟨hi, hc⟩ ih
  refine sat_branch tabOk Tryz.func14 rfl trivial (fun hb => ?_) (fun hb => ?_)
  · have hb : decide ((i : Int) < (((p.map eSp).length : Nat) : Int)) = true := hb
    rw [decide_eq_true_eq, List.length_map] at hb
    have hlt : i < p.length := by omega
    have hget : p.getD i (false, [], ()) = p[i] := by simp [hlt]
    rw [List.drop_eq_getElem_cons hlt, List.all_cons] at hc
    rw [← hget] at hc
    refine sat_branch tabOk Tryz.func14 rfl (by simp only [andP, and_true, true_and, Int.toNat_natCast, List.length_map, List.length_append, List.length_cons, List.length_nil, List.length_replicate]; omega) (fun hb2 => ?_) (fun hb2 => ?_)
    · have hb2 : ¬ (((p.getD i (false, [], ())).2.1.length : Nat) : Int) ≤ m := by
        have hb2 : decide (((((p.getD i (false, [], ())).2.1.map eI).length : Nat) : Int) > m) = true := hb2
        rw [decide_eq_true_eq, List.length_map] at hb2
        omega
      refine sat_ret tabOk Tryz.func14 rfl trivial ?_
      rw [hc, decide_eq_false hb2]
      rfl
    · have hb2 : (((p.getD i (false, [], ())).2.1.length : Nat) : Int) ≤ m := by
        have hb2 : decide (((((p.getD i (false, [], ())).2.1.map eI).length : Nat) : Int) > m) = false := hb2
        rw [decide_eq_false_iff_not, List.length_map] at hb2
        omega
      refine sat_stop tabOk Tryz.func14 rfl trivial ?_
      refine sat_le (ih (i + 1) ⟨by omega, ?_⟩ (by omega)) hC hCl ⟨⟨_, rfl, .refl _⟩, ⟨_, rfl, .refl _⟩, ⟨_, rfl, .of (by rw [wrap_id (by omega) (by omega)]; rfl)⟩, trivial⟩ trivial rfl rfl (Nat.zero_le _)
      rw [hc, decide_eq_true hb2, Bool.true_and]
  · have hb : decide ((i : Int) < (((p.map eSp).length : Nat) : Int)) = false := hb
    rw [decide_eq_false_iff_not, List.length_map] at hb
    obtain rfl : i = p.length := by omega
    rw [List.drop_length] at hc
    refine sat_ret tabOk Tryz.func14 rfl trivial ?_
    rw [hc]
    rfl
def rightP (n : Int) (p : List Sp) : Bool := decide (0 ≤ n ∧ n ≤ 100000 ∧ p.length ≤ 20000) && p.all (fun s => clOk n s.2.1)
theorem rightB_one {n : Int} (hn : 0 ≤ n ∧ n ≤ 100000) (c : List Int) : rightB n [c] = clOk n c := by simp [rightB, hn.1, hn.2]
theorem cnf1_le (n : Int) (c : List Int) : VLe (.d (.ag [eI n, .sl 1 [eIs c] (litRd [eIs c])])) (.d (eCnf n [c])) := VLe.dag ⟨.refl _, DLe.eL rfl, trivial⟩
theorem pRight_call (n : Int) (p : List Sp) (hpl : ∀ s ∈ p, s.2.1.length ≤ maxLen) : ACall Tryz.prog 15 [vI .i64 n, .d (eSps p)] [] (fun r o => r = vB (rightP n p)) := by
  refine acall_enter Tryz.func15 rfl rfl (Nat.le_of_ble_eq_true rfl) fun C hC hCl hDs hGk => ?_
  refine sat_len (t := 1) rfl fun hlen => ?_
  rw [List.length_map] at hlen
  refine sat_branch tabOk Tryz.func15 rfl trivial (fun h1 => ?_) (fun h1 => ?_)
  · have h1 : n < 0 := by simpa using h1
    refine sat_branch tabOk Tryz.func15 rfl trivial (fun _ => ?_) (fun h => by cases h)
    refine sat_branch tabOk Tryz.func15 rfl trivial (fun _ => ?_) (fun h => by cases h)
    refine sat_ret tabOk Tryz.func15 rfl trivial ?_
    rw [rightP, decide_eq_false (by omega)]
    rfl
  have h1 : 0 ≤ n := by simpa using h1
  refine sat_branch tabOk Tryz.func15 rfl trivial (fun h2 => ?_) (fun h2 => ?_)
  · have h2 : 100000 < n := by simpa using h2
    refine sat_branch tabOk Tryz.func15 rfl trivial (fun _ => ?_) (fun h => by cases h)
    refine sat_ret tabOk Tryz.func15 rfl trivial ?_
    rw [rightP, decide_eq_false (by omega)]
    rfl
  have h2 : n ≤ 100000 := by simpa using h2
  refine sat_branch tabOk Tryz.func15 rfl trivial (fun h3 => ?_) (fun h3 => ?_)
  · have h3 : decide ((((p.map eSp).length : Nat) : Int) > 20000) = true := h3
    rw [decide_eq_true_eq, List.length_map] at h3
    refine sat_ret tabOk Tryz.func15 rfl trivial ?_
    rw [rightP, decide_eq_false (by omega)]
    rfl
  have h3 : p.length ≤ 20000 := by
    have h3 : decide ((((p.map eSp).length : Nat) : Int) > 20000) = false := h3
    rw [decide_eq_false_iff_not, List.length_map] at h3
    omega
  have hR : rightP n p = p.all (fun s => clOk n s.2.1) := by rw [rightP, decide_eq_true ⟨h1, h2, h3⟩, Bool.true_and]
  refine sat_stop tabOk Tryz.func15 rfl trivial ?_
  refine sat_while (α := Nat) (fun i => [(0, vI .i64 n), (1, .d (eSps p)), (5, vI .i64 (i : Int))]) (fun _ => []) (fun i => i ≤ p.length ∧ rightP n p = (p.drop i).all (fun s => clOk n s.2.1)) (fun i => p.length - i) 0 ⟨Nat.zero_le _, hR⟩ ?_ ?_
  · exact fun h => sat_le h hC hCl ⟨⟨_, rfl, .refl _⟩, ⟨_, rfl, .refl _⟩, ⟨_, rfl, .refl _⟩, trivial⟩ trivial rfl rfl (Nat.zero_le _)
  rintro i ⟨hi, hc⟩ ih
  refine sat_branch tabOk Tryz.func15 rfl trivial (fun hb => ?_) (fun hb => ?_)
  · have hb : decide ((i : Int) < (((p.map eSp).length : Nat) : Int)) = true := hb
    rw [decide_eq_true_eq, List.length_map] at hb
    have hlt : i < p.length := by omega
    have hget : p.getD i (false, [], ()) = p[i] := by simp [hlt]
    rw [List.drop_eq_getElem_cons hlt, List.all_cons] at hc
    rw [← hget] at hc
    have hml : maxLen = 9223372036854775807 := rfl
    have hlm := hpl _ (List.getElem_mem hlt)
    rw [← hget] at hlm
    refine sat_call tabOk Tryz.func15 rfl (by simp only [andP, and_true, true_and, Int.toNat_natCast, List.length_map, List.length_append, List.length_cons, List.length_nil, List.length_replicate]; omega) (Right_call n [(p.getD i (false, [], ())).2.1] (by rw [hml]; simp) (by intro c hc; rw [List.mem_singleton.1 hc]; exact hlm)) ⟨cnf1_le n _, trivial⟩ rfl ⟨_, rfl⟩ (by rintro r o rfl; rfl) ?_
    rintro _ o rfl
    rw [rightB_one ⟨h1, h2⟩]
    cases hcl : clOk n (p.getD i (false, [], ())).2.1 with
    | false =>
      refine sat_branch tabOk Tryz.func15 rfl trivial (fun _ => ?_) (fun h => by cases h)
      refine sat_ret tabOk Tryz.func15 rfl trivial ?_
      rw [hc, hcl]
      rfl
    | true =>
      refine sat_branch tabOk Tryz.func15 rfl trivial (fun h => by cases h) (fun _ => ?_)
      refine sat_stop tabOk Tryz.func15 rfl trivial ?_
      refine sat_le (ih (i + 1) ⟨by omega, ?_⟩ (by omega)) hC hCl ⟨⟨_, rfl, .refl _⟩, ⟨_, rfl, .refl _⟩, ⟨_, rfl, .of (by rw [wrap_id (by omega) (by omega)]; rfl)⟩, trivial⟩ trivial rfl rfl (Nat.zero_le _)
      rw [hc, hcl, Bool.true_and]
  · have hb : decide ((i : Int) < (((p.map eSp).length : Nat) : Int)) = false := hb
    rw [decide_eq_false_iff_not, List.length_map] at hb
    obtain rfl : i = p.length := by omega
    rw [List.drop_length] at hc
    refine sat_ret tabOk Tryz.func15 rfl trivial ?_
    rw [hc]
    rfl
def mayB (n : Int) (l : List (List Int)) (p : List Sp) : Bool := decide (n ≤ 40) && (decide ((l.length : Int) ≤ 20) && l.all (fun c => decide ((c.length : Int) ≤ 20))) && rightB n l && smallP p 20 && rightP n p
theorem may_call (n : Int) (l : List (List Int)) (p : List Sp) (hll : l.length ≤ maxLen) (hcl : ∀ c ∈ l, c.length ≤ maxLen) (hpl : ∀ s ∈ p, s.2.1.length ≤ maxLen) : ACall Tryz.prog 5 [.d (eCnf n l), .d (eSps p)] [] (fun r o => r = vB (mayB n l p)) := by
  refine acall_enter Tryz.func5 rfl rfl (Nat.le_of_ble_eq_true rfl) fun C hC hCl hDs hGk => ?_
  have hm : ∀ b1 b2 b3 b4 b5 : Bool, b1 = decide (n ≤ 40) → b2 = (decide ((l.length : Int) ≤ 20) && l.all (fun c => decide ((c.length : Int) ≤ 20))) → b3 = rightB n l → b4 = smallP p 20 → b5 = rightP n p → mayB n l p = (b1 && b2 && b3 && b4 && b5) := by
    rintro _ _ _ _ _ rfl rfl rfl rfl rfl
    rfl
  refine sat_branch tabOk Tryz.func5 rfl trivial (fun h1 => ?_) (fun h1 => ?_)
  rotate_left
  · have h1 : decide (n ≤ 40) = false := h1
    refine sat_branch tabOk Tryz.func5 rfl trivial (fun h => by cases h) (fun _ => ?_)
    refine sat_branch tabOk Tryz.func5 rfl trivial (fun h => by cases h) (fun _ => ?_)
    refine sat_branch tabOk Tryz.func5 rfl trivial (fun h => by cases h) (fun _ => ?_)
    refine sat_ret tabOk Tryz.func5 rfl trivial ?_
    rw [hm _ _ _ _ _ h1.symm rfl rfl rfl rfl]
    simp
    rfl
  have h1 : decide (n ≤ 40) = true := h1
  refine sat_call tabOk Tryz.func5 rfl trivial (Small_call n l 20 hll) (.refl _) rfl ⟨_, rfl⟩ (by rintro r o rfl; rfl) ?_
  rintro _ o rfl
  cases h2 : (decide ((l.length : Int) ≤ 20) && l.all (fun c => decide ((c.length : Int) ≤ 20))) with
  | false =>
    refine sat_branch tabOk Tryz.func5 rfl trivial (fun h => by cases h) (fun _ => ?_)
    refine sat_branch tabOk Tryz.func5 rfl trivial (fun h => by cases h) (fun _ => ?_)
    refine sat_branch tabOk Tryz.func5 rfl trivial (fun h => by cases h) (fun _ => ?_)
    refine sat_ret tabOk Tryz.func5 rfl trivial ?_
    rw [hm _ _ _ _ _ h1.symm h2.symm rfl rfl rfl]
    simp
    rfl
  | true =>
  refine sat_branch tabOk Tryz.func5 rfl trivial (fun _ => ?_) (fun h => by cases h)
  refine sat_call tabOk Tryz.func5 rfl trivial (Right_call n l hll hcl) (.refl _) rfl ⟨_, rfl⟩ (by rintro r o rfl; rfl) ?_
  rintro _ o rfl
  cases h3 : rightB n l with
  | false =>
    refine sat_branch tabOk Tryz.func5 rfl trivial (fun h => by cases h) (fun _ => ?_)
    refine sat_branch tabOk Tryz.func5 rfl trivial (fun h => by cases h) (fun _ => ?_)
    refine sat_ret tabOk Tryz.func5 rfl trivial ?_
    rw [hm _ _ _ _ _ h1.symm h2.symm h3.symm rfl rfl]
    simp
    rfl
  | true =>
  refine sat_branch tabOk Tryz.func5 rfl trivial (fun _ => ?_) (fun h => by cases h)
  refine sat_call tabOk Tryz.func5 rfl trivial (pSmall_call p 20) (.refl _) rfl ⟨_, rfl⟩ (by rintro r o rfl; rfl) ?_
  rintro _ o rfl
  cases h4 : smallP p 20 with
  | false =>
    refine sat_branch tabOk Tryz.func5 rfl trivial (fun h => by cases h) (fun _ => ?_)
    refine sat_ret tabOk Tryz.func5 rfl trivial ?_
    rw [hm _ _ _ _ _ h1.symm h2.symm h3.symm h4.symm rfl]
    simp
    rfl
  | true =>
  refine sat_branch tabOk Tryz.func5 rfl trivial (fun _ => ?_) (fun h => by cases h)
  refine sat_call tabOk Tryz.func5 rfl trivial (pRight_call n p hpl) (.refl _) rfl ⟨_, rfl⟩ (by rintro r o rfl; rfl) ?_
  rintro _ o rfl
  refine sat_ret tabOk Tryz.func5 rfl trivial ?_
  rw [hm _ _ _ _ _ h1.symm h2.symm h3.symm h4.symm rfl]
  simp
  rfl
end Go.Proofs.YtffomfbbplpljaaGreatDoor
namespace Go.Proofs.YtffomfbbplpljaaGreatDoor
open Go Ab Go.RowKit
set_option maxRecDepth 100000
set_option linter.unusedVariables false
set_option linter.unusedSimpArgs false
set_option maxHeartbeats 4000000

/-- What may be asked about. -/
structure MayP (n : Int) (l : List (List Int)) (p : List Sp) : Prop where
  n0 : 0 ≤ n
  n1 : n ≤ 40
  ll : l.length ≤ 20
  pl : p.length ≤ 20
  lit : ∀ c ∈ l, ∀ x ∈ c, litOk n x
  cl : ∀ c ∈ l, c.length ≤ 20
  plit : ∀ s ∈ p, ∀ x ∈ s.2.1, litOk n x
  pcl : ∀ s ∈ p, s.2.1.length ≤ 20
theorem MayP.cls {n : Int} {l : List (List Int)} {p : List Sp} (h : MayP n l p) : Cls n l := ⟨h.lit, fun c hc => Nat.le_trans (h.cl c hc) (by decide)⟩
theorem MayP.ps {n : Int} {l : List (List Int)} {p : List Sp} (h : MayP n l p) : ∀ s ∈ p, (∀ x ∈ s.2.1, litOk n x) ∧ s.2.1.length ≤ 1000 := fun s hs => ⟨h.plit s hs, Nat.le_trans (h.pcl s hs) (by decide)⟩
theorem clOk_lit {n : Int} {c : List Int} (h : clOk n c = true) : ∀ x ∈ c, litOk n x := by
  unfold clOk at h
  rw [Bool.and_eq_true] at h
  exact fun x hx => of_decide_eq_true (List.all_eq_true.1 h.2 x hx)
theorem may_of {n : Int} {l : List (List Int)} {p : List Sp} (h : mayB n l p = true) : MayP n l p := by
  unfold mayB rightB smallP rightP at h
  simp only [Bool.and_eq_true, decide_eq_true_eq] at h
  obtain ⟨⟨⟨⟨h1, h2, h3⟩, ⟨h4, h5, h6⟩, h7⟩, h8, h9⟩, _, h10⟩ := h
  refine ⟨h4, h1, by omega, by omega, fun c hc => clOk_lit (List.all_eq_true.1 h7 c hc), fun c hc => ?_, fun s hs => clOk_lit (List.all_eq_true.1 h10 s hs), fun s hs => ?_⟩
  · have := List.all_eq_true.1 h3 c hc
    rw [decide_eq_true_eq] at this
    omega
  · have := List.all_eq_true.1 h9 s hs
    rw [decide_eq_true_eq] at this
    omega
end Go.Proofs.YtffomfbbplpljaaGreatDoor
namespace Go.Proofs.YtffomfbbplpljaaGreatDoor
open Go Ab Go.RowKit
set_option maxRecDepth 100000
set_option linter.unusedVariables false
set_option linter.unusedSimpArgs false
set_option maxHeartbeats 4000000

@[reducible] def woA (l : List (List Int)) (c : List Int) : AV := match takeR l c with | none => .tp [.d (.v (.slice none 0 0)), vB false] | some l' => .tp [.d (eIss l'), vB true]
theorem without_call {l : List (List Int)} {c : List Int} (hll : ∀ d ∈ l, (∀ x ∈ d, -1000000 ≤ x ∧ x ≤ 1000000) ∧ d.length ≤ 1000000) (hcc : ∀ x ∈ c, -1000000 ≤ x ∧ x ≤ 1000000) (hc : c.length ≤ 1000000) (hl : l.length ≤ 1000000) :
    ACall Tryz.prog 18 [.d (eIss l), .d (eIs c)] [] (fun r o => r = woA l c) := by
  refine acall_enter Tryz.func18 rfl rfl (Nat.le_of_ble_eq_true rfl) fun C hC hCl hDs hGk => ?_
  refine sat_call tabOk Tryz.func18 rfl trivial (RSort_call c hcc hc) (.refl _) rfl ⟨_, rfl⟩ (by rintro r o rfl; rfl) ?_
  rintro _ o rfl
  refine sat_stop tabOk Tryz.func18 rfl trivial ?_
  refine sat_while (α := Nat) (fun i => [(0, .d (eIss l)), (1, .d (eIs c)), (6, .d (eIs (sortU c))), (7, vI .i64 (i : Int))]) (fun _ => []) (fun i => i ≤ l.length ∧ ∀ q (hq : q < l.length), q < i → eqS c l[q] = false) (fun i => l.length - i) 0 ⟨Nat.zero_le _, fun q _ h => absurd h (Nat.not_lt_zero q)⟩ ?_ ?_
  · exact fun h => sat_le h hC hCl ⟨⟨_, rfl, .refl _⟩, ⟨_, rfl, .refl _⟩, ⟨_, rfl, .refl _⟩, ⟨_, rfl, .refl _⟩, trivial⟩ trivial rfl rfl (Nat.zero_le _)
  rintro i ⟨hi, hno⟩ ih
  refine sat_branch tabOk Tryz.func18 rfl trivial (fun hb => ?_) (fun hb => ?_)
  rotate_left
  · have hb : decide ((i : Int) < (((l.map eIs).length : Nat) : Int)) = false := hb
    rw [decide_eq_false_iff_not, List.length_map] at hb
    have e1 : takeR l c = none := by
      rw [takeR, List.findIdx?_eq_none_iff.2 fun x hx => ?_]
      · rfl
      · obtain ⟨q, hq, rfl⟩ := List.mem_iff_getElem.1 hx
        exact hno q hq (by omega)
    refine sat_ret tabOk Tryz.func18 rfl trivial ?_
    rw [woA, e1]
    rfl
  have hb : decide ((i : Int) < (((l.map eIs).length : Nat) : Int)) = true := hb
  rw [decide_eq_true_eq, List.length_map] at hb
  have hlt : i < l.length := by omega
  have eg : l.getD i [] = l[i] := by simp [hlt]
  obtain ⟨hd1, hd2⟩ := hll _ (List.getElem_mem hlt)
  rw [← eg] at hd1 hd2
  refine sat_call tabOk Tryz.func18 rfl (by simp only [andP, and_true, true_and, Int.toNat_natCast, List.length_map, List.length_append, List.length_cons, List.length_nil, List.length_replicate]; omega) (RSort_call (l.getD i []) hd1 hd2) (.refl _) rfl ⟨_, rfl⟩ (by rintro r o rfl; rfl) ?_
  rintro _ o rfl
  refine sat_call tabOk Tryz.func18 rfl trivial (Ints_call (sortU (l.getD i [])) (sortU c)) (.refl _) rfl ⟨_, rfl⟩ (by rintro r o rfl; rfl) ?_
  rintro _ o rfl
  refine sat_branch tabOk Tryz.func18 rfl trivial (fun h2 => ?_) (fun h2 => ?_)
  · have h2 : eqS c (l.getD i []) = true := h2
    rw [eg] at h2
    have e1 : takeR l c = some (l.take i ++ l.drop (i + 1)) := by
      have : l.findIdx? (eqS c) = some i := List.findIdx?_eq_some_iff_getElem.2 ⟨hlt, h2, fun q hq => by rw [hno q (by omega) hq]; decide⟩
      rw [takeR, this]
      rfl
    rw [woA, e1]
    have hpl : C.π.length = 0 := by rw [hCl, hC]; rfl
    have w1 : IntKind.i64.wrap ((i : Int) + 1) = (i : Int) + 1 := wrap_id (by omega) (by omega)
    refine sat_drawA 9 1 [(4, some (29, .gs 0))] (fun L => [some (pk 4 L (.grow 33 1 (List.take ((i : Int) - 0).toNat (List.drop (Int.toNat 0) (l.map eIs))) (fun j => eIs (l.getD (Int.toNat 0 + j) []))) HD)]) _ (objsF := [some (.grow 33 1 (List.take ((i : Int) - 0).toNat (List.drop (Int.toNat 0) (l.map eIs))) (fun j => eIs (l.getD (Int.toNat 0 + j) [])))]) tabOk Tryz.func18 rfl rfl trivial (by kernel_rfl) (by kernel_rfl) ?_ ?_ ?_ rfl (fun L => by
      refine ds_lit tabOk rfl rfl rfl rfl rfl rfl rfl ?_
      exact ds_done tabOk rfl (by rw [w1, List.length_map]; exact ⟨⟨by omega, by omega, Int.le_refl _⟩, ⟨Int.le_refl _, by omega, by omega⟩, trivial⟩) rfl) ?_ ?_
    · rfl
    · intro L hL
      simp only [pk_yes (hL 4 (by decide))]
    · intro j L hb
      simp only [actB, List.any_cons, List.any_nil, Bool.or_false] at hb
      have n1 := Nat.ne_of_beq_eq_false hb
      simp only [pk_ne (fun e => n1 e.symm)]
    · refine List.forall_mem_cons.2 ⟨⟨_, rfl, rfl, ?_⟩, fun x h => by cases h⟩
      refine headH_app0 (p := 0) (ys := List.take ((i : Int) - 0).toNat (List.drop (Int.toNat 0) (l.map eIs))) (rd2 := fun j => eIs (l.getD (Int.toNat 0 + j) [])) tabOk rfl (fun _ _ _ h => h) rfl rfl rfl (fun L => rfl) rfl rfl rfl rfl rfl rfl ?_ rfl rfl rfl (by omega) ?_ ?_
      · show (List.take ((i : Int) - 0).toNat (List.drop (Int.toNat 0) (l.map eIs))).length * 24 ≤ 140737488355328
        rw [List.length_take, List.length_drop, List.length_map]
        have : min ((i : Int) - 0).toNat (l.length - Int.toNat 0) ≤ l.length := by omega
        omega
      · intro L h1 _
        simp only [pk_no h1]
        rfl
      · intro L h1 _
        simp only [pk_self, pk_no h1]
        rfl
    have hln : (List.take ((i : Int) - 0).toNat (List.drop (Int.toNat 0) (l.map eIs))).length + (List.take ((((l.map eIs).length : Nat) : Int) - IntKind.i64.wrap ((i : Int) + 1)).toNat (List.drop (IntKind.i64.wrap ((i : Int) + 1)).toNat (l.map eIs))).length ≤ 2000000 := by
      simp only [List.length_take, List.length_drop, List.length_map]
      omega
    refine sat_steps 3 tabOk Tryz.func18 rfl ?nd ?_
    case nd =>
      refine ⟨?_, trivial⟩
      show ((List.take ((i : Int) - 0).toNat (List.drop (Int.toNat 0) (l.map eIs))).length + (List.take ((((l.map eIs).length : Nat) : Int) - IntKind.i64.wrap ((i : Int) + 1)).toNat (List.drop (IntKind.i64.wrap ((i : Int) + 1)).toNat (l.map eIs))).length) * 24 ≤ 140737488355328
      omega
    refine sat_freeze 0 rfl ?_
    refine sat_retL tabOk Tryz.func18 rfl trivial hC hCl (r2 := .tp [.d (eIss (l.take i ++ l.drop (i + 1))), vB true]) (VLe.tp ⟨VLe.eL ?_, .refl _, trivial⟩) (o2 := []) trivial rfl rfl (Nat.le_refl _) rfl
    rw [w1, List.map_append, List.map_take, List.map_drop]
    congr 1
    rw [show ((i : Int) + 1).toNat = i + 1 by omega, List.take_of_length_le]
    rw [List.length_drop, List.length_map]
    omega
  · have h2 : eqS c (l.getD i []) = false := h2
    rw [eg] at h2
    refine sat_stop tabOk Tryz.func18 rfl trivial ?_
    refine sat_le (ih (i + 1) ⟨by omega, fun q hq hqi => ?_⟩ (by omega)) hC hCl ⟨⟨_, rfl, .refl _⟩, ⟨_, rfl, .refl _⟩, ⟨_, rfl, .refl _⟩, ⟨_, rfl, .of (by rw [wrap_id (by omega) (by omega)]; rfl)⟩, trivial⟩ trivial rfl rfl (Nat.zero_le _)
    rcases Nat.lt_or_ge q i with h3 | h3
    · exact hno q hq h3
    · obtain rfl : q = i := by omega
      exact h2
theorem rrefutes_b {n : Int} {l : List (List Int)} {c : List Int} (h : Okl n l c) (hn : n ≤ 100000) (hll : l.length ≤ 1000000) (hc : c.length ≤ 1000000) : ACall Tryz.prog 19 [vI .i64 n, .d (eIss l), .d (eIs c)] [] (fun r o => r = vB (refB l c)) := by
  refine (RRefutes_call h hn hll hc).mono ?_
  rintro r o ⟨b, rfl, h1⟩
  congr 3
  rw [Bool.eq_iff_iff, h1, refB_iff]
theorem RCheck_call {n : Int} {l0 : List (List Int)} {p : List Sp} (hn : 0 ≤ n ∧ n ≤ 100000) (hc : Cls n l0) (hp : ∀ s ∈ p, (∀ x ∈ s.2.1, litOk n x) ∧ s.2.1.length ≤ 1000) (hs : l0.length + p.length ≤ 1000) :
    ACall Tryz.prog 7 [.d (eCnf n l0), .d (eSps p)] [] (fun r o => r = tupOf [vI .i64 ((chk l0 0 p).1 : Int), vI .i64 (chk l0 0 p).2]) := by
  refine acall_enter Tryz.func7 rfl rfl (Nat.le_of_ble_eq_true rfl) fun C hC hCl hDs hGk => ?_
  generalize hq : chk l0 0 p = q at *
  have hpl : C.π.length = 0 := by rw [hCl, hC]; rfl
  refine sat_stop tabOk Tryz.func7 rfl trivial ?_
  refine sat_while (α := Nat × List (List Int)) (fun s => [(1, .d (eSps p)), (2, .ptr 0 0), (6, .d (eIss s.2)), (7, vI .i64 (s.1 : Int))]) (fun s => [some (bCf n l0)]) (fun s => s.1 ≤ p.length ∧ Cls n s.2 ∧ s.2.length ≤ l0.length + s.1 ∧ chk s.2 s.1 (p.drop s.1) = q) (fun s => p.length - s.1) (0, l0) ⟨Nat.zero_le _, hc, Nat.le_refl _, hq⟩ ?_ ?_
  · exact fun h => sat_le h hC hCl ⟨⟨_, rfl, .refl _⟩, ⟨_, rfl, .refl _⟩, ⟨_, rfl, .refl _⟩, ⟨_, rfl, .refl _⟩, trivial⟩ ⟨.refl _, trivial⟩ rfl rfl (Nat.zero_le _)
  rintro ⟨i, l⟩ ⟨hi, hcl, hll, hck⟩ ih
  simp only at hi hcl hll hck ih ⊢
  refine sat_branch tabOk Tryz.func7 rfl trivial (fun h => ?_) (fun h => ?_)
  rotate_left
  · have h : decide ((i : Int) < (((p.map eSp).length : Nat) : Int)) = false := h
    rw [decide_eq_false_iff_not, List.length_map] at h
    obtain rfl : i = p.length := by omega
    rw [List.drop_length, chk] at hck
    refine sat_ret tabOk Tryz.func7 rfl trivial ?_
    rw [← hck]
    show tupOf [vI .i64 (((p.map eSp).length : Nat) : Int), vI .i64 6] = _
    rw [List.length_map]
  have h : decide ((i : Int) < (((p.map eSp).length : Nat) : Int)) = true := h
  rw [decide_eq_true_eq, List.length_map] at h
  have hlt : i < p.length := by omega
  have eg : p.getD i (false, [], ()) = p[i] := by simp [hlt]
  rw [List.drop_eq_getElem_cons hlt, chk] at hck
  have hps := hp _ (List.getElem_mem hlt)
  rw [← eg] at hps hck
  have hl1 : l.length ≤ 1000 := by omega
  have hok : Okl n l (p.getD i (false, [], ())).2.1 := ⟨hn.1, hcl.lit, hps.1⟩
  have hstep := stepR_cls hcl hps (l' := (stepR l (p.getD i (false, [], ()))).getD [])
  have hlim : ∀ d ∈ l, (∀ x ∈ d, -1000000 ≤ x ∧ x ≤ 1000000) ∧ d.length ≤ 1000000 := fun d hd => ⟨fun x hx => litOk_b (hcl.lit d hd x hx) hn.2, Nat.le_trans (hcl.len d hd) (by decide)⟩
  refine sat_branch tabOk Tryz.func7 rfl (by simp only [andP, and_true, true_and, Int.toNat_natCast, List.length_map, List.length_append, List.length_cons, List.length_nil, List.length_replicate]; omega) (fun hd => ?_) (fun hd => ?_)
  · have hd : (p.getD i (false, [], ())).1 = true := hd
    unfold stepR at hck hstep
    rw [hd] at hck hstep
    simp only [if_true] at hck hstep
    refine sat_call tabOk Tryz.func7 rfl (by simp only [andP, and_true, true_and, Int.toNat_natCast, List.length_map, List.length_append, List.length_cons, List.length_nil, List.length_replicate]; omega) (without_call (l := l) (c := (p.getD i (false, [], ())).2.1) hlim (fun x hx => litOk_b (hps.1 x hx) hn.2) (Nat.le_trans hps.2 (by decide)) (by omega)) (.refl _) rfl ⟨_, rfl⟩ ?_ ?_
    · rintro r o rfl
      unfold woA
      cases takeR l _ <;> rfl
    rintro _ o rfl
    unfold woA
    cases ht : takeR l (p.getD i (false, [], ())).2.1 with
    | none =>
      rw [ht] at hck
      refine sat_branch tabOk Tryz.func7 rfl trivial (fun _ => ?_) (fun h => by cases h)
      refine sat_ret tabOk Tryz.func7 rfl trivial ?_
      rw [← hck]
    | some l' =>
      rw [ht] at hck hstep
      obtain ⟨k1, k2⟩ := hstep rfl
      simp only [Option.getD_some] at k1 k2
      simp only [reduceCtorEq, false_and, if_false] at hck
      refine sat_branch tabOk Tryz.func7 rfl trivial (fun h => by cases h) (fun _ => ?_)
      refine sat_stop tabOk Tryz.func7 rfl trivial ?_
      exact sat_le (ih (i + 1, l') ⟨by simp only; omega, k1, by simp only; omega, hck⟩ (by simp only; omega)) hC hCl ⟨⟨_, rfl, .refl _⟩, ⟨_, rfl, .refl _⟩, ⟨_, rfl, .refl _⟩, ⟨_, rfl, .of (by rw [wrap_id (by omega) (by omega)]; rfl)⟩, trivial⟩ ⟨.refl _, trivial⟩ rfl rfl (Nat.zero_le _)
  · have hd : (p.getD i (false, [], ())).1 = false := hd
    unfold stepR at hck hstep
    rw [hd] at hck hstep
    simp only [Bool.false_eq_true, if_false] at hck hstep
    refine sat_drawT 8 tabOk Tryz.func7 rfl rfl trivial (by kernel_rfl) ?_
    refine ds_done tabOk rfl (by simp only [andP, and_true, true_and, Int.toNat_natCast, List.length_map, List.length_append, List.length_cons, List.length_nil, List.length_replicate]; omega) ?_
    refine sat_call tabOk Tryz.func7 rfl trivial (rrefutes_b hok hn.2 (by omega) (Nat.le_trans hps.2 (by decide))) (.refl _) rfl ⟨_, rfl⟩ (by rintro r o rfl; rfl) ?_
    rintro _ o rfl
    cases ht : refB l (p.getD i (false, [], ())).2.1 with
    | false =>
      rw [ht] at hck
      refine sat_branch tabOk Tryz.func7 rfl trivial (fun _ => ?_) (fun h => by cases h)
      refine sat_ret tabOk Tryz.func7 rfl trivial ?_
      rw [← hck]
      rfl
    | true =>
      rw [ht] at hck hstep
      obtain ⟨k1, k2⟩ := hstep rfl
      simp only [if_true, Option.getD_some] at k1 k2
      simp only [if_true, true_and] at hck
      refine sat_branch tabOk Tryz.func7 rfl trivial (fun h => by cases h) (fun _ => ?_)
      refine sat_branch tabOk Tryz.func7 rfl (by simp only [andP, and_true, true_and, Int.toNat_natCast, List.length_map, List.length_append, List.length_cons, List.length_nil, List.length_replicate]; omega) (fun h3 => ?_) (fun h3 => ?_)
      · have h3 : (((((p.getD i (false, [], ())).2.1.map eI).length : Nat) : Int) == 0) = true := h3
        rw [beq_iff_eq, List.length_map] at h3
        have h3 : (p.getD i (false, [], ())).2.1 = [] := List.length_eq_zero_iff.1 (by omega)
        rw [if_pos h3] at hck
        refine sat_ret tabOk Tryz.func7 rfl trivial ?_
        rw [← hck]
      · have h3 : (((((p.getD i (false, [], ())).2.1.map eI).length : Nat) : Int) == 0) = false := h3
        rw [beq_eq_false_iff_ne, List.length_map] at h3
        have h3 : ¬ (p.getD i (false, [], ())).2.1 = [] := fun e => h3 (by rw [e]; rfl)
        rw [if_neg h3] at hck
        refine sat_drawA 9 1 [(2, some (60, .gs 1))] (fun L => [some (bCf n l0), some (pk 2 L (gIss l) HD)]) _ (objsF := [some (bCf n l0), some (gIss l)]) tabOk Tryz.func7 rfl rfl trivial (by kernel_rfl) (by kernel_rfl) ?_ ?_ ?_ rfl (fun L => by
          refine ds_lit tabOk rfl rfl rfl rfl rfl rfl rfl ?_
          refine ds_steps 6 tabOk rfl (by rw [List.length_map]; exact ⟨⟨by omega, by omega⟩, trivial⟩) ?_
          refine ds_lit tabOk rfl rfl rfl rfl rfl rfl rfl ?_
          exact ds_done tabOk rfl trivial rfl) ?_ ?_
        · rfl
        · intro L hL
          simp only [pk_yes (hL 2 (by decide))]
        · intro j L hb
          simp only [actB, List.any_cons, List.any_nil, Bool.or_false] at hb
          have n1 := Nat.ne_of_beq_eq_false hb
          simp only [pk_ne (fun e => n1 e.symm)]
        · refine List.forall_mem_cons.2 ⟨⟨_, rfl, rfl, ?_⟩, fun x h => by cases h⟩
          refine headH_app0 (p := 1) (ys := l.map eIs) (rd2 := fun j => eIs (l.getD j [])) tabOk rfl (fun _ _ _ h => h) rfl rfl rfl (fun L => rfl) rfl rfl rfl rfl rfl rfl ?_ rfl rfl rfl (by omega) ?_ ?_
          · show (l.map eIs).length * 24 ≤ 140737488355328
            rw [List.length_map]
            omega
          · intro L h1 _
            simp only [pk_no h1]
            rfl
          · intro L h1 _
            simp only [pk_self, pk_no h1]
            rfl
        refine sat_steps 2 tabOk Tryz.func7 rfl ?nd ?_
        case nd =>
          show ((l.map eIs).length + 1) * 24 ≤ 140737488355328 ∧ True
          rw [List.length_map]
          exact ⟨by omega, trivial⟩
        refine sat_freeze 1 rfl ?_
        refine sat_stop tabOk Tryz.func7 rfl trivial ?_
        refine sat_le (ih (i + 1, l ++ [(p.getD i (false, [], ())).2.1]) ⟨by simp only; omega, k1, by simp only; omega, hck⟩ (by simp only; omega)) hC hCl ⟨⟨_, rfl, .refl _⟩, ⟨_, rfl, .refl _⟩, ⟨_, rfl, .eL ?_⟩, ⟨_, rfl, .of (by rw [wrap_id (by omega) (by omega)]; rfl)⟩, trivial⟩ ⟨.refl _, trivial⟩ rfl rfl (Nat.zero_le _)
        rw [List.map_append]
        rfl
end Go.Proofs.YtffomfbbplpljaaGreatDoor
namespace Go.Proofs.YtffomfbbplpljaaGreatDoor
open Go Ab Go.RowKit
set_option maxRecDepth 100000
set_option linter.unusedVariables false
set_option linter.unusedSimpArgs false
set_option maxHeartbeats 4000000

theorem checks_call (n : Int) (l : List (List Int)) (p : List Sp) (hll : l.length ≤ maxLen) (hcl : ∀ c ∈ l, c.length ≤ maxLen) (hpl : ∀ s ∈ p, s.2.1.length ≤ maxLen) : ACall Tryz.prog 3 [.d (eCnf n l), .d (eSps p)] [] (fun r o => r = vB true) := by
  refine acall_enter Tryz.func3 rfl rfl (Nat.le_of_ble_eq_true rfl) fun C hC hCl hDs hGk => ?_
  refine sat_call tabOk Tryz.func3 rfl trivial shown_call (.refl _) rfl ⟨_, rfl⟩ (by rintro r o rfl; rfl) ?_
  rintro _ o rfl
  refine sat_call tabOk Tryz.func3 rfl trivial (may_call n l p hll hcl hpl) (.refl _) rfl ⟨_, rfl⟩ (by rintro r o rfl; rfl) ?_
  rintro _ o rfl
  cases hm : mayB n l p with
  | false =>
    refine sat_branch tabOk Tryz.func3 rfl trivial (fun _ => ?_) (fun h => by cases h)
    exact sat_ret tabOk Tryz.func3 rfl trivial rfl
  | true =>
    have h := may_of hm
    refine sat_branch tabOk Tryz.func3 rfl trivial (fun h => by cases h) (fun _ => ?_)
    refine sat_call tabOk Tryz.func3 rfl trivial (Check_call (n := n) (l0 := l) (p := p) ⟨h.n0, Int.le_trans h.n1 (by decide)⟩ h.cls h.ps (by have := h.ll; have := h.pl; omega)) (.refl _) rfl ⟨_, rfl⟩ (by rintro r o rfl; rfl) ?_
    rintro _ o rfl
    refine sat_call tabOk Tryz.func3 rfl trivial (RCheck_call (n := n) (l0 := l) (p := p) ⟨h.n0, Int.le_trans h.n1 (by decide)⟩ h.cls h.ps (by have := h.ll; have := h.pl; omega)) (.refl _) rfl ⟨_, rfl⟩ (by rintro r o rfl; rfl) ?_
    rintro _ o rfl
    refine sat_branch tabOk Tryz.func3 rfl trivial (fun _ => ?_) (fun h => by cases h)
    refine sat_branch tabOk Tryz.func3 rfl trivial (fun h1 => ?_) (fun h1 => ?_)
    · refine sat_ret tabOk Tryz.func3 rfl trivial ?_
      show vB ((chk l 0 p).2 == (chk l 0 p).2) = _
      rw [beq_self_eq_true]
    · have h1 : (((chk l 0 p).1 : Int) == ((chk l 0 p).1 : Int)) = false := h1
      rw [beq_self_eq_true] at h1
      cases h1
end Go.Proofs.YtffomfbbplpljaaGreatDoor
