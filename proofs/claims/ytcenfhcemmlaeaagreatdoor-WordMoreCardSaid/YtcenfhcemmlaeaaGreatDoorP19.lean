/- A part of the proof: X4, X5, X6, X7, Ab64, X8, X9, X10, X11, X12, X13, Ab65, X14, X15, X16, Ab66, X17, X18, Y1, Y2, Y3, Y4, Y5. -/
import Derived.Test.YtcenfhcemmlaeaaGreatDoorP18
import Derived.KernelRfl
set_option linter.unusedVariables false
set_option linter.unusedSimpArgs false
namespace Go.Proofs.YtcenfhcemmlaeaaGreatDoor
open Go Ab
set_option maxRecDepth 100000
set_option linter.unusedVariables false
set_option linter.unusedSimpArgs false
set_option maxHeartbeats 2000000
theorem meth_bits (w : World) : (Go.method (Tryz.prog.types.size + Made.depth) 112 (.agg #[]) "vidimus/word.value").run Tryz.prog w = .ok (130, .agg #[]) w := by kernel_rfl
theorem meth_ite (w : World) : (Go.method (Tryz.prog.types.size + Made.depth) 113 (.agg #[]) "vidimus/word.value").run Tryz.prog w = .ok (131, .agg #[]) w := by kernel_rfl
theorem meth_part (w : World) : (Go.method (Tryz.prog.types.size + Made.depth) 114 (.agg #[]) "vidimus/word.value").run Tryz.prog w = .ok (133, .agg #[]) w := by kernel_rfl
theorem meth_more (w : World) : (Go.method (Tryz.prog.types.size + Made.depth) 115 (.agg #[]) "vidimus/word.value").run Tryz.prog w = .ok (140, .agg #[]) w := by kernel_rfl
theorem meth_one (w : World) : (Go.method (Tryz.prog.types.size + Made.depth) 118 (.agg #[]) "vidimus/word.value").run Tryz.prog w = .ok (153, .agg #[]) w := by kernel_rfl
theorem meth_two (w : World) : (Go.method (Tryz.prog.types.size + Made.depth) 119 (.agg #[]) "vidimus/word.value").run Tryz.prog w = .ok (173, .agg #[]) w := by kernel_rfl

/-! ### Rows of right vectors; what a line's op does with the values it takes -/
@[reducible] def eNums (l : List (Nat × Nat)) : D := eL 2 (fun p : Nat × Nat => vN p.1 p.2) (0, 0) l
@[reducible] def aG0 : AV := .d (.ag [])
@[reducible] def aI (t : TypeId) : AV := .d (.ifc t (.ag []))
theorem one_value (x : Nd) (w y w' y' : Nat) (h : ACall Tryz.prog 154 [vSL x.op, .d (vN w y)] [] (fun r o => r = tupOf [.d (vN w' y'), vI .i64 0])) : ACall Tryz.prog 153 [aG0, .d (eNd x), .d (eNums [(w, y)])] [] (fun r o => r = tupOf [.d (vN w' y'), vI .i64 0]) := by
  refine acall_enter Tryz.func153 rfl rfl (Nat.le_of_ble_eq_true rfl) fun C hC hCl hDs => ?_
  refine sat_drawT 8 tabOk Tryz.func153 rfl rfl trivial (by kernel_rfl) ?_
  refine ds_call tabOk rfl (by simp only [andP, and_true, true_and, Int.toNat_natCast, List.length_map, List.length_append, List.length_cons, List.length_nil, List.length_replicate]; omega) h (callFunc_run Tryz.func154 rfl rfl) (by rintro r o rfl; rfl) (.refl _) rfl rfl ⟨_, rfl⟩ ?_
  refine ds_done tabOk rfl trivial ?_
  exact sat_ret tabOk Tryz.func153 rfl trivial rfl
theorem two_value (x : Nd) (w y v z w' y' : Nat) (h : ACall Tryz.prog 174 [vSL x.op, .d (vN w y), .d (vN v z)] [] (fun r o => r = tupOf [.d (vN w' y'), vI .i64 0])) : ACall Tryz.prog 173 [aG0, .d (eNd x), .d (eNums [(w, y), (v, z)])] [] (fun r o => r = tupOf [.d (vN w' y'), vI .i64 0]) := by
  refine acall_enter Tryz.func173 rfl rfl (Nat.le_of_ble_eq_true rfl) fun C hC hCl hDs => ?_
  refine sat_drawT 11 tabOk Tryz.func173 rfl rfl trivial (by kernel_rfl) ?_
  refine ds_call tabOk rfl (by simp only [andP, and_true, true_and, Int.toNat_natCast, List.length_map, List.length_append, List.length_cons, List.length_nil, List.length_replicate]; omega) h (callFunc_run Tryz.func174 rfl rfl) (by rintro r o rfl; rfl) (.refl _) rfl rfl ⟨_, rfl⟩ ?_
  refine ds_done tabOk rfl trivial ?_
  exact sat_ret tabOk Tryz.func173 rfl trivial rfl
theorem ite_value (x : Nd) (c w y z : Nat) (hc : c < 2 ^ 1) : ACall Tryz.prog 131 [aG0, .d (eNd x), .d (eNums [(1, c), (w, y), (w, z)])] [] (fun r o => r = tupOf [.d (vN w (if c = 1 then y else z)), vI .i64 0]) := by
  refine acall_enter Tryz.func131 rfl rfl (Nat.le_of_ble_eq_true rfl) fun C hC hCl hDs => ?_
  refine sat_drawT 12 tabOk Tryz.func131 rfl rfl trivial (by kernel_rfl) ?_
  refine ds_call tabOk rfl (by simp only [andP, and_true, true_and, Int.toNat_natCast, List.length_map, List.length_append, List.length_cons, List.length_nil, List.length_replicate]; omega) (Ite_ok c w y z hc) (callFunc_run Tryz.func132 rfl rfl) (by rintro r o rfl; rfl) (.refl _) rfl rfl ⟨_, rfl⟩ ?_
  refine ds_done tabOk rfl trivial ?_
  exact sat_ret tabOk Tryz.func131 rfl trivial rfl
theorem part_value (x : Nd) (w y lo hi : Nat) (hwb : w ≤ 128) (h1 : lo ≤ hi) (h2 : hi < w) (hn : x.n.length = 2) (e0 : x.n.getD 0 0 = hi) (e1 : x.n.getD 1 0 = lo) : ACall Tryz.prog 133 [aG0, .d (eNd x), .d (eNums [(w, y)])] [] (fun r o => r = tupOf [.d (vN (hi - lo + 1) (slN y lo (hi - lo + 1))), vI .i64 0]) := by
  refine acall_enter Tryz.func133 rfl rfl (Nat.le_of_ble_eq_true rfl) fun C hC hCl hDs => ?_
  refine sat_drawT 14 tabOk Tryz.func133 rfl rfl trivial (by kernel_rfl) ?_
  refine ds_call tabOk rfl (by simp only [andP, and_true, true_and, Int.toNat_natCast, List.length_map, List.length_append, List.length_cons, List.length_nil, List.length_replicate, hn]; omega) (Slice_ok w y lo hi hwb h1 h2) (callFunc_run Tryz.func134 rfl rfl) (by rintro r o rfl; rfl) ⟨.refl _, .of (by show AV.d (eI (x.n.getD 0 0)) = _; rw [e0]; rfl), .of (by show AV.d (eI (x.n.getD 1 0)) = _; rw [e1]; rfl), trivial⟩ rfl rfl ⟨_, rfl⟩ ?_
  refine ds_done tabOk rfl trivial ?_
  exact sat_ret tabOk Tryz.func133 rfl trivial rfl
theorem more_value (x : Nd) (w y n : Nat) (s : Bool) (hw : 0 < w) (hwb : w ≤ 128) (hnb : w + n ≤ 128) (hn : x.n.length = 1) (e0 : x.n.getD 0 0 = n) (hs : decide (x.op = kSext) = s) : ACall Tryz.prog 140 [aG0, .d (eNd x), .d (eNums [(w, y)])] [] (fun r o => r = tupOf [.d (vN (w + n) (exN w y n (s && y.testBit (w - 1)))), vI .i64 0]) := by
  refine acall_enter Tryz.func140 rfl rfl (Nat.le_of_ble_eq_true rfl) fun C hC hCl hDs => ?_
  refine sat_drawT 13 tabOk Tryz.func140 rfl rfl trivial (by kernel_rfl) ?_
  refine ds_call tabOk rfl (by simp only [andP, and_true, true_and, Int.toNat_natCast, List.length_map, List.length_append, List.length_cons, List.length_nil, List.length_replicate, hn]; omega) (Ext_ok w y n s hw hwb hnb (repOk _ _ (by omega))) (callFunc_run Tryz.func141 rfl rfl) (by rintro r o rfl; rfl) ⟨.refl _, .of (by show AV.d (eI (x.n.getD 0 0)) = _; rw [e0]; rfl), .of (by show vB ((⟨x.op.toArray⟩ : ByteArray).toList == (⟨kSext.toArray⟩ : ByteArray).toList) = _; rw [strB, hs]), trivial⟩ rfl rfl ⟨_, rfl⟩ ?_
  refine ds_done tabOk rfl trivial ?_
  exact sat_ret tabOk Tryz.func140 rfl trivial rfl
theorem bits_value (x : Nd) (a : List (Nat × Nat)) (w y : Nat) (hl : x.t.length ≤ 1000000000) (h : mkR x.t = tupOf [.d (vN w y), vI .i64 0]) : ACall Tryz.prog 130 [aG0, .d (eNd x), .d (eNums a)] [] (fun r o => r = tupOf [.d (vN w y), vI .i64 0]) := by
  refine acall_enter Tryz.func130 rfl rfl (Nat.le_of_ble_eq_true rfl) fun C hC hCl hDs => ?_
  refine sat_call tabOk Tryz.func130 rfl trivial ((Make_call x.t hl).mono fun r o hr => hr.trans h) (.refl _) rfl ⟨_, rfl⟩ (by rintro r o rfl; rfl) ?_
  rintro r o rfl
  exact sat_ret tabOk Tryz.func130 rfl trivial rfl

/-- What an op does. -/
def ofT (x : Nd) : TypeId := if x.op = kConst then 112 else if x.op = kIte then 113 else if x.op = kSlice then 114 else if x.op = kUext ∨ x.op = kSext then 115 else if x.a.length = 1 then 118 else 119
def ofE : List (List UInt8 × AV) := [(kConst, aI 112), (kIte, aI 113), (kSlice, aI 114), (kUext, aI 115), (kSext, aI 115)]
theorem ofE_find (op : List UInt8) : MFind (strK op) (ofE.map fun p => (strK p.1, p.2)) (assocK op ofE) := by
  have := mfind_assoc op (fun i => i) ofE
  have e1 : renEs (fun i => i) (ofE.map fun p => (strK p.1, p.2)) = ofE.map fun p => (strK p.1, p.2) := rfl
  have e2 : (assocK op ofE).map (AV.ren fun i => i) = assocK op ofE := by
    cases h : assocK op ofE with
    | none => rfl
    | some a =>
      have : ∀ es : List (List UInt8 × AV), (∀ p ∈ es, ∃ t, p.2 = aI t) → assocK op es = some a → ∃ t, a = aI t := by
        intro es
        induction es with
        | nil => intro _ h; cases h
        | cons p r ih =>
          intro h1 h2
          simp only [assocK] at h2
          split at h2
          · cases h2
            exact h1 p (List.mem_cons_self ..)
          · exact ih (fun q hq => h1 q (List.mem_cons_of_mem _ hq)) h2
      obtain ⟨t, rfl⟩ := this ofE (by
        intro p hp
        simp only [ofE, List.mem_cons, List.not_mem_nil, or_false] at hp
        rcases hp with rfl | rfl | rfl | rfl | rfl <;> exact ⟨_, rfl⟩) h
      rfl
  rw [e1, e2] at this
  exact this
theorem of_call (x : Nd) : ACall Tryz.prog 39 [.d (eNd x)] [] (fun r o => r = aI (ofT x)) := by
  refine acall_enter Tryz.func39 rfl rfl (Nat.le_of_ble_eq_true rfl) fun C hC hCl hDs => ?_
  refine sat_steps 12 tabOk Tryz.func39 rfl trivial ?_
  refine sat_insert (es' := (ofE.take 1).map fun p => (strK p.1, p.2)) tabOk rfl rfl rfl rfl rfl rfl rfl rfl rfl rfl rfl rfl (by kernel_rfl) ?_ ?_
  · exact mput_new (k := kConst) (es := ofE.take 0) (by intro p hp; revert p; decide)
  refine sat_le (env' := [(1, .ptr 0 0), (2, .d (.v .nilIface)), (6, .mp 1)]) (objs' := [some (bNd x), some (mpK (ofE.take 1))]) ?_ hC hCl ⟨⟨_, rfl, .refl _⟩, ⟨_, rfl, .refl _⟩, ⟨_, rfl, .refl _⟩, trivial⟩ ⟨.refl _, .refl _, trivial⟩ rfl rfl (Nat.zero_le _)
  refine sat_steps 2 tabOk Tryz.func39 rfl trivial ?_
  refine sat_insert (es' := (ofE.take 2).map fun p => (strK p.1, p.2)) tabOk rfl rfl rfl rfl rfl rfl rfl rfl rfl rfl rfl rfl (by kernel_rfl) ?_ ?_
  · exact mput_new (k := kIte) (es := ofE.take 1) (by intro p hp; revert p; decide)
  refine sat_le (env' := [(1, .ptr 0 0), (2, .d (.v .nilIface)), (6, .mp 1)]) (objs' := [some (bNd x), some (mpK (ofE.take 2))]) ?_ hC hCl ⟨⟨_, rfl, .refl _⟩, ⟨_, rfl, .refl _⟩, ⟨_, rfl, .refl _⟩, trivial⟩ ⟨.refl _, .refl _, trivial⟩ rfl rfl (Nat.zero_le _)
  refine sat_steps 2 tabOk Tryz.func39 rfl trivial ?_
  refine sat_insert (es' := (ofE.take 3).map fun p => (strK p.1, p.2)) tabOk rfl rfl rfl rfl rfl rfl rfl rfl rfl rfl rfl rfl (by kernel_rfl) ?_ ?_
  · exact mput_new (k := kSlice) (es := ofE.take 2) (by intro p hp; revert p; decide)
  refine sat_le (env' := [(1, .ptr 0 0), (2, .d (.v .nilIface)), (6, .mp 1)]) (objs' := [some (bNd x), some (mpK (ofE.take 3))]) ?_ hC hCl ⟨⟨_, rfl, .refl _⟩, ⟨_, rfl, .refl _⟩, ⟨_, rfl, .refl _⟩, trivial⟩ ⟨.refl _, .refl _, trivial⟩ rfl rfl (Nat.zero_le _)
  refine sat_steps 2 tabOk Tryz.func39 rfl trivial ?_
  refine sat_insert (es' := (ofE.take 4).map fun p => (strK p.1, p.2)) tabOk rfl rfl rfl rfl rfl rfl rfl rfl rfl rfl rfl rfl (by kernel_rfl) ?_ ?_
  · exact mput_new (k := kUext) (es := ofE.take 3) (by intro p hp; revert p; decide)
  refine sat_le (env' := [(1, .ptr 0 0), (2, .d (.v .nilIface)), (6, .mp 1)]) (objs' := [some (bNd x), some (mpK (ofE.take 4))]) ?_ hC hCl ⟨⟨_, rfl, .refl _⟩, ⟨_, rfl, .refl _⟩, ⟨_, rfl, .refl _⟩, trivial⟩ ⟨.refl _, .refl _, trivial⟩ rfl rfl (Nat.zero_le _)
  refine sat_steps 2 tabOk Tryz.func39 rfl trivial ?_
  refine sat_insert (es' := (ofE.take 5).map fun p => (strK p.1, p.2)) tabOk rfl rfl rfl rfl rfl rfl rfl rfl rfl rfl rfl rfl (by kernel_rfl) ?_ ?_
  · exact mput_new (k := kSext) (es := ofE.take 4) (by intro p hp; revert p; decide)
  refine sat_le (env' := [(1, .ptr 0 0), (2, .d (.v .nilIface)), (6, .mp 1)]) (objs' := [some (bNd x), some (mpK (ofE.take 5))]) ?_ hC hCl ⟨⟨_, rfl, .refl _⟩, ⟨_, rfl, .refl _⟩, ⟨_, rfl, .refl _⟩, trivial⟩ ⟨.refl _, .refl _, trivial⟩ rfl rfl (Nat.zero_le _)
  refine sat_steps 16 tabOk Tryz.func39 rfl trivial ?_
  have hof : (assocK x.op ofE = some (aI (ofT x))) ∨ (assocK x.op ofE = none ∧ ofT x = if x.a.length = 1 then 118 else 119) := by
    unfold ofT
    by_cases h1 : x.op = kConst
    · rw [if_pos h1, h1]
      exact .inl rfl
    by_cases h2 : x.op = kIte
    · rw [if_neg h1, if_pos h2, h2]
      exact .inl rfl
    by_cases h3 : x.op = kSlice
    · rw [if_neg h1, if_neg h2, if_pos h3, h3]
      exact .inl rfl
    by_cases h4 : x.op = kUext
    · rw [if_neg h1, if_neg h2, if_neg h3, if_pos (.inl h4), h4]
      exact .inl rfl
    by_cases h5 : x.op = kSext
    · rw [if_neg h1, if_neg h2, if_neg h3, if_pos (.inr h5), h5]
      exact .inl rfl
    rw [if_neg h1, if_neg h2, if_neg h3, if_neg (by rintro (h | h); exact h4 h; exact h5 h)]
    refine .inr ⟨?_, rfl⟩
    rw [ofE, assoc_ne h1, assoc_ne h2, assoc_ne h3, assoc_ne h4, assoc_ne h5]
    rfl
  have hfind := ofE_find x.op
  rcases hof with h | ⟨h, hT⟩
  · rw [h] at hfind
    refine sat_lookup tabOk rfl rfl rfl rfl rfl rfl rfl rfl rfl rfl rfl rfl hfind rfl ?_
    refine sat_branch tabOk Tryz.func39 rfl trivial (fun _ => ?_) (fun h => by cases h)
    exact sat_ret tabOk Tryz.func39 rfl trivial rfl
  · rw [h] at hfind
    refine sat_lookup tabOk rfl rfl rfl rfl rfl rfl rfl rfl rfl rfl rfl rfl hfind rfl ?_
    refine sat_branch tabOk Tryz.func39 rfl trivial (fun h => by cases h) (fun _ => ?_)
    refine sat_branch tabOk Tryz.func39 rfl trivial (fun g => ?_) (fun g => ?_)
    · have g : ((((x.a.map eI).length : Nat) : Int) == 1) = true := g
      rw [List.length_map] at g
      refine sat_ret tabOk Tryz.func39 rfl trivial ?_
      rw [hT, if_pos (by have := eq_of_beq g; omega)]
      rfl
    · have g : ((((x.a.map eI).length : Nat) : Int) == 1) = false := g
      rw [List.length_map] at g
      refine sat_ret tabOk Tryz.func39 rfl trivial ?_
      rw [hT, if_neg (by rintro e; rw [e] at g; cases g)]
      rfl
end Go.Proofs.YtcenfhcemmlaeaaGreatDoor
namespace Go.Proofs.YtcenfhcemmlaeaaGreatDoor
open Go Ab
set_option maxRecDepth 100000
set_option linter.unusedVariables false
set_option linter.unusedSimpArgs false
set_option maxHeartbeats 4000000

/-! ### The value of a line that takes values -/
def unV (op : List UInt8) (w x : Nat) : Option (Nat × Nat) :=
  if op = sNot then some (w, 2 ^ w - (x + 1))
  else if op = sInc then some (w, (x + 1) % 2 ^ w)
  else if op = sDec then some (w, (x + (2 ^ w - 1)) % 2 ^ w)
  else if op = sNeg then some (w, (0 + (2 ^ w - (x + 1)) + 1) % 2 ^ w)
  else if op = sRedand then some (1, if onN w x = w then 1 else 0)
  else if op = sRedor then some (1, if 0 < onN w x then 1 else 0)
  else if op = sRedxor then some (1, if onN w x % 2 = 1 then 1 else 0)
  else none
theorem unR_eq (op : List UInt8) (w x : Nat) : unR op w x = rbinA (unV op w x) := by
  unfold unR unV
  by_cases h1 : op = sNot
  · rw [if_pos h1, if_pos h1]; rfl
  by_cases h2 : op = sInc
  · rw [if_neg h1, if_pos h2, if_neg h1, if_pos h2]; rfl
  by_cases h3 : op = sDec
  · rw [if_neg h1, if_neg h2, if_pos h3, if_neg h1, if_neg h2, if_pos h3]; rfl
  by_cases h4 : op = sNeg
  · rw [if_neg h1, if_neg h2, if_neg h3, if_pos h4, if_neg h1, if_neg h2, if_neg h3, if_pos h4]; rfl
  by_cases h5 : op = sRedand
  · rw [if_neg h1, if_neg h2, if_neg h3, if_neg h4, if_pos h5, if_neg h1, if_neg h2, if_neg h3, if_neg h4, if_pos h5]; rfl
  by_cases h6 : op = sRedor
  · rw [if_neg h1, if_neg h2, if_neg h3, if_neg h4, if_neg h5, if_pos h6, if_neg h1, if_neg h2, if_neg h3, if_neg h4, if_neg h5, if_pos h6]; rfl
  by_cases h7 : op = sRedxor
  · rw [if_neg h1, if_neg h2, if_neg h3, if_neg h4, if_neg h5, if_neg h6, if_pos h7, if_neg h1, if_neg h2, if_neg h3, if_neg h4, if_neg h5, if_neg h6, if_pos h7]; rfl
  rw [if_neg h1, if_neg h2, if_neg h3, if_neg h4, if_neg h5, if_neg h6, if_neg h7, if_neg h1, if_neg h2, if_neg h3, if_neg h4, if_neg h5, if_neg h6, if_neg h7]; rfl
def isRed (op : List UInt8) : Prop := op = kRedand ∨ op = kRedor ∨ op = kRedxor
def isCmp (op : List UInt8) : Prop := op = kEq ∨ op = kUlt ∨ op = kSlt
theorem unV_ok {op : List UInt8} {w x : Nat} {p : Nat × Nat} (hx : x < 2 ^ w) (h : unV op w x = some p) : p.2 < 2 ^ p.1 ∧ ((isRed op ∧ p.1 = 1) ∨ (¬ isRed op ∧ p.1 = w)) := by
  have hp := Nat.two_pow_pos w
  unfold unV at h
  by_cases h1 : op = sNot
  · rw [if_pos h1] at h; cases h; subst h1; exact ⟨by show _ < 2 ^ w; omega, .inr ⟨by unfold isRed; decide, rfl⟩⟩
  by_cases h2 : op = sInc
  · rw [if_neg h1, if_pos h2] at h; cases h; subst h2; exact ⟨Nat.mod_lt _ hp, .inr ⟨by unfold isRed; decide, rfl⟩⟩
  by_cases h3 : op = sDec
  · rw [if_neg h1, if_neg h2, if_pos h3] at h; cases h; subst h3; exact ⟨Nat.mod_lt _ hp, .inr ⟨by unfold isRed; decide, rfl⟩⟩
  by_cases h4 : op = sNeg
  · rw [if_neg h1, if_neg h2, if_neg h3, if_pos h4] at h; cases h; subst h4; exact ⟨Nat.mod_lt _ hp, .inr ⟨by unfold isRed; decide, rfl⟩⟩
  by_cases h5 : op = sRedand
  · rw [if_neg h1, if_neg h2, if_neg h3, if_neg h4, if_pos h5] at h; cases h; exact ⟨by show (if _ then _ else _) < 2 ^ 1; split <;> decide, .inl ⟨.inl h5, rfl⟩⟩
  by_cases h6 : op = sRedor
  · rw [if_neg h1, if_neg h2, if_neg h3, if_neg h4, if_neg h5, if_pos h6] at h; cases h; exact ⟨by show (if _ then _ else _) < 2 ^ 1; split <;> decide, .inl ⟨.inr (.inl h6), rfl⟩⟩
  by_cases h7 : op = sRedxor
  · rw [if_neg h1, if_neg h2, if_neg h3, if_neg h4, if_neg h5, if_neg h6, if_pos h7] at h; cases h; exact ⟨by show (if _ then _ else _) < 2 ^ 1; split <;> decide, .inl ⟨.inr (.inr h7), rfl⟩⟩
  rw [if_neg h1, if_neg h2, if_neg h3, if_neg h4, if_neg h5, if_neg h6, if_neg h7] at h
  cases h
theorem binR_w {op : List UInt8} {w x y : Nat} {p : Nat × Nat} (h : binR op w x y = some p) : (isCmp op ∧ p.1 = 1) ∨ (¬ isCmp op ∧ p.1 = w) := by
  by_cases hc : isCmp op
  · refine .inl ⟨hc, ?_⟩
    rcases hc with rfl | rfl | rfl <;> (revert h; intro h; cases h; rfl)
  · refine .inr ⟨hc, ?_⟩
    have n1 : op ≠ sEq := fun e => hc (.inl e)
    have n2 : op ≠ sUlt := fun e => hc (.inr (.inl e))
    have n3 : op ≠ sSlt := fun e => hc (.inr (.inr e))
    unfold binR at h
    rw [if_neg n1, if_neg n2, if_neg n3] at h
    revert h
    repeat' split
    all_goals (intro h; cases h)
    all_goals rfl

def opV (x : Nd) (a : List (Nat × Nat)) : Nat × Nat :=
  if x.op = kConst then (x.t.length, mkN x.t)
  else if x.op = kIte then ((a.getD 1 (0, 0)).1, if (a.getD 0 (0, 0)).2 = 1 then (a.getD 1 (0, 0)).2 else (a.getD 2 (0, 0)).2)
  else if x.op = kSlice then ((x.n.getD 0 0).toNat - (x.n.getD 1 0).toNat + 1, slN (a.getD 0 (0, 0)).2 (x.n.getD 1 0).toNat ((x.n.getD 0 0).toNat - (x.n.getD 1 0).toNat + 1))
  else if x.op = kUext ∨ x.op = kSext then ((a.getD 0 (0, 0)).1 + (x.n.getD 0 0).toNat, exN (a.getD 0 (0, 0)).1 (a.getD 0 (0, 0)).2 (x.n.getD 0 0).toNat (decide (x.op = kSext) && (a.getD 0 (0, 0)).2.testBit ((a.getD 0 (0, 0)).1 - 1)))
  else if x.a.length = 1 then (unV x.op (a.getD 0 (0, 0)).1 (a.getD 0 (0, 0)).2).getD (0, 0)
  else if x.op = kConcat then ((a.getD 0 (0, 0)).1 + (a.getD 1 (0, 0)).1, jnN (a.getD 0 (0, 0)).1 (a.getD 0 (0, 0)).2 (a.getD 1 (0, 0)).1 (a.getD 1 (0, 0)).2)
  else (binR x.op (a.getD 0 (0, 0)).1 (a.getD 0 (0, 0)).2 (a.getD 1 (0, 0)).2).getD (0, 0)
theorem kind_of {op : List UInt8} (h : (formR op).2 = true) (hv : isVal op = true) (h1 : op ≠ kConst) (h2 : op ≠ kInput) (h3 : op ≠ kState) (h4 : op ≠ kIte) (h5 : op ≠ kSlice) (h6 : op ≠ kUext) (h7 : op ≠ kSext) :
    ((formR op).1.count 97 = 1 ∧ (∀ w x, (unV op w x).isSome = true) ∧ ∀ k ∈ [kSort, kInput, kState, kConst, kBad, kConstraint, kInit, kNext, kEq, kUlt, kSlt, kConcat, kIte, kSlice, kUext, kSext], op ≠ k) ∨
    ((formR op).1.count 97 = 2 ∧ (op = kConcat ∨ (op ≠ kConcat ∧ (∀ w x y, (binR op w x y).isSome = true) ∧ ∀ k ∈ [kSort, kInput, kState, kConst, kBad, kConstraint, kInit, kNext, kRedand, kRedor, kRedxor, kConcat, kIte, kSlice, kUext, kSext], op ≠ k))) := by
  have key : ∀ p : List UInt8 × Bool → Prop, p = (fun f => f.2 = true → ((f.1.count 97 = 1 ∧ (∀ w x, (unV op w x).isSome = true) ∧ ∀ k ∈ [kSort, kInput, kState, kConst, kBad, kConstraint, kInit, kNext, kEq, kUlt, kSlt, kConcat, kIte, kSlice, kUext, kSext], op ≠ k) ∨
    (f.1.count 97 = 2 ∧ (op = kConcat ∨ (op ≠ kConcat ∧ (∀ w x y, (binR op w x y).isSome = true) ∧ ∀ k ∈ [kSort, kInput, kState, kConst, kBad, kConstraint, kInit, kNext, kRedand, kRedor, kRedxor, kConcat, kIte, kSlice, kUext, kSext], op ≠ k))))) → p (formR op) := by
    intro p hp
    unfold formR
    refine ite_P p (fun e => by subst e; exact absurd hv (by decide)) fun _ => ?_
    refine ite_P p (fun e => absurd e h1) fun _ => ?_
    refine ite_P p (fun e => absurd e h2) fun _ => ?_
    refine ite_P p (fun e => absurd e h3) fun _ => ?_
    iterate 2 refine ite_P p (fun e => by subst e; exact absurd hv (by decide)) fun _ => ?_
    iterate 7 refine ite_P p (fun e => by subst e; rw [hp]; exact fun _ => .inl ⟨by decide, fun _ _ => rfl, by decide⟩) fun _ => ?_
    iterate 2 refine ite_P p (fun e => by subst e; exact absurd hv (by decide)) fun _ => ?_
    iterate 14 refine ite_P p (fun e => by subst e; rw [hp]; exact fun _ => .inr ⟨by decide, .inr ⟨by decide, fun _ _ _ => rfl, by decide⟩⟩) fun _ => ?_
    refine ite_P p (fun e => by subst e; rw [hp]; exact fun _ => .inr ⟨by decide, .inl rfl⟩) fun _ => ?_
    refine ite_P p (fun e => absurd e h4) fun _ => ?_
    refine ite_P p (fun e => absurd e h5) fun _ => ?_
    refine ite_P p (fun e => absurd e h6) fun _ => ?_
    refine ite_P p (fun e => absurd e h7) fun _ => ?_
    rw [hp]
    intro h
    cases h
  exact key _ rfl h
end Go.Proofs.YtcenfhcemmlaeaaGreatDoor
namespace Go.Proofs.YtcenfhcemmlaeaaGreatDoor
open Go Ab
set_option maxRecDepth 100000
set_option linter.unusedVariables false
set_option linter.unusedSimpArgs false
set_option maxHeartbeats 4000000

/-! ### Values of lines -/
@[reducible] def nm (l : List (Nat × Nat)) (i : Nat) : Nat × Nat := l.getD i (0, 0)
def isSpec (op : List UInt8) : Prop := op = kConst ∨ op = kIte ∨ op = kSlice ∨ op = kUext ∨ op = kSext
/-- What a line's op does with what it takes. -/
inductive OpRes (x : Nd) : List (Nat × Nat) → Nat × Nat → Prop
  | const (h : x.op = kConst) (hm : mkok x.t = true) : OpRes x [] (x.t.length, mkN x.t)
  | ite {c w y z : Nat} (h : x.op = kIte) (hc : c < 2 ^ 1) (hy : y < 2 ^ w) (hz : z < 2 ^ w) : OpRes x [(1, c), (w, y), (w, z)] (w, if c = 1 then y else z)
  | slice {w y lo hi : Nat} (h : x.op = kSlice) (hwb : w ≤ 128) (h1 : lo ≤ hi) (h2 : hi < w) (hn : x.n.length = 2) (e0 : x.n.getD 0 0 = hi) (e1 : x.n.getD 1 0 = lo) : OpRes x [(w, y)] (hi - lo + 1, slN y lo (hi - lo + 1))
  | ext {w y n : Nat} (h : x.op = kUext ∨ x.op = kSext) (hw : 0 < w) (hwb : w ≤ 128) (hnb : w + n ≤ 128) (hy : y < 2 ^ w) (hn : x.n.length = 1) (e0 : x.n.getD 0 0 = n) : OpRes x [(w, y)] (w + n, exN w y n (decide (x.op = kSext) && y.testBit (w - 1)))
  | un {w y : Nat} {p : Nat × Nat} (h : ¬ isSpec x.op) (hal : x.a.length = 1) (hw : 0 < w) (hwb : w ≤ 128) (hy : y < 2 ^ w) (hp : unV x.op w y = some p) : OpRes x [(w, y)] p
  | cat {w y v z : Nat} (h : x.op = kConcat) (hal : x.a.length = 2) (hw : 0 < w) (hv : 0 < v) (hb : w + v ≤ 128) (hy : y < 2 ^ w) (hz : z < 2 ^ v) : OpRes x [(w, y), (v, z)] (w + v, jnN w y v z)
  | bin {w y z : Nat} {p : Nat × Nat} (h : ¬ isSpec x.op) (h2 : x.op ≠ kConcat) (hal : x.a.length = 2) (hw : 0 < w) (hwb : w ≤ 128) (hy : y < 2 ^ w) (hz : z < 2 ^ w) (hp : binR x.op w y z = some p) : OpRes x [(w, y), (w, z)] p

/-- The values of the lines ahead. -/
structure VOk (l : List Nd) (v : List (Nat × Nat)) (n : Nat) : Prop where
  len : v.length = n
  no : ∀ j, j < n → isVal (nd l j).op = false → nm v j = (0, 0)
  yes : ∀ j, j < n → isVal (nd l j).op = true → ((nm v j).1 : Int) = wdN l (nd l j) ∧ (nm v j).2 < 2 ^ (nm v j).1
theorem val_s {l : List Nd} (ty : Ty l) {j : Nat} (hj : j < l.length) (hv : isVal (nd l j).op = true) : 0 < (nd l j).s ∧ SortAt l (nd l j) := by
  have hk := ty.node j hj
  have h1 := isVal_115 hv hk.known
  have h2 := (hk.s1 h1).1
  exact ⟨by omega, (ty.ty.ln j hj).srt (by omega)⟩
theorem val_wd {l : List Nd} (ty : Ty l) {j : Nat} (hj : j < l.length) (hv : isVal (nd l j).op = true) : 1 ≤ wdN l (nd l j) ∧ wdN l (nd l j) ≤ 128 := by
  have hk := ty.node j hj
  have h1 := isVal_115 hv hk.known
  refine wd_bd (i := j) (fun q hq => ty.node q (by omega)) (val_s ty hj hv).2 ?_
  have := (hk.s1 h1).2
  omega
@[reducible] def takes (x : Nd) (v : List (Nat × Nat)) : List (Nat × Nat) := x.a.map fun a => nm v (a - 1).toNat
theorem takes_len (x : Nd) (v : List (Nat × Nat)) : (takes x v).length = x.a.length := by simp [takes]
theorem takes_get {x : Nd} {v : List (Nat × Nat)} {j : Nat} (h : j < x.a.length) : nm (takes x v) j = nm v (x.a.getD j 0 - 1).toNat := by
  simp [nm, takes, List.getD_eq_getElem?_getD, h]
theorem list1 {α : Type} {d : α} {l : List α} (h : l.length = 1) : l = [l.getD 0 d] := by
  match l, h with
  | [a], _ => rfl
theorem list2 {α : Type} {d : α} {l : List α} (h : l.length = 2) : l = [l.getD 0 d, l.getD 1 d] := by
  match l, h with
  | [a, b], _ => rfl
theorem list3 {α : Type} {d : α} {l : List α} (h : l.length = 3) : l = [l.getD 0 d, l.getD 1 d, l.getD 2 d] := by
  match l, h with
  | [a, b, c], _ => rfl
theorem sl_lt (y lo n : Nat) : slN y lo n < 2 ^ n := ofB_lt _ _
theorem ex_lt (w y n : Nat) (b : Bool) : exN w y n b < 2 ^ (w + n) := ofB_lt _ _
theorem jn_lt (w y v z : Nat) : jnN w y v z < 2 ^ (w + v) := ofB_lt _ _
theorem mk_lt (t : List UInt8) : mkN t < 2 ^ t.length := ofB_lt _ _

theorem opV_ok {l : List Nd} (ty : Ty l) {i : Nat} (hi : i < l.length) {v : List (Nat × Nat)} (hv : VOk l v i) (hx : isVal (nd l i).op = true) (h1 : (nd l i).op ≠ kState) (h2 : (nd l i).op ≠ kInput) :
    OpRes (nd l i) (takes (nd l i) v) (opV (nd l i) (takes (nd l i) v)) ∧ ((opV (nd l i) (takes (nd l i) v)).1 : Int) = wdN l (nd l i) ∧ (opV (nd l i) (takes (nd l i) v)).2 < 2 ^ (opV (nd l i) (takes (nd l i) v)).1 := by
  have hk := ty.node i hi
  have hln := ty.ty.ln i hi
  have hs := (val_s ty hi hx).1
  have hwd := val_wd ty hi hx
  have hwof : wOf l (nd l i) = wdN l (nd l i) := by rw [wOf, if_pos hs]
  have hask := hln.ask
  generalize nd l i = x at *
  have harg : ∀ j, j < x.a.length → ((nm (takes x v) j).1 : Int) = awN l x j ∧ (nm (takes x v) j).2 < 2 ^ (nm (takes x v) j).1 ∧ 1 ≤ awN l x j ∧ awN l x j ≤ 128 := fun j hj => by
    rw [takes_get hj]
    have hm := getD_mem 0 hj
    have hab := hk.ab _ hm
    have hvl := hln.val _ hm
    have hb := val_wd ty (j := (x.a.getD j 0 - 1).toNat) (by omega) hvl
    exact ⟨(hv.yes _ (by omega) hvl).1, (hv.yes _ (by omega) hvl).2, hb⟩
  have hal := hk.al
  have htl := takes_len x v
  generalize takes x v = a at *
  by_cases k1 : x.op = kConst
  · have h0 : x.a.length = 0 := by rw [hal, k1]; decide
    have ha : a = [] := List.length_eq_zero_iff.1 (by omega)
    have ht := hk.txt (by rw [k1]; decide)
    have hc := hask.const k1
    have e : opV x a = (x.t.length, mkN x.t) := by rw [opV, if_pos k1]
    rw [e, ha]
    exact ⟨.const k1 ht, by show ((x.t.length : Nat) : Int) = _; omega, mk_lt _⟩
  by_cases k2 : x.op = kIte
  · have h0 : x.a.length = 3 := by rw [hal, k2]; decide
    have ha := list3 (d := (0, 0)) (htl.trans h0)
    obtain ⟨c1, c2, c3⟩ := hask.ite k2
    have a0 := harg 0 (by omega)
    have a1 := harg 1 (by omega)
    have a2 := harg 2 (by omega)
    have e : opV x a = ((nm a 1).1, if (nm a 0).2 = 1 then (nm a 1).2 else (nm a 2).2) := by rw [opV, if_neg k1, if_pos k2]
    rw [e, ha]
    obtain ⟨⟨w0, y0⟩, hp0⟩ : ∃ p, nm a 0 = p := ⟨_, rfl⟩
    obtain ⟨⟨w1, y1⟩, hp1⟩ : ∃ p, nm a 1 = p := ⟨_, rfl⟩
    obtain ⟨⟨w2, y2⟩, hp2⟩ : ∃ p, nm a 2 = p := ⟨_, rfl⟩
    have hp0' : a.getD 0 (0, 0) = (w0, y0) := hp0
    have hp1' : a.getD 1 (0, 0) = (w1, y1) := hp1
    have hp2' : a.getD 2 (0, 0) = (w2, y2) := hp2
    rw [hp0] at a0
    rw [hp1] at a1
    rw [hp2] at a2
    simp only at a0 a1 a2
    obtain rfl : w0 = 1 := by omega
    obtain rfl : w2 = w1 := by omega
    show OpRes x [a.getD 0 (0, 0), a.getD 1 (0, 0), a.getD 2 (0, 0)] _ ∧ _
    rw [hp0', hp1', hp2']
    refine ⟨.ite k2 a0.2.1 a1.2.1 a2.2.1, by show ((w2 : Nat) : Int) = _; omega, ?_⟩
    show (if y0 = 1 then y1 else y2) < 2 ^ w2
    split
    · exact a1.2.1
    · exact a2.2.1
  by_cases k3 : x.op = kSlice
  · have h0 : x.a.length = 1 := by rw [hal, k3]; decide
    have hn : x.n.length = 2 := by rw [hk.nl, k3]; decide
    have ha := list1 (d := (0, 0)) (htl.trans h0)
    obtain ⟨c1, c2, c3⟩ := hask.slice k3
    have a0 := harg 0 (by omega)
    have n0 := hk.nb _ (getD_mem (i := 0) (l := x.n) 0 (by omega))
    have n1 := hk.nb _ (getD_mem (i := 1) (l := x.n) 0 (by omega))
    have e : opV x a = ((x.n.getD 0 0).toNat - (x.n.getD 1 0).toNat + 1, slN (nm a 0).2 (x.n.getD 1 0).toNat ((x.n.getD 0 0).toNat - (x.n.getD 1 0).toNat + 1)) := by rw [opV, if_neg k1, if_neg k2, if_pos k3]
    rw [e, ha]
    obtain ⟨⟨w0, y0⟩, hp0⟩ : ∃ p, nm a 0 = p := ⟨_, rfl⟩
    have hp0' : a.getD 0 (0, 0) = (w0, y0) := hp0
    rw [hp0] at a0
    simp only at a0
    show OpRes x [a.getD 0 (0, 0)] _ ∧ _
    rw [hp0']
    refine ⟨.slice k3 (by omega) (by omega) (by omega) hn (by omega) (by omega), ?_, sl_lt _ _ _⟩
    show (((x.n.getD 0 0).toNat - (x.n.getD 1 0).toNat + 1 : Nat) : Int) = _
    omega
  by_cases k4 : x.op = kUext ∨ x.op = kSext
  · have h0 : x.a.length = 1 := by rcases k4 with k | k <;> rw [hal, k] <;> decide
    have hn : x.n.length = 1 := by rcases k4 with k | k <;> rw [hk.nl, k] <;> decide
    have ha := list1 (d := (0, 0)) (htl.trans h0)
    have c1 := hask.ext k4
    have a0 := harg 0 (by omega)
    have n0 := hk.nb _ (getD_mem (i := 0) (l := x.n) 0 (by omega))
    have e : opV x a = ((nm a 0).1 + (x.n.getD 0 0).toNat, exN (nm a 0).1 (nm a 0).2 (x.n.getD 0 0).toNat (decide (x.op = kSext) && (nm a 0).2.testBit ((nm a 0).1 - 1))) := by rw [opV, if_neg k1, if_neg k2, if_neg k3, if_pos k4]
    rw [e, ha]
    obtain ⟨⟨w0, y0⟩, hp0⟩ : ∃ p, nm a 0 = p := ⟨_, rfl⟩
    have hp0' : a.getD 0 (0, 0) = (w0, y0) := hp0
    rw [hp0] at a0
    simp only at a0
    show OpRes x [a.getD 0 (0, 0)] _ ∧ _
    rw [hp0']
    refine ⟨.ext k4 (by omega) (by omega) (by omega) a0.2.1 hn (by omega), ?_, ex_lt _ _ _ _⟩
    show ((w0 + (x.n.getD 0 0).toNat : Nat) : Int) = _
    omega
  have hsp : ¬ isSpec x.op := by
    rintro (h | h | h | h | h)
    · exact k1 h
    · exact k2 h
    · exact k3 h
    · exact k4 (.inl h)
    · exact k4 (.inr h)
  rcases kind_of hk.known hx k1 h2 h1 k2 k3 (fun h => k4 (.inl h)) (fun h => k4 (.inr h)) with ⟨g1, g2, g3⟩ | ⟨g1, g2⟩
  · have h0 : x.a.length = 1 := by rw [hal, g1]
    have ha := list1 (d := (0, 0)) (htl.trans h0)
    have a0 := harg 0 (by omega)
    obtain ⟨⟨w0, y0⟩, hp0⟩ : ∃ p, nm a 0 = p := ⟨_, rfl⟩
    have hp0' : a.getD 0 (0, 0) = (w0, y0) := hp0
    rw [hp0] at a0
    simp only at a0
    have ha1 : a = [(w0, y0)] := by rw [ha, hp0']
    have hsome := g2 w0 y0
    cases hu : unV x.op w0 y0 with
    | none => rw [hu] at hsome; cases hsome
    | some p =>
      have hok := unV_ok a0.2.1 hu
      have e : opV x a = p := by
        rw [opV, if_neg k1, if_neg k2, if_neg k3, if_neg k4, if_pos h0, hp0']
        simp only
        rw [hu]
        rfl
      rw [e, ha1]
      refine ⟨.un hsp h0 (by omega) (by omega) a0.2.1 hu, ?_, hok.1⟩
      show ((p.1 : Nat) : Int) = _
      rcases hok.2 with ⟨r1, r2⟩ | ⟨r1, r2⟩
      · have := hask.red r1
        omega
      · have hall : ∀ k ∈ [kSort, kInput, kState, kConst, kBad, kConstraint, kInit, kNext, kRedand, kRedor, kRedxor, kEq, kUlt, kSlt, kConcat, kIte, kSlice, kUext, kSext], x.op ≠ k := by
          intro k hkm
          by_cases hin : k ∈ [kSort, kInput, kState, kConst, kBad, kConstraint, kInit, kNext, kEq, kUlt, kSlt, kConcat, kIte, kSlice, kUext, kSext]
          · exact g3 k hin
          · intro ek
            have : k = kRedand ∨ k = kRedor ∨ k = kRedxor := by
              have key : ∀ k ∈ [kSort, kInput, kState, kConst, kBad, kConstraint, kInit, kNext, kRedand, kRedor, kRedxor, kEq, kUlt, kSlt, kConcat, kIte, kSlice, kUext, kSext], k ∈ [kSort, kInput, kState, kConst, kBad, kConstraint, kInit, kNext, kEq, kUlt, kSlt, kConcat, kIte, kSlice, kUext, kSext] ∨ (k = kRedand ∨ k = kRedor ∨ k = kRedxor) := by decide
              exact (key k hkm).resolve_left hin
            exact r1 (by rw [ek]; exact this)
        have := hask.dflt hall 0 (by omega)
        omega
  · have h0 : x.a.length = 2 := by rw [hal, g1]
    have ha := list2 (d := (0, 0)) (htl.trans h0)
    have a0 := harg 0 (by omega)
    have a1 := harg 1 (by omega)
    obtain ⟨⟨w0, y0⟩, hp0⟩ : ∃ p, nm a 0 = p := ⟨_, rfl⟩
    obtain ⟨⟨w1, y1⟩, hp1⟩ : ∃ p, nm a 1 = p := ⟨_, rfl⟩
    have hp0' : a.getD 0 (0, 0) = (w0, y0) := hp0
    have hp1' : a.getD 1 (0, 0) = (w1, y1) := hp1
    rw [hp0] at a0
    rw [hp1] at a1
    simp only at a0 a1
    rcases g2 with g2 | ⟨g2, g3, g4⟩
    · have e : opV x a = (w0 + w1, jnN w0 y0 w1 y1) := by rw [opV, if_neg k1, if_neg k2, if_neg k3, if_neg k4, if_neg (by omega), if_pos g2, hp0', hp1']
      have hc := hask.cat g2
      rw [e]
      have ha2 : a = [(w0, y0), (w1, y1)] := by rw [ha, hp0', hp1']
      rw [ha2]
      refine ⟨.cat g2 h0 (by omega) (by omega) (by omega) a0.2.1 a1.2.1, ?_, jn_lt _ _ _ _⟩
      show ((w0 + w1 : Nat) : Int) = _
      omega
    · have hsome := g3 w0 y0 y1
      cases hu : binR x.op w0 y0 y1 with
      | none => rw [hu] at hsome; cases hsome
      | some p =>
        have e : opV x a = p := by
          rw [opV, if_neg k1, if_neg k2, if_neg k3, if_neg k4, if_neg (by omega), if_neg g2, hp0', hp1']
          simp only
          rw [hu]
          rfl
        have hww : w1 = w0 ∧ ((p.1 : Nat) : Int) = wdN l x := by
          rcases binR_w hu with ⟨r1, r2⟩ | ⟨r1, r2⟩
          · have := hask.cmp r1
            omega
          · have hall : ∀ k ∈ [kSort, kInput, kState, kConst, kBad, kConstraint, kInit, kNext, kRedand, kRedor, kRedxor, kEq, kUlt, kSlt, kConcat, kIte, kSlice, kUext, kSext], x.op ≠ k := by
              intro k hkm
              by_cases hin : k ∈ [kSort, kInput, kState, kConst, kBad, kConstraint, kInit, kNext, kRedand, kRedor, kRedxor, kConcat, kIte, kSlice, kUext, kSext]
              · exact g4 k hin
              · intro ek
                have : k = kEq ∨ k = kUlt ∨ k = kSlt := by
                  have key : ∀ k ∈ [kSort, kInput, kState, kConst, kBad, kConstraint, kInit, kNext, kRedand, kRedor, kRedxor, kEq, kUlt, kSlt, kConcat, kIte, kSlice, kUext, kSext], k ∈ [kSort, kInput, kState, kConst, kBad, kConstraint, kInit, kNext, kRedand, kRedor, kRedxor, kConcat, kIte, kSlice, kUext, kSext] ∨ (k = kEq ∨ k = kUlt ∨ k = kSlt) := by decide
                  exact (key k hkm).resolve_left hin
                exact r1 (by rw [ek]; exact this)
            have b0 := hask.dflt hall 0 (by omega)
            have b1 := hask.dflt hall 1 (by omega)
            omega
        obtain ⟨rfl, hpw⟩ := hww
        rw [e]
        have ha2 : a = [(w1, y0), (w1, y1)] := by rw [ha, hp0', hp1']
        rw [ha2]
        exact ⟨.bin hsp g2 h0 (by omega) (by omega) a0.2.1 a1.2.1 hu, hpw, (binR_lt a0.2.1 a1.2.1 hu).1⟩
end Go.Proofs.YtcenfhcemmlaeaaGreatDoor
namespace Go.Proofs.YtcenfhcemmlaeaaGreatDoor
open Go Ab
set_option maxRecDepth 100000
set_option linter.unusedVariables false
set_option linter.unusedSimpArgs false
set_option maxHeartbeats 4000000

theorem ofT_one {x : Nd} (h : ¬ isSpec x.op) (ha : x.a.length = 1) : ofT x = 118 := by
  unfold ofT
  rw [if_neg fun e => h (.inl e), if_neg fun e => h (.inr (.inl e)), if_neg fun e => h (.inr (.inr (.inl e))), if_neg fun e => h (.inr (.inr (.inr e))), if_pos ha]
theorem ofT_two {x : Nd} (h : ¬ isSpec x.op) (ha : x.a.length = 2) : ofT x = 119 := by
  unfold ofT
  rw [if_neg fun e => h (.inl e), if_neg fun e => h (.inr (.inl e)), if_neg fun e => h (.inr (.inr (.inl e))), if_neg fun e => h (.inr (.inr (.inr e))), if_neg (by omega)]
theorem cat_spec {op : List UInt8} (h : op = kConcat) : ¬ isSpec op := by
  subst h
  unfold isSpec
  decide
theorem mkok_len {t : List UInt8} (h : mkok t = true) : t.length ≤ 128 := by
  simp only [mkok, Bool.and_eq_true, decide_eq_true_eq] at h
  exact h.1.2
/-- What is done with what a line takes: the method that its op has. -/
theorem does_call {x : Nd} {a : List (Nat × Nat)} {p : Nat × Nat} (h : OpRes x a p) :
    ∃ g fn c, Tryz.prog.funcs[g]? = some fn ∧ fn.body = some c ∧ (fn.name == "runtime.NumGoroutine") = false ∧ (∀ w, (Go.method (Tryz.prog.types.size + Made.depth) (ofT x) (.agg #[]) "vidimus/word.value").run Tryz.prog w = .ok (g, .agg #[]) w) ∧
      ACall Tryz.prog g [aG0, .d (eNd x), .d (eNums a)] [] (fun r o => r = tupOf [.d (vN p.1 p.2), vI .i64 0]) := by
  cases h with
  | const h hm =>
    refine ⟨_, _, _, Tryz.func130, rfl, rfl, ?_, bits_value x [] _ _ (Nat.le_trans (mkok_len hm) (by decide)) (by rw [mkR, if_pos hm])⟩
    rw [show ofT x = 112 by unfold ofT; rw [if_pos h]]
    exact meth_bits
  | ite h hc hy hz =>
    refine ⟨_, _, _, Tryz.func131, rfl, rfl, ?_, ite_value x _ _ _ _ hc⟩
    rw [show ofT x = 113 by unfold ofT; rw [if_neg (by rw [h]; decide), if_pos h]]
    exact meth_ite
  | slice h hwb h1 h2 hn e0 e1 =>
    refine ⟨_, _, _, Tryz.func133, rfl, rfl, ?_, part_value x _ _ _ _ hwb h1 h2 hn e0 e1⟩
    rw [show ofT x = 114 by unfold ofT; rw [if_neg (by rw [h]; decide), if_neg (by rw [h]; decide), if_pos h]]
    exact meth_part
  | ext h hw hwb hnb hy hn e0 =>
    refine ⟨_, _, _, Tryz.func140, rfl, rfl, ?_, more_value x _ _ _ _ hw hwb hnb hn e0 rfl⟩
    rw [show ofT x = 115 by unfold ofT; rw [if_neg (by rcases h with h | h <;> rw [h] <;> decide), if_neg (by rcases h with h | h <;> rw [h] <;> decide), if_neg (by rcases h with h | h <;> rw [h] <;> decide), if_pos h]]
    exact meth_more
  | un h hal hw hwb hy hp =>
    refine ⟨_, _, _, Tryz.func153, rfl, rfl, ?_, one_value x _ _ _ _ ((Un_all x.op _ _ hy hw hwb).mono fun r o hr => ?_)⟩
    · rw [ofT_one h hal]
      exact meth_one
    · rw [hr, unR_eq, hp]
      rfl
  | cat h hal hw hv hb hy hz =>
    refine ⟨_, _, _, Tryz.func173, rfl, rfl, ?_, two_value x _ _ _ _ _ _ ?_⟩
    · rw [ofT_two (cat_spec h) hal]
      exact meth_two
    · rw [h]
      exact Bin_cat _ _ _ _ hw hv (by omega) (by omega) hb
  | bin h h2 hal hw hwb hy hz hp =>
    refine ⟨_, _, _, Tryz.func173, rfl, rfl, ?_, two_value x _ _ _ _ _ _ ((Bin_all x.op _ _ _ h2 hy hz hw hwb).mono fun r o hr => ?_)⟩
    · rw [ofT_two h hal]
      exact meth_two
    · rw [hr, hp]
      rfl
end Go.Proofs.YtcenfhcemmlaeaaGreatDoor
set_option linter.unusedSimpArgs false
set_option linter.unusedVariables false
namespace Ab
open Go
section
variable {P : Program} {T : Tab} {f : FuncId} {fn : Func} {n m : Nat} {C : Cx} {R : AV → List (Option AObj) → Prop} {env env' envF : Env} {objs objs' : List (Option AObj)} {ops : Array Oper} {todo k : List Item} {nd : Prop}

/-- A cell is written behind all that it waits for. -/
theorem headH_skipD {O : List Nat → List (Option AObj)} {j : Nat} {o : Oper} {E : Env} {a : AV} {c : Option Prop} (hT : TabOk P T) (hw : wantE ops (restr E (o.looksAt ops)) o = .yes) (hE : ∀ t ∈ o.looksAt ops, ∀ b, look E t = some b → look envF t = some b)
    (hs : ∀ L, j ∉ L → (∀ q, waitsB ops j q = true → q ∈ L) → estep T o (restr E (o.looksAt ops)) (O L) = some ⟨c, true, a, none, O (j :: L)⟩) (hc : cond c) (hdst : o.dst = none) : HeadH P n C O m ops envF j o := by
  intro L _ hjL hdeps _ π w tmps hsz hm hlk
  have he : EnvRel w (okOf C.X π (O L)) π (restr E (o.looksAt ops)) tmps := fun t b ht => by
    obtain ⟨h1, h2⟩ := look_restr ht
    exact hlk t h1 b (hE t h1 b h2)
  have hst := estep_ok (ds := []) hT hm he o
  rw [hs L hjL hdeps] at hst
  obtain ⟨v, w', π', h1, h2, _⟩ := hst hc
  refine .inr ⟨(wanted_of he).1 hw, .inr (.inl ⟨w', π', h1, ⟨h2.mem, fun hh => hh.trans h2.hist, h2.keep⟩, fun d hd => ?_⟩)⟩
  rw [hdst] at hd
  cases hd

def boxO (ja js : Nat) (o1 o2 : AObj) (L : List Nat) : AObj := if js ∈ L then o2 else if ja ∈ L then o1 else HD
@[reducible] def boxA (ja js : Nat) (d : Tmp) (p : Nat) : Acts := [(ja, some (d, .ptr p 0)), (js, none)]
/-- A box is made, and written, in the head; all else there is quiet. -/
theorem sat_draw1S (m ja js : Nat) {d : Tmp} {t : TypeId} {r : TRow} {o2 : AObj} {oa os : Oper} {E : Env} {a : AV} {c : Option Prop} {id : Nat} (hT : TabOk P T) (hf : P.funcs[f]? = some fn) (hmx : P.follows .mixedOrders = true) (h : srun T n fn.results.toList 2000 True todo env objs = .draw nd id ops k env' objs') (hn : nd)
    (hB : drawZ ops m = true) (hsee : seeB ops m (boxA ja js d objs'.length) = true) (hja : Nat.blt ja m = true) (hjs : Nat.blt js m = true) (hne : Nat.beq ja js = false) (hwt : waitsB ops js ja = true) (hpl : C.π.length ≤ objs'.length)
    (hoa : ops[ja]? = some oa) (hop : oa.op = .alloc t) (hg : oa.guard = none) (hr : tlook T t = some r) (hdst : oa.dst = some d) (hdn : Nat.blt d n = true)
    (hD : ∀ x, DSat P n C.X (objs' ++ [some x]) ops (fun e => e = E) (quietOps ops m (boxA ja js d objs'.length)) env')
    (hos : ops[js]? = some os) (hsd : os.dst = none) (hws : wantE ops (restr ((d, .ptr objs'.length 0) :: E) (os.looksAt ops)) os = .yes)
    (hs : estep T os (restr ((d, .ptr objs'.length 0) :: E) (os.looksAt ops)) (objs' ++ [some (.cells t (r.zero.map fun v => .d (.v v)))]) = some ⟨c, true, a, none, objs' ++ [some o2]⟩) (hc : cond c)
    (hk : ASat P f n C (.inRegion ops (List.range' m (ops.size - m)) :: k) ((d, .ptr objs'.length 0) :: E) (objs' ++ [some o2]) R) : ASat P f n C todo env objs R := by
  have hne : ja ≠ js := Nat.ne_of_beq_eq_false hne
  have hnth : ∀ x : AObj, nth (objs' ++ [some x]) objs'.length = some (some x) := fun x => by rw [nth_eq]; simp
  have hset : ∀ x y : AObj, setNth (objs' ++ [some x]) objs'.length (some y) = objs' ++ [some y] := fun x y => by rw [setNth_eq]; simp
  refine sat_drawA m 1 (boxA ja js d objs'.length) (fun L => objs' ++ [some (boxO ja js (.cells t (r.zero.map fun v => .d (.v v))) o2 L)]) E (objsF := objs' ++ [some o2]) hT hf hmx h hn hB hsee (by simp [boxO]) (fun L hL => ?_) (fun j L hj => ?_) ?_ (fun L => hD _) ?_ hk
  · rw [boxO, if_pos (hL js (by simpa [Nat.blt_eq] using hjs))]
  · simp only [actB, boxA, List.any_cons, List.any_nil, Bool.or_false, Bool.or_eq_false_iff] at hj
    have n1 := Nat.ne_of_beq_eq_false hj.1
    have n2 := Nat.ne_of_beq_eq_false hj.2
    simp only [boxO, List.mem_cons, n1, n2, false_or]
  · simp [hja, hjs]
  · refine List.forall_mem_cons.2 ⟨⟨oa, hoa, hdst, ?_⟩, List.forall_mem_cons.2 ⟨⟨os, hos, hsd, ?_⟩, fun x h => by cases h⟩⟩
    · refine headH_allocC (p := objs'.length) hT hop hg hr hdst hdn ?_ hpl (fun L hL hcl => ?_) (fun L hL hcl => ?_)
      · show look ((d, _) :: E) d = _
        simp [look]
      · have hjsL : js ∉ L := fun h => hL (hcl js h ja hwt)
        simp only [boxO, if_neg hjsL, if_neg hL]
        exact hnth _
      · have hjsL : js ∉ L := fun h => hL (hcl js h ja hwt)
        have hjs2 : js ∉ ja :: L := by simp only [List.mem_cons, not_or]; exact ⟨fun e => hne e.symm, hjsL⟩
        simp only [boxO, if_neg hjs2, if_neg hjsL, if_neg hL]
        rw [if_pos (List.mem_cons_self ..)]
        exact (hset _ _).symm
    · refine headH_skipD (a := a) hT hws (fun _ _ _ h => h) (fun L hL hq => ?_) hc hsd
      have hjaL := hq ja hwt
      simp only [boxO, if_neg hL, if_pos hjaL, List.mem_cons, true_or, if_true]
      exact hs
theorem setNth_self {α : Type} : ∀ {l : List α} {p : Nat} {x : α}, nth l p = some x → setNth l p x = l
  | [], _, _, _ => rfl
  | _ :: _, 0, _, h => by simp only [nth, Option.some.injEq] at h; subst h; rfl
  | _ :: _, p + 1, _, h => by simp only [setNth]; rw [setNth_self (by simpa only [nth] using h)]
/-- A box is written in the head; all else there is quiet. -/
theorem sat_draw0S (m js p : Nat) {o1 o2 : AObj} {os : Oper} {E : Env} {a : AV} {c : Option Prop} {id : Nat} (hT : TabOk P T) (hf : P.funcs[f]? = some fn) (hmx : P.follows .mixedOrders = true) (h : srun T n fn.results.toList 2000 True todo env objs = .draw nd id ops k env' objs') (hn : nd)
    (hB : drawZ ops m = true) (hsee : seeB ops m [(js, none)] = true) (hjs : Nat.blt js m = true) (ho : nth objs' p = some (some o1))
    (hD : ∀ x, DSat P n C.X (setNth objs' p (some x)) ops (fun e => e = E) (quietOps ops m [(js, none)]) env')
    (hos : ops[js]? = some os) (hsd : os.dst = none) (hws : wantE ops (restr E (os.looksAt ops)) os = .yes)
    (hs : estep T os (restr E (os.looksAt ops)) objs' = some ⟨c, true, a, none, setNth objs' p (some o2)⟩) (hc : cond c)
    (hk : ASat P f n C (.inRegion ops (List.range' m (ops.size - m)) :: k) E (setNth objs' p (some o2)) R) : ASat P f n C todo env objs R := by
  refine sat_drawA m 0 [(js, none)] (fun L => setNth objs' p (some (if js ∈ L then o2 else o1))) E (objsF := setNth objs' p (some o2)) hT hf hmx h hn hB hsee (by simp [setNth_self ho]) (fun L hL => ?_) (fun j L hj => ?_) ?_ (fun L => hD _) ?_ hk
  · rw [if_pos (hL js (by simpa [Nat.blt_eq] using hjs))]
  · simp only [actB, List.any_cons, List.any_nil, Bool.or_false] at hj
    have n1 := Nat.ne_of_beq_eq_false hj
    simp only [List.mem_cons, n1, false_or]
  · simp [hjs]
  · refine List.forall_mem_cons.2 ⟨⟨os, hos, hsd, ?_⟩, fun x h => by cases h⟩
    refine headH_skip (a := a) hT hws (fun _ _ _ h => h) (fun L hL => ?_) hc hsd
    simp only [if_neg hL, List.mem_cons, true_or, if_true]
    rw [setNth_self ho]
    exact hs
end

end Ab
namespace Go.Proofs.YtcenfhcemmlaeaaGreatDoor
open Go Ab
set_option maxRecDepth 100000
set_option linter.unusedVariables false
set_option linter.unusedSimpArgs false
set_option maxHeartbeats 4000000

/-! ### Rows of vectors, right or not -/
@[reducible] def Vr := Int × List Nat × Unit
@[reducible] def eVr (a : Vr) : D := .ag [eI a.1, eUs a.2.1]
@[reducible] def eRow (l : List Vr) : D := eL 2 eVr (0, [], ()) l
@[reducible] def eRows (l : List (List Vr)) : D := eL 1 eRow [] l
@[reducible] def eNss (l : List (List (Nat × Nat))) : D := eL 1 eNums [] l
def vr (p : Nat × Nat) : Vr := ((p.1 : Int), lmb (limbsN p.1) p.2, ())
def QVr (a : Vr) : Prop := lims a.2.1 ∧ a.2.1.length ≤ maxLen
def rightR (a : Vr) : Bool := rightV a.1 a.2.1
def valR (a : Vr) : Nat × Nat := (a.1.toNat, ofB (bitN a.2.1) a.1.toNat)
def numsOf (l : List Vr) : List (Nat × Nat) := l.map valR
theorem getD_map' {α β : Type} (f : α → β) (d : α) (l : List α) (i : Nat) : (l.map f).getD i (f d) = f (l.getD i d) := by
  rw [List.getD_eq_getElem?_getD, List.getD_eq_getElem?_getD, List.getElem?_map]
  cases l[i]? <;> rfl
theorem getD_at {α : Type} {d : α} {l : List α} {i : Nat} (h : i < l.length) : l.getD i d = l[i] := by
  rw [List.getD_eq_getElem?_getD, List.getElem?_eq_getElem h]
  rfl
theorem eRow_nums (l : List (Nat × Nat)) : eRow (l.map vr) = eNums l := by
  show D.sl 2 ((l.map vr).map eVr) (fun i => eVr ((l.map vr).getD i (0, [], ()))) = D.sl 2 (l.map fun p : Nat × Nat => vN p.1 p.2) (fun i => vN (l.getD i (0, 0)).1 (l.getD i (0, 0)).2)
  rw [List.map_map]
  congr 1
  funext i
  rw [show ((0, [], ()) : Vr) = vr (0, 0) from rfl, getD_map']
  rfl
theorem right_vr {a : Vr} (hq : QVr a) (h : rightR a = true) : a = vr (valR a) ∧ 1 ≤ (valR a).1 ∧ (valR a).1 ≤ 128 ∧ (valR a).2 < 2 ^ (valR a).1 := by
  obtain ⟨n, x, h1, h2, h3, h4, h5⟩ := right_lmb hq.1 h
  obtain ⟨w, k, u⟩ := a
  simp only at h1 h5
  subst h1 h5
  have hv : valR ((n : Int), lmb (limbsN n) x, u) = (n, x) := by
    show (n, ofB (bitN (lmb (limbsN n) x)) n) = (n, x)
    rw [ofB_eq h4 fun i hi => bitN_lmb (limbs_at hi)]
  rw [hv]
  exact ⟨rfl, h2, h3, h4⟩
theorem right_of_vr {p : Nat × Nat} (h1 : 1 ≤ p.1) (h2 : p.1 ≤ 128) (h3 : p.2 < 2 ^ p.1) : rightR (vr p) = true := right_of_lmb h1 h2 h3
theorem QVr_vr {p : Nat × Nat} (h : p.1 ≤ 1000000) : QVr (vr p) := ⟨lmb_lims _ _, by show (lmb _ _).length ≤ _; rw [lmb_len]; unfold limbsN maxLen; omega⟩

/-- Do vectors fit an op's lines? -/
def fitAt (l : List Nd) (al : List Int) (r : List Vr) (i : Nat) : Bool := rightR (r.getD i (0, [], ())) && decide ((r.getD i (0, [], ())).1 = wdN l (ln l (al.getD i 0)))
def fitB (l : List Nd) (op : List UInt8) (r : List Vr) : Bool := decide ((allL l op l.length).length = r.length) && (List.range r.length).all (fitAt l (allL l op l.length) r)
structure Fit (l : List Nd) (op : List UInt8) (v : List (Nat × Nat)) : Prop where
  len : v.length = (allL l op l.length).length
  at_ : ∀ i, i < v.length → ((nm v i).1 : Int) = wdN l (ln l ((allL l op l.length).getD i 0)) ∧ (nm v i).2 < 2 ^ (nm v i).1 ∧ 1 ≤ (nm v i).1 ∧ (nm v i).1 ≤ 128
theorem fit_nums {l : List Nd} {op : List UInt8} {r : List Vr} (hq : ∀ a ∈ r, QVr a) (h : fitB l op r = true) : r = (numsOf r).map vr ∧ Fit l op (numsOf r) := by
  simp only [fitB, Bool.and_eq_true, decide_eq_true_eq, List.all_eq_true, List.mem_range] at h
  obtain ⟨h1, h2⟩ := h
  have h3 : ∀ a ∈ r, a = vr (valR a) ∧ 1 ≤ (valR a).1 ∧ (valR a).1 ≤ 128 ∧ (valR a).2 < 2 ^ (valR a).1 := by
    intro a ha
    obtain ⟨i, hi, rfl⟩ := List.getElem_of_mem ha
    have := h2 i hi
    rw [fitAt, getD_at hi, Bool.and_eq_true] at this
    exact right_vr (hq _ ha) this.1
  refine ⟨?_, by simp [numsOf, h1], fun i hi => ?_⟩
  · rw [numsOf, List.map_map]
    conv => lhs; rw [← List.map_id r]
    exact List.map_congr_left fun a ha => (h3 a ha).1
  · have hi' : i < r.length := by simpa [numsOf] using hi
    have ha := h3 _ (List.getElem_mem hi')
    have := h2 i hi'
    rw [fitAt, getD_at hi', Bool.and_eq_true, decide_eq_true_eq] at this
    have e : nm (numsOf r) i = valR r[i] := by simp [nm, numsOf, hi']
    rw [e]
    refine ⟨?_, ha.2.2.2, ha.2.1, ha.2.2.1⟩
    have e1 : r[i].1 = ((valR r[i]).1 : Int) := congrArg Prod.fst ha.1
    rw [← e1, this.2]
theorem fit_of {l : List Nd} {op : List UInt8} {v : List (Nat × Nat)} (h : Fit l op v) : fitB l op (v.map vr) = true := by
  simp only [fitB, Bool.and_eq_true, decide_eq_true_eq, List.all_eq_true, List.mem_range, List.length_map]
  refine ⟨h.len.symm, fun i hi => ?_⟩
  obtain ⟨h1, h2, h3, h4⟩ := h.at_ i hi
  have e : (v.map vr).getD i (0, [], ()) = vr (nm v i) := getD_map' vr (0, 0) v i
  rw [fitAt, e, Bool.and_eq_true, decide_eq_true_eq]
  exact ⟨right_of_vr h3 h4 h2, h1⟩
theorem allL_val {l : List Nd} (ty : Ty l) {op : List UInt8} (ho : isVal op = true) {i : Nat} (hi : i < (allL l op l.length).length) : 1 ≤ (allL l op l.length).getD i 0 ∧ (allL l op l.length).getD i 0 ≤ l.length ∧ isVal (ln l ((allL l op l.length).getD i 0)).op = true := by
  obtain ⟨h1, h2, h3⟩ := mem_allL (getD_mem 0 hi)
  exact ⟨h1, h2, by rw [h3]; exact ho⟩
theorem wL_at {l : List Nd} {a : Int} (h1 : 1 ≤ a) (h2 : a ≤ l.length) (hv : isVal (ln l a).op = true) : (wL l l.length).getD (a - 1).toNat 0 = wdN l (ln l a) := by
  rw [wL_get (by omega), wN, if_pos hv]

theorem fits_call (l : List Nd) (ty : Ty l) (op : List UInt8) (ho : isVal op = true) (r : List Vr) (hq : ∀ a ∈ r, QVr a) : ACall Tryz.prog 38 [.d (eBt l), .d (eIs (wL l l.length)), vSL op, .d (eRow r)] [] (fun x o => x = vB (fitB l op r)) := by
  refine acall_enter Tryz.func38 rfl rfl (Nat.le_of_ble_eq_true rfl) fun C hC hCl hDs => ?_
  have hl := ty.small
  have hall := @allL_val l ty op ho
  refine sat_call tabOk Tryz.func38 rfl trivial (tAll_call l op hl) (.refl _) rfl ⟨_, rfl⟩ (by rintro r o rfl; rfl) ?_
  rintro _ o rfl
  have hal := allL_len l op l.length
  unfold fitB
  generalize allL l op l.length = al at *
  refine sat_branch tabOk Tryz.func38 rfl trivial (fun h => ?_) (fun h => ?_)
  · have h : (((al.map eI).length : Int) != ((r.map eVr).length : Int)) = true := h
    have h' : al.length ≠ r.length := fun e => by simp [e] at h
    refine sat_ret tabOk Tryz.func38 rfl trivial ?_
    rw [decide_eq_false h', Bool.false_and]
    rfl
  have h : (((al.map eI).length : Int) != ((r.map eVr).length : Int)) = false := h
  have hlen : al.length = r.length := by simp at h; omega
  refine sat_stop tabOk Tryz.func38 rfl trivial ?_
  refine sat_while (α := Nat) (fun i => [(1, .d (eIs (wL l l.length))), (3, .d (eRow r)), (20, .d (eIs al)), (21, vI .i64 (al.length : Int)), (22, vI .i64 (i : Int))]) (fun i => [some (bBt l)]) (fun i => i ≤ al.length ∧ ∀ q, q < i → fitAt l al r q = true) (fun i => al.length - i) 0 ⟨Nat.zero_le _, fun q hq => by omega⟩ ?_ ?_
  · exact fun h => sat_le h hC hCl ⟨⟨_, rfl, .refl _⟩, ⟨_, rfl, .refl _⟩, ⟨_, rfl, .refl _⟩, ⟨_, rfl, .of (by rw [List.length_map])⟩, ⟨_, rfl, .refl _⟩, trivial⟩ ⟨.refl _, trivial⟩ rfl rfl (Nat.zero_le _)
  rintro i ⟨hi, hall2⟩ ih
  refine sat_branch tabOk Tryz.func38 rfl trivial (fun hb => ?_) (fun hb => ?_) <;> simp only [decide_eq_true_eq, decide_eq_false_iff_not] at hb
  · have hlt : i < al.length := by omega
    have ha := hall hlt
    have hm : r.getD i (0, [], ()) ∈ r := getD_mem _ (by omega)
    have e1 : IntKind.i64.wrap (al.getD i 0 - 1) = al.getD i 0 - 1 := wrap_id (by omega) (by omega)
    refine sat_drawT 17 tabOk Tryz.func38 rfl rfl (by simp only [andP, and_true, true_and, Int.toNat_natCast, List.length_map, List.length_append, List.length_cons, List.length_nil, List.length_replicate]; omega) (by kernel_rfl) ?_
    refine ds_call tabOk rfl (by simp only [andP, and_true, true_and, Int.toNat_natCast, List.length_map, List.length_append, List.length_cons, List.length_nil, List.length_replicate]; omega) (Right_call (r.getD i (0, [], ())).1 (r.getD i (0, [], ())).2.1 (hq _ hm).1 (hq _ hm).2) (callFunc_run Tryz.func59 rfl rfl) (by rintro r o rfl; rfl) (.refl _) rfl rfl ⟨_, rfl⟩ ?_
    have hnext : fitAt l al r i = true → ∀ q, q < i + 1 → fitAt l al r q = true := fun h q hq => by
      rcases Nat.lt_or_ge q i with h2 | h2
      · exact hall2 q h2
      · obtain rfl : q = i := by omega
        exact h
    have hno : fitAt l al r i = false → (decide (al.length = r.length) && (List.range r.length).all (fitAt l al r)) = false := fun h => by
      rw [Bool.and_eq_false_iff]
      refine .inr (List.all_eq_false.2 ⟨i, List.mem_range.2 (by omega), by rw [h]; decide⟩)
    refine ds_branch tabOk rfl trivial (fun h1 => ?_) (fun h1 => ?_)
    · have h1 : (!rightR (r.getD i (0, [], ()))) = true := h1
      refine ds_done tabOk rfl trivial ?_
      refine sat_branch tabOk Tryz.func38 rfl trivial (fun _ => ?_) (fun h => by cases h)
      refine sat_ret tabOk Tryz.func38 rfl trivial ?_
      rw [hno (by rw [fitAt, show rightR (r.getD i (0, [], ())) = false by simpa using h1]; rfl)]
      rfl
    · have h1 : (!rightR (r.getD i (0, [], ()))) = false := h1
      have h1 : rightR (r.getD i (0, [], ())) = true := by simpa using h1
      refine ds_done tabOk rfl ?_ ?_
      · simp only [Int.toNat_natCast, e1, List.length_map, wL_len]
        exact ⟨⟨by omega, by omega⟩, ⟨by omega, by omega⟩, trivial⟩
      refine sat_branch tabOk Tryz.func38 rfl trivial (fun h2 => ?_) (fun h2 => ?_)
      · have h2 : ((r.getD i (0, [], ())).1 != (wL l l.length).getD (IntKind.i64.wrap (al.getD i 0 - 1)).toNat 0) = true := h2
        rw [e1, wL_at ha.1 ha.2.1 ha.2.2] at h2
        refine sat_ret tabOk Tryz.func38 rfl trivial ?_
        rw [hno (by rw [fitAt, h1, Bool.true_and]; exact decide_eq_false (by simpa using h2))]
        rfl
      · have h2 : ((r.getD i (0, [], ())).1 != (wL l l.length).getD (IntKind.i64.wrap (al.getD i 0 - 1)).toNat 0) = false := h2
        rw [e1, wL_at ha.1 ha.2.1 ha.2.2] at h2
        refine sat_stop tabOk Tryz.func38 rfl trivial ?_
        refine sat_le (ih (i + 1) ⟨by omega, hnext ?_⟩ (by omega)) hC hCl ⟨⟨_, rfl, .refl _⟩, ⟨_, rfl, .refl _⟩, ⟨_, rfl, .refl _⟩, ⟨_, rfl, .refl _⟩, ⟨_, rfl, .of (by rw [wrap_id (by omega) (by omega)]; rfl)⟩, trivial⟩ ⟨.refl _, trivial⟩ rfl rfl (Nat.zero_le _)
        rw [fitAt, h1, Bool.true_and]
        exact decide_eq_true (by simpa using h2)
  · obtain rfl : i = al.length := by omega
    refine sat_ret tabOk Tryz.func38 rfl trivial ?_
    have : (decide (al.length = r.length) && (List.range r.length).all (fitAt l al r)) = true := by
      rw [decide_eq_true hlen, Bool.true_and, List.all_eq_true]
      exact fun q hq => hall2 q (by rw [hlen]; exact List.mem_range.1 hq)
    rw [this]
    rfl
end Go.Proofs.YtcenfhcemmlaeaaGreatDoor
namespace Go.Proofs.YtcenfhcemmlaeaaGreatDoor
open Go Ab
set_option maxRecDepth 100000
set_option linter.unusedVariables false
set_option linter.unusedSimpArgs false
set_option maxHeartbeats 4000000

@[reducible] def gNums (v : List (Nat × Nat)) : AObj := gL 56 2 (fun p : Nat × Nat => vN p.1 p.2) (0, 0) v
@[reducible] def zVc : AObj := .cells 56 [.d (eI 0), .d (.v (.slice none 0 0))]
theorem arg_eq {v : List (Nat × Nat)} {i j : Int} {q : Nat × Nat} (e : i = j) (n : v.getD j.toNat (0, 0) = q) : AV.d (vN (v.getD i.toNat (0, 0)).1 (v.getD i.toNat (0, 0)).2) = AV.d (vN q.1 q.2) := by
  subst e
  rw [n]
end Go.Proofs.YtcenfhcemmlaeaaGreatDoor
namespace Go.Proofs.YtcenfhcemmlaeaaGreatDoor
open Go Ab
set_option maxRecDepth 100000
set_option linter.unusedVariables false
set_option linter.unusedSimpArgs false
set_option maxHeartbeats 4000000

/-! ### All lines' values -/
def cnt (l : List Nd) (op : List UInt8) (n : Nat) : Nat := (allL l op n).length
def val1 (l : List Nd) (st inp : List (Nat × Nat)) (n : Nat) (v : List (Nat × Nat)) : Nat × Nat :=
  if isVal (nd l n).op = false then (0, 0)
  else if (nd l n).op = kState then nm st (cnt l kState n)
  else if (nd l n).op = kInput then nm inp (cnt l kInput n)
  else opV (nd l n) (takes (nd l n) v)
def valL (l : List Nd) (st inp : List (Nat × Nat)) : Nat → List (Nat × Nat)
  | 0 => []
  | n + 1 => valL l st inp n ++ [val1 l st inp n (valL l st inp n)]
theorem allL_split (l : List Nd) (op : List UInt8) (n : Nat) : ∀ k, ∃ r, allL l op (n + k) = allL l op n ++ r
  | 0 => ⟨[], by simp⟩
  | k + 1 => by
    obtain ⟨r, h⟩ := allL_split l op n k
    rw [← Nat.add_assoc, allL_succ, h]
    exact ⟨_, List.append_assoc ..⟩
theorem cnt_succ (l : List Nd) (op : List UInt8) (n : Nat) : cnt l op (n + 1) = cnt l op n + if (nd l n).op = op then 1 else 0 := by
  unfold cnt
  rw [allL_succ, List.length_append]
  split <;> rfl
theorem cnt_at {l : List Nd} {op : List UInt8} {n m : Nat} (h : n < m) (ho : (nd l n).op = op) : cnt l op n < cnt l op m ∧ (allL l op m).getD (cnt l op n) 0 = (n : Int) + 1 := by
  obtain ⟨r, hr⟩ := allL_split l op (n + 1) (m - (n + 1))
  rw [show n + 1 + (m - (n + 1)) = m by omega, allL_succ, if_pos ho, List.append_assoc] at hr
  unfold cnt
  rw [hr]
  constructor
  · simp
  · simp [List.getD_eq_getElem?_getD, List.getElem?_append_right]
theorem cnt_le {l : List Nd} {op : List UInt8} {n m : Nat} (h : n ≤ m) : cnt l op n ≤ cnt l op m := by
  obtain ⟨r, hr⟩ := allL_split l op n (m - n)
  rw [show n + (m - n) = m by omega] at hr
  unfold cnt
  rw [hr, List.length_append]
  omega
theorem ln_succ (l : List Nd) (n : Nat) : ln l ((n : Int) + 1) = nd l n := by
  show l.getD ((n : Int) + 1 - 1).toNat default = l.getD n default
  rw [show ((n : Int) + 1 - 1).toNat = n by omega]
theorem fit_at {l : List Nd} {op : List UInt8} {v : List (Nat × Nat)} (h : Fit l op v) {n : Nat} (hn : n < l.length) (ho : (nd l n).op = op) :
    cnt l op n < v.length ∧ ((nm v (cnt l op n)).1 : Int) = wdN l (nd l n) ∧ (nm v (cnt l op n)).2 < 2 ^ (nm v (cnt l op n)).1 := by
  obtain ⟨h1, h2⟩ := cnt_at hn ho
  have h3 : cnt l op n < v.length := by rw [h.len]; exact h1
  obtain ⟨h4, h5, _⟩ := h.at_ _ h3
  rw [h2, ln_succ] at h4
  exact ⟨h3, h4, h5⟩
theorem valL_len (l : List Nd) (st inp : List (Nat × Nat)) : ∀ n, (valL l st inp n).length = n
  | 0 => rfl
  | n + 1 => by rw [valL, List.length_append, valL_len l st inp n]; rfl
theorem nm_app {a : List (Nat × Nat)} {x : Nat × Nat} {n : Nat} (ha : a.length = n) : (∀ j, j < n → nm (a ++ [x]) j = nm a j) ∧ nm (a ++ [x]) n = x := by
  subst ha
  constructor
  · intro j hj
    simp [nm, List.getD_eq_getElem?_getD, List.getElem?_append_left hj]
  · simp [nm, List.getD_eq_getElem?_getD]
theorem valL_ok {l : List Nd} (ty : Ty l) {st inp : List (Nat × Nat)} (hs : Fit l kState st) (hi : Fit l kInput inp) : ∀ n, n ≤ l.length → VOk l (valL l st inp n) n
  | 0, _ => ⟨rfl, fun j hj => by omega, fun j hj => by omega⟩
  | n + 1, hn => by
    have ih := valL_ok ty hs hi n (by omega)
    obtain ⟨a1, a2⟩ := nm_app (x := val1 l st inp n (valL l st inp n)) ih.len
    refine ⟨valL_len _ _ _ _, fun j hj hv => ?_, fun j hj hv => ?_⟩
    · rcases Nat.lt_or_ge j n with h | h
      · rw [valL, a1 j h]
        exact ih.no j h hv
      · obtain rfl : j = n := by omega
        rw [valL, a2, val1, if_pos hv]
    · rcases Nat.lt_or_ge j n with h | h
      · rw [valL, a1 j h]
        exact ih.yes j h hv
      · obtain rfl : j = n := by omega
        rw [valL, a2, val1, if_neg (by rw [hv]; decide)]
        by_cases h1 : (nd l j).op = kState
        · rw [if_pos h1]
          exact (fit_at hs (by omega) h1).2
        · by_cases h2 : (nd l j).op = kInput
          · rw [if_neg h1, if_pos h2]
            exact (fit_at hi (by omega) h2).2
          · rw [if_neg h1, if_neg h2]
            exact (opV_ok ty (by omega) ih hv h1 h2).2

theorem wN_zero {l : List Nd} (ty : Ty l) {n : Nat} (hn : n < l.length) : decide (wN l (nd l n) = 0) = !isVal (nd l n).op := by
  unfold wN
  cases h : isVal (nd l n).op with
  | false => simp
  | true =>
    have := (val_wd ty hn h).1
    rw [if_pos rfl]
    exact decide_eq_false (by omega)
@[reducible] def vO (st : List (Nat × Nat)) (c : Nat) : D := eNums (st.drop c)
theorem drop_le (st : List (Nat × Nat)) (c : Nat) (rd : Nat → D) : VLe (.d (.sl 2 ((((st.drop c).map fun p : Nat × Nat => vN p.1 p.2).drop (Int.toNat 1)).take ((((st.drop c).map fun p : Nat × Nat => vN p.1 p.2).length : Int) - 1).toNat) rd)) (.d (vO st (c + 1))) := by
  refine VLe.sl ?_ (map_rd (fun p : Nat × Nat => vN p.1 p.2) (0, 0) _)
  rw [show Int.toNat 1 = 1 from rfl, List.take_of_length_le (by rw [List.length_drop]; omega), ← List.map_drop, List.drop_drop]
theorem nm_drop (st : List (Nat × Nat)) (c : Nat) : nm (st.drop c) 0 = nm st c := by simp [nm, List.getD_eq_getElem?_getD]

theorem fitQ {l : List Nd} {op : List UInt8} {v : List (Nat × Nat)} (h : Fit l op v) : ∀ a ∈ v.map vr, QVr a := by
  intro a ha
  obtain ⟨p, hp, rfl⟩ := List.mem_map.1 ha
  obtain ⟨i, hi, rfl⟩ := List.getElem_of_mem hp
  have := (h.at_ i hi).2.2.2
  rw [show nm v i = v[i] by simp [nm, hi]] at this
  exact QVr_vr (by omega)
theorem valL_map (l : List Nd) (st inp : List (Nat × Nat)) (n : Nat) : (valL l st inp (n + 1)).map (fun p : Nat × Nat => vN p.1 p.2) = (valL l st inp n).map (fun p : Nat × Nat => vN p.1 p.2) ++ [vN (val1 l st inp n (valL l st inp n)).1 (val1 l st inp n (valL l st inp n)).2] := by
  rw [valL, List.map_append]
  rfl
theorem z24_cle : CLe z24 (vN 0 0) := by
  intro w ok us h
  cases h with | cons h1 f1 t =>
  cases t with | cons h2 f2 t =>
  cases t
  cases h2
  exact .cons h1 f1 (.cons (.nil (Nat.zero_le _)) f2 .nil)
theorem takes_succ {x : Nd} {v : List (Nat × Nat)} {j : Nat} (h : j < x.a.length) : (takes x v).take (j + 1) = (takes x v).take j ++ [nm v (x.a.getD j 0 - 1).toNat] := by
  have h2 : j < (takes x v).length := by rw [takes_len]; exact h
  rw [List.take_succ_eq_append_getElem h2, ← takes_get h, ← getD_at (d := (0, 0)) h2]

theorem Values_ok (l : List Nd) (hm : MdB l) (ty : Ty l) (st inp : List (Nat × Nat)) (hs : Fit l kState st) (hi : Fit l kInput inp) : ACall Tryz.prog 12 [.d (eBt l), .d (eNums st), .d (eNums inp)] [] (fun r o => r = tupOf [.d (eNums (valL l st inp l.length)), vI .i64 0]) := by
  refine acall_enter Tryz.func12 rfl rfl (Nat.le_of_ble_eq_true rfl) fun C hC hCl hDs => ?_
  have hl := ty.small
  have f1 := fits_call l ty kState rfl (st.map vr) (fitQ hs)
  have f2 := fits_call l ty kInput rfl (inp.map vr) (fitQ hi)
  rw [eRow_nums, fit_of hs] at f1
  rw [eRow_nums, fit_of hi] at f2
  refine sat_call tabOk Tryz.func12 rfl trivial (tWidths_call l hm ty) (.refl _) rfl ⟨_, rfl⟩ (by rintro r o rfl; rfl) ?_
  rintro _ o rfl
  refine sat_call tabOk Tryz.func12 rfl trivial f1 (.refl _) rfl ⟨_, rfl⟩ (by rintro r o rfl; rfl) ?_
  rintro _ o rfl
  refine sat_branch tabOk Tryz.func12 rfl trivial (fun h => by cases h) (fun _ => ?_)
  refine sat_call tabOk Tryz.func12 rfl trivial f2 (.refl _) rfl ⟨_, rfl⟩ (by rintro r o rfl; rfl) ?_
  rintro _ o rfl
  refine sat_branch tabOk Tryz.func12 rfl trivial (fun h => by cases h) (fun _ => ?_)
  refine sat_stop tabOk Tryz.func12 rfl ?nd ?_
  case nd =>
    show (0 ≤ (0 : Int) ∧ (0 : Int) ≤ ((l.map eNd).length : Int) ∧ ((l.map eNd).length : Int) * 32 ≤ 281474976710656) ∧ True
    rw [List.length_map]
    exact ⟨⟨by decide, by omega, by omega⟩, trivial⟩
  refine sat_while (α := Nat) (fun n => [(8, .d (eIs (wL l l.length))), (1, .d (vO st (cnt l kState n))), (2, .d (vO inp (cnt l kInput n))), (3, .ptr 0 0), (11, .gs 1), (41, .d (eNds l)), (42, vI .i64 (l.length : Int)), (43, vI .i64 (n : Int))])
    (fun n => [some (bBt l), some (gNums (valL l st inp n))]) (fun n => n ≤ l.length) (fun n => l.length - n) 0 (Nat.zero_le _) ?_ ?_
  · exact fun h => sat_le h hC hCl ⟨⟨_, rfl, .refl _⟩, ⟨_, rfl, .refl _⟩, ⟨_, rfl, .refl _⟩, ⟨_, rfl, .refl _⟩, ⟨_, rfl, .refl _⟩, ⟨_, rfl, .refl _⟩, ⟨_, rfl, .of (by rw [List.length_map])⟩, ⟨_, rfl, .refl _⟩, trivial⟩ ⟨.refl _, .gL rfl, trivial⟩ rfl rfl (Nat.zero_le _)
  rintro n hn ih
  refine sat_branch tabOk Tryz.func12 rfl trivial (fun hb => ?_) (fun hb => ?_) <;> simp only [decide_eq_true_eq, decide_eq_false_iff_not] at hb
  · have hlt : n < l.length := by omega
    have hv := valL_ok ty hs hi n hn
    have next : ∀ (y : D) (v1 : Nat × Nat), val1 l st inp n (valL l st inp n) = v1 → CLe y (vN v1.1 v1.2) → OLe (.grow 56 2 ((valL l st inp n).map (fun p : Nat × Nat => vN p.1 p.2) ++ [y]) (catRd ((valL l st inp n).map (fun p : Nat × Nat => vN p.1 p.2)).length (fun i => vN ((valL l st inp n).getD i (0, 0)).1 ((valL l st inp n).getD i (0, 0)).2) (litRd [y]))) (gNums (valL l st inp (n + 1))) := by
      intro y v1 hv1 hle
      refine OLe.gL_c ?_
      rw [valL_map, hv1]
      exact CLes.append (CLes.refl _) ⟨hle, trivial⟩
    have hwz := wN_zero ty hlt
    have hwg : (wL l l.length).getD n 0 = wN l (nd l n) := wL_get hlt
    have room : ∀ a : D, (((valL l st inp n).map (fun p : Nat × Nat => vN p.1 p.2)).length + [a].length) * 32 ≤ 140737488355328 ∧ True := fun a => by
      rw [List.length_map, valL_len]
      exact ⟨by show (n + 1) * 32 ≤ _; omega, trivial⟩
    refine sat_branch tabOk Tryz.func12 rfl (by simp only [andP, and_true, true_and, Int.toNat_natCast, List.length_map, List.length_append, List.length_cons, List.length_nil, List.length_replicate, wL_len]; omega) (fun h1 => ?_) (fun h1 => ?_)
    · have h1 : ((wL l l.length).getD n 0 == 0) = true := h1
      rw [hwg, beqI, hwz] at h1
      have h1 : isVal (nd l n).op = false := by simpa using h1
      have hv1 : val1 l st inp n (valL l st inp n) = (0, 0) := by rw [val1, if_pos h1]
      have k1 : ¬ (nd l n).op = kState := fun e => by rw [e] at h1; cases h1
      have k2 : ¬ (nd l n).op = kInput := fun e => by rw [e] at h1; cases h1
      refine sat_stop tabOk Tryz.func12 rfl (room _) ?_
      refine sat_le (ih (n + 1) (by omega) (by omega)) hC hCl ⟨⟨_, rfl, .refl _⟩, ⟨_, rfl, .of ?_⟩, ⟨_, rfl, .of ?_⟩, ⟨_, rfl, .refl _⟩, ⟨_, rfl, .refl _⟩, ⟨_, rfl, .refl _⟩, ⟨_, rfl, .refl _⟩, ⟨_, rfl, .of (by rw [wrap_id (by omega) (by omega)]; rfl)⟩, trivial⟩ ⟨.refl _, next _ _ hv1 z24_cle, trivial⟩ rfl rfl (Nat.zero_le _)
      · rw [cnt_succ, if_neg k1]; rfl
      · rw [cnt_succ, if_neg k2]; rfl
    have h1 : ((wL l l.length).getD n 0 == 0) = false := h1
    rw [hwg, beqI, hwz] at h1
    have h1 : isVal (nd l n).op = true := by simpa using h1
    refine sat_branch tabOk Tryz.func12 rfl trivial (fun h2 => ?_) (fun h2 => ?_) <;> rw [show ((⟨#[115, 116, 97, 116, 101]⟩ : ByteArray)) = ⟨kState.toArray⟩ from rfl, strB] at h2
    · have h2 : (nd l n).op = kState := of_decide_eq_true h2
      obtain ⟨g1, g2⟩ := fit_at hs hlt h2
      have hv1 : val1 l st inp n (valL l st inp n) = nm st (cnt l kState n) := by rw [val1, if_neg (by rw [h1]; decide), if_pos h2]
      refine sat_draw0S 6 5 3 (c := none) (a := .dead) (o2 := bN (nm (st.drop (cnt l kState n)) 0).1 (nm (st.drop (cnt l kState n)) 0).2) tabOk Tryz.func12 rfl rfl trivial (by kernel_rfl) (by kernel_rfl) rfl rfl (fun _ => ds_done tabOk rfl ?nd rfl) rfl rfl ?_ ?_ trivial ?_
      case nd =>
        simp only [List.length_map, List.length_drop]
        exact ⟨⟨by decide, by omega, by omega⟩, ⟨by decide, by omega⟩, trivial⟩
      · rfl
      · rfl
      refine sat_stop tabOk Tryz.func12 rfl (room _) ?_
      refine sat_le (ih (n + 1) (by omega) (by omega)) hC hCl ⟨⟨_, rfl, .refl _⟩, ⟨_, rfl, ?_⟩, ⟨_, rfl, .of ?_⟩, ⟨_, rfl, .refl _⟩, ⟨_, rfl, .refl _⟩, ⟨_, rfl, .refl _⟩, ⟨_, rfl, .refl _⟩, ⟨_, rfl, .of (by rw [wrap_id (by omega) (by omega)]; rfl)⟩, trivial⟩ ⟨.refl _, next _ _ hv1 ?_, trivial⟩ rfl rfl (Nat.zero_le _)
      · rw [cnt_succ, if_pos h2]
        exact drop_le _ _ _
      · rw [cnt_succ, if_neg (by rw [h2]; decide)]
        rfl
      · rw [nm_drop]
        exact .refl _
    have h2 : ¬ (nd l n).op = kState := of_decide_eq_false h2
    refine sat_branch tabOk Tryz.func12 rfl trivial (fun h3 => ?_) (fun h3 => ?_) <;> rw [show ((⟨#[105, 110, 112, 117, 116]⟩ : ByteArray)) = ⟨kInput.toArray⟩ from rfl, strB] at h3
    · have h3 : (nd l n).op = kInput := of_decide_eq_true h3
      obtain ⟨g1, g2⟩ := fit_at hi hlt h3
      have hv1 : val1 l st inp n (valL l st inp n) = nm inp (cnt l kInput n) := by rw [val1, if_neg (by rw [h1]; decide), if_neg h2, if_pos h3]
      refine sat_draw0S 6 5 3 (c := none) (a := .dead) (o2 := bN (nm (inp.drop (cnt l kInput n)) 0).1 (nm (inp.drop (cnt l kInput n)) 0).2) tabOk Tryz.func12 rfl rfl trivial (by kernel_rfl) (by kernel_rfl) rfl rfl (fun _ => ds_done tabOk rfl ?nd rfl) rfl rfl ?_ ?_ trivial ?_
      case nd =>
        simp only [List.length_map, List.length_drop]
        exact ⟨⟨by decide, by omega, by omega⟩, ⟨by decide, by omega⟩, trivial⟩
      · rfl
      · rfl
      refine sat_stop tabOk Tryz.func12 rfl (room _) ?_
      refine sat_le (ih (n + 1) (by omega) (by omega)) hC hCl ⟨⟨_, rfl, .refl _⟩, ⟨_, rfl, .of ?_⟩, ⟨_, rfl, ?_⟩, ⟨_, rfl, .refl _⟩, ⟨_, rfl, .refl _⟩, ⟨_, rfl, .refl _⟩, ⟨_, rfl, .refl _⟩, ⟨_, rfl, .of (by rw [wrap_id (by omega) (by omega)]; rfl)⟩, trivial⟩ ⟨.refl _, next _ _ hv1 ?_, trivial⟩ rfl rfl (Nat.zero_le _)
      · rw [cnt_succ, if_neg h2]
        rfl
      · rw [cnt_succ, if_pos h3]
        exact drop_le _ _ _
      · rw [nm_drop]
        exact .refl _
    have h3 : ¬ (nd l n).op = kInput := of_decide_eq_false h3
    have hop := opV_ok ty hlt hv h1 h2 h3
    have hv1 : val1 l st inp n (valL l st inp n) = opV (nd l n) (takes (nd l n) (valL l st inp n)) := by rw [val1, if_neg (by rw [h1]; decide), if_neg h2, if_neg h3]
    have hab : ∀ a ∈ (nd l n).a, 1 ≤ a ∧ a ≤ n := fun a ha => by
      have := (ty.node n hlt).ab a ha
      omega
    have hxa : (nd l n).a.length ≤ 4 := by
      rw [(ty.node n hlt).al]
      exact Nat.le_trans List.count_le_length (form_len _)
    obtain ⟨gf, fn, c, hf1, hf2, hf3, hmeth, hval⟩ := does_call hop.1
    have hofc := of_call (nd l n)
    generalize ofT (nd l n) = oT at *
    have hvl := valL_len l st inp n
    have hsub : ∀ j, j ≤ (nd l n).a.length → ((takes (nd l n) (valL l st inp n)).take j).length = j := fun j hj => by rw [List.length_take, takes_len]; omega
    refine sat_stop tabOk Tryz.func12 rfl trivial ?_
    refine sat_own (s := 2) (e := 56) (t := 15) (.inl rfl) (fun i => vN (nm [] i).1 (nm [] i).2) ?_
    refine sat_while (α := Nat) (fun j => [(15, .gs 4), (49, .d (eIs (nd l n).a)), (50, vI .i64 ((nd l n).a.length : Int)), (51, vI .i64 (j : Int)), (13, .ptr 2 0), (14, .ptr 3 0), (8, .d (eIs (wL l l.length))), (1, .d (vO st (cnt l kState n))), (2, .d (vO inp (cnt l kInput n))), (3, .ptr 0 0), (11, .gs 1), (41, .d (eNds l)), (42, vI .i64 (l.length : Int)), (43, vI .i64 (n : Int))])
      (fun j => [some (bBt l), some (gNums (valL l st inp n)), some (bNd (nd l n)), some zVc, some (gNums ((takes (nd l n) (valL l st inp n)).take j))]) (fun j => j ≤ (nd l n).a.length) (fun j => (nd l n).a.length - j) 0 (Nat.zero_le _) ?_ ?_
    · intro h
      refine sat_le h hC hCl ⟨⟨_, rfl, .refl _⟩, ⟨_, rfl, .refl _⟩, ⟨_, rfl, .of ?_⟩, ⟨_, rfl, .refl _⟩, ⟨_, rfl, .refl _⟩, ⟨_, rfl, .refl _⟩, ⟨_, rfl, .refl _⟩, ⟨_, rfl, .refl _⟩, ⟨_, rfl, .refl _⟩, ⟨_, rfl, .refl _⟩, ⟨_, rfl, .refl _⟩, ⟨_, rfl, .refl _⟩, ⟨_, rfl, .refl _⟩, ⟨_, rfl, .refl _⟩, trivial⟩ ⟨.refl _, .refl _, .refl _, .refl _, .gL rfl, trivial⟩ rfl rfl (Nat.zero_le _)
      rw [List.length_map]
      rfl
    rintro j hj ihj
    refine sat_branch tabOk Tryz.func12 rfl trivial (fun hb => ?_) (fun hb => ?_) <;> simp only [decide_eq_true_eq, decide_eq_false_iff_not] at hb
    · have hjl : j < (nd l n).a.length := by omega
      have hd := hab _ (getD_mem 0 hjl)
      have e1 : IntKind.i64.wrap ((nd l n).a.getD j 0 - 1) = (nd l n).a.getD j 0 - 1 := wrap_id (by omega) (by omega)
      refine sat_stop tabOk Tryz.func12 rfl ?nd ?_
      case nd =>
        refine ⟨?_, ?_⟩
        · rw [List.length_map, hsub j hj]
          show (j + 1) * 32 ≤ _
          omega
        · simp only [andP, Int.toNat_natCast, e1, List.length_map, hvl]
          exact ⟨by omega, ⟨by omega, by omega⟩, ⟨by omega, by omega⟩, trivial⟩
      refine sat_le (ihj (j + 1) (by omega) (by omega)) hC hCl ⟨⟨_, rfl, .refl _⟩, ⟨_, rfl, .refl _⟩, ⟨_, rfl, .refl _⟩, ⟨_, rfl, .of (by rw [wrap_id (by omega) (by omega)]; rfl)⟩, ⟨_, rfl, .refl _⟩, ⟨_, rfl, .refl _⟩, ⟨_, rfl, .refl _⟩, ⟨_, rfl, .refl _⟩, ⟨_, rfl, .refl _⟩, ⟨_, rfl, .refl _⟩, ⟨_, rfl, .refl _⟩, ⟨_, rfl, .refl _⟩, ⟨_, rfl, .refl _⟩, ⟨_, rfl, .refl _⟩, trivial⟩ ⟨.refl _, .refl _, .refl _, .refl _, .gL ?_, trivial⟩ rfl rfl (Nat.zero_le _)
      rw [takes_succ hjl, List.map_append]
      show _ ++ [vN (nm (valL l st inp n) (IntKind.i64.wrap ((nd l n).a.getD j 0 - 1)).toNat).1 (nm (valL l st inp n) (IntKind.i64.wrap ((nd l n).a.getD j 0 - 1)).toNat).2] = _
      rw [e1]
      rfl
    · obtain rfl : j = (nd l n).a.length := by omega
      refine sat_freeze 4 rfl ?_
      have htk : (takes (nd l n) (valL l st inp n)).take (nd l n).a.length = takes (nd l n) (valL l st inp n) := List.take_of_length_le (by rw [takes_len]; omega)
      rw [htk]
      refine sat_le (env' := [(52, .lit false), (13, .ptr 2 0), (14, .ptr 3 0), (15, .d (eNums (takes (nd l n) (valL l st inp n)))), (8, .d (eIs (wL l l.length))), (1, .d (vO st (cnt l kState n))), (2, .d (vO inp (cnt l kInput n))), (3, .ptr 0 0), (11, .gs 1), (41, .d (eNds l)), (42, vI .i64 (l.length : Int)), (43, vI .i64 (n : Int))])
        (objs' := [some (bBt l), some (gNums (valL l st inp n)), some (bNd (nd l n)), some zVc]) ?_ hC hCl ⟨⟨_, rfl, .refl _⟩, ⟨_, rfl, .refl _⟩, ⟨_, rfl, .refl _⟩, ⟨_, rfl, .refl _⟩, ⟨_, rfl, .refl _⟩, ⟨_, rfl, .refl _⟩, ⟨_, rfl, .refl _⟩, ⟨_, rfl, .refl _⟩, ⟨_, rfl, .refl _⟩, ⟨_, rfl, .refl _⟩, ⟨_, rfl, .refl _⟩, ⟨_, rfl, .refl _⟩, trivial⟩ ⟨.refl _, .refl _, .refl _, .refl _, trivial⟩ rfl rfl (Nat.zero_le _)
      generalize takes (nd l n) (valL l st inp n) = a at *
      generalize opV (nd l n) a = p at *
      refine sat_draw0S 9 8 3 (c := none) (a := .dead) (o2 := bN p.1 p.2) tabOk Tryz.func12 rfl rfl trivial (by kernel_rfl) (by kernel_rfl) rfl rfl
        (fun _ => by
          refine ds_call tabOk rfl trivial hofc (callFunc_run Tryz.func39 rfl rfl) (by rintro r o rfl; rfl) (.refl _) rfl rfl ⟨_, rfl⟩ ?_
          refine ds_ok tabOk rfl rfl rfl rfl rfl ?_
          refine ds_ok tabOk rfl rfl rfl rfl rfl ?_
          refine ds_invoke (v0 := .agg #[]) (x := aG0) rfl rfl rfl rfl rfl rfl ?_ ?_ hmeth rfl hval (callFunc_run hf1 hf2 hf3) (by rintro r o rfl; rfl) (.refl _) rfl rfl ?_
          · intro w ok π v hv
            cases hv with | d hd => cases hd with | ifc hd => cases hd with | ag hd => cases hd; rfl
          · intro w ok π
            exact .d (.ag .nil)
          exact ds_done tabOk rfl trivial rfl)
        (by rfl) (by rfl) (by rfl) (by rfl) trivial ?_
      refine sat_stop tabOk Tryz.func12 rfl (room _) ?_
      refine sat_le (ih (n + 1) (by omega) (by omega)) hC hCl ⟨⟨_, rfl, .refl _⟩, ⟨_, rfl, .of ?_⟩, ⟨_, rfl, .of ?_⟩, ⟨_, rfl, .refl _⟩, ⟨_, rfl, .refl _⟩, ⟨_, rfl, .refl _⟩, ⟨_, rfl, .refl _⟩, ⟨_, rfl, .of (by rw [wrap_id (by omega) (by omega)]; rfl)⟩, trivial⟩ ⟨.refl _, next _ _ hv1 (.refl _), trivial⟩ rfl rfl (Nat.zero_le _)
      · rw [cnt_succ, if_neg h2]
        rfl
      · rw [cnt_succ, if_neg h3]
        rfl
  · obtain rfl : n = l.length := by omega
    refine sat_freeze 1 rfl ?_
    exact sat_ret tabOk Tryz.func12 rfl trivial rfl
end Go.Proofs.YtcenfhcemmlaeaaGreatDoor
namespace Go.Proofs.YtcenfhcemmlaeaaGreatDoor
open Go Ab
set_option maxRecDepth 100000
set_option linter.unusedVariables false
set_option linter.unusedSimpArgs false
set_option maxHeartbeats 4000000

theorem Values_no (l : List Nd) (hm : MdB l) (ty : Ty l) (st inp : List Vr) (hq : ∀ a ∈ st, QVr a) (hi : ∀ a ∈ inp, QVr a) (hno : (fitB l kState st && fitB l kInput inp) = false) : ACall Tryz.prog 12 [.d (eBt l), .d (eRow st), .d (eRow inp)] [] (fun r o => r = tupOf [.d (.v (.slice none 0 0)), vI .i64 7]) := by
  refine acall_enter Tryz.func12 rfl rfl (Nat.le_of_ble_eq_true rfl) fun C hC hCl hDs => ?_
  refine sat_call tabOk Tryz.func12 rfl trivial (tWidths_call l hm ty) (.refl _) rfl ⟨_, rfl⟩ (by rintro r o rfl; rfl) ?_
  rintro _ o rfl
  refine sat_call tabOk Tryz.func12 rfl trivial (fits_call l ty kState rfl st hq) (.refl _) rfl ⟨_, rfl⟩ (by rintro r o rfl; rfl) ?_
  rintro _ o rfl
  refine sat_branch tabOk Tryz.func12 rfl trivial (fun h => ?_) (fun h => ?_)
  · refine sat_branch tabOk Tryz.func12 rfl trivial (fun _ => ?_) (fun h => by cases h)
    exact sat_ret tabOk Tryz.func12 rfl trivial rfl
  have h : fitB l kState st = true := by simpa using h
  rw [h, Bool.true_and] at hno
  refine sat_call tabOk Tryz.func12 rfl trivial (fits_call l ty kInput rfl inp hi) (.refl _) rfl ⟨_, rfl⟩ (by rintro r o rfl; rfl) ?_
  rintro _ o rfl
  rw [hno]
  refine sat_branch tabOk Tryz.func12 rfl trivial (fun _ => ?_) (fun h => by cases h)
  exact sat_ret tabOk Tryz.func12 rfl trivial rfl

end Go.Proofs.YtcenfhcemmlaeaaGreatDoor
namespace Go.Proofs.YtcenfhcemmlaeaaGreatDoor
open Go Ab
set_option maxRecDepth 100000
set_option linter.unusedVariables false
set_option linter.unusedSimpArgs false
set_option maxHeartbeats 4000000

/-! ### Flags; a step -/
def flg (l : List Nd) (v : List (Nat × Nat)) (id : Int) : Bool := bitI' (nm v ((ln l id).a.getD 0 0 - 1).toNat).1 (nm v ((ln l id).a.getD 0 0 - 1).toNat).2 0
def flagL (l : List Nd) (op : List UInt8) (v : List (Nat × Nat)) (n : Nat) : List Bool := (allL l op n).map (flg l v)
def isFlag (op : List UInt8) : Prop := op = kBad ∨ op = kConstraint
theorem flag_line {l : List Nd} (ty : Ty l) {op : List UInt8} (ho : isFlag op) {id : Int} (h1 : 1 ≤ id) (h2 : id ≤ l.length) (h3 : (ln l id).op = op) : (ln l id).a.length = 1 ∧ 1 ≤ (ln l id).a.getD 0 0 ∧ (ln l id).a.getD 0 0 ≤ l.length ∧ isVal (ln l ((ln l id).a.getD 0 0)).op = true := by
  have hk := ty.node (id - 1).toNat (by omega)
  have hln := ty.ty.ln (id - 1).toNat (by omega)
  have hx : (ln l id).a.length = 1 := by
    rw [hk.al, show (nd l (id - 1).toNat).op = op from h3]
    rcases ho with rfl | rfl <;> decide
  have hm : (ln l id).a.getD 0 0 ∈ (ln l id).a := getD_mem 0 (by omega)
  have := hk.ab _ hm
  exact ⟨hx, this.1, by omega, hln.val _ hm⟩
theorem val_w {l : List Nd} (ty : Ty l) {v : List (Nat × Nat)} (hv : VOk l v l.length) {id : Int} (h1 : 1 ≤ id) (h2 : id ≤ l.length) : (nm v (id - 1).toNat).1 ≤ 128 := by
  cases h : isVal (nd l (id - 1).toNat).op with
  | false => rw [hv.no _ (by omega) h]; exact Nat.zero_le _
  | true =>
    have a := (hv.yes _ (by omega) h).1
    have b := (val_wd ty (j := (id - 1).toNat) (by omega) h).2
    omega

theorem flags_call (l : List Nd) (hm : MdB l) (ty : Ty l) (op : List UInt8) (ho : isFlag op) (v : List (Nat × Nat)) (hv : VOk l v l.length) : ACall Tryz.prog 44 [.d (eBt l), vSL op, .d (eNums v)] [] (fun r o => r = .d (eBs (flagL l op v l.length))) := by
  refine acall_enter Tryz.func44 rfl rfl (Nat.le_of_ble_eq_true rfl) fun C hC hCl hDs => ?_
  have hl := ty.small
  have hvl := hv.len
  refine sat_call tabOk Tryz.func44 rfl trivial (tAll_call l op hl) (.refl _) rfl ⟨_, rfl⟩ (by rintro r o rfl; rfl) ?_
  rintro _ o rfl
  have hal := allL_len l op l.length
  have hall : ∀ i, i < (allL l op l.length).length → 1 ≤ (allL l op l.length).getD i 0 ∧ (allL l op l.length).getD i 0 ≤ l.length ∧ (ln l ((allL l op l.length).getD i 0)).op = op := fun i hi => mem_allL (getD_mem 0 hi)
  unfold flagL
  generalize allL l op l.length = al at *
  refine sat_stop tabOk Tryz.func44 rfl trivial ?_
  refine sat_own (s := 1) (e := 4) (t := 7) (.inl rfl) (fun i => eB (([] : List Bool).getD i false)) ?_
  refine sat_while (α := Nat) (fun i => [(2, .d (eNums v)), (3, .ptr 0 0), (7, .gs 1), (12, .d (eIs al)), (13, vI .i64 (al.length : Int)), (14, vI .i64 (i : Int))]) (fun i => [some (bBt l), some (gBs ((al.take i).map (flg l v)))]) (fun i => i ≤ al.length) (fun i => al.length - i) 0 (Nat.zero_le _) ?_ ?_
  · exact fun h => sat_le h hC hCl ⟨⟨_, rfl, .refl _⟩, ⟨_, rfl, .refl _⟩, ⟨_, rfl, .refl _⟩, ⟨_, rfl, .refl _⟩, ⟨_, rfl, .of (by rw [List.length_map])⟩, ⟨_, rfl, .refl _⟩, trivial⟩ ⟨.refl _, .gL rfl, trivial⟩ rfl rfl (Nat.zero_le _)
  rintro i hi ih
  refine sat_branch tabOk Tryz.func44 rfl trivial (fun hb => ?_) (fun hb => ?_) <;> simp only [decide_eq_true_eq, decide_eq_false_iff_not] at hb
  · have hlt : i < al.length := by omega
    obtain ⟨a1, a2, a3⟩ := hall i hlt
    obtain ⟨b1, b2, b3, b4⟩ := flag_line ty ho a1 a2 a3
    have e1 : IntKind.i64.wrap (al.getD i 0 - 1) = al.getD i 0 - 1 := wrap_id (by omega) (by omega)
    have e2 : IntKind.i64.wrap ((ln l (al.getD i 0)).a.getD 0 0 - 1) = (ln l (al.getD i 0)).a.getD 0 0 - 1 := wrap_id (by omega) (by omega)
    have hw := val_w ty hv b2 b3
    have e3 : IntKind.i64.wrap ((l.getD (IntKind.i64.wrap (al.getD i 0 - 1)).toNat default).a.getD 0 0 - 1) = (ln l (al.getD i 0)).a.getD 0 0 - 1 := by rw [e1]; exact e2
    refine sat_call tabOk Tryz.func44 rfl ?nd (BitN_call (nm v ((ln l (al.getD i 0)).a.getD 0 0 - 1).toNat).1 (nm v ((ln l (al.getD i 0)).a.getD 0 0 - 1).toNat).2 0 (by omega)) ⟨.of (arg_eq e3 rfl), .refl _, trivial⟩ rfl ⟨_, rfl⟩ (by rintro r o rfl; rfl) ?_
    case nd =>
      simp only [Int.toNat_natCast, show Int.toNat 0 = 0 from rfl, List.length_map]
      rw [e3, e1]
      exact ⟨⟨by omega, by omega⟩, ⟨by decide, by rw [show (l.getD (al.getD i 0 - 1).toNat default).a.length = 1 from b1]; decide⟩, ⟨by omega, by omega⟩, ⟨by omega, by omega⟩, trivial⟩
    rintro _ o rfl
    refine sat_stop tabOk Tryz.func44 rfl ?nd ?_
    case nd =>
      refine ⟨?_, trivial⟩
      rw [List.length_map, List.length_map, List.length_take]
      show (min i al.length + 1) * 1 ≤ _
      omega
    refine sat_le (ih (i + 1) (by omega) (by omega)) hC hCl ⟨⟨_, rfl, .refl _⟩, ⟨_, rfl, .refl _⟩, ⟨_, rfl, .refl _⟩, ⟨_, rfl, .refl _⟩, ⟨_, rfl, .refl _⟩, ⟨_, rfl, .of (by rw [wrap_id (by omega) (by omega)]; rfl)⟩, trivial⟩ ⟨.refl _, .gL ?_, trivial⟩ rfl rfl (Nat.zero_le _)
    rw [List.take_succ_eq_append_getElem hlt, List.map_append, List.map_append, ← getD_at (d := 0) hlt]
    rfl
  · obtain rfl : i = al.length := by omega
    refine sat_freeze 1 rfl ?_
    refine sat_ret tabOk Tryz.func44 rfl trivial ?_
    rw [List.take_length]
    rfl

end Go.Proofs.YtcenfhcemmlaeaaGreatDoor
namespace Go.Proofs.YtcenfhcemmlaeaaGreatDoor
open Go Ab
set_option maxRecDepth 100000
set_option linter.unusedVariables false
set_option linter.unusedSimpArgs false
set_option maxHeartbeats 4000000

theorem ofJ_spec {l : List Nd} {op : List UInt8} {s : Int} {j : Nat} (h : ofJ l op s = some j) : j < l.length ∧ (nd l j).op = op ∧ (nd l j).a.getD 0 0 = s := by
  unfold ofJ at h
  have h1 := List.mem_of_find?_eq_some h
  have h2 := List.find?_some h
  simp only [decide_eq_true_eq] at h2
  exact ⟨List.mem_range.1 h1, h2.1, h2.2⟩
theorem ofJ_none' {l : List Nd} {op : List UInt8} {s : Int} (h : ofJ l op s = none) : ¬ hadP l l.length op s := by
  rintro ⟨j, h1, h2, h3⟩
  unfold ofJ at h
  have := List.find?_eq_none.1 h j (List.mem_range.2 h1)
  simp only [decide_eq_true_eq] at this
  exact this ⟨h2, h3⟩
def isOf (op : List UInt8) : Prop := op = kInit ∨ op = kNext
/-- A state's init, or next. -/
theorem of_line {l : List Nd} (ty : Ty l) {op : List UInt8} (ho : isOf op) {s : Int} {j : Nat} (h : ofJ l op s = some j) :
    1 ≤ ofV l op s ∧ ofV l op s ≤ l.length ∧ isVal (ln l (ofV l op s)).op = true ∧ wdN l (ln l (ofV l op s)) = wdN l (ln l s) ∧ (op = kInit → (ln l (ofV l op s)).op = kConst) := by
  obtain ⟨h1, h2, h3⟩ := ofJ_spec h
  have hk := ty.node j h1
  have hln := ty.ty.ln j h1
  have hx : (nd l j).a.length = 2 := by
    rw [hk.al, h2]
    rcases ho with rfl | rfl <;> decide
  have e : ofV l op s = (nd l j).a.getD 1 0 := by rw [ofV, h]
  have hm : (nd l j).a.getD 1 0 ∈ (nd l j).a := getD_mem 0 (by omega)
  have hab := hk.ab _ hm
  have hsame := (hln.ask.inx (by rw [h2]; exact ho)).1
  have s0 := hsame 0 (by omega)
  have s1 := hsame 1 (by omega)
  unfold awN at s0 s1
  rw [h3] at s0
  rw [e]
  exact ⟨hab.1, by omega, hln.val _ hm, by rw [s1, s0], fun e => hln.ask.ini (by rw [h2, e])⟩
theorem of_two {l : List Nd} (ty : Ty l) {op : List UInt8} (ho : isOf op) : ∀ j, j < l.length → (nd l j).op = op → (nd l j).a.length = 2 := fun j h1 h2 => by
  rw [(ty.node j h1).al, h2]
  rcases ho with rfl | rfl <;> decide
theorem next_some {l : List Nd} (ty : Ty l) {s : Int} (h1 : 1 ≤ s) (h2 : s ≤ l.length) (h3 : (ln l s).op = kState) : ∃ j, ofJ l kNext s = some j := by
  have := ty.ty.nx (s - 1).toNat (by omega) h3
  rw [show (((s - 1).toNat : Nat) : Int) + 1 = s by omega] at this
  cases h : ofJ l kNext s with
  | some j => exact ⟨j, rfl⟩
  | none => exact absurd this (ofJ_none' h)
/-- The next state. -/
def nextL (l : List Nd) (v : List (Nat × Nat)) : List (Nat × Nat) := (allL l kState l.length).map fun s => nm v (ofV l kNext s - 1).toNat
theorem next_line {l : List Nd} (ty : Ty l) {s : Int} (hs : s ∈ allL l kState l.length) : 1 ≤ ofV l kNext s ∧ ofV l kNext s ≤ l.length ∧ isVal (ln l (ofV l kNext s)).op = true ∧ wdN l (ln l (ofV l kNext s)) = wdN l (ln l s) := by
  obtain ⟨h1, h2, h3⟩ := mem_allL hs
  obtain ⟨j, hj⟩ := next_some ty h1 h2 h3
  have := of_line ty (.inr rfl) hj
  exact ⟨this.1, this.2.1, this.2.2.1, this.2.2.2.1⟩
theorem next_fit {l : List Nd} (ty : Ty l) {v : List (Nat × Nat)} (hv : VOk l v l.length) : Fit l kState (nextL l v) := by
  refine ⟨by simp [nextL], fun i hi => ?_⟩
  have hi' : i < (allL l kState l.length).length := by simpa [nextL] using hi
  have e : nm (nextL l v) i = nm v (ofV l kNext ((allL l kState l.length).getD i 0) - 1).toNat := by
    rw [getD_at hi']
    simp [nm, nextL, hi']
  obtain ⟨h1, h2, h3, h4⟩ := next_line ty (getD_mem (i := i) (l := allL l kState l.length) 0 hi')
  have hy := hv.yes (ofV l kNext ((allL l kState l.length).getD i 0) - 1).toNat (by omega) h3
  have hw := val_wd ty (j := (ofV l kNext ((allL l kState l.length).getD i 0) - 1).toNat) (by omega) h3
  rw [e]
  exact ⟨by rw [hy.1]; exact h4, hy.2, by omega, by omega⟩
@[reducible] def e2B (a b : List Bool) : D := .ag [eBs a, eBs b]
@[reducible] def stepA (l : List Nd) (v : List (Nat × Nat)) : AV := tupOf [.d (eNums (nextL l v)), .d (e2B (flagL l kBad v l.length) (flagL l kConstraint v l.length)), vI .i64 0]
@[reducible] def noStep : AV := tupOf [.d (.v (.slice none 0 0)), .d (.ag [.v (.slice none 0 0), .v (.slice none 0 0)]), vI .i64 7]

theorem Step_ok (l : List Nd) (hm : MdB l) (ty : Ty l) (st inp : List (Nat × Nat)) (hs : Fit l kState st) (hi : Fit l kInput inp) : ACall Tryz.prog 14 [.d (eBt l), .d (eNums st), .d (eNums inp)] [] (fun r o => r = stepA l (valL l st inp l.length)) := by
  refine acall_enter Tryz.func14 rfl rfl (Nat.le_of_ble_eq_true rfl) fun C hC hCl hDs => ?_
  have hl := ty.small
  have hv := valL_ok ty hs hi l.length (Nat.le_refl _)
  have hc := Values_ok l hm ty st inp hs hi
  generalize valL l st inp l.length = v at *
  have hvl := hv.len
  refine sat_call tabOk Tryz.func14 rfl trivial hc (.refl _) rfl ⟨_, rfl⟩ (by rintro r o rfl; rfl) ?_
  rintro _ o rfl
  refine sat_branch tabOk Tryz.func14 rfl trivial (fun h => by cases h) (fun _ => ?_)
  refine sat_call tabOk Tryz.func14 rfl trivial (tAll_call l kState hl) (.refl _) rfl ⟨_, rfl⟩ (by rintro r o rfl; rfl) ?_
  rintro _ o rfl
  have hal := allL_len l kState l.length
  have hall := @next_line l ty
  unfold stepA nextL
  generalize allL l kState l.length = al at *
  refine sat_stop tabOk Tryz.func14 rfl trivial ?_
  refine sat_own (s := 2) (e := 56) (t := 11) (.inl rfl) (fun i => vN (nm [] i).1 (nm [] i).2) ?_
  refine sat_while (α := Nat) (fun i => [(3, .ptr 0 0), (7, .ptr 1 0), (9, .d (eNums v)), (11, .gs 2), (28, .d (eIs al)), (29, vI .i64 (al.length : Int)), (30, vI .i64 (i : Int))]) (fun i => [some (bBt l), some (.cells 36 [.d (.v (.slice none 0 0)), .d (.v (.slice none 0 0))]), some (gNums ((al.take i).map fun s => nm v (ofV l kNext s - 1).toNat))]) (fun i => i ≤ al.length) (fun i => al.length - i) 0 (Nat.zero_le _) ?_ ?_
  · exact fun h => sat_le h hC hCl ⟨⟨_, rfl, .refl _⟩, ⟨_, rfl, .refl _⟩, ⟨_, rfl, .refl _⟩, ⟨_, rfl, .refl _⟩, ⟨_, rfl, .refl _⟩, ⟨_, rfl, .of (by rw [List.length_map])⟩, ⟨_, rfl, .refl _⟩, trivial⟩ ⟨.refl _, .refl _, .gL rfl, trivial⟩ rfl rfl (Nat.zero_le _)
  rintro i hi ih
  refine sat_branch tabOk Tryz.func14 rfl trivial (fun hb => ?_) (fun hb => ?_) <;> simp only [decide_eq_true_eq, decide_eq_false_iff_not] at hb
  · have hlt : i < al.length := by omega
    obtain ⟨a1, a2, a3, a4⟩ := hall (getD_mem (i := i) (l := al) 0 hlt)
    have e1 : IntKind.i64.wrap (ofV l kNext (al.getD i 0) - 1) = ofV l kNext (al.getD i 0) - 1 := wrap_id (by omega) (by omega)
    refine sat_call tabOk Tryz.func14 rfl (by simp only [andP, and_true, true_and, Int.toNat_natCast, List.length_map, List.length_append, List.length_cons, List.length_nil, List.length_replicate]; omega) (tOf_call l kNext (al.getD i 0) hl (of_two ty (.inr rfl))) (.refl _) rfl ⟨_, rfl⟩ (by rintro r o rfl; rfl) ?_
    rintro _ o rfl
    refine sat_stop tabOk Tryz.func14 rfl ?nd ?_
    case nd =>
      refine ⟨?_, ?_⟩
      · rw [List.length_map, List.length_map, List.length_take]
        show (min i al.length + 1) * 32 ≤ _
        omega
      · simp only [andP, e1, List.length_map]
        exact ⟨⟨by omega, by omega⟩, trivial⟩
    refine sat_le (ih (i + 1) (by omega) (by omega)) hC hCl ⟨⟨_, rfl, .refl _⟩, ⟨_, rfl, .refl _⟩, ⟨_, rfl, .refl _⟩, ⟨_, rfl, .refl _⟩, ⟨_, rfl, .refl _⟩, ⟨_, rfl, .refl _⟩, ⟨_, rfl, .of (by rw [wrap_id (by omega) (by omega)]; rfl)⟩, trivial⟩ ⟨.refl _, .refl _, .gL ?_, trivial⟩ rfl rfl (Nat.zero_le _)
    rw [List.take_succ_eq_append_getElem hlt, List.map_append, List.map_append, ← getD_at (d := 0) hlt]
    show _ ++ [vN (v.getD (IntKind.i64.wrap (ofV l kNext (al.getD i 0) - 1)).toNat (0, 0)).1 (v.getD (IntKind.i64.wrap (ofV l kNext (al.getD i 0) - 1)).toNat (0, 0)).2] = _
    rw [e1]
    rfl
  · obtain rfl : i = al.length := by omega
    refine sat_freeze 2 rfl ?_
    rw [List.take_length]
    refine sat_drawT 9 tabOk Tryz.func14 rfl rfl trivial (by kernel_rfl) ?_
    refine ds_call tabOk rfl trivial (flags_call l hm ty kBad (.inl rfl) v hv) (callFunc_run Tryz.func44 rfl rfl) (by rintro r o rfl; rfl) (.refl _) rfl rfl ⟨_, rfl⟩ ?_
    refine ds_call tabOk rfl trivial (flags_call l hm ty kConstraint (.inr rfl) v hv) (callFunc_run Tryz.func44 rfl rfl) (by rintro r o rfl; rfl) (.refl _) rfl rfl ⟨_, rfl⟩ ?_
    refine ds_done tabOk rfl trivial ?_
    exact sat_ret tabOk Tryz.func14 rfl trivial rfl
theorem Step_no (l : List Nd) (hm : MdB l) (ty : Ty l) (st inp : List Vr) (hq : ∀ a ∈ st, QVr a) (hi : ∀ a ∈ inp, QVr a) (hno : (fitB l kState st && fitB l kInput inp) = false) : ACall Tryz.prog 14 [.d (eBt l), .d (eRow st), .d (eRow inp)] [] (fun r o => r = noStep) := by
  refine acall_enter Tryz.func14 rfl rfl (Nat.le_of_ble_eq_true rfl) fun C hC hCl hDs => ?_
  refine sat_call tabOk Tryz.func14 rfl trivial (Values_no l hm ty st inp hq hi hno) (.refl _) rfl ⟨_, rfl⟩ (by rintro r o rfl; rfl) ?_
  rintro _ o rfl
  refine sat_branch tabOk Tryz.func14 rfl trivial (fun _ => ?_) (fun h => by cases h)
  exact sat_ret tabOk Tryz.func14 rfl trivial rfl

end Go.Proofs.YtcenfhcemmlaeaaGreatDoor
set_option linter.unusedSimpArgs false
set_option linter.unusedVariables false
namespace Ab
open Go
def eLitG (T : Tab) (t : TypeId) (len : Nat) (ps : List (Nat × AV)) (objs : List (Option AObj)) : Option EOut :=
  match tlook T t with
  | none => none
  | some r => match r.kd with
    | .slice e => match tlook T e with
      | none => none
      | some re => match ps with
        | [] => none
        | p :: ps' => match litParts re.size 0 (p :: ps') with
          | none => none
          | some xs => match lenIs xs len with
            | false => none
            | true => match Nat.ble (len * re.size) 16777216 with
              | true => match Nat.beq re.size 0 with
                | true => none
                | false => some ⟨none, false, .gs objs.length, none, objs ++ [some (.grow e re.size xs (litRd xs))]⟩
              | false => none
    | _ => none

theorem eLitG_ok {P : Program} {T : Tab} (hT : TabOk P T) {X : Nat → Prop} {π : List Value} {objs : List (Option AObj)} {w : World} (m : Mem X π objs w) {t : TypeId} {len : Nat} {ps : List (Nat × AV)} {vs : List (Nat × Value)}
    (hp : RelPs w (okOf X π objs) π ps vs) : ERok P X π objs w (eLitG T t len ps objs) (do pure (.value (← Instr.buildSlice t len vs.toArray))) := by
  unfold eLitG
  split
  · trivial
  · rename_i r hr
    split
    · rename_i e hk
      have ht := slice_elem hT hr hk
      split
      · trivial
      · rename_i re hre
        obtain ⟨z, hzr, hzc, hzf, _, _⟩ := (tab_row hT hre).zero
        have hzl : z.cells.size = re.size := by
          have := (tab_row hT hre).zl
          rw [← hzc] at this
          simpa using this
        split
        · trivial
        · rename_i p ps'
          split
          · trivial
          · rename_i xs hxs
            split
            · trivial
            · rename_i hlen
              have hlen := lenIs_eq hlen
              split
              · rename_i hble
                have hble' : len * re.size ≤ 16777216 := by simpa using hble
                split
                · trivial
                · rename_i hz0
                  intro _
                  obtain ⟨us, h1, h2⟩ := lit_rel hxs hp [] ((List.range (len * re.size)).map fun i => z.cells[i % z.cells.size]!) (by simp) (by simp [hlen])
                  have hul := h1.length
                  simp only [List.nil_append] at h2
                  have hrun : (Instr.buildSlice t len vs.toArray).run P w = .ok (.slice (some ⟨w.heap.size, 0, none⟩) len len) (w.alloc (.cells us.toArray e)) := by
                    have hz0' : re.size ≠ 0 := by
                      intro e
                      rw [e] at hz0
                      cases hz0
                    have hsz := (tab_row hT hre).sizeOf w
                    have h2' : Instr.fill (fun i => some (i * re.size, re.size)) (Array.map (fun i => z.cells[i % z.cells.size]!) (Array.range (len * re.size))) vs = some us.toArray := by
                      rw [← h2]
                      congr 1
                      apply Array.ext'
                      simp
                    by_cases hl0 : len * re.size = 0
                    · have hl00 : len = 0 := by
                        rcases Nat.mul_eq_zero.1 hl0 with h | h
                        · exact h
                        · exact absurd h hz0'
                      subst hl00
                      have hx0 : xs = [] := List.eq_nil_of_length_eq_zero hlen
                      subst hx0
                      exfalso
                      revert hxs
                      simp only [litParts]
                      repeat' split
                      all_goals simp
                    · simp [Instr.buildSlice, run_underlying ht, hsz, hl0, show ¬ 16777216 < len * re.size by omega, hzr, h2', run_newRow]
                  have hext : ∀ b, b < w.heap.size → (w.alloc (.cells us.toArray e)).heap[b]? = w.heap[b]? := fun b hb => heap_push_old _ hb
                  obtain ⟨q, hq⟩ : ∃ q, len = q + 1 := by
                    cases len with
                    | zero =>
                      have hx0 : xs = [] := List.eq_nil_of_length_eq_zero hlen
                      subst hx0
                      exfalso
                      revert hxs
                      simp only [litParts]
                      repeat' split
                      all_goals simp
                    | succ q => exact ⟨q, rfl⟩
                  have hzp : 0 < re.size := by
                    have : re.size ≠ 0 := by intro e; rw [e] at hz0; cases hz0
                    omega
                  have hk : ∀ X' π' objs', Keeps w (okOf X π objs) (w.alloc (.cells us.toArray e)) (okOf X' π' objs') → RelE (w.alloc (.cells us.toArray e)) (okOf X' π' objs') re.size xs us := fun _ _ _ hk => h1.mono hk
                  subst hlen
                  refine ⟨_, _, π ++ [.slice (some ⟨w.heap.size, 0, none⟩) xs.length xs.length], by simp only [Sem.run_bind, hrun, Result.andThen_ok, Sem.run_pure]; rfl, tr_new m (.cells us.toArray e) (.slice (some ⟨w.heap.size, 0, none⟩) xs.length xs.length) (.grow e re.size xs (litRd xs)) (by rw [hq]; rfl) ?_, fun _ => .gs (nth_new m.len _)⟩
                  have hrel := RelO.grow (w := w.alloc (.cells us.toArray e)) (ok := okOf X (π ++ [.slice (some ⟨w.heap.size, 0, none⟩) xs.length xs.length]) (objs ++ [some (.grow e re.size xs (litRd xs))])) (π := π ++ [.slice (some ⟨w.heap.size, 0, none⟩) xs.length xs.length]) (e := e) (s := re.size) (b := w.heap.size) (o := 0) (c := q) (xs := xs) (us := us) (vs := us) (rd := litRd xs) (fz := (0, 0)) (heap_push_new _) (fun i hi => by omega)
                    (hk _ _ _ (new_keeps _ _ _ m.len (by intro b e; rw [hq] at e; cases e; exact Nat.le_refl _))) (fun i hi => by rw [Nat.zero_add]) (by omega) (by have hml : maxLen = 9223372036854775807 := rfl; have : xs.length * 1 ≤ xs.length * re.size := Nat.mul_le_mul_left _ hzp; omega) (by rw [hul, hq]; omega) (litRd_ok xs)
                  rw [← hq] at hrel
                  exact hrel
              · trivial
    · trivial


section
variable {P : Program} {T : Tab} {f : FuncId} {n : Nat} {C : Cx} {R : AV → List (Option AObj) → Prop} {env : Env} {objs : List (Option AObj)}
theorem sat_litG {ops : Array Oper} {i : Nat} {r : List Nat} {k : List Item} {o : Oper} {e : Env} {t : TypeId} {len : Nat} {ps : List (Nat × Operand)} {az : List (Nat × AV)} (out : EOut) (hT : TabOk P T) (ho : ops[i]? = some o) (hw : wantE ops env o = .yes) (hop : o.op = .buildSlice t len ⟨ps⟩) (hp : parts env ps = some az)
    (hs : eLitG T t len az objs = some out) (hc : cond out.c) (hput : putE n o.dst (skA out.skip out.a) (dropEnvQ out.q env) = some e) (h : ASat P f n C (.inRegion ops r :: k) e out.objs R) : ASat P f n C (.inRegion ops (i :: r) :: k) env objs R := by
  refine sat_op out ho hw (fun X π w tmps hm he => ?_) hc hput h
  have := eLitG_ok hT hm (t := t) (len := len) (parts_rel (ds := []) he hp)
  rw [hs] at this
  unfold execOp
  rw [hop]
  simpa using this
end
end Ab
namespace Go.Proofs.YtcenfhcemmlaeaaGreatDoor
open Go Ab
set_option maxRecDepth 100000
set_option linter.unusedVariables false
set_option linter.unusedSimpArgs false
set_option maxHeartbeats 4000000

/-! ### A state at first; runs -/
def start1 (l : List Nd) (f : List (Nat × Nat)) (i : Nat) : Nat × Nat :=
  if (ofJ l kInit ((allL l kState l.length).getD i 0)).isSome = true then ((ln l (ofV l kInit ((allL l kState l.length).getD i 0))).t.length, mkN (ln l (ofV l kInit ((allL l kState l.length).getD i 0))).t) else nm f i
def startL (l : List Nd) (f : List (Nat × Nat)) (k : Nat) : List (Nat × Nat) := (List.range k).map (start1 l f)
theorem startL_succ (l : List Nd) (f : List (Nat × Nat)) (k : Nat) : startL l f (k + 1) = startL l f k ++ [start1 l f k] := by simp [startL, List.range_succ]
theorem startL_nm {l : List Nd} {f : List (Nat × Nat)} {k i : Nat} (h : i < k) : nm (startL l f k) i = start1 l f i := by simp [nm, startL, h]
theorem const_mk {l : List Nd} (ty : Ty l) {id : Int} (h1 : 1 ≤ id) (h2 : id ≤ l.length) (h3 : (ln l id).op = kConst) : mkok (ln l id).t = true ∧ ((ln l id).t.length : Int) = wdN l (ln l id) := by
  have hk := ty.node (id - 1).toNat (by omega)
  have hln := ty.ty.ln (id - 1).toNat (by omega)
  have h3' : (nd l (id - 1).toNat).op = kConst := h3
  have hs := (val_s ty (j := (id - 1).toNat) (by omega) (by rw [h3']; rfl)).1
  refine ⟨hk.txt (by rw [h3']; decide), ?_⟩
  have := hln.ask.const h3'
  rwa [wOf, if_pos hs] at this
theorem start_ok {l : List Nd} (ty : Ty l) {f : List (Nat × Nat)} (hf : Fit l kState f) {i : Nat} (hi : i < (allL l kState l.length).length) :
    ((start1 l f i).1 : Int) = wdN l (ln l ((allL l kState l.length).getD i 0)) ∧ (start1 l f i).2 < 2 ^ (start1 l f i).1 ∧ 1 ≤ (start1 l f i).1 ∧ (start1 l f i).1 ≤ 128 := by
  unfold start1
  split
  · rename_i h
    obtain ⟨j, hj⟩ := Option.isSome_iff_exists.1 h
    obtain ⟨h1, h2, h3, h4, h5⟩ := of_line ty (.inl rfl) hj
    obtain ⟨m1, m2⟩ := const_mk ty h1 h2 (h5 rfl)
    have hw : 1 ≤ wdN l (ln l (ofV l kInit ((allL l kState l.length).getD i 0))) ∧ wdN l (ln l (ofV l kInit ((allL l kState l.length).getD i 0))) ≤ 128 := val_wd ty (j := (ofV l kInit ((allL l kState l.length).getD i 0) - 1).toNat) (by omega) h3
    rw [← m2] at hw
    exact ⟨by rw [← h4]; exact m2, mk_lt _, Int.ofNat_le.1 hw.1, Int.ofNat_le.1 hw.2⟩
  · exact hf.at_ i (by rw [hf.len]; exact hi)
theorem start_fit {l : List Nd} (ty : Ty l) {f : List (Nat × Nat)} (hf : Fit l kState f) : Fit l kState (startL l f (allL l kState l.length).length) := by
  refine ⟨by simp [startL], fun i hi => ?_⟩
  have hi' : i < (allL l kState l.length).length := by simpa [startL] using hi
  rw [startL_nm hi']
  exact start_ok ty hf hi'

theorem Start_ok (l : List Nd) (hm : MdB l) (ty : Ty l) (f : List (Nat × Nat)) (hf : Fit l kState f) : ACall Tryz.prog 16 [.d (eBt l), .d (eNums f)] [] (fun r o => r = tupOf [.d (eNums (startL l f (allL l kState l.length).length)), vI .i64 0]) := by
  refine acall_enter Tryz.func16 rfl rfl (Nat.le_of_ble_eq_true rfl) fun C hC hCl hDs => ?_
  have hl := ty.small
  have hfit := fits_call l ty kState rfl (f.map vr) (fitQ hf)
  rw [eRow_nums, fit_of hf] at hfit
  refine sat_call tabOk Tryz.func16 rfl trivial (tWidths_call l hm ty) (.refl _) rfl ⟨_, rfl⟩ (by rintro r o rfl; rfl) ?_
  rintro _ o rfl
  refine sat_call tabOk Tryz.func16 rfl trivial hfit (.refl _) rfl ⟨_, rfl⟩ (by rintro r o rfl; rfl) ?_
  rintro _ o rfl
  refine sat_branch tabOk Tryz.func16 rfl trivial (fun h => by cases h) (fun _ => ?_)
  refine sat_call tabOk Tryz.func16 rfl trivial (tAll_call l kState hl) (.refl _) rfl ⟨_, rfl⟩ (by rintro r o rfl; rfl) ?_
  rintro _ o rfl
  have hal := allL_len l kState l.length
  have hfl := hf.len
  refine sat_stop tabOk Tryz.func16 rfl trivial ?_
  refine sat_own (s := 2) (e := 56) (t := 9) (.inl rfl) (fun i => vN (nm [] i).1 (nm [] i).2) ?_
  refine sat_while (α := Nat) (fun i => [(1, .d (eNums f)), (2, .ptr 0 0), (9, .gs 1), (27, .d (eIs (allL l kState l.length))), (28, vI .i64 ((allL l kState l.length).length : Int)), (29, vI .i64 (i : Int))]) (fun i => [some (bBt l), some (gNums (startL l f i))]) (fun i => i ≤ (allL l kState l.length).length) (fun i => (allL l kState l.length).length - i) 0 (Nat.zero_le _) ?_ ?_
  · exact fun h => sat_le h hC hCl ⟨⟨_, rfl, .refl _⟩, ⟨_, rfl, .refl _⟩, ⟨_, rfl, .refl _⟩, ⟨_, rfl, .refl _⟩, ⟨_, rfl, .of (by rw [List.length_map])⟩, ⟨_, rfl, .refl _⟩, trivial⟩ ⟨.refl _, .gL rfl, trivial⟩ rfl rfl (Nat.zero_le _)
  rintro i hi ih
  have hsl : (startL l f i).length = i := by simp [startL]
  have room : ∀ a : D, (((startL l f i).map (fun p : Nat × Nat => vN p.1 p.2)).length + [a].length) * 32 ≤ 140737488355328 ∧ True := fun a => by
    rw [List.length_map, hsl]
    exact ⟨by show (i + 1) * 32 ≤ _; omega, trivial⟩
  refine sat_branch tabOk Tryz.func16 rfl trivial (fun hb => ?_) (fun hb => ?_) <;> simp only [decide_eq_true_eq, decide_eq_false_iff_not] at hb
  · have hlt : i < (allL l kState l.length).length := by omega
    obtain ⟨s, hs⟩ : ∃ s, (allL l kState l.length).getD i 0 = s := ⟨_, rfl⟩
    have hst := startL_succ l f i
    rw [start1, hs] at hst
    have hof := tOf_call l kInit s hl (of_two ty (.inl rfl))
    rw [← hs] at hof
    refine sat_call tabOk Tryz.func16 rfl (by simp only [andP, and_true, true_and, Int.toNat_natCast, List.length_map, List.length_append, List.length_cons, List.length_nil, List.length_replicate]; omega) hof (.refl _) rfl ⟨_, rfl⟩ (by rintro r o rfl; rfl) ?_
    rintro _ o rfl
    rw [hs]
    refine sat_branch tabOk Tryz.func16 rfl trivial (fun hj => ?_) (fun hj => ?_)
    · have hj : (ofJ l kInit s).isSome = true := hj
      obtain ⟨j, hj2⟩ := Option.isSome_iff_exists.1 hj
      obtain ⟨h1, h2, h3, h4, h5⟩ := of_line ty (.inl rfl) hj2
      obtain ⟨m1, m2⟩ := const_mk ty h1 h2 (h5 rfl)
      rw [if_pos hj] at hst
      have e1 : IntKind.i64.wrap (ofV l kInit s - 1) = ofV l kInit s - 1 := wrap_id (by omega) (by omega)
      refine sat_call tabOk Tryz.func16 rfl ?nd ((Make_call (ln l (ofV l kInit s)).t (Nat.le_trans (mkok_len m1) (by decide))).mono fun r o hr => hr.trans (show mkR _ = tupOf [.d (vN (ln l (ofV l kInit s)).t.length (mkN (ln l (ofV l kInit s)).t)), vI .i64 0] by rw [mkR, if_pos m1])) ⟨.of ?_, trivial⟩ rfl ⟨_, rfl⟩ (by rintro r o rfl; rfl) ?_
      case nd =>
        simp only [e1, List.length_map]
        exact ⟨⟨by omega, by omega⟩, trivial⟩
      · show vSL (l.getD (IntKind.i64.wrap (ofV l kInit s - 1)).toNat default).t = _
        rw [e1]
      rintro _ o rfl
      refine sat_stop tabOk Tryz.func16 rfl (room _) ?_
      refine sat_le (ih (i + 1) (by omega) (by omega)) hC hCl ⟨⟨_, rfl, .refl _⟩, ⟨_, rfl, .refl _⟩, ⟨_, rfl, .refl _⟩, ⟨_, rfl, .refl _⟩, ⟨_, rfl, .refl _⟩, ⟨_, rfl, .of (by rw [wrap_id (by omega) (by omega)]; rfl)⟩, trivial⟩ ⟨.refl _, .gL ?_, trivial⟩ rfl rfl (Nat.zero_le _)
      rw [hst, List.map_append]
      rfl
    · have hj : (ofJ l kInit s).isSome = false := hj
      rw [if_neg (by rw [hj]; decide)] at hst
      refine sat_stop tabOk Tryz.func16 rfl (room _) ?_
      refine sat_le (ih (i + 1) (by omega) (by omega)) hC hCl ⟨⟨_, rfl, .refl _⟩, ⟨_, rfl, .refl _⟩, ⟨_, rfl, .refl _⟩, ⟨_, rfl, .refl _⟩, ⟨_, rfl, .refl _⟩, ⟨_, rfl, .of (by rw [wrap_id (by omega) (by omega)]; rfl)⟩, trivial⟩ ⟨.refl _, .gL ?_, trivial⟩ rfl rfl (Nat.zero_le _)
      rw [hst, List.map_append]
      rfl
  · obtain rfl : i = (allL l kState l.length).length := by omega
    refine sat_freeze 1 rfl ?_
    exact sat_ret tabOk Tryz.func16 rfl trivial rfl
end Go.Proofs.YtcenfhcemmlaeaaGreatDoor
namespace Go.Proofs.YtcenfhcemmlaeaaGreatDoor
open Go Ab
set_option maxRecDepth 100000
set_option linter.unusedVariables false
set_option linter.unusedSimpArgs false
set_option maxHeartbeats 4000000

@[reducible] def gNss (l : List (List (Nat × Nat))) : AObj := gL 25 1 eNums [] l
@[reducible] def inRow (ins : List (List Vr)) (i : Nat) : List Vr := ins.getD i []
/-- The state after some steps. -/
def stt (l : List Nd) (s : List (Nat × Nat)) (ins : List (List Vr)) : Nat → List (Nat × Nat)
  | 0 => s
  | i + 1 => nextL l (valL l (stt l s ins i) (numsOf (inRow ins i)) l.length)
def sttL (l : List Nd) (s : List (Nat × Nat)) (ins : List (List Vr)) (k : Nat) : List (List (Nat × Nat)) := (List.range k).map (stt l s ins)
theorem sttL_succ (l : List Nd) (s : List (Nat × Nat)) (ins : List (List Vr)) (k : Nat) : sttL l s ins (k + 1) = sttL l s ins k ++ [stt l s ins k] := by simp [sttL, List.range_succ]
theorem sttL_len (l : List Nd) (s : List (Nat × Nat)) (ins : List (List Vr)) (k : Nat) : (sttL l s ins k).length = k := by simp [sttL]
def inFit (l : List Nd) (ins : List (List Vr)) : Bool := ins.all (fitB l kInput)
@[reducible] def QRows (ins : List (List Vr)) : Prop := ∀ r ∈ ins, ∀ a ∈ r, QVr a
theorem inRow_mem {ins : List (List Vr)} {i : Nat} (h : i < ins.length) : inRow ins i ∈ ins := getD_mem [] h
theorem stt_fit {l : List Nd} (ty : Ty l) {s : List (Nat × Nat)} (hs : Fit l kState s) {ins : List (List Vr)} (hq : QRows ins) : ∀ i, i ≤ ins.length → (∀ q, q < i → fitB l kInput (inRow ins q) = true) → Fit l kState (stt l s ins i)
  | 0, _, _ => hs
  | i + 1, hi, h => by
    have ih := stt_fit ty hs hq i (by omega) fun q hq => h q (by omega)
    exact next_fit ty (valL_ok ty ih (fit_nums (hq _ (inRow_mem (by omega))) (h i (by omega))).2 l.length (Nat.le_refl _))
theorem step_row {l : List Nd} {f : FuncId} {R : AV → List (Option AObj) → Prop} {s : List (Nat × Nat)} {r : List Vr} (hq : ∀ a ∈ r, QVr a) (hf : fitB l kInput r = true) (h : ACall Tryz.prog f [.d (eBt l), .d (eNums s), .d (eNums (numsOf r))] [] R) : ACall Tryz.prog f [.d (eBt l), .d (eNums s), .d (eRow r)] [] R := by
  have := (fit_nums hq hf).1
  rw [this, eRow_nums]
  exact h
theorem step_bad {l : List Nd} {f : FuncId} {R : AV → List (Option AObj) → Prop} {s : List (Nat × Nat)} {r : List Vr} (h : ACall Tryz.prog f [.d (eBt l), .d (eRow (s.map vr)), .d (eRow r)] [] R) : ACall Tryz.prog f [.d (eBt l), .d (eNums s), .d (eRow r)] [] R := by
  rwa [eRow_nums] at h
def runA (l : List Nd) (s : List (Nat × Nat)) (ins : List (List Vr)) : AV := if inFit l ins = true then tupOf [.d (eNss (sttL l s ins (ins.length + 1))), vI .i64 0] else tupOf [.d (.v (.slice none 0 0)), vI .i64 7]

theorem Run_ok (l : List Nd) (hm : MdB l) (ty : Ty l) (f : List (Nat × Nat)) (hf : Fit l kState f) (ins : List (List Vr)) (hq : QRows ins) (hil : ins.length ≤ 1000000) : ACall Tryz.prog 18 [.d (eBt l), .d (eNums f), .d (eRows ins)] [] (fun r o => r = runA l (startL l f (allL l kState l.length).length) ins) := by
  refine acall_enter Tryz.func18 rfl rfl (Nat.le_of_ble_eq_true rfl) fun C hC hCl hDs => ?_
  have hl := ty.small
  refine sat_call tabOk Tryz.func18 rfl trivial (Start_ok l hm ty f hf) (.refl _) rfl ⟨_, rfl⟩ (by rintro r o rfl; rfl) ?_
  rintro _ o rfl
  have hs := start_fit ty hf
  generalize startL l f (allL l kState l.length).length = s at *
  refine sat_branch tabOk Tryz.func18 rfl trivial (fun h => by cases h) (fun _ => ?_)
  refine sat_steps 5 tabOk Tryz.func18 rfl trivial ?_
  refine sat_litG _ tabOk rfl rfl rfl rfl rfl trivial rfl ?_
  have hinl : inFit l ins = false → ∀ i, i < ins.length → fitB l kInput (inRow ins i) = false → runA l s ins = tupOf [.d (.v (.slice none 0 0)), vI .i64 7] := fun h _ _ _ => by rw [runA, if_neg (by rw [h]; decide)]
  have hbad : ∀ i, i < ins.length → fitB l kInput (inRow ins i) = false → runA l s ins = tupOf [.d (.v (.slice none 0 0)), vI .i64 7] := fun i hi h => by
    have : inFit l ins = false := List.all_eq_false.2 ⟨_, inRow_mem hi, by rw [h]; decide⟩
    exact hinl this i hi h
  have hgood : (∀ q, q < ins.length → fitB l kInput (inRow ins q) = true) → inFit l ins = true := fun h => List.all_eq_true.2 fun r hr => by
    obtain ⟨i, hi, rfl⟩ := List.getElem_of_mem hr
    have := h i hi
    rwa [inRow, getD_at hi] at this
  refine sat_stop tabOk Tryz.func18 rfl trivial ?_
  refine sat_while (α := Nat) (fun i => [(3, .ptr 0 0), (8, .d (eNums (stt l s ins i))), (10, .gs 1), (24, .d (eRows ins)), (25, vI .i64 (ins.length : Int)), (26, vI .i64 (i : Int))]) (fun i => [some (bBt l), some (gNss (sttL l s ins (i + 1)))])
    (fun i => i ≤ ins.length ∧ ∀ q, q < i → fitB l kInput (inRow ins q) = true) (fun i => ins.length - i) 0 ⟨Nat.zero_le _, fun q hq => by omega⟩ ?_ ?_
  · exact fun h => sat_le h hC hCl ⟨⟨_, rfl, .refl _⟩, ⟨_, rfl, .refl _⟩, ⟨_, rfl, .refl _⟩, ⟨_, rfl, .refl _⟩, ⟨_, rfl, .of (by rw [List.length_map])⟩, ⟨_, rfl, .refl _⟩, trivial⟩ ⟨.refl _, .gL rfl, trivial⟩ rfl rfl (Nat.zero_le _)
  rintro i ⟨hi, hall⟩ ih
  have room : ∀ a : D, (((sttL l s ins (i + 1)).map eNums).length + [a].length) * 24 ≤ 140737488355328 ∧ True := fun a => by
    rw [List.length_map, sttL_len]
    exact ⟨by show (i + 1 + 1) * 24 ≤ _; omega, trivial⟩
  have hfit := stt_fit ty hs hq i hi hall
  refine sat_branch tabOk Tryz.func18 rfl trivial (fun hb => ?_) (fun hb => ?_) <;> simp only [decide_eq_true_eq, decide_eq_false_iff_not] at hb
  · have hlt : i < ins.length := by omega
    have hqr := hq _ (inRow_mem hlt)
    cases hfr : fitB l kInput (inRow ins i) with
    | false =>
      refine sat_call tabOk Tryz.func18 rfl (by simp only [andP, and_true, true_and, Int.toNat_natCast, List.length_map, List.length_append, List.length_cons, List.length_nil, List.length_replicate]; omega) (step_bad (Step_no l hm ty ((stt l s ins i).map vr) (inRow ins i) (fitQ hfit) hqr (by rw [hfr, Bool.and_false]))) (.refl _) rfl ⟨_, rfl⟩ (by rintro r o rfl; rfl) ?_
      rintro _ o rfl
      refine sat_branch tabOk Tryz.func18 rfl trivial (fun _ => ?_) (fun h => by cases h)
      refine sat_ret tabOk Tryz.func18 rfl trivial ?_
      rw [hbad i hlt hfr]
    | true =>
      obtain ⟨_, hfi⟩ := fit_nums hqr hfr
      refine sat_call tabOk Tryz.func18 rfl (by simp only [andP, and_true, true_and, Int.toNat_natCast, List.length_map, List.length_append, List.length_cons, List.length_nil, List.length_replicate]; omega) (step_row hqr hfr (Step_ok l hm ty (stt l s ins i) (numsOf (inRow ins i)) hfit hfi)) (.refl _) rfl ⟨_, rfl⟩ (by rintro r o rfl; rfl) ?_
      rintro _ o rfl
      refine sat_branch tabOk Tryz.func18 rfl trivial (fun h => by cases h) (fun _ => ?_)
      refine sat_stop tabOk Tryz.func18 rfl (room _) ?_
      refine sat_le (ih (i + 1) ⟨by omega, fun q hq => ?_⟩ (by omega)) hC hCl ⟨⟨_, rfl, .refl _⟩, ⟨_, rfl, .refl _⟩, ⟨_, rfl, .refl _⟩, ⟨_, rfl, .refl _⟩, ⟨_, rfl, .refl _⟩, ⟨_, rfl, .of (by rw [wrap_id (by omega) (by omega)]; rfl)⟩, trivial⟩ ⟨.refl _, .gL ?_, trivial⟩ rfl rfl (Nat.zero_le _)
      · rcases Nat.lt_or_ge q i with h | h
        · exact hall q h
        · obtain rfl : q = i := by omega
          exact hfr
      · rw [sttL_succ l s ins (i + 1), List.map_append]
        rfl
  · obtain rfl : i = ins.length := by omega
    refine sat_freeze 1 rfl ?_
    refine sat_ret tabOk Tryz.func18 rfl trivial ?_
    rw [runA, if_pos (hgood hall)]
    rfl
end Go.Proofs.YtcenfhcemmlaeaaGreatDoor
namespace Go.Proofs.YtcenfhcemmlaeaaGreatDoor
open Go Ab
set_option maxRecDepth 100000
set_option linter.unusedVariables false
set_option linter.unusedSimpArgs false
set_option maxHeartbeats 4000000

/-! ### Rows compared -/
def OkN (p : Nat × Nat) : Prop := p.2 < 2 ^ p.1 ∧ p.1 ≤ 128
@[reducible] def OkNs (a : List (Nat × Nat)) : Prop := ∀ p ∈ a, OkN p
theorem okN0 : OkN (0, 0) := by unfold OkN; decide
theorem okNs_nm {a : List (Nat × Nat)} (h : OkNs a) (i : Nat) : OkN (nm a i) := by
  rcases Nat.lt_or_ge i a.length with hi | hi
  · exact h _ (getD_mem _ hi)
  · rw [show nm a i = (0, 0) by simp [nm, List.getD_eq_getElem?_getD, List.getElem?_eq_none hi]]
    exact okN0
theorem take_eq_all {α : Type} {a b : List α} (hl : a.length = b.length) (h : a.take a.length = b.take a.length) : a = b := by
  rw [List.take_length, hl, List.take_length] at h
  exact h
theorem take_succ_eq {α : Type} (d : α) {a b : List α} {i : Nat} (ha : i < a.length) (hb : i < b.length) (h : a.take i = b.take i) (he : a.getD i d = b.getD i d) : a.take (i + 1) = b.take (i + 1) := by
  rw [List.take_succ_eq_append_getElem ha, List.take_succ_eq_append_getElem hb, h, ← getD_at (d := d) ha, ← getD_at (d := d) hb, he]
theorem Vecs_call (a b : List (Nat × Nat)) (ha : OkNs a) (hb : OkNs b) (hal : a.length ≤ 1000000) : ACall Tryz.prog 20 [.d (eNums a), .d (eNums b)] [] (fun r o => r = vB (decide (a = b))) := by
  refine acall_enter Tryz.func20 rfl rfl (Nat.le_of_ble_eq_true rfl) fun C hC hCl hDs => ?_
  refine sat_branch tabOk Tryz.func20 rfl trivial (fun h => ?_) (fun h => ?_)
  · have h : (((a.map fun p : Nat × Nat => vN p.1 p.2).length : Int) != ((b.map fun p : Nat × Nat => vN p.1 p.2).length : Int)) = true := h
    refine sat_ret tabOk Tryz.func20 rfl trivial ?_
    have : a ≠ b := fun e => by simp [e] at h
    rw [decide_eq_false this]
    rfl
  have h : (((a.map fun p : Nat × Nat => vN p.1 p.2).length : Int) != ((b.map fun p : Nat × Nat => vN p.1 p.2).length : Int)) = false := h
  have hl : a.length = b.length := by simp at h; omega
  refine sat_stop tabOk Tryz.func20 rfl trivial ?_
  refine sat_while (α := Nat) (fun i => [(0, .d (eNums a)), (1, .d (eNums b)), (5, vI .i64 (i : Int))]) (fun i => []) (fun i => i ≤ a.length ∧ a.take i = b.take i) (fun i => a.length - i) 0 ⟨Nat.zero_le _, rfl⟩ ?_ ?_
  · exact fun h => sat_le h hC hCl ⟨⟨_, rfl, .refl _⟩, ⟨_, rfl, .refl _⟩, ⟨_, rfl, .refl _⟩, trivial⟩ trivial rfl rfl (Nat.zero_le _)
  rintro i ⟨hi, ht⟩ ih
  refine sat_branch tabOk Tryz.func20 rfl trivial (fun hb => ?_) (fun hb => ?_) <;> simp only [List.length_map, decide_eq_true_eq, decide_eq_false_iff_not] at hb
  · have hlt : i < a.length := by omega
    refine sat_drawT 8 tabOk Tryz.func20 rfl rfl trivial (by kernel_rfl) ?_
    refine ds_done tabOk rfl (by simp only [andP, and_true, true_and, Int.toNat_natCast, List.length_map, List.length_append, List.length_cons, List.length_nil, List.length_replicate]; omega) ?_
    refine sat_call tabOk Tryz.func20 rfl trivial (rSameN_call (nm a i).1 (nm a i).2 (nm b i).1 (nm b i).2 (okNs_nm ha i).1 (okNs_nm ‹OkNs b› i).1 (by have := (okNs_nm ha i).2; omega)) (.refl _) rfl ⟨_, rfl⟩ (by rintro r o rfl; rfl) ?_
    rintro _ o rfl
    refine sat_branch tabOk Tryz.func20 rfl trivial (fun h3 => ?_) (fun h3 => ?_)
    · have h3 : (decide ((nm a i).1 = (nm b i).1) && decide ((nm a i).2 = (nm b i).2)) = false := by cases hq : (decide ((nm a i).1 = (nm b i).1) && decide ((nm a i).2 = (nm b i).2)) with | false => rfl | true => rw [hq] at h3; cases h3
      refine sat_ret tabOk Tryz.func20 rfl trivial ?_
      have : a ≠ b := fun e => by simp [e] at h3
      rw [decide_eq_false this]
      rfl
    · have h3 : (decide ((nm a i).1 = (nm b i).1) && decide ((nm a i).2 = (nm b i).2)) = true := by cases hq : (decide ((nm a i).1 = (nm b i).1) && decide ((nm a i).2 = (nm b i).2)) with | true => rfl | false => rw [hq] at h3; cases h3
      rw [Bool.and_eq_true, decide_eq_true_eq, decide_eq_true_eq] at h3
      refine sat_stop tabOk Tryz.func20 rfl trivial ?_
      exact sat_le (ih (i + 1) ⟨by omega, take_succ_eq (0, 0) hlt (by omega) ht (Prod.ext h3.1 h3.2)⟩ (by omega)) hC hCl ⟨⟨_, rfl, .refl _⟩, ⟨_, rfl, .refl _⟩, ⟨_, rfl, .of (by rw [wrap_id (by omega) (by omega)]; rfl)⟩, trivial⟩ trivial rfl rfl (Nat.zero_le _)
  · obtain rfl : i = a.length := by omega
    refine sat_ret tabOk Tryz.func20 rfl trivial ?_
    rw [decide_eq_true (take_eq_all hl ht)]
    rfl

theorem Few_call (ins : List (List Vr)) (most : Int) (hm : most ≤ 1000000) : ACall Tryz.prog 11 [.d (eRows ins), vI .i64 most] [] (fun r o => ∃ b, r = vB b ∧ (b = true → (ins.length : Int) ≤ most)) := by
  refine acall_enter Tryz.func11 rfl rfl (Nat.le_of_ble_eq_true rfl) fun C hC hCl hDs => ?_
  refine sat_branch tabOk Tryz.func11 rfl trivial (fun h => ?_) (fun h => ?_)
  · exact sat_ret tabOk Tryz.func11 rfl trivial ⟨false, rfl, fun h => by cases h⟩
  have h : decide (((ins.map eRow).length : Int) > most) = false := h
  rw [List.length_map, decide_eq_false_iff_not] at h
  refine sat_stop tabOk Tryz.func11 rfl trivial ?_
  refine sat_while (α := Nat) (fun i => [(0, .d (eRows ins)), (5, vI .i64 (i : Int))]) (fun i => []) (fun i => i ≤ ins.length) (fun i => ins.length - i) 0 (Nat.zero_le _) ?_ ?_
  · exact fun h => sat_le h hC hCl ⟨⟨_, rfl, .refl _⟩, ⟨_, rfl, .refl _⟩, trivial⟩ trivial rfl rfl (Nat.zero_le _)
  rintro i hi ih
  refine sat_branch tabOk Tryz.func11 rfl trivial (fun hb => ?_) (fun hb => ?_) <;> simp only [List.length_map, decide_eq_true_eq, decide_eq_false_iff_not] at hb
  · have hlt : i < ins.length := by omega
    obtain ⟨row, hrow⟩ : ∃ row, ins.getD i [] = row := ⟨_, rfl⟩
    refine sat_branch tabOk Tryz.func11 rfl (by simp only [andP, and_true, true_and, Int.toNat_natCast, List.length_map, List.length_append, List.length_cons, List.length_nil, List.length_replicate]; omega) (fun h1 => ?_) (fun h1 => ?_)
    · exact sat_ret tabOk Tryz.func11 rfl trivial ⟨false, rfl, fun h => by cases h⟩
    have h1 : decide ((((ins.getD i []).map eVr).length : Int) > 40) = false := h1
    rw [List.length_map, decide_eq_false_iff_not, hrow] at h1
    refine sat_stop tabOk Tryz.func11 rfl trivial ?_
    refine sat_while (α := Nat) (fun k => [(0, .d (eRows ins)), (5, vI .i64 (i : Int)), (6, vI .i64 (k : Int))]) (fun k => []) (fun k => k ≤ row.length) (fun k => row.length - k) 0 (Nat.zero_le _) ?_ ?_
    · exact fun h => sat_le h hC hCl ⟨⟨_, rfl, .refl _⟩, ⟨_, rfl, .refl _⟩, ⟨_, rfl, .refl _⟩, trivial⟩ trivial rfl rfl (Nat.zero_le _)
    rintro k hk ihk
    refine sat_branch tabOk Tryz.func11 rfl (by simp only [andP, and_true, true_and, Int.toNat_natCast, List.length_map, List.length_append, List.length_cons, List.length_nil, List.length_replicate]; omega) (fun hb => ?_) (fun hb => ?_)
    · have hb : decide ((k : Int) < (((ins.getD i []).map eVr).length : Int)) = true := hb
      rw [List.length_map, hrow, decide_eq_true_eq] at hb
      refine sat_call tabOk Tryz.func11 rfl ?nd (Small_call (row.getD k (0, [], ())).1 (row.getD k (0, [], ())).2.1) ⟨.of ?_, trivial⟩ rfl ⟨_, rfl⟩ (by rintro r o rfl; rfl) ?_
      case nd =>
        refine ⟨⟨by omega, ?_⟩, ⟨by omega, by rw [List.length_map]; omega⟩, trivial⟩
        show (k : Int) < (((ins.getD i []).map eVr).length : Int)
        rw [List.length_map, hrow]
        exact hb
      · show AV.d (eVr ((ins.getD i []).getD k (0, [], ()))) = _
        rw [hrow]
      rintro _ o rfl
      refine sat_branch tabOk Tryz.func11 rfl trivial (fun g => ?_) (fun g => ?_)
      · exact sat_ret tabOk Tryz.func11 rfl trivial ⟨false, rfl, fun h => by cases h⟩
      refine sat_stop tabOk Tryz.func11 rfl trivial ?_
      exact sat_le (ihk (k + 1) (by omega) (by omega)) hC hCl ⟨⟨_, rfl, .refl _⟩, ⟨_, rfl, .refl _⟩, ⟨_, rfl, .of (by rw [wrap_id (by omega) (by omega)]; rfl)⟩, trivial⟩ trivial rfl rfl (Nat.zero_le _)
    · have hb : decide ((k : Int) < (((ins.getD i []).map eVr).length : Int)) = false := hb
      refine sat_stop tabOk Tryz.func11 rfl trivial ?_
      exact sat_le (ih (i + 1) (by omega) (by omega)) hC hCl ⟨⟨_, rfl, .refl _⟩, ⟨_, rfl, .of (by rw [wrap_id (by omega) (by omega)]; rfl)⟩, trivial⟩ trivial rfl rfl (Nat.zero_le _)
  · exact sat_ret tabOk Tryz.func11 rfl trivial ⟨true, rfl, fun _ => by omega⟩
end Go.Proofs.YtcenfhcemmlaeaaGreatDoor
set_option linter.unusedSimpArgs false
set_option linter.unusedVariables false
namespace Ab
open Go
theorem eLitD_ok {P : Program} {T : Tab} (hT : TabOk P T) {X : Nat → Prop} {π : List Value} {objs : List (Option AObj)} {w : World} (m : Mem X π objs w) {t : TypeId} {len : Nat} {ps : List (Nat × AV)} {vs : List (Nat × Value)}
    (hp : RelPs w (okOf X π objs) π ps vs) {c : Option Prop} {a : AV} (h : eLit T t len ps objs = some ⟨c, false, a, none, objs⟩) : ∃ v w2, (Instr.buildSlice t len vs.toArray).run P w = .ok v w2 ∧ Later w w2 ∧ RelV w2 (okOf X π objs) π a v := by
  unfold eLit at h
  revert h
  split
  · (intro h; cases h)
  · rename_i r hr
    split
    · rename_i e hk
      have ht := slice_elem hT hr hk
      split
      · (intro h; cases h)
      · rename_i re hre
        obtain ⟨z, hzr, hzc, hzf, _, _⟩ := (tab_row hT hre).zero
        have hzl : z.cells.size = re.size := by
          have := (tab_row hT hre).zl
          rw [← hzc] at this
          simpa using this
        split
        · split
          · intro h
            cases h
            cases hp
            have hsz := (tab_row hT hre).sizeOf w
            have hrun : (Instr.buildSlice t 0 #[]).run P w = .ok (.slice (some ⟨w.heap.size, 0, none⟩) 0 0) (w.alloc (.cells #[] e)) := by
              simp [Instr.buildSlice, run_underlying ht, hsz, run_newRow, Instr.fill]
              have e0 : Array.range 0 = #[] := Array.ext' (by simp)
              rw [e0, Array.map_empty]
            exact ⟨_, _, hrun, ⟨rfl, rfl, ⟨rfl, Nat.le_refl _⟩, by rw [alloc_heap]; simp, fun b hb => heap_push_old _ hb⟩, .e0⟩
          · (intro h; cases h)
        · rename_i p ps'
          split
          · (intro h; cases h)
          · rename_i xs hxs
            split
            · (intro h; cases h)
            · rename_i hlen
              have hlen := lenIs_eq hlen
              split
              · rename_i hble
                have hble' : len * re.size ≤ 16777216 := by simpa using hble
                split
                · (intro h; cases h)
                · rename_i hz0
                  intro h
                  cases h
                  obtain ⟨us, h1, h2⟩ := lit_rel hxs hp [] ((List.range (len * re.size)).map fun i => z.cells[i % z.cells.size]!) (by simp) (by simp [hlen])
                  have hul := h1.length
                  simp only [List.nil_append] at h2
                  have hrun : (Instr.buildSlice t len vs.toArray).run P w = .ok (.slice (some ⟨w.heap.size, 0, none⟩) len len) (w.alloc (.cells us.toArray e)) := by
                    have hz0' : re.size ≠ 0 := by
                      intro e
                      rw [e] at hz0
                      cases hz0
                    have hsz := (tab_row hT hre).sizeOf w
                    have h2' : Instr.fill (fun i => some (i * re.size, re.size)) (Array.map (fun i => z.cells[i % z.cells.size]!) (Array.range (len * re.size))) vs = some us.toArray := by
                      rw [← h2]
                      congr 1
                      apply Array.ext'
                      simp
                    by_cases hl0 : len * re.size = 0
                    · have hl00 : len = 0 := by
                        rcases Nat.mul_eq_zero.1 hl0 with h | h
                        · exact h
                        · exact absurd h hz0'
                      subst hl00
                      have hx0 : xs = [] := List.eq_nil_of_length_eq_zero hlen
                      subst hx0
                      exfalso
                      revert hxs
                      simp only [litParts]
                      repeat' split
                      all_goals simp
                    · simp [Instr.buildSlice, run_underlying ht, hsz, hl0, show ¬ 16777216 < len * re.size by omega, hzr, h2', run_newRow]
                  have hext : ∀ b, b < w.heap.size → (w.alloc (.cells us.toArray e)).heap[b]? = w.heap[b]? := fun b hb => heap_push_old _ hb
                  have hlt : Later w (w.alloc (.cells us.toArray e)) := ⟨rfl, rfl, ⟨rfl, Nat.le_refl _⟩, by rw [alloc_heap]; simp, hext⟩
                  refine ⟨_, _, hrun, hlt, ?_⟩
                  have hk : Keeps w (okOf X π objs) (w.alloc (.cells us.toArray e)) (okOf X π objs) := fun b o u a1 a2 => ⟨a1, cell_push _ a2⟩
                  subst hlen
                  refine .d (.sl (us := us) (h1.mono hk) (fun i hi => ⟨new_okb m, ?_⟩) (Nat.le_refl _) ?_ (litRd_ok xs))
                  · rw [Nat.zero_add]
                    exact cell_of_heap (fz := (0, 0)) (heap_push_new _)
                  · have hml : maxLen = 9223372036854775807 := rfl
                    have : xs.length * 1 ≤ xs.length * re.size := Nat.mul_le_mul_left _ (by
                      have : re.size ≠ 0 := by intro e; rw [e] at hz0; cases hz0
                      omega)
                    omega
              · (intro h; cases h)
    · (intro h; cases h)


section
variable {P : Program} {T : Tab} {n : Nat} {env : Env} {objs : List (Option AObj)} {ops : Array Oper} {K : Env → Prop} {X : Nat → Prop}
theorem ds_lit {o : Oper} {r : List Oper} {e : Env} {t : TypeId} {len : Nat} {ps : List (Nat × Operand)} {az : List (Nat × AV)} {c : Option Prop} {a : AV} (hT : TabOk P T) (hfree : freeIn o r (o.looksAt ops) = true) (halone : aloneIn o r = true) (hw : wantE ops (restr env (o.looksAt ops)) o = .yes)
    (hop : o.op = .buildSlice t len ⟨ps⟩) (hp : parts (restr env (o.looksAt ops)) ps = some az) (hs : eLit T t len az objs = some ⟨c, false, a, none, objs⟩) (hput : putE n o.dst a env = some e) (h : DSat P n X objs ops K r e) : DSat P n X objs ops K (o :: r) env := by
  refine ds_op hfree halone hput hw (fun π w tmps m he => ?_) h
  obtain ⟨v, w2, h1, h2, h3⟩ := eLitD_ok hT m (t := t) (len := len) (parts_rel (ds := []) he hp) hs
  refine ⟨v, w2, ?_, h2, h3⟩
  unfold execOp
  rw [hop]
  simp only [Sem.run_bind, List.map_toArray, h1, Result.andThen_ok, Sem.run_pure]
end
end Ab
namespace Go.Proofs.YtcenfhcemmlaeaaGreatDoor
open Go Ab
set_option maxRecDepth 100000
set_option linter.unusedVariables false
set_option linter.unusedSimpArgs false
set_option maxHeartbeats 4000000

/-! ### The document's example -/
def cntr : List Nd := [⟨kSort, 0, [], [2], []⟩, ⟨kConst, 1, [], [], [48, 48]⟩, ⟨kState, 1, [], [], []⟩, ⟨kInit, 1, [3, 2], [], []⟩, ⟨kInc, 1, [3], [], []⟩, ⟨kNext, 1, [3, 5], [], []⟩]
theorem dleN : DLe (.v (.slice none 0 0)) (eIs []) := fun _ _ _ h => by cases h with | v _ => exact .nil (Nat.zero_le _)
theorem dleI (l : List Int) : DLe (.sl 1 (l.map eI) (litRd (l.map eI))) (eIs l) := DLe.slR rfl (map_rd eI 0 l)
theorem cleA {cs ds : List D} (h : DLes cs ds) : CLe (.ag cs) (.ag ds) := fun _ _ _ h2 => h.rel h2
theorem dleS {s : Nat} {xs ys : List D} {rd rd' : Nat → D} (h : CLes xs ys) (hr : ∀ i, i < ys.length → ys[i]? = some (rd' i)) : DLe (.sl s xs rd) (.sl s ys rd') := by
  intro w ok v hv
  have hf : flat v = true := by cases hv <;> rfl
  have := CLe.sl h hr w ok [v] (.cons hv hf .nil)
  cases this with | cons h _ _ => exact h
theorem counter_call : ACall Tryz.prog 33 [] [] (fun r o => r = .d (eBt cntr)) := by
  refine acall_enter Tryz.func33 rfl rfl (Nat.le_of_ble_eq_true rfl) fun C hC hCl hDs => ?_
  refine sat_retL tabOk Tryz.func33 rfl trivial hC hCl ?_ (o2 := []) trivial rfl rfl (Nat.zero_le _) rfl
  refine VLe.dag ⟨dleS (ys := cntr.map eNd) ?_ (map_rd eNd default cntr), trivial⟩
  refine ⟨cleA ⟨.refl _, .refl _, dleN, (dleI [2]), .refl _, trivial⟩, cleA ⟨.refl _, .refl _, dleN, dleN, .refl _, trivial⟩, cleA ⟨.refl _, .refl _, dleN, dleN, .refl _, trivial⟩, cleA ⟨.refl _, .refl _, (dleI [3, 2]), dleN, .refl _, trivial⟩, cleA ⟨.refl _, .refl _, (dleI [3]), dleN, .refl _, trivial⟩, cleA ⟨.refl _, .refl _, (dleI [3, 5]), dleN, .refl _, trivial⟩, trivial⟩
theorem cntr_ty : Ty cntr := by
  refine ⟨by decide, ?_, ⟨?_, ?_⟩⟩
  · intro j hj
    match j, hj with
    | 0, _ => exact ⟨by decide, by decide, by decide, by decide, by decide, by decide, by decide, by decide⟩
    | 1, _ => exact ⟨by decide, by decide, by decide, by decide, by decide, by decide, by decide, by decide⟩
    | 2, _ => exact ⟨by decide, by decide, by decide, by decide, by decide, by decide, by decide, by decide⟩
    | 3, _ => exact ⟨by decide, by decide, by decide, by decide, by decide, by decide, by decide, by decide⟩
    | 4, _ => exact ⟨by decide, by decide, by decide, by decide, by decide, by decide, by decide, by decide⟩
    | 5, _ => exact ⟨by decide, by decide, by decide, by decide, by decide, by decide, by decide, by decide⟩
    | n + 6, h => exact absurd h (by show ¬ n + 6 < 6; omega)
  · have sr : ∀ j, j < 6 → 0 < (nd cntr j).s → SortAt cntr (nd cntr j) := by
      intro j hj
      match j, hj with
      | 0, _ => exact fun h => absurd h (by decide)
      | 1, _ => exact fun _ => ⟨by decide, by decide, rfl, by decide⟩
      | 2, _ => exact fun _ => ⟨by decide, by decide, rfl, by decide⟩
      | 3, _ => exact fun _ => ⟨by decide, by decide, rfl, by decide⟩
      | 4, _ => exact fun _ => ⟨by decide, by decide, rfl, by decide⟩
      | 5, _ => exact fun _ => ⟨by decide, by decide, rfl, by decide⟩
      | n + 6, h => exact absurd h (by omega)
    have hd : ∀ j, j < 6 → AskOk cntr j (nd cntr j) := by
      intro j hj
      match j, hj with
      | 0, _ => refine ⟨?_, ?_, ?_, ?_, ?_, ?_, ?_, ?_, ?_, ?_, ?_⟩ <;> first | decide | (unfold sameP; decide) | (intro h; exact absurd h (by decide))
      | 1, _ => refine ⟨?_, ?_, ?_, ?_, ?_, ?_, ?_, ?_, ?_, ?_, ?_⟩ <;> first | decide | (unfold sameP; decide) | (intro h; exact absurd h (by decide))
      | 2, _ => refine ⟨?_, ?_, ?_, ?_, ?_, ?_, ?_, ?_, ?_, ?_, ?_⟩ <;> first | decide | (unfold sameP; decide) | (intro h; exact absurd h (by decide))
      | 3, _ => refine ⟨?_, ?_, ?_, ?_, ?_, ?_, ?_, ?_, ?_, ?_, ?_⟩ <;> first | decide | (unfold sameP hadP; decide) | (unfold sameP; decide) | (intro h; exact absurd h (by decide))
      | 4, _ => refine ⟨?_, ?_, ?_, ?_, ?_, ?_, ?_, ?_, ?_, ?_, ?_⟩ <;> first | decide | (unfold sameP; decide) | (intro h; exact absurd h (by decide))
      | 5, _ => refine ⟨?_, ?_, ?_, ?_, ?_, ?_, ?_, ?_, ?_, ?_, ?_⟩ <;> first | decide | (unfold sameP hadP; decide) | (unfold sameP; decide) | (intro h; exact absurd h (by decide))
      | n + 6, h => exact absurd h (by omega)
    intro j hj
    have hj : j < 6 := hj
    refine ⟨sr j hj, ?_, ?_, hd j hj⟩
    · match j, hj with
      | 0, _ => decide
      | 1, _ => decide
      | 2, _ => decide
      | 3, _ => decide
      | 4, _ => decide
      | 5, _ => decide
      | n + 6, h => exact absurd h (by omega)
    · match j, hj with
      | 0, _ => decide
      | 1, _ => decide
      | 2, _ => decide
      | 3, _ => decide
      | 4, _ => decide
      | 5, _ => decide
      | n + 6, h => exact absurd h (by omega)
  · intro j hj
    have hj : j < 6 := hj
    match j, hj with
    | 0, _ => exact fun h => absurd h (by decide)
    | 1, _ => exact fun h => absurd h (by decide)
    | 2, _ => exact fun _ => ⟨5, by decide, rfl, rfl⟩
    | 3, _ => exact fun h => absurd h (by decide)
    | 4, _ => exact fun h => absurd h (by decide)
    | 5, _ => exact fun h => absurd h (by decide)
    | n + 6, h => exact absurd h (by omega)
theorem cntr_md : MdB cntr := by
  refine ⟨by decide, ?_⟩
  intro x hx
  simp only [cntr, List.mem_cons, List.not_mem_nil, or_false] at hx
  rcases hx with rfl | rfl | rfl | rfl | rfl | rfl <;> exact ⟨by decide, by decide, by decide, by decide⟩
theorem cntr_fs : Fit cntr kState [(2, 3)] := by
  refine ⟨by decide, ?_⟩
  intro i hi
  match i, hi with
  | 0, _ => decide
  | n + 1, h => exact absurd h (by show ¬ n + 1 < 1; omega)
theorem cntr_fi : Fit cntr kInput [] := ⟨by decide, fun i hi => absurd hi (Nat.not_lt_zero _)⟩
theorem cntr_vals : valL cntr [(2, 3)] [] cntr.length = [(0, 0), (2, 0), (2, 3), (0, 0), (2, 0), (0, 0)] := by decide
theorem cntr_start : startL cntr [(2, 3)] (allL cntr kState cntr.length).length = [(2, 0)] := by decide
theorem cntr_run : sttL cntr [(2, 0)] [[], []] 3 = [[(2, 0)], [(2, 1)], [(2, 2)]] := by decide
theorem cntr_in : inFit cntr [[], []] = true := by decide
end Go.Proofs.YtcenfhcemmlaeaaGreatDoor
namespace Go.Proofs.YtcenfhcemmlaeaaGreatDoor
open Go Ab
set_option maxRecDepth 100000
set_option linter.unusedVariables false
set_option linter.unusedSimpArgs false
set_option maxHeartbeats 4000000

theorem cleN {α : Type} {s : Nat} {e : α → D} {d : α} : CLe (.v (.slice none 0 0)) (eL s e d []) := by
  intro w ok us h
  cases h with | cons h1 f1 t =>
  cases t
  cases h1
  exact .cons (.nil (Nat.zero_le _)) f1 .nil
theorem vleN {α : Type} {s : Nat} {e : α → D} {d : α} : VLe (.d (.v (.slice none 0 0))) (.d (eL s e d [])) := VLe.nil
@[reducible] def cRun : AV := tupOf [.d (eNss [[(2, 0)], [(2, 1)], [(2, 2)]]), vI .i64 0]
theorem cRun_call : ACall Tryz.prog 18 [.d (eBt cntr), .d (eNums [(2, 3)]), .d (eRows [[], []])] [] (fun r o => r = cRun) := by
  have := Run_ok cntr cntr_md cntr_ty [(2, 3)] cntr_fs [[], []] (by intro r hr a ha; simp at hr; subst hr; cases ha) (by decide)
  rw [cntr_start, runA, if_pos cntr_in, show ([[], []] : List (List Vr)).length + 1 = 3 from rfl, cntr_run] at this
  exact this
theorem cVal_call : ACall Tryz.prog 12 [.d (eBt cntr), .d (eNums [(2, 3)]), .d (eNums [])] [] (fun r o => r = tupOf [.d (eNums [(0, 0), (2, 0), (2, 3), (0, 0), (2, 0), (0, 0)]), vI .i64 0]) := by
  have := Values_ok cntr cntr_md cntr_ty [(2, 3)] [] cntr_fs cntr_fi
  rwa [cntr_vals] at this
theorem cStart_call : ACall Tryz.prog 16 [.d (eBt cntr), .d (eNums [(2, 3)])] [] (fun r o => r = tupOf [.d (eNums [(2, 0)]), vI .i64 0]) := by
  have := Start_ok cntr cntr_md cntr_ty [(2, 3)] cntr_fs
  rwa [cntr_start] at this
theorem cNext : nextL cntr [(0, 0), (2, 0), (2, 3), (0, 0), (2, 0), (0, 0)] = [(2, 0)] := by decide
theorem cFlag1 : flagL cntr kBad [(0, 0), (2, 0), (2, 3), (0, 0), (2, 0), (0, 0)] cntr.length = [] := by decide
theorem cFlag2 : flagL cntr kConstraint [(0, 0), (2, 0), (2, 3), (0, 0), (2, 0), (0, 0)] cntr.length = [] := by decide
theorem cStep_call : ACall Tryz.prog 14 [.d (eBt cntr), .d (eNums [(2, 3)]), .d (eNums [])] [] (fun r o => r = tupOf [.d (eNums [(2, 0)]), .d (e2B [] []), vI .i64 0]) := by
  have := Step_ok cntr cntr_md cntr_ty [(2, 3)] [] cntr_fs cntr_fi
  rw [cntr_vals, stepA, cNext, cFlag1, cFlag2] at this
  exact this
theorem t10 : ((⟨(txt 2 2).toArray⟩ : ByteArray).toList == (⟨#[49, 48]⟩ : ByteArray).toList) = true := by
  rw [show (⟨#[49, 48]⟩ : ByteArray) = ⟨([49, 48] : List UInt8).toArray⟩ from rfl, strB]
  decide
theorem t00 : ((⟨(txt 2 0).toArray⟩ : ByteArray).toList == (⟨#[48, 48]⟩ : ByteArray).toList) = true := by
  rw [show (⟨#[48, 48]⟩ : ByteArray) = ⟨([48, 48] : List UInt8).toArray⟩ from rfl, strB]
  decide
theorem shown15_call : ACall Tryz.prog 9 [] [] (fun r o => r = vB true) := by
  refine acall_enter Tryz.func9 rfl rfl (Nat.le_of_ble_eq_true rfl) fun C hC hCl hDs => ?_
  refine sat_call tabOk Tryz.func9 rfl trivial (OfN_call 2 3 (by decide) (by decide)) ⟨VLe.eL_c (CLes.refl _), trivial⟩ rfl ⟨_, rfl⟩ (by rintro r o rfl; rfl) ?_
  rintro _ o rfl
  refine sat_drawT 9 tabOk Tryz.func9 rfl rfl trivial (by kernel_rfl) ?_
  refine ds_call tabOk rfl trivial counter_call (callFunc_run Tryz.func33 rfl rfl) (by rintro r o rfl; rfl) trivial rfl rfl ⟨_, rfl⟩ ?_
  refine ds_ok tabOk rfl rfl rfl rfl rfl ?_
  refine ds_lit tabOk rfl rfl rfl rfl rfl rfl rfl ?_
  refine ds_lit tabOk rfl rfl rfl rfl rfl rfl rfl ?_
  refine ds_call tabOk rfl trivial cRun_call (callFunc_run Tryz.func18 rfl rfl) (by rintro r o rfl; rfl) ⟨.refl _, VLe.eL_c (CLes.refl _), VLe.eL_c ⟨cleN, cleN, trivial⟩, trivial⟩ rfl rfl ⟨_, rfl⟩ ?_
  refine ds_done tabOk rfl trivial ?_
  refine sat_draw1S 11 8 10 (c := none) (a := .dead) (o2 := .cells 36 [.d (eBs []), .d (eBs [])]) tabOk Tryz.func9 rfl rfl trivial (by kernel_rfl) (by kernel_rfl) rfl rfl rfl (by kernel_rfl) (by rw [hCl, hC]; exact Nat.zero_le _) rfl rfl rfl rfl rfl rfl
        (fun _ => by
          refine ds_call tabOk rfl trivial counter_call (callFunc_run Tryz.func33 rfl rfl) (by rintro r o rfl; rfl) trivial rfl rfl ⟨_, rfl⟩ ?_
          refine ds_ok tabOk rfl rfl rfl rfl rfl ?_
          refine ds_lit tabOk rfl rfl rfl rfl rfl rfl rfl ?_
          refine ds_call tabOk rfl trivial cStep_call (callFunc_run Tryz.func14 rfl rfl) (by rintro r o rfl; rfl) ⟨.refl _, VLe.eL_c (CLes.refl _), vleN, trivial⟩ rfl rfl ⟨_, rfl⟩ ?_
          exact ds_done tabOk rfl trivial rfl)
        (by rfl) (by rfl) (by rfl) (by rfl) trivial ?_
  refine sat_drawT 8 tabOk Tryz.func9 rfl rfl trivial (by kernel_rfl) ?_
  refine ds_call tabOk rfl trivial counter_call (callFunc_run Tryz.func33 rfl rfl) (by rintro r o rfl; rfl) trivial rfl rfl ⟨_, rfl⟩ ?_
  refine ds_ok tabOk rfl rfl rfl rfl rfl ?_
  refine ds_lit tabOk rfl rfl rfl rfl rfl rfl rfl ?_
  refine ds_call tabOk rfl trivial cVal_call (callFunc_run Tryz.func12 rfl rfl) (by rintro r o rfl; rfl) ⟨.refl _, VLe.eL_c (CLes.refl _), vleN, trivial⟩ rfl rfl ⟨_, rfl⟩ ?_
  refine ds_done tabOk rfl trivial ?_
  refine sat_drawT 8 tabOk Tryz.func9 rfl rfl trivial (by kernel_rfl) ?_
  refine ds_call tabOk rfl trivial counter_call (callFunc_run Tryz.func33 rfl rfl) (by rintro r o rfl; rfl) trivial rfl rfl ⟨_, rfl⟩ ?_
  refine ds_ok tabOk rfl rfl rfl rfl rfl ?_
  refine ds_lit tabOk rfl rfl rfl rfl rfl rfl rfl ?_
  refine ds_call tabOk rfl trivial cStart_call (callFunc_run Tryz.func16 rfl rfl) (by rintro r o rfl; rfl) ⟨.refl _, VLe.eL_c (CLes.refl _), trivial⟩ rfl rfl ⟨_, rfl⟩ ?_
  refine ds_done tabOk rfl trivial ?_
  refine sat_branch tabOk Tryz.func9 rfl trivial (fun _ => ?_) (fun h => by cases h)
  refine sat_branch tabOk Tryz.func9 rfl trivial (fun _ => ?_) (fun h => by cases h)
  refine sat_branch tabOk Tryz.func9 rfl trivial (fun _ => ?_) (fun h => by cases h)
  refine sat_drawT 65 tabOk Tryz.func9 rfl rfl trivial (by kernel_rfl) ?_
  refine ds_branch tabOk rfl (by decide) (fun _ => ?_) (fun h => absurd h (by decide))
  refine ds_branch tabOk rfl (by decide) (fun _ => ?_) (fun h => absurd h (by decide))
  refine ds_branch tabOk rfl (by decide) (fun _ => ?_) (fun h => absurd h (by decide))
  refine ds_call tabOk rfl (by decide) (rText_call 2 2 (by decide)) (callFunc_run Tryz.func28 rfl rfl) (by rintro r o rfl; rfl) (.refl _) rfl rfl ⟨_, rfl⟩ ?_
  refine ds_branch tabOk rfl (by decide) (fun _ => ?_) (fun h => by have := t10.symm.trans h; cases this)
  refine ds_branch tabOk rfl (by decide) (fun _ => ?_) (fun h => absurd h (by decide))
  refine ds_call tabOk rfl (by decide) (rText_call 2 0 (by decide)) (callFunc_run Tryz.func28 rfl rfl) (by rintro r o rfl; rfl) (.refl _) rfl rfl ⟨_, rfl⟩ ?_
  refine ds_branch tabOk rfl (by decide) (fun _ => ?_) (fun h => by have := t00.symm.trans h; cases this)
  refine ds_branch tabOk rfl (by decide) (fun _ => ?_) (fun h => absurd h (by decide))
  refine ds_branch tabOk rfl (by decide) (fun _ => ?_) (fun h => absurd h (by decide))
  refine ds_call tabOk rfl (by decide) (rSameN_call 2 3 2 3 (by decide) (by decide) (by decide)) (callFunc_run Tryz.func27 rfl rfl) (by rintro r o rfl; rfl) (.refl _) rfl rfl ⟨_, rfl⟩ ?_
  refine ds_branch tabOk rfl (by decide) (fun _ => ?_) (fun h => absurd h (by decide))
  refine ds_branch tabOk rfl (by decide) (fun _ => ?_) (fun h => absurd h (by decide))
  refine ds_call tabOk rfl (by decide) (rText_call 2 0 (by decide)) (callFunc_run Tryz.func28 rfl rfl) (by rintro r o rfl; rfl) (.refl _) rfl rfl ⟨_, rfl⟩ ?_
  refine ds_done tabOk rfl trivial ?_
  refine sat_ret tabOk Tryz.func9 rfl trivial ?_
  show vB ((⟨(txt 2 0).toArray⟩ : ByteArray).toList == (⟨#[48, 48]⟩ : ByteArray).toList) = _
  rw [t00]
end Go.Proofs.YtcenfhcemmlaeaaGreatDoor
namespace Go.Proofs.YtcenfhcemmlaeaaGreatDoor
open Go Ab
set_option maxRecDepth 100000
set_option linter.unusedVariables false
set_option linter.unusedSimpArgs false
set_option maxHeartbeats 4000000

/-! ### Both answers are one -/
theorem vok_ns {l : List Nd} (ty : Ty l) {v : List (Nat × Nat)} (hv : VOk l v l.length) : OkNs v := by
  intro p hp
  obtain ⟨i, hi, rfl⟩ := List.getElem_of_mem hp
  have hi' : i < l.length := by rw [← hv.len]; exact hi
  have e : nm v i = v[i] := by simp [nm, hi]
  have hw := val_w ty hv (id := (i : Int) + 1) (by omega) (by omega)
  rw [show ((i : Int) + 1 - 1).toNat = i by omega, e] at hw
  cases h : isVal (nd l i).op with
  | false =>
    have := hv.no i hi' h
    rw [e] at this
    rw [this]
    exact okN0
  | true =>
    have := (hv.yes i hi' h).2
    rw [e] at this
    exact ⟨this, hw⟩
theorem fit_ns {l : List Nd} {op : List UInt8} {v : List (Nat × Nat)} (h : Fit l op v) : OkNs v := by
  intro p hp
  obtain ⟨i, hi, rfl⟩ := List.getElem_of_mem hp
  have := h.at_ i hi
  rw [show nm v i = v[i] by simp [nm, hi]] at this
  exact ⟨this.2.1, this.2.2.2⟩
theorem Vecs_self {a : List (Nat × Nat)} (h : OkNs a) (hl : a.length ≤ 1000000) : ACall Tryz.prog 20 [.d (eNums a), .d (eNums a)] [] (fun r o => r = vB true) := by
  have := Vecs_call a a h h hl
  rwa [decide_eq_true (rfl : a = a)] at this
end Go.Proofs.YtcenfhcemmlaeaaGreatDoor
namespace Go.Proofs.YtcenfhcemmlaeaaGreatDoor
open Go Ab
set_option maxRecDepth 100000
set_option linter.unusedVariables false
set_option linter.unusedSimpArgs false
set_option maxHeartbeats 4000000

theorem nextL_len (l : List Nd) (v : List (Nat × Nat)) : (nextL l v).length = (allL l kState l.length).length := by simp [nextL]
end Go.Proofs.YtcenfhcemmlaeaaGreatDoor
namespace Go.Proofs.YtcenfhcemmlaeaaGreatDoor
open Go Ab
set_option maxRecDepth 100000
set_option linter.unusedVariables false
set_option linter.unusedSimpArgs false
set_option maxHeartbeats 4000000

end Go.Proofs.YtcenfhcemmlaeaaGreatDoor
namespace Go.Proofs.YtcenfhcemmlaeaaGreatDoor
open Go Ab
set_option maxRecDepth 100000
set_option linter.unusedVariables false
set_option linter.unusedSimpArgs false
set_option maxHeartbeats 4000000

end Go.Proofs.YtcenfhcemmlaeaaGreatDoor
namespace Go.Proofs.YtcenfhcemmlaeaaGreatDoor
open Go Ab
set_option maxRecDepth 100000
set_option linter.unusedVariables false
set_option linter.unusedSimpArgs false
set_option maxHeartbeats 4000000

end Go.Proofs.YtcenfhcemmlaeaaGreatDoor
