/- A part of the proof: K50, K51, K52, K53, K54, K55. -/
import Derived.Test.YtffomfbbplpljaaGreatDoorP13
set_option linter.unusedVariables false
set_option linter.unusedSimpArgs false
namespace Go.Proofs.YtffomfbbplpljaaGreatDoor
open Go Ab Go.RowKit
set_option maxRecDepth 100000
set_option linter.unusedVariables false
set_option linter.unusedSimpArgs false
set_option maxHeartbeats 4000000

@[reducible] def cEr (e : Int) : AObj := .cells 28 [vI .i64 e]
@[reducible] def cAt (a : Int) : AObj := .cells 3 [vI .i64 a]
@[reducible] def cPs (a : AV) : AObj := .cells 25 [a]
@[reducible] def pCs : List AV := [.ptr 0 0, .ptr 1 0, .ptr 2 0]

theorem parse1_catch (a0 : AV) (a1 e1 at_ e : Int) : ACatch Tryz.prog 20 pCs [some (cPs a0), some (cAt a1), some (cEr e1)] (wrD at_ e) [some (cPs (.d (.v (.slice none 0 0)))), some (cAt at_), some (cEr e)] := by
  refine catch_enter Tryz.func20 rfl rfl rfl rfl rfl rfl (by decide) (by decide) fun C hC hCl hDs hGk => ?_
  refine sat_branch tabOk Tryz.func20 rfl trivial (fun _ => ?_) (fun h => by cases h)
  refine sat_steps 4 tabOk Tryz.func20 rfl trivial ?_
  refine sat_assert rfl rfl rfl rfl (d := .struct _) rfl rfl rfl ?_
  refine sat_drawA 6 0 [(4, none), (5, none)] (fun L => [some (pk 4 L (cPs (.d (.v (.slice none 0 0)))) (cPs a0)), some (pk 5 L (cAt at_) (cAt a1)), some (cEr e1), some (.cells 56 [vI .i64 at_, vI .i64 e])]) _
    (objsF := [some (cPs (.d (.v (.slice none 0 0)))), some (cAt at_), some (cEr e1), some (.cells 56 [vI .i64 at_, vI .i64 e])]) tabOk Tryz.func20 rfl rfl trivial (by kernel_rfl) (by kernel_rfl) ?_ ?_ ?_ rfl (fun L => ds_done tabOk rfl trivial rfl) ?_ ?_
  · rfl
  · intro L hL
    simp only [pk_yes (hL 4 (by decide)), pk_yes (hL 5 (by decide))]
  · intro j L hb
    simp only [actB, List.any_cons, List.any_nil, Bool.or_false, Bool.or_eq_false_iff] at hb
    have n1 := Nat.ne_of_beq_eq_false hb.1
    have n2 := Nat.ne_of_beq_eq_false hb.2
    simp only [pk_ne (fun e => n1 e.symm), pk_ne (fun e => n2 e.symm)]
  · refine List.forall_mem_cons.2 ⟨⟨_, rfl, rfl, ?_⟩, List.forall_mem_cons.2 ⟨⟨_, rfl, rfl, ?_⟩, fun x h => by cases h⟩⟩
    · refine headH_skip (a := .dead) (c := none) tabOk rfl (fun _ _ _ h => h) (fun L hL => ?_) trivial rfl
      simp only [pk_self, pk_no hL, pk_ne (show (4 : Nat) ≠ 5 by decide)]
      rfl
    · refine headH_skip (a := .dead) (c := none) tabOk rfl (fun _ _ _ h => h) (fun L hL => ?_) trivial rfl
      simp only [pk_self, pk_no hL, pk_ne (show (5 : Nat) ≠ 4 by decide)]
      rfl
  exact sat_retL tabOk Tryz.func20 rfl trivial hC hCl (.refl _) (o2 := [some (cPs (.d (.v (.slice none 0 0)))), some (cAt at_), some (cEr e)]) ⟨.refl _, .refl _, .refl _, trivial⟩ rfl rfl (Nat.le_refl _) rfl
theorem parse1_idle (caps : Array Value) (w : World) (hw : Globals.tb Tryz.prog w) (hcs : caps.size ≤ 14) : CallsD Tryz.prog 20 caps .returning w fun e u' w' => (∃ v, e = .returned v) ∧ u' = .returning ∧ Later w w' := by
  refine catch_idleA Tryz.func20 rfl rfl rfl rfl rfl rfl (by decide) (fun C hC hCl hDs hGk => ?_) caps hcs w hw
  refine sat_branch tabOk Tryz.func20 rfl trivial (fun h => by cases h) (fun _ => ?_)
  exact sat_ret tabOk Tryz.func20 rfl trivial trivial
end Go.Proofs.YtffomfbbplpljaaGreatDoor
namespace Go.Proofs.YtffomfbbplpljaaGreatDoor
open Go Ab Go.RowKit
set_option maxRecDepth 100000
set_option linter.unusedVariables false
set_option linter.unusedSimpArgs false
set_option maxHeartbeats 4000000

@[reducible] def sDel : List UInt8 := [100, 32]
@[reducible] def gSps (l : List Sp) : AObj := gL 45 2 eSp (false, [], ()) l
/-- The proof that stands there, or what is wrong, and where. -/
def paL (b : List UInt8) (n : Int) : Nat → Int → List Sp → (Int × Int) ⊕ (List Sp × Int)
  | 0, at_, _ => .inl (at_, 2)
  | f + 1, at_, out =>
    if ¬ at_ < b.length then .inr (out, at_)
    else if out.length = 20000 then .inl (at_, 3)
    else match clR b n (b.length + 1) (isTo b at_ sDel) [] with
      | .inl x => .inl x
      | .inr (c, e) => paL b n f e (out ++ [(isAt b at_ sDel, c, ())])
def paR (b : List UInt8) (n : Int) : (Int × Int) ⊕ (List Sp × Int) := if 100000 < b.length then .inl (0, 3) else paL b n (b.length + 1) 0 []
def paA (q : (Int × Int) ⊕ (List Sp × Int)) : AV := match q with
  | .inl (a, e) => tupOf [.d (eSps []), vI .i64 a, vI .i64 e]
  | .inr (l, a) => tupOf [.d (eSps l), vI .i64 a, vI .i64 0]
@[reducible] def paA0 (q : (Int × Int) ⊕ (List Sp × Int)) : AV := match q with
  | .inl (a, e) => tupOf [.d (.v (.slice none 0 0)), vI .i64 a, vI .i64 e]
  | .inr (l, a) => tupOf [.d (eSps l), vI .i64 a, vI .i64 0]
/-- A clause that is read ends behind where it began, in the text. -/
theorem clR_pl {b : List UInt8} {n : Int} : ∀ {f : Nat} {at_ : Int} {out l : List Int} {e : Int}, clR b n f at_ out = .inr (l, e) → at_ < e ∧ e ≤ b.length
  | 0, _, _, _, _, h => by simp [clR] at h
  | f + 1, at_, out, l, e, h => by
    rw [clR] at h
    split at h
    · cases h
    · rename_i h0
      have h0 : (signR b at_ n).2.2 = 0 := Decidable.not_not.1 h0
      have hp := signR_pl h0
      split at h
      · split at h
        · rename_i h3
          have := isTo_pl h3
          cases h
          have t2 : isTo b (signR b at_ n).2.1 sNl = (signR b at_ n).2.1 + 1 := this.2.1
          omega
        · cases h
      · split at h
        · cases h
        · split at h
          · rename_i h3
            have := isTo_pl h3
            have t2 : isTo b (signR b at_ n).2.1 sSp = (signR b at_ n).2.1 + 1 := this.2.1
            have := clR_pl h
            omega
          · cases h
theorem isTo_ge {b : List UInt8} {at_ : Int} {s : List UInt8} (h0 : 0 ≤ at_) (h1 : at_ ≤ b.length) : at_ ≤ isTo b at_ s ∧ isTo b at_ s ≤ b.length := by
  cases h : isAt b at_ s with
  | true =>
    have := isTo_pl h
    omega
  | false =>
    unfold isAt at h
    rw [decide_eq_true ⟨h0, h1⟩, Bool.true_and] at h
    rw [isTo, if_neg (fun hh => hh ⟨h0, h1⟩), if_neg (by rw [h]; decide)]
    omega
@[reducible] def paO (a0 : AV) (a1 : Int) (vh : Value) : List (Option AObj) := [some (cPs a0), some (cAt a1), some (cEr 0), some (.hold (.fn (.func 20) pCs) vh)]
theorem parse_call0 (b : List UInt8) (n : Int) (hb : b.length ≤ 1000000) : ACall Tryz.prog 8 [.d (eBy b), vI .i64 n] [] (fun r o => r = paA0 (paR b n)) := by
  refine acall_enter Tryz.func8 rfl rfl (Nat.le_of_ble_eq_true rfl) fun C hC hCl hDs hGk => ?_
  refine sat_steps 9 tabOk Tryz.func8 rfl trivial ?_
  refine sat_deferH rfl rfl rfl rfl rfl (fun d vh hoff => ?_)
  obtain ⟨C', hC'⟩ : ∃ C', { C with ds := d :: C.ds } = C' := ⟨_, rfl⟩
  have hD : C'.ds = [d] := by rw [← hC', hDs]
  have hCo : C'.objs = [] := by rw [← hC']; exact hC
  have hCl' : C'.π.length = C'.objs.length := by rw [← hC']; exact hCl
  have hGk' : GOk Tryz.prog C'.π C'.objs C'.w := by rw [← hC']; exact hGk
  rw [hC']
  clear hC' hDs hCl hC hGk
  have hen : ∀ args w, (callFunc 20 args).run Tryz.prog w = .ok (.enter 20 args) w := callFunc_run Tryz.func20 rfl rfl
  have hof : OffV 20 vh d := hoff
  refine sat_branch tabOk Tryz.func8 rfl trivial (fun h => ?_) (fun h => ?_)
  · have h : 100000 < b.length := by
      have h : decide ((((b.map eU8).length : Nat) : Int) > 100000) = true := h
      rw [decide_eq_true_eq, List.length_map] at h
      omega
    refine sat_steps 6 tabOk Tryz.func8 rfl trivial ?_
    refine sat_panicR (m := 3) (o2 := [some (cPs .dead), some (cAt 0), some (cEr 0)]) (env2 := [(4, .ptr 0 0), (5, .ptr 1 0), (6, .ptr 2 0)]) tabOk Tryz.func8 rfl rfl rfl rfl hD hof hen rfl (parse1_catch .dead 0 0 0 3) ⟨.cellsV ⟨.dead, trivial⟩, .refl _, .refl _, trivial⟩ rfl rfl hCo (Nat.zero_le _) hCl' ⟨⟨_, rfl, .refl _⟩, ⟨_, rfl, .refl _⟩, ⟨_, rfl, .refl _⟩, trivial⟩ rfl rfl ?_
    rw [paR, if_pos h]
  have h : ¬ 100000 < b.length := by
    have h : decide ((((b.map eU8).length : Nat) : Int) > 100000) = false := h
    rw [decide_eq_false_iff_not, List.length_map] at h
    omega
  have hR : paR b n = paL b n (b.length + 1) 0 [] := by rw [paR, if_neg h]
  rw [hR]
  generalize hq : paL b n (b.length + 1) 0 [] = q at *
  refine sat_stop tabOk Tryz.func8 rfl trivial ?_
  refine sat_ownCell 0 0 (e' := 45) (s := 2) (fun i => eSp (([] : List Sp).getD i (false, [], ()))) rfl rfl ?_
  refine sat_while (α := Nat × Int × List Sp) (fun s => [(0, .d (eBy b)), (1, vI .i64 n), (4, .ptr 0 0), (5, .ptr 1 0), (6, .ptr 2 0)]) (fun s => paO (.gs 4) s.2.1 vh ++ [some (gSps s.2.2)]) (fun s => 0 ≤ s.2.1 ∧ s.2.1 ≤ b.length ∧ b.length - s.2.1 < s.1 ∧ s.2.2.length ≤ 20000 ∧ paL b n s.1 s.2.1 s.2.2 = q) (fun s => s.1) (b.length + 1, 0, []) ⟨by simp, by simp, by simp only; omega, by simp, hq⟩ ?_ ?_
  · exact fun h => sat_le h hCo hCl' ⟨⟨_, rfl, .refl _⟩, ⟨_, rfl, .refl _⟩, ⟨_, rfl, .refl _⟩, ⟨_, rfl, .refl _⟩, ⟨_, rfl, .refl _⟩, trivial⟩ ⟨.refl _, .refl _, .refl _, .refl _, .refl _, trivial⟩ rfl rfl (Nat.zero_le _)
  rintro ⟨f, at_, out⟩ ⟨ha, hab, hf, hout, hcl⟩ ih
  simp only at ha hab hf hout hcl ih ⊢
  obtain ⟨f, rfl⟩ : ∃ k, f = k + 1 := ⟨f - 1, by omega⟩
  rw [paL] at hcl
  refine sat_branch tabOk Tryz.func8 rfl trivial (fun h1 => ?_) (fun h1 => ?_)
  rotate_left
  · have h1 : ¬ at_ < b.length := by
      have h1 : decide (at_ < (((b.map eU8).length : Nat) : Int)) = false := h1
      rw [decide_eq_false_iff_not, List.length_map] at h1
      exact h1
    rw [if_pos h1] at hcl
    refine sat_freeze 4 rfl ?_
    refine sat_drawA 3 0 [(2, none)] (fun L => paO (.d (eSps out)) at_ vh ++ [none]) _ (objsF := paO (.d (eSps out)) at_ vh ++ [none]) tabOk Tryz.func8 rfl rfl trivial (by kernel_rfl) (by kernel_rfl) rfl (fun _ _ => rfl) (fun _ _ _ => rfl) rfl (fun L => ds_done tabOk rfl trivial rfl) ?_ ?_
    · refine List.forall_mem_cons.2 ⟨⟨_, rfl, rfl, ?_⟩, fun x h => by cases h⟩
      refine headH_skip (a := .dead) (c := none) tabOk rfl (fun _ _ _ h => h) (fun L hL => ?_) trivial rfl
      rfl
    refine sat_retH (m := 3) hD hof hen rfl (fun caps w hw hs => parse1_idle caps w hw (by rw [hs]; decide)) tabOk Tryz.func8 rfl trivial ?_
    rw [← hcl]
  have h1 : at_ < b.length := by
    have h1 : decide (at_ < (((b.map eU8).length : Nat) : Int)) = true := h1
    rw [decide_eq_true_eq, List.length_map] at h1
    exact h1
  rw [if_neg (fun hh => hh h1)] at hcl
  refine sat_branch tabOk Tryz.func8 rfl trivial (fun h2 => ?_) (fun h2 => ?_)
  · have h2 : out.length = 20000 := by
      have h2 : ((((out.map eSp).length : Nat) : Int) == 20000) = true := h2
      rw [beq_iff_eq, List.length_map] at h2
      omega
    rw [if_pos h2] at hcl
    refine sat_steps 7 tabOk Tryz.func8 rfl trivial ?_
    refine sat_panicR (m := 3) (o2 := [some (cPs .dead), some (cAt at_), some (cEr 0)]) (env2 := [(4, .ptr 0 0), (5, .ptr 1 0), (6, .ptr 2 0)]) tabOk Tryz.func8 rfl rfl rfl rfl hD hof hen rfl (parse1_catch .dead at_ 0 at_ 3) ⟨.cellsV ⟨.dead, trivial⟩, .refl _, .refl _, trivial⟩ rfl rfl hCo (Nat.zero_le _) hCl' ⟨⟨_, rfl, .refl _⟩, ⟨_, rfl, .refl _⟩, ⟨_, rfl, .refl _⟩, trivial⟩ rfl rfl ?_
    rw [← hcl]
  have h2 : out.length ≠ 20000 := by
    have h2 : ((((out.map eSp).length : Nat) : Int) == 20000) = false := h2
    rw [beq_eq_false_iff_ne, List.length_map] at h2
    omega
  rw [if_neg h2] at hcl
  refine sat_call tabOk Tryz.func8 rfl trivial (Is_call b at_ sDel hb (by decide)) (.refl _) rfl ⟨_, rfl⟩ (by rintro r o rfl; rfl) ?_
  rintro _ o rfl
  obtain ⟨hge, hle⟩ := @isTo_ge b at_ sDel ha hab
  refine sat_callR (m := 3) (o2 := [some (cPs .dead), some (cAt at_), some (cEr 0)]) (env2 := [(4, .ptr 0 0), (5, .ptr 1 0), (6, .ptr 2 0)]) tabOk Tryz.func8 rfl trivial hD hof hen rfl ⟨.cellsV ⟨.dead, trivial⟩, .refl _, .refl _, trivial⟩ rfl rfl hCo (Nat.zero_le _) hCl' ⟨⟨_, rfl, .refl _⟩, ⟨_, rfl, .refl _⟩, ⟨_, rfl, .refl _⟩, trivial⟩ rfl ?_ (clause_call b (isTo b at_ sDel) n hb (by omega) hle) ?_ (.refl _) rfl ⟨_, rfl⟩ ?_ ?_
  · rintro x ⟨a, e, hx, rfl⟩
    refine ⟨_, _, parse1_catch .dead at_ 0 a e, rfl, ?_⟩
    rw [hx] at hcl
    rw [← hcl]
  · rintro x ⟨a, e, hx, rfl⟩
    rfl
  · rintro r o ⟨l, p, hx, rfl⟩
    rfl
  rintro r o ⟨c, e, hx, rfl⟩
  rw [hx] at hcl
  have hpl := clR_pl hx
  refine sat_stop tabOk Tryz.func8 rfl ?nd ?_
  case nd =>
    show ((out.map eSp).length + 1) * 32 ≤ 140737488355328 ∧ True
    rw [List.length_map]
    exact ⟨by omega, trivial⟩
  refine sat_le (ih (f, e, out ++ [(isAt b at_ sDel, c, ())]) ⟨by simp only; omega, by simp only; omega, by simp only; omega, by simp only [List.length_append, List.length_cons, List.length_nil]; omega, hcl⟩ (by simp only; omega)) hCo hCl' ⟨⟨_, rfl, .refl _⟩, ⟨_, rfl, .refl _⟩, ⟨_, rfl, .refl _⟩, ⟨_, rfl, .refl _⟩, ⟨_, rfl, .refl _⟩, trivial⟩ ⟨.refl _, .refl _, .refl _, .refl _, .gL ?_, trivial⟩ rfl rfl (Nat.zero_le _)
  rw [List.map_append]
  rfl
theorem parse_call (b : List UInt8) (n : Int) (hb : b.length ≤ 1000000) : ACall Tryz.prog 8 [.d (eBy b), vI .i64 n] [] (fun r o => r = paA (paR b n)) := by
  refine (parse_call0 b n hb).less ?_
  rintro r o rfl
  refine ⟨_, [], rfl, ?_, trivial, ?_, rfl, Nat.le_refl _⟩
  · cases paR b n with
    | inl x => exact .tp ⟨.nil, .refl _, .refl _, trivial⟩
    | inr x => exact .refl _
  · cases paR b n <;> rfl
end Go.Proofs.YtffomfbbplpljaaGreatDoor
namespace Go.Proofs.YtffomfbbplpljaaGreatDoor
open Go Ab Go.RowKit
set_option maxRecDepth 100000
set_option linter.unusedVariables false
set_option linter.unusedSimpArgs false
set_option maxHeartbeats 4000000

@[reducible] def gIss (l : List (List Int)) : AObj := gL 33 1 eIs [] l
/-- The first that is so, or -1. -/
def idP {α : Type} (p : α → Bool) (l : List α) : Int := match l.findIdx? p with | some i => i | none => -1
theorem idP_some {α : Type} {p : α → Bool} {l : List α} {j : Nat} (hj : j < l.length) (h1 : p l[j] = true) (h2 : ∀ q (hq : q < l.length), q < j → p l[q] = false) : idP p l = j := by
  have : l.findIdx? p = some j := List.findIdx?_eq_some_iff_getElem.2 ⟨hj, h1, fun q hq => by rw [h2 q (by omega) hq]; decide⟩
  rw [idP, this]
theorem idP_none {α : Type} {p : α → Bool} {l : List α} (h2 : ∀ q (hq : q < l.length), p l[q] = false) : idP p l = -1 := by
  have : l.findIdx? p = none := List.findIdx?_eq_none_iff.2 fun x hx => by
    obtain ⟨q, hq, rfl⟩ := List.mem_iff_getElem.1 hx
    exact h2 q hq
  rw [idP, this]

theorem Clone2_call (c : List (List Int)) (hlen : c.length ≤ 1000000) : ACall Tryz.prog 16 [.d (eIss c)] [] (fun r o => r = .gs 0 ∧ o = [some (gIss c)]) := by
  refine acall_enter Tryz.func16 rfl rfl (Nat.le_of_ble_eq_true rfl) fun C hC hCl hDs hGk => ?_
  refine sat_goto tabOk Tryz.func16 rfl trivial ?_
  refine sat_isnil tabOk rfl rfl rfl rfl rfl rfl rfl rfl (fun hx => ?_) ?_
  · have hc : c = [] := List.map_eq_nil_iff.1 hx
    subst hc
    refine sat_steps 6 tabOk Tryz.func16 rfl trivial ?_
    refine sat_own (e := 33) (s := 1) (t := 2) (.inl rfl) (fun i => eIs (([] : List (List Int)).getD i [])) ?_
    refine sat_retL tabOk Tryz.func16 rfl trivial hC hCl (.refl _) (o2 := [some (gIss [])]) ⟨.refl _, trivial⟩ rfl rfl (Nat.zero_le _) ⟨rfl, rfl⟩
  · refine sat_retL tabOk Tryz.func16 rfl ?_ hC hCl (.refl _) (o2 := [some (gIss c)]) ⟨.gL rfl, trivial⟩ rfl rfl (Nat.zero_le _) ⟨rfl, rfl⟩
    simp only [andP, List.length_map]
    exact ⟨by show c.length * 24 ≤ _; omega, trivial⟩

@[reducible] def bOwn (own : List Int) : AObj := .cells 33 [.d (eIs own)]
theorem takes1_call (own d : List Int) (hd : ∀ x ∈ d, -1000000 ≤ x ∧ x ≤ 1000000) (hl : d.length ≤ 1000000) : ACall Tryz.prog 97 [.d (eIs d), .ptr 0 0] [some (bOwn own)] (fun r o => r = vB (decide (sortU d = own)) ∧ o = [some (bOwn own)]) := by
  refine acall_enter Tryz.func97 rfl rfl (Nat.le_of_ble_eq_true rfl) fun C hC hCl hDs hGk => ?_
  refine sat_drawT 3 tabOk Tryz.func97 rfl rfl trivial (by kernel_rfl) ?_
  refine ds_call tabOk rfl trivial (Sort_call d hd hl) (callFunc_run Tryz.func96 rfl rfl) (by rintro r o rfl; rfl) (.refl _) rfl rfl ⟨_, rfl⟩ ?_
  refine ds_done tabOk rfl trivial ?_
  refine sat_call tabOk Tryz.func97 rfl trivial (EqI_call (sortU d) own) (.refl _) rfl ⟨_, rfl⟩ (by rintro r o rfl; rfl) ?_
  rintro _ o rfl
  exact sat_ret tabOk Tryz.func97 rfl trivial ⟨rfl, rfl⟩

theorem IdxG_call (g : FuncId) (p : List Int → Bool) (own : List Int) (l : List (List Int)) (hp : ∀ d ∈ l, ACall Tryz.prog g [.d (eIs d), .ptr 0 0] [some (bOwn own)] (fun r o => r = vB (p d) ∧ o = [some (bOwn own)])) (hl : l.length ≤ 1000000) (vh : Value) :
    ACall Tryz.prog 51 [.gs 0, .fn (.func g) [.ptr 1 0]] [some (gIss l), some (bOwn own), some (.hold (.gs 0) vh)] (fun r o => r = vI .i64 (idP p l) ∧ o = [some (gIss l), some (bOwn own), some (.hold (.gs 0) vh)]) := by
  refine acall_enter Tryz.func51 rfl rfl (Nat.le_of_ble_eq_true rfl) fun C hC hCl hDs hGk => ?_
  refine sat_stop tabOk Tryz.func51 rfl trivial ?_
  refine sat_while (α := Nat) (fun i => [(0, .gs 0), (1, .fn (.func g) [.ptr 1 0]), (7, vI .i64 l.length), (8, vI .i64 (i : Int))]) (fun i => [some (gIss l), some (bOwn own), some (.hold (.gs 0) vh)]) (fun i => i ≤ l.length ∧ ∀ q (hq : q < l.length), q < i → p l[q] = false) (fun i => l.length - i) 0 ⟨Nat.zero_le _, fun q _ h => absurd h (Nat.not_lt_zero q)⟩ ?_ ?_
  · exact fun h => sat_le h hC hCl ⟨⟨_, rfl, .refl _⟩, ⟨_, rfl, .refl _⟩, ⟨_, rfl, .of (by rw [List.length_map])⟩, ⟨_, rfl, .refl _⟩, trivial⟩ ⟨.refl _, .refl _, .refl _, trivial⟩ rfl rfl (Nat.le_refl _)
  rintro i ⟨hi, hno⟩ ih
  refine sat_branch tabOk Tryz.func51 rfl trivial (fun h => ?_) (fun h => ?_)
  · have h : decide ((i : Int) < (l.length : Int)) = true := h
    rw [decide_eq_true_eq] at h
    have hlt : i < l.length := by omega
    have eg : l.getD i [] = l[i] := by simp [hlt]
    refine sat_callG [1] tabOk Tryz.func51 rfl (by simp only [andP, and_true, true_and, Int.toNat_natCast, List.length_map, List.length_append, List.length_cons, List.length_nil, List.length_replicate]; omega) (hp (l.getD i []) (by rw [eg]; exact List.getElem_mem hlt)) ⟨⟨_, rfl, .refl _⟩, trivial⟩ (.refl _) rfl rfl rfl ⟨_, rfl⟩ ?_
    rintro r o ⟨rfl, rfl⟩
    refine sat_branch tabOk Tryz.func51 rfl trivial (fun h2 => ?_) (fun h2 => ?_)
    · have h2 : p (l.getD i []) = true := h2
      rw [eg] at h2
      refine sat_retL tabOk Tryz.func51 rfl trivial hC hCl (.of ?_) (o2 := [some (gIss l), some (bOwn own), some (.hold (.gs 0) vh)]) ⟨.refl _, .refl _, .refl _, trivial⟩ rfl rfl (Nat.le_refl _) ⟨rfl, rfl⟩
      rw [idP_some hlt h2 hno]
      rfl
    · have h2 : p (l.getD i []) = false := h2
      rw [eg] at h2
      refine sat_stop tabOk Tryz.func51 rfl trivial ?_
      refine sat_le (ih (i + 1) ⟨by omega, fun q hq hqi => ?_⟩ (by omega)) hC hCl ⟨⟨_, rfl, .refl _⟩, ⟨_, rfl, .refl _⟩, ⟨_, rfl, .refl _⟩, ⟨_, rfl, .of (by rw [wrap_id (by omega) (by omega)]; rfl)⟩, trivial⟩ ⟨.refl _, .refl _, .refl _, trivial⟩ rfl rfl (Nat.le_refl _)
      rcases Nat.lt_or_ge q i with h3 | h3
      · exact hno q hq h3
      · obtain rfl : q = i := by omega
        exact h2
  · have h : decide ((i : Int) < (l.length : Int)) = false := h
    rw [decide_eq_false_iff_not] at h
    obtain rfl : i = l.length := by omega
    refine sat_ret tabOk Tryz.func51 rfl trivial ⟨?_, rfl⟩
    rw [idP_none fun q hq => hno q hq hq]
    rfl
end Go.Proofs.YtffomfbbplpljaaGreatDoor
namespace Go.Proofs.YtffomfbbplpljaaGreatDoor
open Go Ab Go.RowKit Go.Shelf Go.Lib Go.Sort Go.Proofs
set_option maxRecDepth 100000
set_option linter.unusedVariables false
set_option linter.unusedSimpArgs false
set_option maxHeartbeats 4000000

theorem Del_call (l : List (List Int)) (i : Nat) (hi : i < l.length) : ACall Tryz.prog 98 [.gs 0, vI .i64 (i : Int), vI .i64 ((i + 1 : Nat) : Int)] [some (gIss l)] (fun r o => r = .gs 0 ∧ o = [some (gIss (l.take i ++ l.drop (i + 1)))]) := by
  have h := delete_gen (P := Tryz.prog) (g := 98) (zr := ⟨.slice none 0 0, rfl⟩) (fun b o cap i j d w h1 h2 h3 h4 h5 => AnyE.slices_Delete Tryz.sdelL encF (fun x => x.2) ⟨.slice none 0 0, rfl⟩ Tryz.zeroValue33 _ rfl rfl b o cap i j d w h1 h2 h3 h4 h5)
    (fun args w => callFunc_run Tryz.func98 rfl rfl args w) (e := 33) (xs := l.map eIs) (rd := fun i => eIs (l.getD i [])) (rd' := fun k => eIs ((l.take i ++ l.drop (i + 1)).getD k [])) (i := i) (by simpa using hi) (by
      rw [← List.map_take, ← List.map_drop, ← List.map_append]
      exact map_rd eIs [] _)
  rw [← List.map_take, ← List.map_drop, ← List.map_append] at h
  exact h
end Go.Proofs.YtffomfbbplpljaaGreatDoor
namespace Go.Proofs.YtffomfbbplpljaaGreatDoor
open Go Ab Go.RowKit
set_option maxRecDepth 100000
set_option linter.unusedVariables false
set_option linter.unusedSimpArgs false
set_option maxHeartbeats 4000000

/-- Is a clause refuted? -/
noncomputable def refB (l : List (List Int)) (c : List Int) : Bool := @decide (Cf l (c.map fun x => -x)) (Classical.propDecidable _)
theorem refB_iff {l : List (List Int)} {c : List Int} : refB l c = true ↔ Cf l (c.map fun x => -x) := by
  unfold refB
  exact @decide_eq_true_iff _ (Classical.propDecidable _)
theorem refutes_b {n : Int} {l : List (List Int)} {c : List Int} (h : Okl n l c) (hn : n ≤ 100000) (hb : lits l ≤ 1000000) (hc : c.length ≤ 1000000) : ACall Tryz.prog 88 [vI .i64 n, .d (eIss l), .d (eIs c)] [] (fun r o => r = vB (refB l c)) := by
  refine (refutes_c h hn hb hc).mono ?_
  rintro r o ⟨b, rfl, h1⟩
  congr 3
  rw [Bool.eq_iff_iff, h1, refB_iff]
def eqS (c d : List Int) : Bool := decide (sortU d = sortU c)
theorem adds_call {n : Int} {l : List (List Int)} {c : List Int} (h : Okl n l c) (hn : n ≤ 100000) (hb : lits l ≤ 1000000) (hc : c.length ≤ 1000000) (hl : l.length ≤ 1000000) :
    ACall Tryz.prog 87 [.d (eIs c), vI .i64 n, .gs 0] [some (gIss l)] (fun r o => r = .tp [.gs 0, vB (refB l c)] ∧ o = [some (gIss (if refB l c = true then l ++ [c] else l))]) := by
  refine acall_enter Tryz.func87 rfl rfl (Nat.le_of_ble_eq_true rfl) fun C hC hCl hDs hGk => ?_
  refine sat_callL tabOk Tryz.func87 rfl trivial (refutes_b h hn hb hc) ⟨.inl (.refl _), .inr ⟨0, 33, 1, _, _, _, rfl, rfl, rfl, map_rd eIs [] l⟩, .inl (.refl _), trivial⟩ rfl ⟨_, rfl⟩ (by rintro r o rfl; rfl) ?_
  rintro _ o rfl
  cases refB l c with
  | false =>
    refine sat_branch tabOk Tryz.func87 rfl trivial (fun _ => ?_) (fun h => by cases h)
    exact sat_ret tabOk Tryz.func87 rfl trivial ⟨rfl, rfl⟩
  | true =>
    refine sat_branch tabOk Tryz.func87 rfl trivial (fun h => by cases h) (fun _ => ?_)
    refine sat_retL tabOk Tryz.func87 rfl ?nd hC hCl (.refl _) (o2 := [some (gIss (l ++ [c]))]) ⟨.gL ?_, trivial⟩ rfl rfl (Nat.le_refl _) ⟨rfl, rfl⟩
    case nd =>
      show ((l.map eIs).length + 1) * 24 ≤ 140737488355328 ∧ True
      rw [List.length_map]
      exact ⟨by omega, trivial⟩
    rw [List.map_append]
    rfl

def takeR (l : List (List Int)) (c : List Int) : Option (List (List Int)) := (l.findIdx? (eqS c)).map fun j => l.take j ++ l.drop (j + 1)
theorem takes_call {l : List (List Int)} {c : List Int} (n : Int) (hll : ∀ d ∈ l, (∀ x ∈ d, -1000000 ≤ x ∧ x ≤ 1000000) ∧ d.length ≤ 1000000) (hcc : ∀ x ∈ c, -1000000 ≤ x ∧ x ≤ 1000000) (hc : c.length ≤ 1000000) (hl : l.length ≤ 1000000) :
    ACall Tryz.prog 95 [.d (eIs c), vI .i64 n, .gs 0] [some (gIss l)] (fun r o => r = .tp [.gs 0, vB (takeR l c).isSome] ∧ o = [some (gIss ((takeR l c).getD l))]) := by
  refine acall_enter Tryz.func95 rfl rfl (Nat.le_of_ble_eq_true rfl) fun C hC hCl hDs hGk => ?_
  refine sat_call tabOk Tryz.func95 rfl trivial (Sort_call c hcc hc) (.refl _) rfl ⟨_, rfl⟩ (by rintro r o rfl; rfl) ?_
  rintro _ o rfl
  refine sat_steps 7 tabOk Tryz.func95 rfl trivial ?_
  refine sat_hold 2 0 rfl (fun vh _ => ?_)
  refine sat_callG [0, 1, 2] tabOk Tryz.func95 rfl trivial (IdxG_call 97 (eqS c) (sortU c) l (fun d hd => takes1_call (sortU c) d (hll d hd).1 (hll d hd).2) hl vh) ⟨⟨_, rfl, .refl _⟩, ⟨_, rfl, .refl _⟩, ⟨_, rfl, .refl _⟩, trivial⟩ (.refl _) rfl rfl rfl ⟨_, rfl⟩ ?_
  rintro _ o ⟨rfl, rfl⟩
  refine sat_unhold 2 2 rfl rfl ?_
  unfold takeR idP
  cases hf : l.findIdx? (eqS c) with
  | none =>
    refine sat_branch tabOk Tryz.func95 rfl trivial (fun _ => ?_) (fun h => by cases h)
    exact sat_retL tabOk Tryz.func95 rfl trivial hC hCl (.refl _) (o2 := [some (gIss l)]) ⟨.refl _, trivial⟩ rfl rfl (Nat.le_refl _) ⟨rfl, rfl⟩
  | some j =>
    have hj : j < l.length := (List.findIdx?_eq_some_iff_getElem.1 hf).1
    refine sat_branch tabOk Tryz.func95 rfl trivial (fun h => ?_) (fun h => ?_)
    · have h : decide ((j : Int) < 0) = true := h
      rw [decide_eq_true_eq] at h
      omega
    refine sat_callG [0] tabOk Tryz.func95 rfl trivial (Del_call l j hj) ⟨⟨_, rfl, .refl _⟩, trivial⟩ ⟨.refl _, .refl _, .of ?_, trivial⟩ rfl rfl rfl ⟨_, rfl⟩ ?_
    · show vI .i64 (IntKind.i64.wrap ((j : Int) + 1)) = vI .i64 ((j + 1 : Nat) : Int)
      rw [wrap_id (by omega) (by omega)]
      rfl
    rintro _ o ⟨rfl, rfl⟩
    exact sat_retL tabOk Tryz.func95 rfl trivial hC hCl (.refl _) (o2 := [some (gIss (l.take j ++ l.drop (j + 1)))]) ⟨.refl _, trivial⟩ rfl rfl (Nat.le_refl _) ⟨rfl, rfl⟩

theorem of_call (s : Sp) : ACall Tryz.prog 17 [.d (eSp s)] [] (fun r o => r = .d (.ifc (if s.1 = true then 75 else 51) (eIs s.2.1))) := by
  refine acall_enter Tryz.func17 rfl rfl (Nat.le_of_ble_eq_true rfl) fun C hC hCl hDs hGk => ?_
  obtain ⟨d, c, ⟨⟩⟩ := s
  cases d with
  | true =>
    refine sat_branch tabOk Tryz.func17 rfl trivial (fun _ => ?_) (fun h => by cases h)
    exact sat_ret tabOk Tryz.func17 rfl trivial rfl
  | false =>
    refine sat_branch tabOk Tryz.func17 rfl trivial (fun h => by cases h) (fun _ => ?_)
    exact sat_ret tabOk Tryz.func17 rfl trivial rfl
end Go.Proofs.YtffomfbbplpljaaGreatDoor
namespace Go.Proofs.YtffomfbbplpljaaGreatDoor
open Go Ab Go.RowKit
set_option maxRecDepth 100000
set_option linter.unusedVariables false
set_option linter.unusedSimpArgs false
set_option maxHeartbeats 4000000

/-- What a step leaves of the clauses; none: it can't. -/
noncomputable def stepR (l : List (List Int)) (s : Sp) : Option (List (List Int)) := if s.1 = true then takeR l s.2.1 else if refB l s.2.1 = true then some (l ++ [s.2.1]) else none
/-- Where a proof ends, and how. -/
noncomputable def chk : List (List Int) → Nat → List Sp → Nat × Int
  | _, i, [] => (i, 6)
  | l, i, s :: r => match stepR l s with
    | none => (i, if s.1 = true then 4 else 6)
    | some l' => if s.1 = false ∧ s.2.1 = [] then (i, 0) else chk l' (i + 1) r
/-- Clauses that are as they may be. -/
structure Cls (n : Int) (l : List (List Int)) : Prop where
  lit : ∀ c ∈ l, ∀ x ∈ c, litOk n x
  len : ∀ c ∈ l, c.length ≤ 1000
theorem Cls.lits {n : Int} {l : List (List Int)} (h : Cls n l) (hl : l.length ≤ 1000) : lits l ≤ 1000000 := Nat.le_trans (lits_le 1000 l h.len) (Nat.le_trans (Nat.mul_le_mul_right 1000 hl) (by decide))
theorem stepR_cls {n : Int} {l l' : List (List Int)} {s : Sp} (h : Cls n l) (hs : (∀ x ∈ s.2.1, litOk n x) ∧ s.2.1.length ≤ 1000) (he : stepR l s = some l') : Cls n l' ∧ l'.length ≤ l.length + 1 := by
  unfold stepR takeR at he
  split at he
  · cases hf : l.findIdx? (eqS s.2.1) with
    | none => rw [hf] at he; cases he
    | some j =>
      rw [hf] at he
      simp only [Option.map_some, Option.some.injEq] at he
      subst he
      have hm : ∀ c, c ∈ l.take j ++ l.drop (j + 1) → c ∈ l := fun c hc => by
        rcases List.mem_append.1 hc with hc | hc
        · exact List.mem_of_mem_take hc
        · exact List.mem_of_mem_drop hc
      refine ⟨⟨fun c hc => h.lit c (hm c hc), fun c hc => h.len c (hm c hc)⟩, ?_⟩
      simp only [List.length_append, List.length_take, List.length_drop]
      omega
  · split at he
    · cases he
      have hm : ∀ c, c ∈ l ++ [s.2.1] → c ∈ l ∨ c = s.2.1 := fun c hc => by simpa using hc
      refine ⟨⟨fun c hc => ?_, fun c hc => ?_⟩, by simp⟩
      · rcases hm c hc with h1 | rfl
        · exact h.lit c h1
        · exact hs.1
      · rcases hm c hc with h1 | rfl
        · exact h.len c h1
        · exact hs.2
    · cases he
@[reducible] def bCf (n : Int) (l : List (List Int)) : AObj := .cells 24 [vI .i64 n, .d (eIss l)]
theorem meth_takes (v : Value) (w : World) : (Go.method (Tryz.prog.types.size + Made.depth) 75 v "vidimus/drup.do").run Tryz.prog w = .ok (95, v) w := by kernel_rfl
theorem meth_adds (v : Value) (w : World) : (Go.method (Tryz.prog.types.size + Made.depth) 51 v "vidimus/drup.do").run Tryz.prog w = .ok (87, v) w := by kernel_rfl
theorem Check_call {n : Int} {l0 : List (List Int)} {p : List Sp} (hn : 0 ≤ n ∧ n ≤ 100000) (hc : Cls n l0) (hp : ∀ s ∈ p, (∀ x ∈ s.2.1, litOk n x) ∧ s.2.1.length ≤ 1000) (hs : l0.length + p.length ≤ 1000) :
    ACall Tryz.prog 6 [.d (eCnf n l0), .d (eSps p)] [] (fun r o => r = tupOf [vI .i64 ((chk l0 0 p).1 : Int), vI .i64 (chk l0 0 p).2]) := by
  refine acall_enter Tryz.func6 rfl rfl (Nat.le_of_ble_eq_true rfl) fun C hC hCl hDs hGk => ?_
  generalize hq : chk l0 0 p = q at *
  refine sat_callG [] tabOk Tryz.func6 rfl trivial (Clone2_call l0 (by omega)) trivial (.refl _) rfl rfl rfl ⟨_, rfl⟩ ?_
  rintro _ o ⟨rfl, rfl⟩
  refine sat_stop tabOk Tryz.func6 rfl trivial ?_
  refine sat_while (α := Nat × List (List Int)) (fun s => [(1, .d (eSps p)), (2, .ptr 0 0), (6, .gs 1), (17, .d (eSps p)), (18, vI .i64 p.length), (19, vI .i64 (s.1 : Int))]) (fun s => [some (bCf n l0), some (gIss s.2)]) (fun s => s.1 ≤ p.length ∧ Cls n s.2 ∧ s.2.length ≤ l0.length + s.1 ∧ chk s.2 s.1 (p.drop s.1) = q) (fun s => p.length - s.1) (0, l0) ⟨Nat.zero_le _, hc, Nat.le_refl _, hq⟩ ?_ ?_
  · exact fun h => sat_le h hC hCl ⟨⟨_, rfl, .refl _⟩, ⟨_, rfl, .refl _⟩, ⟨_, rfl, .refl _⟩, ⟨_, rfl, .refl _⟩, ⟨_, rfl, .of (by rw [List.length_map])⟩, ⟨_, rfl, .refl _⟩, trivial⟩ ⟨.refl _, .refl _, trivial⟩ rfl rfl (Nat.zero_le _)
  rintro ⟨i, l⟩ ⟨hi, hcl, hll, hck⟩ ih
  simp only at hi hcl hll hck ih ⊢
  refine sat_branch tabOk Tryz.func6 rfl trivial (fun h => ?_) (fun h => ?_)
  rotate_left
  · have h : decide ((i : Int) < (p.length : Int)) = false := h
    rw [decide_eq_false_iff_not] at h
    obtain rfl : i = p.length := by omega
    rw [List.drop_length, chk] at hck
    refine sat_ret tabOk Tryz.func6 rfl trivial ?_
    rw [← hck]
    show tupOf [vI .i64 (((p.map eSp).length : Nat) : Int), vI .i64 6] = _
    rw [List.length_map]
  have h : decide ((i : Int) < (p.length : Int)) = true := h
  rw [decide_eq_true_eq] at h
  have hlt : i < p.length := by omega
  have eg : p.getD i (false, [], ()) = p[i] := by simp [hlt]
  rw [List.drop_eq_getElem_cons hlt, chk] at hck
  have hps := hp _ (List.getElem_mem hlt)
  rw [← eg] at hps hck
  generalize hsi : p.getD i (false, [], ()) = si at *
  have hl1 : l.length ≤ 1000 := by omega
  have hok : Okl n l si.2.1 := ⟨hn.1, hcl.lit, hps.1⟩
  have hlits := hcl.lits hl1
  have hstep := stepR_cls hcl hps (l' := (stepR l si).getD [])
  refine sat_call tabOk Tryz.func6 rfl (by simp only [andP, and_true, true_and, Int.toNat_natCast, List.length_map, List.length_append, List.length_cons, List.length_nil, List.length_replicate]; omega) (of_call (p.getD i (false, [], ()))) (.refl _) rfl ⟨_, rfl⟩ ?_ ?_
  · rintro r o rfl
    rfl
  rintro _ o rfl
  rw [hsi]
  refine sat_steps 8 tabOk Tryz.func6 rfl trivial ?_
  obtain ⟨d, c, ⟨⟩⟩ := si
  simp only at hck hps hok
  have hlim : ∀ d ∈ l, (∀ x ∈ d, -1000000 ≤ x ∧ x ≤ 1000000) ∧ d.length ≤ 1000000 := fun d hd => ⟨fun x hx => litOk_b (hcl.lit d hd x hx) hn.2, Nat.le_trans (hcl.len d hd) (by decide)⟩
  cases d with
  | true =>
    refine sat_invokeG [1] rfl rfl rfl rfl meth_takes rfl (takes_call (l := l) (c := c) n hlim (fun x hx => litOk_b (hps.1 x hx) hn.2) (Nat.le_trans hps.2 (by decide)) (by omega)) (callFunc_run Tryz.func95 rfl rfl) ⟨⟨_, rfl, .refl _⟩, trivial⟩ (.refl _) rfl rfl rfl ⟨_, rfl⟩ ?_
    rintro _ o ⟨rfl, rfl⟩
    refine sat_steps 9 tabOk Tryz.func6 rfl trivial ?_
    refine sat_le (env' := [(1, .d (eSps p)), (2, .ptr 0 0), (17, .d (eSps p)), (18, vI .i64 p.length), (19, vI .i64 (i : Int)), (7, vI .i64 (i : Int)), (10, .gs 1), (11, vB (takeR l c).isSome), (35, .d (.ifc 75 (eIs c)))]) (objs' := [some (bCf n l0), some (gIss ((takeR l c).getD l))]) ?_ hC hCl ⟨⟨_, rfl, .refl _⟩, ⟨_, rfl, .refl _⟩, ⟨_, rfl, .refl _⟩, ⟨_, rfl, .refl _⟩, ⟨_, rfl, .refl _⟩, ⟨_, rfl, .refl _⟩, ⟨_, rfl, .refl _⟩, ⟨_, rfl, .refl _⟩, ⟨_, rfl, .refl _⟩, trivial⟩ ⟨.refl _, .refl _, trivial⟩ rfl rfl (Nat.zero_le _)
    refine sat_assertN (t2 := 75) rfl rfl rfl rfl (by decide) (d := .slice _) rfl rfl Tryz.zeroValue51 rfl rfl ?_
    unfold stepR at hck hstep
    simp only [if_true] at hck hstep
    cases ht : takeR l c with
    | none =>
      rw [ht] at hck
      refine sat_branch tabOk Tryz.func6 rfl trivial (fun _ => ?_) (fun h => by cases h)
      refine sat_branch tabOk Tryz.func6 rfl trivial (fun h => by cases h) (fun _ => ?_)
      refine sat_branch tabOk Tryz.func6 rfl trivial (fun _ => ?_) (fun h => by cases h)
      refine sat_ret tabOk Tryz.func6 rfl trivial ?_
      rw [← hck]
    | some l' =>
      rw [ht] at hck hstep
      obtain ⟨k1, k2⟩ := hstep rfl
      simp only [Option.getD_some] at k1 k2
      simp only [reduceCtorEq, false_and, if_false] at hck
      refine sat_branch tabOk Tryz.func6 rfl trivial (fun h => by cases h) (fun _ => ?_)
      refine sat_branch tabOk Tryz.func6 rfl trivial (fun h => by cases h) (fun _ => ?_)
      refine sat_branch tabOk Tryz.func6 rfl trivial (fun h => by cases h) (fun _ => ?_)
      refine sat_branch tabOk Tryz.func6 rfl trivial (fun h => by cases h) (fun _ => ?_)
      refine sat_branch tabOk Tryz.func6 rfl trivial (fun h => by cases h) (fun _ => ?_)
      refine sat_stop tabOk Tryz.func6 rfl trivial ?_
      exact sat_le (ih (i + 1, l') ⟨by omega, k1, by simp only; omega, hck⟩ (by simp only; omega)) hC hCl ⟨⟨_, rfl, .refl _⟩, ⟨_, rfl, .refl _⟩, ⟨_, rfl, .refl _⟩, ⟨_, rfl, .refl _⟩, ⟨_, rfl, .refl _⟩, ⟨_, rfl, .of (by rw [wrap_id (by omega) (by omega)]; rfl)⟩, trivial⟩ ⟨.refl _, .refl _, trivial⟩ rfl rfl (Nat.zero_le _)
  | false =>
    refine sat_invokeG [1] rfl rfl rfl rfl meth_adds rfl (adds_call (l := l) (c := c) hok hn.2 hlits (Nat.le_trans hps.2 (by decide)) (by omega)) (callFunc_run Tryz.func87 rfl rfl) ⟨⟨_, rfl, .refl _⟩, trivial⟩ (.refl _) rfl rfl rfl ⟨_, rfl⟩ ?_
    rintro _ o ⟨rfl, rfl⟩
    refine sat_steps 9 tabOk Tryz.func6 rfl trivial ?_
    refine sat_le (env' := [(1, .d (eSps p)), (2, .ptr 0 0), (17, .d (eSps p)), (18, vI .i64 p.length), (19, vI .i64 (i : Int)), (7, vI .i64 (i : Int)), (10, .gs 1), (11, vB (refB l c)), (35, .d (.ifc 51 (eIs c)))]) (objs' := [some (bCf n l0), some (gIss (if refB l c = true then l ++ [c] else l))]) ?_ hC hCl ⟨⟨_, rfl, .refl _⟩, ⟨_, rfl, .refl _⟩, ⟨_, rfl, .refl _⟩, ⟨_, rfl, .refl _⟩, ⟨_, rfl, .refl _⟩, ⟨_, rfl, .refl _⟩, ⟨_, rfl, .refl _⟩, ⟨_, rfl, .refl _⟩, ⟨_, rfl, .refl _⟩, trivial⟩ ⟨.refl _, .refl _, trivial⟩ rfl rfl (Nat.zero_le _)
    refine sat_assertY rfl rfl rfl rfl (d := .slice _) rfl rfl rfl ?_
    unfold stepR at hck hstep
    simp only [Bool.false_eq_true, if_false] at hck hstep
    cases ht : refB l c with
    | false =>
      rw [ht] at hck
      refine sat_branch tabOk Tryz.func6 rfl trivial (fun _ => ?_) (fun h => by cases h)
      refine sat_branch tabOk Tryz.func6 rfl trivial (fun _ => ?_) (fun h => by cases h)
      refine sat_ret tabOk Tryz.func6 rfl trivial ?_
      rw [← hck]
      rfl
    | true =>
      rw [ht] at hck hstep
      obtain ⟨k1, k2⟩ := hstep rfl
      simp only [if_true, Option.getD_some] at k1 k2
      simp only [if_true, true_and] at hck
      refine sat_branch tabOk Tryz.func6 rfl trivial (fun h => by cases h) (fun _ => ?_)
      refine sat_branch tabOk Tryz.func6 rfl trivial (fun h => by cases h) (fun _ => ?_)
      refine sat_branch tabOk Tryz.func6 rfl trivial (fun h => by cases h) (fun _ => ?_)
      refine sat_branch tabOk Tryz.func6 rfl trivial (fun _ => ?_) (fun h => by cases h)
      refine sat_branch tabOk Tryz.func6 rfl trivial (fun h3 => ?_) (fun h3 => ?_)
      · have h3 : ((((c.map eI).length : Nat) : Int) == 0) = true := h3
        rw [beq_iff_eq, List.length_map] at h3
        have h3 : c = [] := List.length_eq_zero_iff.1 (by omega)
        rw [if_pos h3] at hck
        refine sat_ret tabOk Tryz.func6 rfl trivial ?_
        rw [← hck]
      · have h3 : ((((c.map eI).length : Nat) : Int) == 0) = false := h3
        rw [beq_eq_false_iff_ne, List.length_map] at h3
        have h3 : ¬ c = [] := fun e => h3 (by rw [e]; rfl)
        rw [if_neg h3] at hck
        refine sat_stop tabOk Tryz.func6 rfl trivial ?_
        exact sat_le (ih (i + 1, l ++ [c]) ⟨by omega, k1, by simp only; omega, hck⟩ (by simp only; omega)) hC hCl ⟨⟨_, rfl, .refl _⟩, ⟨_, rfl, .refl _⟩, ⟨_, rfl, .refl _⟩, ⟨_, rfl, .refl _⟩, ⟨_, rfl, .refl _⟩, ⟨_, rfl, .of (by rw [wrap_id (by omega) (by omega)]; rfl)⟩, trivial⟩ ⟨.refl _, .refl _, trivial⟩ rfl rfl (Nat.zero_le _)
end Go.Proofs.YtffomfbbplpljaaGreatDoor
