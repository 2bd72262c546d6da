/- A part of the proof. -/
import Derived.Test.YtkemmijjpclckaaGreatDoorP15
import Derived.Laws.Externs
set_option linter.unusedVariables false
set_option linter.unusedSimpArgs false
set_option linter.unusedSectionVars false
set_option maxRecDepth 100000
set_option maxHeartbeats 8000000
namespace Go.Proofs.YtkemmijjpclckaaGreatDoor
open Go Ab
@[reducible] def adrB (a : Bool) : AV := match a with | true => .ptr 0 0 | false => .d (.v (.pointer none))
@[reducible] def nilS : AV := .d (.v (.slice none 0 0))
@[reducible] def gB (bs : List UInt8) : AObj := gL 5 1 eU8 0 bs
@[reducible] def bF (a : Bool) : AObj := .cells 91 [adrB a, nilS]
@[reducible] def bW : AObj := .cells 91 [.ptr 0 0, .gs 1]
theorem ze3 (o0 : AObj) : ACall Tryz.prog 129 [.ptr 0 0] [some o0] (fun r o => r = .ptr 0 0 ∧ o = [some o0]) := by
 intro X π w vs hgk hm hv
 cases hv with | cons h1 hv =>
 cases hv
 rename_i v
 refine .inr ⟨v, w, ?_, v, _, _, π, rfl, ⟨rfl, rfl⟩, hm, h1, .refl _ _ _⟩
 show (callFunc 129 #[v]).run Tryz.prog w = _
 rw [run_callFunc_extern (e := Extern.AbiNoEscape.same) Tryz.func129 rfl rfl (by kernel_rfl) (by kernel_rfl), Go.Lib.run_noEscape]
 rfl
theorem zct (a : Bool) : ACall Tryz.prog 86 [.ptr 0 0] [some (bF a)] (fun r o => r = .tp [] ∧ o = [some (bF true)]) := by
 cases a with
 | false =>
  refine z8 Tryz.func86 rfl rfl (Nat.le_of_ble_eq_true rfl) fun C hC hCl hDs hGk => ?_
  refine z6 tabOk Tryz.func86 rfl trivial (fun _ => ?_) (fun h => by cases h)
  refine z3w tabOk Tryz.func86 rfl trivial ?_
  refine zed rfl rfl rfl rfl rfl (by decide) Tryz.underlying89 Tryz.underlying194 (sz := 1) (by kernel_rfl) rfl ?_
  refine zm [0] tabOk Tryz.func86 rfl trivial (ze3 (bF false)) ⟨⟨_, rfl, .refl _⟩, trivial⟩ (.refl _) rfl rfl rfl ⟨_, rfl⟩ ?_
  rintro r o ⟨rfl, rfl⟩
  refine z3w tabOk Tryz.func86 rfl trivial ?_
  refine zbr rfl rfl rfl rfl rfl Tryz.underlying194 Tryz.underlying89 (sz := 2) (by kernel_rfl) (by kernel_rfl) rfl ?_
  exact zp tabOk Tryz.func86 rfl trivial hC hCl (.refl _) (o2 := [some (bF true)]) ⟨.refl _, trivial⟩ rfl rfl (Nat.le_refl _) ⟨rfl, rfl⟩
 | true =>
  refine z8 Tryz.func86 rfl rfl (Nat.le_of_ble_eq_true rfl) fun C hC hCl hDs hGk => ?_
  refine z6 tabOk Tryz.func86 rfl trivial (fun h => by cases h) (fun _ => ?_)
  refine z3w tabOk Tryz.func86 rfl trivial ?_
  refine zaf rfl rfl rfl rfl rfl rfl Tryz.underlying89 (sz := 2) (by kernel_rfl) rfl ?_
  exact zp tabOk Tryz.func86 rfl trivial hC hCl (.refl _) (o2 := [some (bF true)]) ⟨.refl _, trivial⟩ rfl rfl (Nat.le_refl _) ⟨rfl, rfl⟩
theorem zkj (bs : List UInt8) : ACall Tryz.prog 86 [.ptr 0 0] [some bW, some (gB bs)] (fun r o => r = .tp [] ∧ o = [some bW, some (gB bs)]) := by
 refine z8 Tryz.func86 rfl rfl (Nat.le_of_ble_eq_true rfl) fun C hC hCl hDs hGk => ?_
 refine z6 tabOk Tryz.func86 rfl trivial (fun h => by cases h) (fun _ => ?_)
 refine z3w tabOk Tryz.func86 rfl trivial ?_
 refine zaf rfl rfl rfl rfl rfl rfl Tryz.underlying89 (sz := 2) (by kernel_rfl) rfl ?_
 exact zp tabOk Tryz.func86 rfl trivial hC hCl (.refl _) (o2 := [some bW, some (gB bs)]) ⟨.refl _, .refl _, trivial⟩ rfl rfl (Nat.le_refl _) ⟨rfl, rfl⟩
theorem zga (bs : List UInt8) (hne : bs ≠ []) : ACall Tryz.prog 41 [.ptr 0 0] [some bW, some (gB bs)] (fun r o => r = vS ⟨bs.toArray⟩ ∧ o = [none, none]) := by
 refine z8 Tryz.func41 rfl rfl (Nat.le_of_ble_eq_true rfl) fun C hC hCl hDs hGk => ?_
 refine zn 10 tabOk Tryz.func41 rfl rfl trivial (by kernel_rfl) ?_
 refine z4p 4 tabOk rfl trivial ?_
 refine zqs rfl rfl rfl rfl rfl rfl hne rfl ?_
 refine zo tabOk rfl trivial ?_
 refine zlh rfl rfl rfl rfl rfl rfl hne (by rw [List.length_map]) Tryz.underlying151 (by kernel_rfl) rfl ?_
 exact zp tabOk Tryz.func41 rfl trivial hC hCl (.refl _) (o2 := [none, none]) trivial rfl rfl (Nat.le_refl _) ⟨rfl, rfl⟩
@[reducible] def bld (i j : Nat) (a : Bool) : List UInt8 → AObj
 | [] => .cells 91 [match a with | true => .ptr i 0 | false => .d (.v (.pointer none)), nilS]
 | _ :: _ => .cells 91 [.ptr i 0, .gs j]
theorem z5l (ρ : Nat → Nat) (i j : Nat) (a : Bool) (bs : List UInt8) : (bld i j a bs).ren ρ = bld (ρ i) (ρ j) a bs := by
 cases bs with
 | nil => cases a <;> rfl
 | cons b r => rfl
theorem zj4 {i j m : Nat} (hi : i < m) (hj : j < m) (a : Bool) (bs : List UInt8) : z5x m (bld i j a bs) = true := by
 have h1 : Nat.blt i m = true := by simpa [Nat.blt_eq] using hi
 have h2 : Nat.blt j m = true := by simpa [Nat.blt_eq] using hj
 cases bs with
 | nil => cases a <;> simp [z5x, refsBs, refsB, h1, bld]
 | cons b r => simp [z5x, refsBs, refsB, h1, h2, bld]
@[reducible] def vStr (l : List UInt8) : AV := .d (.v (.string ⟨l.toArray⟩))
theorem z1g (a : Bool) (bs : List UInt8) : refsO 2 [some (bld 0 1 a bs), some (gB bs)] = true := by
 simp only [refsO, zj4 (show 0 < 2 by decide) (show 1 < 2 by decide)]
 rfl
@[reducible] def wsR (s : List UInt8) : AV := .tp [vI .i64 (s.length : Int), .d (.v .nilIface)]
theorem z3m (a b : List UInt8) : (⟨a.toArray⟩ : ByteArray) ++ ⟨b.toArray⟩ = ⟨(a ++ b).toArray⟩ := by
 apply ByteArray.ext
 simp
theorem ze9 (s : List UInt8) : (strEs ⟨s.toArray⟩).length = s.length := by simp [strEs]
theorem vlen (s : List UInt8) : vI .i64 (((⟨s.toArray⟩ : ByteArray).size : Nat) : Int) = vI .i64 (s.length : Int) := by
 rw [show (⟨s.toArray⟩ : ByteArray).size = s.length by simp [ByteArray.size]]
theorem z3p (a : Bool) (bs s : List UInt8) (hl : bs.length ≤ 100000000) (hs : s.length ≤ 100000000) : ACall Tryz.prog 38 [.ptr 0 0, vStr s] [some (bld 0 1 a bs), some (gB bs)] (fun r o => r = wsR s ∧ o = [some (bld 0 1 true (bs ++ s)), some (gB (bs ++ s))]) := by
 refine z8 Tryz.func38 rfl rfl (Nat.le_of_ble_eq_true rfl) fun C hC hCl hDs hGk => ?_
 cases bs with
 | nil =>
  cases a
  all_goals
   first
   |refine zm [0] tabOk Tryz.func38 rfl trivial (zct false) ⟨⟨_, rfl, .refl _⟩, trivial⟩ (.refl _) rfl rfl rfl ⟨_, rfl⟩ ?_
   |refine zm [0] tabOk Tryz.func38 rfl trivial (zct true) ⟨⟨_, rfl, .refl _⟩, trivial⟩ (.refl _) rfl rfl rfl ⟨_, rfl⟩ ?_
   rintro r o ⟨rfl, rfl⟩
   cases s with
   | nil =>
    refine zh 9 tabOk Tryz.func38 rfl trivial ?_
    refine zjm rfl rfl rfl rfl rfl Tryz.underlying43 Tryz.underlying9 (by rfl) rfl ?_
    refine zp tabOk Tryz.func38 rfl trivial hC hCl (.of ?_) (o2 := [some (bld 0 1 true []), some (gB [])]) ⟨.refl _, .refl _, trivial⟩ rfl rfl (Nat.le_refl _) ⟨rfl, rfl⟩
    rfl
   | cons c s =>
    refine zjk 0 1 1 (by decide) rfl rfl rfl ?_
    refine zp tabOk Tryz.func38 rfl ?nd hC hCl (.of ?_) (o2 := [some (bld 0 1 true (c :: s)), some (gB (c :: s))]) ⟨.refl _, .gL ?_, trivial⟩ rfl rfl (Nat.le_refl _) ⟨rfl, rfl⟩
    case nd =>
     show (0 + (strEs ⟨(c :: s).toArray⟩).length) * 1 ≤ 140737488355328 ∧ True
     rw [ze9]
     exact ⟨by omega, trivial⟩
    ·show AV.tp [vI .i64 (((⟨(c :: s).toArray⟩ : ByteArray).size : Nat) : Int), _] = _
     rw [vlen]
    ·rfl
 | cons b bs =>
  refine zm [0, 1] tabOk Tryz.func38 rfl trivial (zkj (b :: bs)) ⟨⟨_, rfl, .refl _⟩, ⟨_, rfl, .refl _⟩, trivial⟩ (.refl _) rfl rfl rfl ⟨_, rfl⟩ ?_
  rintro r o ⟨rfl, rfl⟩
  refine zp tabOk Tryz.func38 rfl ?nd hC hCl (.of ?_) (o2 := [some (bld 0 1 true (b :: bs ++ s)), some (gB (b :: bs ++ s))]) ⟨.refl _, .gL ?_, trivial⟩ rfl rfl (Nat.le_refl _) ⟨rfl, rfl⟩
  ·show (((b :: bs).map eU8).length + (strEs ⟨s.toArray⟩).length) * 1 ≤ 140737488355328 ∧ True
   rw [ze9, List.length_map]
   exact ⟨by omega, trivial⟩
  ·show AV.tp [vI .i64 (((⟨s.toArray⟩ : ByteArray).size : Nat) : Int), _] = _
   rw [vlen]
  ·rw [List.map_append]
   rfl
theorem zgd (a : Bool) (bs : List UInt8) : ACall Tryz.prog 41 [.ptr 0 0] [some (bld 0 1 a bs), some (gB bs)] (fun r o => r = vStr bs ∧ o = [none, none]) := by
 cases bs with
 | cons b bs => exact zga (b :: bs) (by simp)
 | nil =>
  refine z8 Tryz.func41 rfl rfl (Nat.le_of_ble_eq_true rfl) fun C hC hCl hDs hGk => ?_
  cases a
  all_goals
   refine zn 10 tabOk Tryz.func41 rfl rfl trivial (by kernel_rfl) ?_
   refine z4p 4 tabOk rfl trivial ?_
   refine zkd rfl Tryz.underlying151 rfl rfl rfl rfl rfl ?_
   refine zo tabOk rfl trivial ?_
   refine zgi rfl rfl rfl rfl rfl rfl ?_
   exact zp tabOk Tryz.func41 rfl trivial hC hCl (.refl _) (o2 := [none, none]) trivial rfl rfl (Nat.le_refl _) ⟨rfl, rfl⟩
end Go.Proofs.YtkemmijjpclckaaGreatDoor
