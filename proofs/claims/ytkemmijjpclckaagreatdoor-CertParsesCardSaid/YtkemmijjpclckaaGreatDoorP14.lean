/- A part of the proof. -/
import Derived.Test.YtkemmijjpclckaaGreatDoorP13
import Derived.Lib.SliceRun
set_option linter.unusedVariables false
set_option linter.unusedSimpArgs false
set_option linter.unusedSectionVars false
set_option maxRecDepth 100000
set_option maxHeartbeats 8000000
namespace Go.Proofs.YtkemmijjpclckaaGreatDoor
open Go Ab Go.Shelf Go.RowKit Go.Lib Go.Sort
theorem gives27 (x : Int) (W : World) : FnGives Tryz.prog 205 #[] #[.int .i64 x] (.bool (decide (x = 0))) W := by
 show Calls Tryz.prog 205 #[.int .i64 x] W _
 go_enter Tryz.func205, Tryz.ntmps205
 go_wp2
 all_goals (go_ret; exact ⟨by cases h : (x == 0) <;> simp_all, 0, rfl⟩)
theorem delOk : DelOk := by
 intro xs hne
 intro X π w vs hgk m hv
 refine .inl ⟨zf Tryz.func204 rfl rfl _ _, ?_⟩
 cases hv with
 | cons hv ht =>
  cases ht with
  | cons hg ht =>
   cases ht
   cases hg with | d hg => cases hg with | v _ =>
   obtain ⟨h, hp, hrel⟩ := m.obj 0 _ rfl
   have hlenπ := m.len
   obtain ⟨h0, rfl⟩ : ∃ h0, π = [h0] := by
    cases π with
    | nil => cases hlenπ
    | cons a r => cases r with
     | nil => exact ⟨a, rfl⟩
     | cons _ _ => simp at hlenπ
   cases hp
   cases hv with
   | gs hh =>
    cases hh
    rename_i n c A
    have hrel' : RelO w _ _ (.grow 3 1 (xs.map fun x => D.v (Value.int .i64 x)) (fun i => eI (xs.getD i 0))) (.slice A n c) := hrel
    obtain ⟨b, o, c', rfl, rfl⟩ : ∃ b o c', A = some ⟨b, o, none⟩ ∧ c = c' + 1 := by
     generalize hxs : (xs.map fun x => D.v (Value.int .i64 x)) = ys at hrel'
     cases hrel' with
     | gnil => exact absurd (List.map_eq_nil_iff.1 hxs) hne
     | grow _ _ _ _ _ _ _ _ => exact ⟨_, _, _, rfl, rfl⟩
    obtain ⟨q1, q2, q3, q4, q5⟩ := z86 hrel'
    subst q2
    have hml : maxLen = 9223372036854775807 := rfl
    have eg : ∀ args w, (callFunc 205 args).run Tryz.prog w = .ok (.enter 205 args) w := fun args w => zf Tryz.func205 rfl rfl args w
    have hcall := AnyE.slices_DeleteFunc Tryz.delL (Value.int .i64) (fun _ => rfl) (fun x => decide (x = 0)) 205 #[] eg 0 Tryz.zeroValue3 b o (c' + 1) xs.toArray w (fun W x _ => gives27 x W) (fun n os dk x _ => gives27 x _) q1 (by simp; omega) (by simp; omega)
    simp only [List.size_toArray] at hcall
    have hf : (xs.filter fun x => !decide (x = 0)) = xs.filter (· ≠ 0) := by congr 1; funext x; simp
    rw [hf] at hcall
    have hle : (xs.filter (· ≠ 0)).length ≤ xs.length := List.length_filter_le _ _
    generalize xs.filter (· ≠ 0) = F at hcall hle
    refine Calls.mono hcall ?_
    rintro e' w' ⟨rfl, q, rfl⟩
    have htr := zll (q := q) (os := #[]) (k := F.length) (L := F ++ List.replicate (xs.length - F.length) 0) (rd' := fun i => eI (F.getD i 0)) (enc := Value.int .i64) (fun _ => rfl) m (by simp; omega) (by simp) (by
     intro i hi
     rw [List.take_left]
     simp [List.getD_eq_getElem?_getD, hi, eI])
    rw [List.take_left] at htr
    unfold sortWorld at htr
    rw [grow_empty] at htr
    refine ⟨_, .gs 0, _, _, rfl, ⟨rfl, rfl⟩, htr.mem, .gs rfl, htr.hist⟩
theorem z73 (d : Array Int) : ∀ m, (compactUpTo d m).length ≤ m
 | 0 => by simp [compactUpTo]
 | m + 1 => by
  rw [compactUpTo_succ]
  have := z73 d m
  split <;> simp <;> omega
theorem zfx (xs : List Int) : ACall Tryz.prog 213 [.gs 0] [some (gIs xs)] (fun r o => r = .gs 0 ∧ o = [some (gIs (Lib.compact xs))]) := by
 intro X π w vs hgk m hv
 refine .inl ⟨zf Tryz.func213 rfl rfl _ _, ?_⟩
 cases hv with
 | cons hv ht =>
  cases ht
  obtain ⟨h, hp, hrel⟩ := m.obj 0 _ rfl
  have hlenπ := m.len
  obtain ⟨h0, rfl⟩ : ∃ h0, π = [h0] := by
   cases π with
   | nil => cases hlenπ
   | cons a r => cases r with
    | nil => exact ⟨a, rfl⟩
    | cons _ _ => simp at hlenπ
  cases hp
  cases hv with
  | gs hh =>
   cases hh
   rename_i n c A
   have hrel' : RelO w _ _ (.grow 3 1 (xs.map fun x => D.v (Value.int .i64 x)) (fun i => eI (xs.getD i 0))) (.slice A n c) := hrel
   by_cases hgn : ∃ b o c', A = some ⟨b, o, none⟩ ∧ c = c' + 1
   ·obtain ⟨b, o, c', rfl, rfl⟩ := hgn
    obtain ⟨q1, q2, q3, q4, q5⟩ := z86 hrel'
    subst q2
    have hml : maxLen = 9223372036854775807 := rfl
    have hcall := AnyG.slices_Compact_int Tryz.compactL b o (c' + 1) xs w q1 (by omega) q4
    have hle : (Lib.compact xs).length ≤ xs.length := z73 _ _
    generalize Lib.compact xs = F at hcall hle
    refine Calls.mono hcall ?_
    rintro e' w' ⟨rfl, q, rfl⟩
    have htr := zll (q := q) (os := #[]) (k := F.length) (L := F ++ List.replicate (xs.length - F.length) 0) (rd' := fun i => eI (F.getD i 0)) (enc := Value.int .i64) (fun _ => rfl) m (by simp; omega) (by simp) (by
     intro i hi
     rw [List.take_left]
     simp [List.getD_eq_getElem?_getD, hi, eI])
    rw [List.take_left] at htr
    unfold sortWorld at htr
    rw [grow_empty] at htr
    refine ⟨_, .gs 0, _, _, rfl, ⟨rfl, rfl⟩, htr.mem, .gs rfl, htr.hist⟩
   ·have hnil : xs = [] ∧ n = 0 ∧ c = 0 := by
     generalize hxs : (xs.map fun x => D.v (Value.int .i64 x)) = ys at hrel'
     cases hrel' with
     | gnil => exact ⟨List.map_eq_nil_iff.1 hxs, rfl, rfl⟩
     | grow _ _ _ _ _ _ _ _ => exact absurd ⟨_, _, _, rfl, rfl⟩ hgn
    obtain ⟨rfl, rfl, rfl⟩ := hnil
    refine Calls.mono (AnyG.slices_Compact_int_empty Tryz.compactL A 0 w) ?_
    rintro e' w' ⟨rfl, rfl⟩
    refine ⟨_, .gs 0, _, _, rfl, ⟨rfl, ?_⟩, m, .gs rfl, .refl _ _ _⟩
    rfl
end Go.Proofs.YtkemmijjpclckaaGreatDoor
