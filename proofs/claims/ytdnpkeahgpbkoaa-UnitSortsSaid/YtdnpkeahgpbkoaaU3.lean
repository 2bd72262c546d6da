/- A part of the proof. -/
import Derived.Test.YtdnpkeahgpbkoaaU2
namespace Go.Proofs.Ytdnpkeahgpbkoaa
open Go Ab
set_option maxRecDepth 100000
set_option linter.unusedVariables false

/-- What is forced so far, as the code holds it. -/
structure Wk where
  forced : List Int
  queue : List Int
  clash : Bool
@[reducible] def gIs (l : List Int) : AObj := gL 3 1 eI 0 l
@[reducible] def wkO (s : Wk) : List (Option AObj) := [some (.cells 52 [.gs 1, .gs 2, vB s.clash]), some (gIs s.forced), some (gIs s.queue)]
def va (l : Int) : Nat := (max l (-l)).toNat
def forceW (s : Wk) (l : Int) : Wk :=
  if s.forced.getD (va l) 0 = l then s
  else if s.forced.getD (va l) 0 = 0 then ⟨s.forced.set (va l) l, s.queue ++ [l], s.clash⟩
  else ⟨s.forced, s.queue, true⟩

theorem force_call (s : Wk) (l : Int) (hl : va l < s.forced.length) (hs : -1000000 ≤ l ∧ l ≤ 1000000) (hq : s.queue.length ≤ 1000000) : ACall Try.prog 24 [.ptr 0 0, vI .i64 l] (wkO s) (fun r o => r = .tp [] ∧ o = wkO (forceW s l)) := by
  refine acall_enter Try.func24 rfl rfl (Nat.le_of_ble_eq_true rfl) fun C hC hCl => ?_
  have e1 : IntKind.i64.wrap (0 - l) = -l := by rw [wrap_id (by omega) (by omega), Int.zero_sub]
  have e2 : max l (-l) = (va l : Int) := by unfold va; omega
  refine sat_branch tabOk Try.func24 rfl (by simp only [e1, e2, Int.toNat_natCast, List.length_map]; simp; omega) (fun h => ?_) (fun h => ?_)
  · rw [e1, e2] at h
    simp only [Int.toNat_natCast, beq_iff_eq] at h
    refine sat_retL tabOk Try.func24 rfl trivial hC hCl (.refl _) (o2 := wkO (forceW s l)) ?_ rfl rfl (Nat.le_refl _) ⟨rfl, rfl⟩
    rw [forceW, if_pos h]
    exact ⟨.refl _, .refl _, .refl _, trivial⟩
  · rw [e1, e2] at h
    simp only [Int.toNat_natCast, beq_eq_false_iff_ne] at h
    refine sat_branch tabOk Try.func24 rfl trivial (fun h2 => ?_) (fun h2 => ?_)
    · rw [e1, e2] at h2
      simp only [Int.toNat_natCast, beq_iff_eq] at h2
      refine sat_retL tabOk Try.func24 rfl ?_ hC hCl (.refl _) (o2 := wkO (forceW s l)) ?_ rfl rfl (Nat.le_refl _) ⟨rfl, rfl⟩
      · simp only [andP, e1, e2, Int.toNat_natCast, List.length_map, List.length_cons, List.length_nil]
        have : s.queue.length + (0 + 1) ≤ 2000000 := by omega
        refine ⟨by show (s.queue.length + (0 + 1)) * 8 ≤ _; omega, hl, ⟨by omega, by omega⟩, trivial⟩
      · rw [forceW, if_neg h, if_pos h2]
        refine ⟨.refl _, .gL ?_, .gL ?_, trivial⟩
        · rw [e1, e2, Int.toNat_natCast, List.map_set]
          rfl
        · rw [List.map_append]
          rfl
    · rw [e1, e2] at h2
      simp only [Int.toNat_natCast, beq_eq_false_iff_ne] at h2
      refine sat_retL tabOk Try.func24 rfl trivial hC hCl (.refl _) (o2 := wkO (forceW s l)) ?_ rfl rfl (Nat.le_refl _) ⟨rfl, rfl⟩
      rw [forceW, if_neg h, if_neg h2]
      exact ⟨.refl _, .refl _, .refl _, trivial⟩

def scanW (forced : List Int) : Int → List Int → Option Int
  | only, [] => some only
  | only, l :: r => if forced.getD (va l) 0 = l then none else if forced.getD (va l) 0 = -l then scanW forced only r else if only ≠ 0 ∧ only ≠ l then none else scanW forced l r
def lookW (s : Wk) (c : List Int) : Wk :=
  match scanW s.forced 0 c with
  | none => s
  | some only => if only = 0 then ⟨s.forced, s.queue, true⟩ else forceW s only
theorem scanW_mem (forced : List Int) : ∀ (c : List Int) (only x : Int), scanW forced only c = some x → x = only ∨ x ∈ c
  | [], only, x, h => by simp only [scanW, Option.some.injEq] at h; exact .inl h.symm
  | l :: r, only, x, h => by
    simp only [scanW] at h
    split at h
    · cases h
    · split at h
      · rcases scanW_mem forced r only x h with h | h
        · exact .inl h
        · exact .inr (List.mem_cons_of_mem _ h)
      · split at h
        · cases h
        · rcases scanW_mem forced r l x h with h | h
          · exact .inr (h ▸ List.mem_cons_self)
          · exact .inr (List.mem_cons_of_mem _ h)

theorem look_call (s : Wk) (c : List Int) (hc : ∀ l ∈ c, va l < s.forced.length ∧ -1000000 ≤ l ∧ l ≤ 1000000) (hq : s.queue.length ≤ 1000000) : ACall Try.prog 25 [.ptr 0 0, .d (eIs c)] (wkO s) (fun r o => r = .tp [] ∧ o = wkO (lookW s c)) := by
  refine acall_enter Try.func25 rfl rfl (Nat.le_of_ble_eq_true rfl) fun C hC hCl => ?_
  refine sat_len (t := 1) rfl fun hlen => ?_
  rw [List.length_map] at hlen
  refine sat_stop tabOk Try.func25 rfl trivial ?_
  refine sat_while (α := Nat × Int) (fun a => [(0, .ptr 0 0), (1, .d (eIs c)), (7, .d (eIs c)), (8, vI .i64 c.length), (9, vI .i64 a.1), (4, vI .i64 a.2)]) (fun _ => wkO s) (fun a => a.1 ≤ c.length ∧ scanW s.forced 0 c = scanW s.forced a.2 (c.drop a.1)) (fun a => c.length - a.1) (0, 0) ⟨Nat.zero_le _, rfl⟩ ?_ ?_
  · refine fun h => sat_le h hC hCl ?_ ⟨.refl _, .refl _, .refl _, trivial⟩ rfl rfl (Nat.le_refl _)
    exact ⟨⟨_, rfl, .refl _⟩, ⟨_, rfl, .refl _⟩, ⟨_, rfl, .refl _⟩, ⟨_, rfl, .of (by rw [List.length_map])⟩, ⟨_, rfl, .refl _⟩, ⟨_, rfl, .refl _⟩, trivial⟩
  · rintro ⟨i, only⟩ ⟨hi, hcs⟩ ih
    simp only at hi hcs ⊢
    refine sat_branch tabOk Try.func25 rfl trivial (fun hb => ?_) (fun hb => ?_) <;> simp only [decide_eq_true_eq, decide_eq_false_iff_not] at hb
    · have hlt : i < c.length := by omega
      obtain ⟨b1, b2, b3⟩ := hc _ (List.getElem_mem hlt)
      rw [List.drop_eq_getElem_cons hlt, scanW] at hcs
      have hget : c.getD i 0 = c[i] := by simp [hlt]
      generalize hx : c[i] = x at *
      have e1 : IntKind.i64.wrap (0 - x) = -x := by rw [wrap_id (by omega) (by omega), Int.zero_sub]
      have e2 : max x (-x) = (va x : Int) := by unfold va; omega
      refine sat_branch tabOk Try.func25 rfl ?_ (fun h => ?_) (fun h => ?_)
      · simp only [Int.toNat_natCast, List.length_map, hget, e1, e2]
        exact ⟨b1, ⟨by omega, by omega⟩, ⟨by omega, by omega⟩, trivial⟩
      · simp only [Int.toNat_natCast, hget, e1, e2, beq_iff_eq] at h
        rw [if_pos h] at hcs
        refine sat_retL tabOk Try.func25 rfl trivial hC hCl (.refl _) (o2 := wkO (lookW s c)) ?_ rfl rfl (Nat.le_refl _) ⟨rfl, rfl⟩
        rw [lookW, hcs]
        exact ⟨.refl _, .refl _, .refl _, trivial⟩
      · simp only [Int.toNat_natCast, hget, e1, e2, beq_eq_false_iff_ne] at h
        rw [if_neg h] at hcs
        have next : ∀ o : Int, scanW s.forced 0 c = scanW s.forced o (c.drop (i + 1)) → ASat Try.prog 25 Try.f25.ntmps C _ _ _ _ := fun o ho => ih (i + 1, o) ⟨by omega, ho⟩ (by omega)
        have e3 : IntKind.i64.wrap ((i : Int) + 1) = ((i + 1 : Nat) : Int) := wrap_id (by omega) (by omega)
        refine sat_branch tabOk Try.func25 rfl trivial (fun h2 => ?_) (fun h2 => ?_)
        · simp only [Int.toNat_natCast, hget, e1, e2, beq_iff_eq] at h2
          rw [if_pos h2] at hcs
          refine sat_stop tabOk Try.func25 rfl trivial ?_
          refine sat_le (next only hcs) hC hCl ?_ ⟨.refl _, .refl _, .refl _, trivial⟩ rfl rfl (Nat.le_refl _)
          exact ⟨⟨_, rfl, .refl _⟩, ⟨_, rfl, .refl _⟩, ⟨_, rfl, .refl _⟩, ⟨_, rfl, .refl _⟩, ⟨_, rfl, .of (by rw [e3])⟩, ⟨_, rfl, .refl _⟩, trivial⟩
        · simp only [Int.toNat_natCast, hget, e1, e2, beq_eq_false_iff_ne] at h2
          rw [if_neg h2] at hcs
          refine sat_branch tabOk Try.func25 rfl trivial (fun h3 => ?_) (fun h3 => ?_)
          · have h3 : only ≠ 0 := by simpa using h3
            refine sat_branch tabOk Try.func25 rfl trivial (fun h4 => ?_) (fun h4 => ?_)
            · have h4 : only ≠ x := by rw [← hget]; simpa using h4
              rw [if_pos ⟨h3, h4⟩] at hcs
              refine sat_retL tabOk Try.func25 rfl trivial hC hCl (.refl _) (o2 := wkO (lookW s c)) ?_ rfl rfl (Nat.le_refl _) ⟨rfl, rfl⟩
              rw [lookW, hcs]
              exact ⟨.refl _, .refl _, .refl _, trivial⟩
            · have h4 : only = x := by rw [← hget]; simpa using h4
              rw [if_neg (by simp [h4])] at hcs
              refine sat_stop tabOk Try.func25 rfl trivial ?_
              refine sat_le (next x hcs) hC hCl ?_ ⟨.refl _, .refl _, .refl _, trivial⟩ rfl rfl (Nat.le_refl _)
              exact ⟨⟨_, rfl, .refl _⟩, ⟨_, rfl, .refl _⟩, ⟨_, rfl, .refl _⟩, ⟨_, rfl, .refl _⟩, ⟨_, rfl, .of (by rw [e3])⟩, ⟨_, rfl, .of (by rw [← hget]; rfl)⟩, trivial⟩
          · have h3 : only = 0 := by simpa using h3
            rw [if_neg (by simp [h3])] at hcs
            refine sat_branch tabOk Try.func25 rfl trivial (fun h4 => by cases h4) (fun _ => ?_)
            refine sat_stop tabOk Try.func25 rfl trivial ?_
            refine sat_le (next x hcs) hC hCl ?_ ⟨.refl _, .refl _, .refl _, trivial⟩ rfl rfl (Nat.le_refl _)
            exact ⟨⟨_, rfl, .refl _⟩, ⟨_, rfl, .refl _⟩, ⟨_, rfl, .refl _⟩, ⟨_, rfl, .refl _⟩, ⟨_, rfl, .of (by rw [e3])⟩, ⟨_, rfl, .of (by rw [← hget]; rfl)⟩, trivial⟩
    · obtain rfl : i = c.length := by omega
      rw [List.drop_length, scanW] at hcs
      refine sat_branch tabOk Try.func25 rfl trivial (fun h => ?_) (fun h => ?_)
      · have h : only = 0 := by simpa using h
        refine sat_retL tabOk Try.func25 rfl trivial hC hCl (.refl _) (o2 := wkO (lookW s c)) ?_ rfl rfl (Nat.le_refl _) ⟨rfl, rfl⟩
        rw [lookW, hcs]
        simp only [h, if_true]
        exact ⟨.refl _, .refl _, .refl _, trivial⟩
      · have h : only ≠ 0 := by simpa using h
        obtain ⟨b1, b2⟩ : va only < s.forced.length ∧ -1000000 ≤ only ∧ only ≤ 1000000 := by
          rcases scanW_mem s.forced c 0 only hcs with e | e
          · exact absurd e h
          · exact hc only e
        refine sat_callG [0, 1, 2] tabOk Try.func25 rfl trivial (force_call s only b1 b2 hq) ⟨⟨_, rfl, .refl _⟩, ⟨_, rfl, .refl _⟩, ⟨_, rfl, .refl _⟩, trivial⟩ (.refl _) rfl rfl rfl ⟨_, rfl⟩ ?_
        rintro r o ⟨rfl, rfl⟩
        refine sat_retL tabOk Try.func25 rfl trivial hC hCl (.refl _) (o2 := wkO (lookW s c)) ?_ rfl rfl (Nat.le_refl _) ⟨rfl, rfl⟩
        rw [lookW, hcs]
        simp only [if_neg h]
        exact ⟨.refl _, .refl _, .refl _, trivial⟩
end Go.Proofs.Ytdnpkeahgpbkoaa
