/- A part of the proof. -/
import Derived.Test.YtdnpkeahgpbkoaaU8
namespace Go.Proofs.Ytdnpkeahgpbkoaa
open Go Ab
set_option maxRecDepth 100000
set_option linter.unusedVariables false
set_option linter.unusedSimpArgs false

instance (n x : Int) : Decidable (litOk n x) := by unfold litOk; infer_instance
def clOk (n : Int) (c : List Int) : Bool := decide (c.length ≤ 1000) && c.all (fun x => decide (litOk n x))
def rightB (n : Int) (l : List (List Int)) : Bool := decide (0 ≤ n ∧ n ≤ 100000 ∧ l.length ≤ 20000) && l.all (clOk n)

theorem Right_call (n : Int) (l : List (List Int)) (hll : l.length ≤ maxLen) (hcl : ∀ c ∈ l, c.length ≤ maxLen) : ACall Try.prog 23 [.d (eCnf n l)] [] (fun r o => r = vB (rightB n l)) := by
  have hml : maxLen = 9223372036854775807 := rfl
  refine acall_enter Try.func23 rfl rfl (Nat.le_of_ble_eq_true rfl) fun C hC hCl => ?_
  have bad : ∀ {nd : Prop} {todo env objs o}, srun tab Try.f23.ntmps Try.f23.results.toList 2000 True todo env objs = .ret nd (vB false) o → nd → rightB n l = false → ASat Try.prog 23 Try.f23.ntmps C todo env objs (fun r o => r = vB (rightB n l)) := by
    intro nd todo env objs o h1 h2 h3
    exact sat_ret tabOk Try.func23 h1 h2 (by rw [h3])
  refine sat_branch tabOk Try.func23 rfl trivial (fun h1 => ?_) (fun h1 => ?_)
  · have h1 : n < 0 := by simpa using h1
    refine sat_branch tabOk Try.func23 rfl trivial (fun _ => ?_) (fun h => by cases h)
    refine sat_branch tabOk Try.func23 rfl trivial (fun _ => ?_) (fun h => by cases h)
    exact bad rfl trivial (by simp [rightB]; omega)
  have h1 : 0 ≤ n := by simpa using h1
  refine sat_branch tabOk Try.func23 rfl trivial (fun h2 => ?_) (fun h2 => ?_)
  · have h2 : 100000 < n := by simpa using h2
    refine sat_branch tabOk Try.func23 rfl trivial (fun _ => ?_) (fun h => by cases h)
    exact bad rfl trivial (by simp [rightB]; omega)
  have h2 : n ≤ 100000 := by simpa using h2
  refine sat_branch tabOk Try.func23 rfl trivial (fun h3 => ?_) (fun h3 => ?_)
  · have h3 : 20000 < l.length := by simp at h3; omega
    exact bad rfl trivial (by simp [rightB]; omega)
  have h3 : l.length ≤ 20000 := by simp at h3; omega
  have hR : rightB n l = l.all (clOk n) := by simp [rightB, h1, h2, h3]
  refine sat_stop tabOk Try.func23 rfl trivial ?_
  refine sat_while (α := Nat) (fun i => [(1, .ptr 0 0), (3, vI .i64 i)]) (fun _ => [some (.cells 35 [.d (eI n), .d (eIss l)])]) (fun i => i ≤ l.length ∧ rightB n l = (l.drop i).all (clOk n)) (fun i => l.length - i) 0 ⟨Nat.zero_le _, hR⟩ ?_ ?_
  · exact fun h => sat_le h hC hCl ⟨⟨_, rfl, .refl _⟩, ⟨_, rfl, .refl _⟩, trivial⟩ ⟨.refl _, trivial⟩ rfl rfl (Nat.zero_le _)
  rintro i ⟨hi, hc⟩ ih
  refine sat_branch tabOk Try.func23 rfl trivial (fun hb => ?_) (fun hb => ?_) <;> simp only [decide_eq_true_eq, decide_eq_false_iff_not, List.length_map] at hb
  · have hlt : i < l.length := by omega
    have hget : l.getD i [] = l[i] := by simp [hlt]
    have hcm := hcl _ (List.getElem_mem hlt)
    rw [List.drop_eq_getElem_cons hlt, List.all_cons] at hc
    generalize hx : l[i] = c at *
    refine sat_branch tabOk Try.func23 rfl ?_ (fun hb2 => ?_) (fun hb2 => ?_)
    · simp only [Int.toNat_natCast, List.length_map]; exact ⟨⟨by omega, by omega⟩, trivial⟩
    · have hb2 : 1000 < c.length := by rw [← hget]; simp at hb2; simp; omega
      exact bad rfl trivial (by rw [hc, clOk]; simp; intro h; omega)
    have hb2 : c.length ≤ 1000 := by rw [← hget]; simp at hb2; simp; omega
    refine sat_stop tabOk Try.func23 rfl trivial ?_
    refine sat_while (α := Nat) (fun k => [(1, .ptr 0 0), (3, vI .i64 i), (4, vI .i64 k)]) (fun _ => [some (.cells 35 [.d (eI n), .d (eIss l)])]) (fun k => k ≤ c.length ∧ rightB n l = ((c.drop k).all (fun x => decide (litOk n x)) && (l.drop (i + 1)).all (clOk n))) (fun k => c.length - k) 0 ⟨Nat.zero_le _, by rw [hc, clOk]; simp [hb2]⟩ ?_ ?_
    · exact fun h => sat_le h hC hCl ⟨⟨_, rfl, .refl _⟩, ⟨_, rfl, .refl _⟩, ⟨_, rfl, .refl _⟩, trivial⟩ ⟨.refl _, trivial⟩ rfl rfl (Nat.zero_le _)
    rintro k ⟨hk, hck⟩ ihk
    refine sat_branch tabOk Try.func23 rfl ?_ (fun hb => ?_) (fun hb => ?_)
    · simp only [Int.toNat_natCast, List.length_map]; exact ⟨⟨by omega, by omega⟩, trivial⟩
    · have hltk : k < c.length := by rw [← hget]; simp at hb; simp; omega
      have hgk : (l.getD i []).getD k 0 = c[k] := by rw [hget]; simp [hltk]
      rw [List.drop_eq_getElem_cons hltk, List.all_cons] at hck
      generalize hxx : c[k] = x at *
      refine sat_branch tabOk Try.func23 rfl ?_ (fun hb3 => ?_) (fun hb3 => ?_)
      · simp only [Int.toNat_natCast, List.length_map]
        rw [hget]
        exact ⟨⟨by omega, by omega⟩, ⟨by omega, by omega⟩, trivial⟩
      · have hb3 : x = 0 := by rw [← hgk]; simpa using hb3
        refine sat_branch tabOk Try.func23 rfl trivial (fun _ => ?_) (fun h => by cases h)
        refine sat_branch tabOk Try.func23 rfl trivial (fun _ => ?_) (fun h => by cases h)
        exact bad rfl trivial (by rw [hck]; simp [litOk, hb3])
      have hb3 : x ≠ 0 := by rw [← hgk]; simpa using hb3
      refine sat_branch tabOk Try.func23 rfl trivial (fun hb4 => ?_) (fun hb4 => ?_)
      · have hb4 : n < x := by rw [← hgk]; simpa using hb4
        refine sat_branch tabOk Try.func23 rfl trivial (fun _ => ?_) (fun h => by cases h)
        exact bad rfl trivial (by rw [hck, show decide (litOk n x) = false from decide_eq_false (fun hh => by obtain ⟨_, h7, h8⟩ := hh; omega)]; rfl)
      have hb4 : x ≤ n := by rw [← hgk]; simpa using hb4
      have w1 : IntKind.i64.wrap (0 - n) = -n := by rw [wrap_id (by omega) (by omega), Int.zero_sub]
      refine sat_branch tabOk Try.func23 rfl trivial (fun hb5 => ?_) (fun hb5 => ?_)
      · have hb5 : x < -n := by rw [w1] at hb5; rw [← hgk]; simpa using hb5
        exact bad rfl trivial (by rw [hck, show decide (litOk n x) = false from decide_eq_false (fun hh => by obtain ⟨_, h7, h8⟩ := hh; omega)]; rfl)
      have hb5 : -n ≤ x := by rw [w1] at hb5; rw [← hgk]; simpa using hb5
      refine sat_stop tabOk Try.func23 rfl trivial ?_
      refine sat_le (ihk (k + 1) ⟨by omega, ?_⟩ (by omega)) hC hCl ⟨⟨_, rfl, .refl _⟩, ⟨_, rfl, .refl _⟩, ⟨_, rfl, .of (by rw [wrap_id (by omega) (by omega)]; rfl)⟩, trivial⟩ ⟨.refl _, trivial⟩ rfl rfl (Nat.zero_le _)
      rw [hck]
      simp [litOk, hb3, hb4, hb5]
    · have hkc : k = c.length := by
        have : ¬ (k : Int) < (l.getD i []).length := by simpa using hb
        rw [hget] at this
        omega
      subst hkc
      rw [List.drop_length] at hck
      refine sat_stop tabOk Try.func23 rfl trivial ?_
      refine sat_le (ih (i + 1) ⟨by omega, by simpa using hck⟩ (by omega)) hC hCl ⟨⟨_, rfl, .refl _⟩, ⟨_, rfl, .of (by rw [wrap_id (by omega) (by omega)]; rfl)⟩, trivial⟩ ⟨.refl _, trivial⟩ rfl rfl (Nat.zero_le _)
  · obtain rfl : i = l.length := by omega
    rw [List.drop_length] at hc
    refine sat_ret tabOk Try.func23 rfl trivial ?_
    show vB true = vB _
    rw [hc]
    rfl
end Go.Proofs.Ytdnpkeahgpbkoaa
