/- A part of the proof: B2, Ab53, Ab55, V16, Ab56, V17, R12, L6, L7, L8. -/
import Derived.Test.YtclamogkchdkgaaGreatDoorP14
import Derived.RangeFuncNested
import Derived.RangeFuncBox
import Derived.RangeFuncLeaves
import Derived.Shelf.Abstract
import Derived.WalkKit
import Derived.OwnWalkIn
import Derived.TacticsInMore
import Derived.LoopNIn
import Derived.LoopIn
set_option linter.unusedVariables false
set_option linter.unusedSimpArgs false
namespace Go.Proofs.YtclamogkchdkgaaGreatDoor
open Go Ab Go.RowKit Go.Shelf
set_option linter.unusedVariables false
set_option linter.unusedSimpArgs false
set_option linter.unusedSectionVars false

/-! ### slices.Backward of 64 bit numbers; less (a range over it) -/
attribute [local go_sem] Oper.semAt_some

/-- The places from the top one down, the first k of them. -/
def ups (n k : Nat) : List Nat := (List.range k).map fun j => n - 1 - j
theorem ups_succ (n k : Nat) : ups n (k + 1) = ups n k ++ [n - 1 - k] := by simp [ups, List.range_succ]
theorem ups_len (n k : Nat) : (ups n k).length = k := by simp [ups]

set_option maxRecDepth 100000 in
set_option maxHeartbeats 2000000 in
theorem bw1_in (F : Fence) (n : Nat) (h8 : F.fn 126) (hro : F.round = none) (hn : 1 ≤ n) (l Bs n₀ b off len cap : Nat) (a : Nat → Nat) (hreach : len * 8 ≤ 140737488351232) (hb : b < n₀) (J Jx : List (Fin len) → World → Prop)
    (hY : ∀ pre x W, J pre W → pre.length < len → YieldAt F (n - 1) Tryz.prog l #[.int .i64 (x.1 : Int), .int .u64 (a x.1 : Int)] W fun e W' =>
      (e = .returned (.bool true) ∧ J (pre ++ [x]) W' ∧ Below n₀ W W') ∨ (e = .returned (.bool false) ∧ Jx (pre ++ [x]) W'))
    (W : World) (hBs : W.cell? ⟨Bs, 0, none⟩ = some (.slice (some ⟨b, off, none⟩) len cap)) (hc : ∀ j, j < len → W.cell? ⟨b, off + j, none⟩ = some (.int .u64 (a j : Int))) (hBn : Bs < n₀) (h0 : J [] W) :
    CallsIn F n Tryz.prog 126 #[.func (.yield l) #[] #[], .pointer (some ⟨Bs, 0, none⟩)] W fun e W' => (∃ v, e = .returned v) ∧
      ((∃ ys, ys.map (·.1) = ups len len ∧ J ys W') ∨ (∃ pre, (∃ k, k ≤ len ∧ pre.map (·.1) = ups len k) ∧ Jx pre W')) := by
  refine callsIn_of_wp Tryz.func126 rfl h8 ?_ hro
  simp only [Tryz.ntmps126, List.size_toArray, List.length_cons, List.length_nil, Nat.reduceAdd, Nat.reduceSub, Array.replicate_succ, Array.replicate_zero, List.push_toArray, List.append_toArray, List.nil_append, List.cons_append]
  gi_wp2
  gi_loopw [3] (fun i wr => ∃ (k : Nat) (pre : List (Fin len)), pre.map (·.1) = ups len k ∧ J pre wr ∧ Below n₀ W wr ∧ ((∃ m : Nat, k + (m + 1) = len ∧ i = .int .i64 (m : Int)) ∨ (k = len ∧ i = .int .i64 (-1))))
    (fun i _ => (intOf i + 1).toNat)
  case atStart =>
    refine ⟨0, [], rfl, h0, Below.refl _ _, ?_⟩
    rcases Nat.eq_zero_or_pos len with h | h
    · subst h
      exact .inr ⟨rfl, by simp⟩
    · refine .inl ⟨len - 1, by omega, ?_⟩
      simp
      omega
  case round =>
    obtain ⟨k, pre, hpre, hJs, hnx, hi⟩ := hrel
    rcases hi with ⟨m, hk, rfl⟩ | ⟨rfl, rfl⟩
    · have hcx : wr.cell? ⟨b, off + m, none⟩ = some (.int .u64 (a m : Int)) := (hnx.cell (p := ⟨b, off + m, none⟩) hb).trans (hc m (by omega))
      have hBx : wr.cell? ⟨Bs, 0, none⟩ = some (.slice (some ⟨b, off, none⟩) len cap) := (hnx.cell (p := ⟨Bs, 0, none⟩) hBn).trans hBs
      have hlen : pre.length = k := by rw [← ups_len len k, ← hpre, List.length_map]
      obtain ⟨fn, tmps, assign, body, hy, hR⟩ := hY _ ⟨m, by omega⟩ wr hJs (by omega)
      dsimp only at hy
      have hml : m < len := by omega
      have hpre' : (pre ++ [(⟨m, hml⟩ : Fin len)]).map (·.1) = ups len (k + 1) := by
        rw [List.map_append, hpre, ups_succ]
        simp
        omega
      gi_wp2
      refine hR.mono ?_
      rintro e W3 (⟨rfl, hJ3, hk3⟩ | ⟨rfl, hJx3⟩)
      · gi_wp2
        go_roundw
        case rel =>
          refine ⟨k + 1, _, hpre', hJ3, hnx.trans hk3, ?_⟩
          cases m with
          | zero => exact .inr ⟨by omega, by simp⟩
          | succ m => exact .inl ⟨m, by omega, by simp⟩
        case measure => first | (simp [intOf]; done) | (simp [intOf]; omega)
      · gi_wp2
        refine bodyPost_ret (results_none rfl _ _ _) rfl ?_
        exact ⟨⟨_, rfl⟩, .inr ⟨_, ⟨k + 1, by omega, hpre'⟩, hJx3⟩⟩
    · gi_wp2
      go_end0
      exact ⟨⟨_, rfl⟩, .inl ⟨_, hpre, hJs⟩⟩
set_option maxHeartbeats 1000000 in
theorem bw_in (F : Fence) (n : Nat) (h6 : F.fn 118) (hro : F.round = none) (a : Option Addr) (len cap : Nat) (w : World) :
    CallsIn F n Tryz.prog 118 #[.slice a len cap] w fun e w' => e = .returned (.func (.func 126) #[] #[.pointer (some ⟨w.heap.size, 0, none⟩)]) ∧ w' = w.alloc (.cells #[.slice a len cap] 22) := by
  refine callsIn_of_wp Tryz.func118 rfl h6 ?_ hro
  simp only [Tryz.ntmps118, List.size_toArray, List.length_cons, List.length_nil, Nat.reduceAdd, Nat.reduceSub, Array.replicate_succ, Array.replicate_zero, List.push_toArray, List.append_toArray, List.nil_append, List.cons_append]
  gi_wp2
  go_ret
  exact ⟨rfl, rfl⟩

theorem bw_stops (F : Fence) (n : Nat) (h8 : F.fn 126) (hro : F.round = none) (hn : 1 ≤ n) (Bs n₀ b off len cap : Nat) (a : Nat → Nat) (hreach : len * 8 ≤ 140737488351232) (w : World) (hBs : Bs < n₀) (hn₀ : n₀ ≤ w.heap.size) (hb : b < n₀)
    (hc : w.cell? ⟨Bs, 0, none⟩ = some (.slice (some ⟨b, off, none⟩) len cap)) (hI : ∀ j, j < len → w.cell? ⟨b, off + j, none⟩ = some (.int .u64 (a j : Int))) :
    SeqStopsK F n Tryz.prog 126 #[.pointer (some ⟨Bs, 0, none⟩)] (fun x : Fin len => #[Value.int .i64 (x.1 : Int), Value.int .u64 (a x.1 : Int)]) (Below n₀) (fun ys => ys.map (·.1) = ups len len)
      (fun pre => ∃ k, k ≤ len ∧ pre.map (·.1) = ups len k) len w := fun l J Jx W hW _ _ hY h0 => by
  have hc' := (hW.cell (p := ⟨Bs, 0, none⟩) (Nat.lt_of_lt_of_le hBs hn₀)).trans hc
  exact bw1_in F n h8 hro hn l Bs n₀ b off len cap a hreach hb J Jx hY W hc' (fun j hj => (hW.cell (p := ⟨b, off + j, none⟩) (Nat.lt_of_lt_of_le hb hn₀)).trans (hI j hj)) hBs h0

/-- What less tells: the topmost place at which the two part. -/
def LessOut (n : Nat) (x y : Nat → Nat) (v : Bool) : Prop :=
  (v = false ∧ ∀ j, j < n → x j = y j) ∨ ∃ m, m < n ∧ x m ≠ y m ∧ (∀ j, m < j → j < n → x j = y j) ∧ v = decide (x m < y m)

set_option maxRecDepth 100000 in
set_option maxHeartbeats 4000000 in
theorem less_in (F : Fence) (n : Nat) (h4 : F.fn 96) (h6 : F.fn 118) (h8 : F.fn 126) (hro : F.round = none) (hn : 3 ≤ n) (wa wb : Int) (ba oa ca bb ob cb len : Nat) (x y : Nat → Nat) (hx : ∀ j, x j < 18446744073709551616) (hy : ∀ j, y j < 18446744073709551616) (hreach : len * 8 ≤ 140737488351232) (w : World)
    (hba : ba < w.heap.size) (hbb : bb < w.heap.size) (hIa : ∀ j, j < len → w.cell? ⟨ba, oa + j, none⟩ = some (.int .u64 (x j : Int))) (hIb : ∀ j, j < len → w.cell? ⟨bb, ob + j, none⟩ = some (.int .u64 (y j : Int))) :
    CallsIn F n Tryz.prog 96 #[.agg #[.int .i64 wa, .slice (some ⟨ba, oa, none⟩) len ca], .agg #[.int .i64 wb, .slice (some ⟨bb, ob, none⟩) len cb]] w fun e W' =>
      (∃ v, e = .returned (.bool v) ∧ LessOut len x y v) ∧ Below w.heap.size w W' := by
  have h1 : 1 ≤ n := by omega
  refine callsIn_of_wp_marks Tryz.func96 rfl h4 ?_ hro
  simp only [Tryz.ntmps96, List.size_toArray, List.length_cons, List.length_nil, Nat.reduceAdd, Nat.reduceSub, Array.replicate_succ, Array.replicate_zero, List.push_toArray, List.append_toArray, List.nil_append, List.cons_append]
  gi_wp2_with (gi_at_call 118; refine (bw_in F (n - 1) h6 hro _ _ _ _).mono ?_; rintro e w' ⟨rfl, rfl⟩)
  obtain ⟨w1, hw1⟩ : ∃ w1, w.alloc (.cells #[.int .i64 wa, .slice (some ⟨ba, oa, none⟩) len ca] 24) = w1 := ⟨_, rfl⟩
  obtain ⟨w2, hw2⟩ : ∃ w2, w1.alloc (.cells #[.int .i64 wb, .slice (some ⟨bb, ob, none⟩) len cb] 24) = w2 := ⟨_, rfl⟩
  obtain ⟨w3, hw3⟩ : ∃ w3, w2.alloc (.cells #[.bool false] 4) = w3 := ⟨_, rfl⟩
  obtain ⟨W0, hW0⟩ : ∃ W0, w3.alloc (.cells #[.slice (some ⟨ba, oa, none⟩) len ca] 22) = W0 := ⟨_, rfl⟩
  rw [hw1, hw2, hw3, hW0]
  have s1 : w1.heap.size = w.heap.size + 1 := by rw [← hw1]; simp
  have s2 : w2.heap.size = w.heap.size + 1 + 1 := by rw [← hw2, World.size_alloc, s1]
  have s3 : w3.heap.size = w.heap.size + 1 + 1 + 1 := by rw [← hw3, World.size_alloc, s2]
  have hs0 : W0.heap.size = w.heap.size + 1 + 1 + 1 + 1 := by rw [← hW0, World.size_alloc, s3]
  have hb0 : Below w.heap.size w W0 := by
    rw [← hW0, ← hw3, ← hw2, ← hw1]
    exact ((((Below.refl _ w).alloc (Nat.le_refl _) _).alloc (by simp) _).alloc (by simp; omega) _).alloc (by simp; omega) _
  have k1 : W0.heap[w.heap.size + 1]? = some (.cells #[.int .i64 wb, .slice (some ⟨bb, ob, none⟩) len cb] 24) := by
    rw [← hW0, Below.heap_alloc _ _ _ (by omega), ← hw3, Below.heap_alloc _ _ _ (by omega), ← hw2, ← s1]
    exact World.alloc_heap_new _ _
  have k2 : W0.heap[w.heap.size + 1 + 1]? = some (.cells #[.bool false] 4) := by
    rw [← hW0, Below.heap_alloc _ _ _ (by omega), ← hw3, ← s2]
    exact World.alloc_heap_new _ _
  have k3 : W0.heap[w.heap.size + 1 + 1 + 1]? = some (.cells #[.slice (some ⟨ba, oa, none⟩) len ca] 22) := by
    rw [← hW0, ← s3]
    exact World.alloc_heap_new _ _
  have c1 : W0.cell? ⟨w.heap.size + 1, 1, none⟩ = some (.slice (some ⟨bb, ob, none⟩) len cb) := by rw [Lib.cell_of_heap k1]; rfl
  have c2 : W0.cell? ⟨w.heap.size + 1 + 1, 0, none⟩ = some (.bool false) := by rw [Lib.cell_of_heap k2]; rfl
  have f2 : W0.frozen? ⟨w.heap.size + 1 + 1, 0, none⟩ = false := Lib.frozen_of_heap k2 0
  have c3 : W0.cell? ⟨w.heap.size + 1 + 1 + 1, 0, none⟩ = some (.slice (some ⟨ba, oa, none⟩) len ca) := by rw [Lib.cell_of_heap k3]; rfl
  clear hw1 hw2 hw3 k1 k2 k3 s1 s2 s3
  clear hW0
  refine wpIn_rangeFunc_ownG hro h1 (gf := 126) (lb := #[.pointer (some ⟨w.heap.size + 1 + 1 + 1, 0, none⟩)]) rfl h8 (enters_of Tryz.func126 (by kernel_rfl) rfl)
    (bw_stops F (n - 1) h8 hro (by omega) (w.heap.size + 1 + 1 + 1) W0.heap.size ba oa len ca x hreach W0 (by omega) (Nat.le_refl _) (by omega) c3 (fun j hj => (hb0.cell (p := ⟨ba, oa + j, none⟩) hba).trans (hIa j hj))) belowK_t (belowK_b (Nat.le_refl _)) (Below.refl _ _) (fun _ => rfl)
    (fun pre W => (∀ p ∈ pre, x p.1 = y p.1) ∧ Below W0.heap.size W0 W)
    (fun c pre W => (c = .ret ∧ ∃ ini last, pre = ini ++ [last] ∧ (∀ p ∈ ini, x p.1 = y p.1) ∧ x last.1 ≠ y last.1 ∧ W.cell? ⟨w.heap.size + 1 + 1, 0, none⟩ = some (.bool (decide (x last.1 < y last.1)))) ∧ Below w.heap.size w W)
    (OwnFrom.and (Own.from (fun s A B row hs hg hr => hs) _) (ownFrom_below (Nat.le_refl _) (Nat.le_refl _)))
    (fun c => OwnFrom.and (Own.from (fun s A B row hs hg hr => by obtain ⟨hc, ini, last, e1, e2, e3, e4⟩ := hs; exact ⟨hc, ini, last, e1, e2, e3, cell_kept e4 hg hr⟩) _) (ownFrom_below (Nat.le_refl _) hb0.size))
    ⟨by simp, Below.refl _ _⟩
    (fun x' => { tmps := #[.agg #[.int .i64 wa, .slice (some ⟨ba, oa, none⟩) len ca], .agg #[.int .i64 wb, .slice (some ⟨bb, ob, none⟩) len cb], .pointer (some ⟨w.heap.size, 0, none⟩), .pointer (some ⟨w.heap.size + 1, 0, none⟩), .pointer (some ⟨w.heap.size + 1 + 1, 0, none⟩), .int .i64 (x'.1 : Int), .int .u64 (x x'.1 : Int), .pointer (some ⟨w.heap.size, 1, none⟩), .slice (some ⟨ba, oa, none⟩) len ca, .func (.func 126) #[] #[.pointer (some ⟨w.heap.size + 1 + 1 + 1, 0, none⟩)], .int .i64 (x'.1 : Int), .int .u64 (x x'.1 : Int), undef, undef, undef, undef, undef, undef, undef, undef, undef, undef, undef, undef, undef, undef], defers := [] }) ?assign ?body ?done ?stop
  case assign =>
    intro l x W K hK
    gi_wp2
    exact hK
  case body =>
    rintro l pre ⟨m, hm⟩ W ⟨hp, hB⟩ _
    dsimp only
    have d1 := (hB.cell (p := ⟨w.heap.size + 1, 1, none⟩) (by show w.heap.size + 1 < _; omega)).trans c1
    have d2 := (hB.cell (p := ⟨w.heap.size + 1 + 1, 0, none⟩) (by show w.heap.size + 1 + 1 < _; omega)).trans c2
    have g2 : W.frozen? ⟨w.heap.size + 1 + 1, 0, none⟩ = false := by
      have : W.heap[w.heap.size + 1 + 1]? = W0.heap[w.heap.size + 1 + 1]? := hB.block _ (by omega)
      rw [← f2]; simp only [World.frozen?, this]
    have dy := (hB.cell (p := ⟨bb, ob + m, none⟩) (by show bb < _; omega)).trans ((hb0.cell (p := ⟨bb, ob + m, none⟩) hbb).trans (hIb m hm))
    gi_wp2
    · have hne : (((x m : Nat) : Int) != ((y m : Nat) : Int)) = true := by assumption
      have hne : x m ≠ y m := by
        intro e
        rw [e] at hne
        simp at hne
      exact ⟨(KeepsOthers.setCell _ _ _).from _, ⟨rfl, pre, ⟨m, hm⟩, rfl, hp, hne, World.cell?_setCell_same' _ _ _ (by rw [d2]; rfl)⟩, (hb0.trans (hB.mono hb0.size)).setCell (p := ⟨w.heap.size + 1 + 1, 0, none⟩) (by show w.heap.size ≤ w.heap.size + 1 + 1; omega) _⟩
    · have hne : (((x m : Nat) : Int) != ((y m : Nat) : Int)) = false := by assumption
      have hne : ((x m : Nat) : Int) = ((y m : Nat) : Int) := by simpa using hne
      have hne : x m = y m := by omega
      exact ⟨KeepsFrom.refl _ _, Below.refl _ _, fun p hp' => (List.mem_append.1 hp').elim (hp p) (fun e => by simp at e; subst e; exact hne), hB⟩
  case done =>
    rintro D ys W hD hys ⟨hp, hB⟩ hK
    have d2 := (hB.cell (p := ⟨w.heap.size + 1 + 1, 0, none⟩) (by show w.heap.size + 1 + 1 < _; omega)).trans c2
    have g2 : W.frozen? ⟨w.heap.size + 1 + 1, 0, none⟩ = false := by
      have : W.heap[w.heap.size + 1 + 1]? = W0.heap[w.heap.size + 1 + 1]? := hB.block _ (by omega)
      rw [← f2]; simp only [World.frozen?, this]
    gi_wp2
    have hK' := (KeepsOthers.setCell W ⟨w.heap.size + 1 + 1, 0, none⟩ (.bool false)).same D _ hK rfl
    refine ⟨by simp, .inl ⟨_, _, rfl, run_takeDeferred hK', ?_⟩⟩
    have hc5 := cell_kept (World.cell?_setCell_same' W ⟨w.heap.size + 1 + 1, 0, none⟩ (.bool false) (by rw [d2]; rfl)) (grownBy_putObj' _ D (.deferred none)) (fun r e => by cases e; exact ⟨_, hK', rfl⟩)
    have hBW := (hb0.trans (hB.mono hb0.size)).setCell (p := ⟨w.heap.size + 1 + 1, 0, none⟩) (by show w.heap.size ≤ w.heap.size + 1 + 1; omega) (.bool false)
    refine ⟨.bool false, ?_, ⟨false, rfl, .inl ⟨rfl, fun j hj => ?_⟩⟩, hBW.trans (belowK_b (w := w) (Nat.le_refl _) _ D _ _ (by omega) hK' rfl rfl)⟩
    · simp [results, Tryz.f96, go_sem, hc5]
    · have : j ∈ ys.map (·.1) := by
        rw [hys, ups, List.mem_map]
        exact ⟨len - 1 - j, by simp; omega, by omega⟩
      obtain ⟨p, hpm, rfl⟩ := List.mem_map.1 this
      exact hp p hpm
  case stop =>
    rintro D c pre W hD ⟨k, hk, hpre⟩ ⟨⟨rfl, ini, last, e1, e2, e3, hcr⟩, hB⟩ hK
    gi_wp2
    refine ⟨by simp, .inl ⟨_, _, rfl, run_takeDeferred hK, ?_⟩⟩
    have hc5 := cell_kept hcr (grownBy_putObj' _ D (.deferred none)) (fun r e => by cases e; exact ⟨_, hK, rfl⟩)
    refine ⟨.bool (decide (x last.1 < y last.1)), ?_, ⟨_, rfl, .inr ⟨last.1, last.2, e3, fun j h1 h2 => ?_, rfl⟩⟩, hB.trans (belowK_b (w := w) (Nat.le_refl _) W D _ _ (by omega) hK rfl rfl)⟩
    · simp [results, Tryz.f96, go_sem, hc5]
    · subst e1
      cases k with
      | zero => simp [ups] at hpre
      | succ k =>
        rw [ups_succ, List.map_append] at hpre
        obtain ⟨q1, q2⟩ := List.append_inj' hpre rfl
        have q2 : last.1 = len - 1 - k := by simpa using q2
        have : j ∈ ini.map (·.1) := by
          rw [q1, ups, List.mem_map]
          exact ⟨len - 1 - j, by simp; omega, by omega⟩
        obtain ⟨p, hpm, rfl⟩ := List.mem_map.1 this
        exact e2 p hpm

theorem lessOut_lmb {n x y : Nat} (hx : x < 2 ^ (64 * n)) (hy : y < 2 ^ (64 * n)) {v : Bool} (h : LessOut n (fun j => lw x j) (fun j => lw y j) v) : v = decide (x < y) := by
  rcases h with ⟨rfl, h⟩ | ⟨m, hm, h1, h2, rfl⟩
  · have : x = y := by
      apply lmb_inj hx hy
      unfold lmb
      exact List.map_congr_left fun j hj => h j (List.mem_range.1 hj)
    subst this
    simp
  · have hup : x / 2 ^ (64 * (m + 1)) = y / 2 ^ (64 * (m + 1)) := by
      apply Nat.eq_of_testBit_eq
      intro i
      rw [Nat.testBit_div_two_pow, Nat.testBit_div_two_pow]
      by_cases hi : i + 64 * (m + 1) < 64 * n
      · have hj := h2 ((i + 64 * (m + 1)) / 64) (by omega) (by omega)
        have := congrArg (fun z => z.testBit ((i + 64 * (m + 1)) % 64)) hj
        simp only [lw_tb, show (i + 64 * (m + 1)) % 64 < 64 by omega, decide_true, Bool.true_and] at this
        rw [show 64 * ((i + 64 * (m + 1)) / 64) + (i + 64 * (m + 1)) % 64 = i + 64 * (m + 1) by omega] at this
        exact this
      · rw [Nat.testBit_lt_two_pow (Nat.lt_of_lt_of_le hx (Nat.pow_le_pow_right (by decide) (by omega))), Nat.testBit_lt_two_pow (Nat.lt_of_lt_of_le hy (Nat.pow_le_pow_right (by decide) (by omega)))]
    have ex := split_lw x m
    have ey := split_lw y m
    have dx := Nat.div_add_mod x (2 ^ (64 * (m + 1)))
    have dy := Nat.div_add_mod y (2 ^ (64 * (m + 1)))
    rw [hup] at dx
    have lx : x % 2 ^ (64 * m) < 2 ^ (64 * m) := Nat.mod_lt _ (Nat.two_pow_pos _)
    have ly : y % 2 ^ (64 * m) < 2 ^ (64 * m) := Nat.mod_lt _ (Nat.two_pow_pos _)
    have key : ∀ a b : Nat, a < b → 2 ^ (64 * m) * a + 2 ^ (64 * m) ≤ 2 ^ (64 * m) * b := fun a b h => by
      have : 2 ^ (64 * m) * (a + 1) ≤ 2 ^ (64 * m) * b := Nat.mul_le_mul_left _ h
      rwa [Nat.mul_add, Nat.mul_one] at this
    have h1 : lw x m ≠ lw y m := h1
    show decide (lw x m < lw y m) = decide (x < y)
    rw [decide_eq_decide]
    constructor
    · intro h
      have := key _ _ h
      omega
    · intro h
      rcases Nat.lt_or_ge (lw x m) (lw y m) with h3 | h3
      · exact h3
      · have := key _ _ (show lw y m < lw x m by omega)
        omega

theorem us_of {w : World} {ok : Nat → Prop} {l : List Nat} {v : Value} (h : RelD w ok (eUs l) v) (hl : l ≠ []) : ∃ b o c, v = .slice (some ⟨b, o, none⟩) l.length c ∧ ∀ j, j < l.length → b < w.heap.size ∧ w.cell? ⟨b, o + j, none⟩ = some (.int .u64 (l.getD j 0 : Int)) := by
  have hlen : (l.map eU).length = l.length := by simp
  unfold eUs eL at h
  generalize hxs : l.map eU = xs at h hlen
  cases h with
  | nil hb => exact absurd (List.map_eq_nil_iff.1 hxs) hl
  | sl he hm hc hb hr =>
    rename_i b o c us
    subst hxs
    have hus : us = l.map fun x : Nat => Value.int .u64 (x : Int) := by
      clear hm hc hr hlen hl
      generalize hn : l.length = k
      induction l generalizing us k with
      | nil => cases he; rfl
      | cons x r ih =>
        cases he with
        | cons h hl2 t =>
          cases h with
          | cons h hf t' =>
            cases t'
            cases h
            rw [ih t _ rfl]
            rfl
    subst hus
    refine ⟨b, o, c, by rw [hlen], fun j hj => ?_⟩
    obtain ⟨h1, h2⟩ := hm j (by simpa using hj)
    have h3 : w.cell? ⟨b, o + j, none⟩ = some (.int .u64 (l.getD j 0 : Int)) := by
      rw [h2]
      simp [hj]
    exact ⟨cell_lt h3, h3⟩

set_option maxRecDepth 100000 in
theorem lessN_call (w x y : Nat) (hx : x < 2 ^ w) (hy : y < 2 ^ w) (hw : 0 < w) (hwb : w ≤ 1000000) : ACall Tryz.prog 96 [.d (vN w x), .d (vN w y)] [] (fun r o => r = vB (decide (x < y))) := by
  intro X π W vs m hv
  have hl : ∀ z, lmb (limbsN w) z ≠ [] := fun z e => by
    have := congrArg List.length e
    rw [lmb_len] at this
    unfold limbsN at this
    simp at this
    omega
  obtain ⟨va, vb, rfl, ha, hb⟩ : ∃ va vb, vs = [va, vb] ∧ RelD W (okOf X π []) (vN w x) va ∧ RelD W (okOf X π []) (vN w y) vb := by
    cases hv with
    | cons h1 h2 =>
      cases h2 with
      | cons h3 h4 =>
        cases h4
        cases h1 with | d h1 => cases h3 with | d h3 => exact ⟨_, _, rfl, h1, h3⟩
  have ag : ∀ {z : Nat} {v : Value}, RelD W (okOf X π []) (vN w z) v → ∃ sv, v = .agg #[.int .i64 (w : Int), sv] ∧ RelD W (okOf X π []) (eUs (lmb (limbsN w) z)) sv := by
    intro z v h
    cases h with
    | ag h =>
      cases h with
      | cons h1 _ h2 =>
        cases h2 with
        | cons h3 _ h4 =>
          cases h4
          cases h1
          exact ⟨_, rfl, h3⟩
  obtain ⟨sa, rfl, ha2⟩ := ag ha
  obtain ⟨sb, rfl, hb2⟩ := ag hb
  obtain ⟨ba, oa, ca, rfl, ia⟩ := us_of ha2 (hl x)
  obtain ⟨bb, ob, cb, rfl, ib⟩ := us_of hb2 (hl y)
  rw [lmb_len] at ia ib
  simp only [lmb_len]
  have hn : 0 < limbsN w ∧ limbsN w ≤ 1000000 := by unfold limbsN; omega
  have g : ∀ z j, j < limbsN w → (lmb (limbsN w) z).getD j 0 = lw z j := fun z j hj => lmb_get hj
  have e0 : ∀ args w, (callFunc 96 args).run Tryz.prog w = .ok (.enter 96 args) w := callFunc_run Tryz.func96 rfl rfl
  refine .inl ⟨e0 _ _, ?_⟩
  have key := (callsIn_wide (n := 3)).1 (less_in Fence.wide 3 trivial trivial trivial rfl (Nat.le_refl _) (w : Int) (w : Int) ba oa ca bb ob cb (limbsN w) (fun j => lw x j) (fun j => lw y j) (fun j => lw_lt x j) (fun j => lw_lt y j) (by omega) W (ia 0 hn.1).1 (ib 0 hn.1).1 (fun j hj => by rw [(ia j hj).2, g x j hj]) (fun j hj => by rw [(ib j hj).2, g y j hj]))
  refine key.mono ?_
  rintro e w' ⟨⟨v, rfl, hv⟩, b⟩
  have := lessOut_lmb (lt_limbs hx) (lt_limbs hy) hv
  subst this
  have t := tr_plain m b.os b.tape ⟨b.output, dr_le _ _⟩ b.size b.block
  exact ⟨_, _, [], π, rfl, rfl, t.mem, .d (.v rfl), t.hist⟩
end Go.Proofs.YtclamogkchdkgaaGreatDoor
set_option linter.unusedSimpArgs false
set_option linter.unusedVariables false
namespace Ab
open Go

section
variable {P : Program} {T : Tab} {f : FuncId} {fn : Func} {n m : Nat} {C : Cx} {R : AV → List (Option AObj) → Prop} {todo todo' k : List Item} {env env0 env' envF E : Env} {objs objs' objs1 : List (Option AObj)} {nd : Prop} {ops : Array Oper} {l : List Oper} {K : Env → Prop} {X : Nat → Prop}

/-- No other operation of the head looks at what operation e tells, nor tells it. -/
def noSee (ops : Array Oper) (m e d : Nat) : Bool := (List.range m).all fun j => j == e || match ops[j]? with
  | some o => !(o.looksAt ops).contains d && o.dst != some d
  | none => true
theorem sat_drawM (m e : Nat) (ι : List Nat) {id : Nat} {oe : Oper} {d : Tmp} {g : FuncId} {az bs : List AV} {objs0 : List (Option AObj)} {R' : AV → List (Option AObj) → Prop} {r0 : AV} (hT : TabOk P T) (hf : P.funcs[f]? = some fn) (hmx : P.follows .mixedOrders = true) (h : srun T n fn.results.toList 2000 True todo env objs = .draw nd id ops k env' objs') (hn : nd)
    (hB : drawB ops m = true) (hem : e < m) (hno : noSee ops m e d = true) (hoe : ops[e]? = some oe) (hD0 : DSat P n C.X objs' ops (fun x => x = E) ((ops.toList.take m).eraseIdx e) env') (hD1 : DSat P n C.X objs1 ops (fun x => x = E) ((ops.toList.take m).eraseIdx e) env')
    (hdst : oe.dst = some d) (hdn : Nat.blt d n = true) (hw : wantE ops (restr E (oe.looksAt ops)) oe = .yes) (hco : callOf (restr E (oe.looksAt ops)) oe = some (g, az)) (hen : ∀ args w, (callFunc g args).run P w = .ok (.enter g args) w)
    (hc : ACall P g bs objs0 R') (hs : subR (rho ι objs'.length) objs' ι objs0) (hv : VLs az (AV.rens (rho ι objs'.length) bs)) (hnd : nodupB ι = true) (hd : refsBs ι.length bs = true) (hro : refsO ι.length objs0 = true)
    (hr : ∀ r o, R' r o → r.ren (rho ι objs'.length) = r0 ∧ mergeO ι o objs' = objs1) (hdrop : dropSE (memN ι) ((d, r0) :: E) = (d, r0) :: E)
    (hk : ASat P f n C (.inRegion ops (List.range' m (ops.size - m)) :: k) ((d, r0) :: E) objs1 R) : ASat P f n C todo env objs R := by
  suffices hcc : Cont P f n C R (.draw nd id ops k env' objs') from (run_sound hT hf 2000 True todo env objs (by rw [h]; exact hcc)).2
  refine ⟨hn, ?_⟩
  obtain ⟨E0, a1, a2, a3, rfl⟩ := hD0
  obtain ⟨E1, b1, b2, b3, rfl⟩ := hD1
  have hes := (Array.getElem?_eq_some_iff.1 hoe).1
  have hB2 := hB
  simp only [drawB, Bool.and_eq_true, decide_eq_true_eq] at hB2
  obtain ⟨⟨⟨⟨hms, hback⟩, hsink⟩, hchain⟩, hap⟩ := hB2
  have hde : dstIs ops e d = true := dstIs_iff.2 ⟨oe, hoe, hdst⟩
  have hin : ∀ j o, j < m → j ≠ e → ops[j]? = some o → o ∈ (ops.toList.take m).eraseIdx e := by
    intro j o hj hje ho
    rw [List.mem_eraseIdx_iff_getElem?]
    refine ⟨j, hje, ?_⟩
    rw [List.getElem?_take, if_pos hj]
    simpa using ho
  have hout : ∀ j o, j < m → j ≠ e → ops[j]? = some o → d ∉ o.looksAt ops ∧ o.dst ≠ some d := by
    intro j o hj hje ho
    have h1 := List.all_eq_true.1 hno j (List.mem_range.2 hj)
    rw [ho] at h1
    simp only [Bool.or_eq_true, beq_iff_eq, hje, false_or, Bool.and_eq_true, Bool.not_eq_true', List.contains_eq_mem, decide_eq_false_iff_not, bne_iff_ne, ne_eq] at h1
    exact h1
  let O : List Nat → List (Option AObj) := fun L => if e ∈ L then objs1 else objs'
  refine drawn_soundG (O := O) (G := fun a => a.dropS (memN ι) = a) (objsF := objs1) (envF := (d, r0) :: E1) hmx hB ?_ (fun t a ht => dropSE_look hdrop ht) (by simp [O]) (fun L hL => by simp [O, hL e (by omega)]) ?_ hk
  · intro j o hj ho
    by_cases hje : j = e
    · subst hje
      rw [hoe] at ho
      cases ho
      intro L hLm hjL hdeps π w tmps hsz hm hlk
      have hOL : O L = objs' := by simp [O, hjL]
      have hOj : O (j :: L) = objs1 := by simp [O]
      rw [hOL] at hm hlk
      have hlk' : ∀ t ∈ oe.looksAt ops, ∀ b, look E1 t = some b → RelV w (okOf C.X π objs') π b (tmps.getD t undef) := by
        intro t ht b hb
        refine hlk t ht b ?_
        rw [look_cons, if_neg ?_]
        · exact hb
        · rintro rfl
          have h1 := List.all_eq_true.1 hap j (List.mem_range.2 (by omega))
          rw [hoe] at h1
          have h2 := List.all_eq_true.1 h1 j (List.mem_range.2 (by omega))
          simp only [Bool.and_eq_true] at h2
          have h3 := List.all_eq_true.1 h2.2 d ht
          simp only [hde, Bool.not_true, Bool.false_or] at h3
          obtain ⟨o', ho', ee, hee, hb2, heq⟩ := waitsB_spec h3
          rw [hoe] at ho'
          cases ho'
          have := backB_spec hback hoe hee hb2
          omega
      have he : EnvRel w (okOf C.X π objs') π (restr E1 (oe.looksAt ops)) tmps := fun t b ht => by
        obtain ⟨h1, h2⟩ := look_restr ht
        exact hlk' t h1 b h2
      obtain ⟨vs, c1, c2⟩ := callOf_run he hco
      refine .inr ⟨(wanted_of he).1 hw, .inr (.inr ⟨g, vs.toArray, by rw [c2, hen], ?_⟩)⟩
      have hargs : RelVs w (okOf (lendX C.X π objs' ι) (lendP π ι) objs0) (lendP π ι) bs vs := by
        refine RelVs.unren (m := ι.length) (lend_keeps hm hs) ?_ bs hd (hv.rel c1)
        intro j' h' hj' hh'
        obtain ⟨i', hi'⟩ : ∃ i', nth ι j' = some i' := by
          rw [nth_eq]; exact ⟨ι[j'], List.getElem?_eq_getElem hj'⟩
        rw [rho_in hi'] at hh'
        rw [lendP_nth hi' (nth_lt hh')]
        exact hh'
      rcases hc _ _ w vs (lend_mem hm hs hnd hro) hargs with ⟨_, hcl⟩ | ⟨v, w', hcl, _⟩
      · refine hcl.mono ?_
        rintro e2 w2 ⟨v, r, o, π', rfl, hR, hm', hrel, hhist⟩
        have L2 := lended hm hs hnd hm' hhist
        obtain ⟨e3, e4⟩ := hr r o hR
        have hmem := L2.mem
        have hhst := L2.hist
        have hkp := L2.keep
        have hbk := L2.back _ _ hrel
        rw [e4] at hmem hhst hkp hbk
        rw [e3] at hbk
        refine ⟨v, mergeP ι π' π, rfl, ⟨by rw [hOj]; exact hmem, by rw [hOL, hOj]; exact hhst, fun a u hg hau => ?_⟩, fun d' hd' => ?_⟩
        · rw [hOL] at hau
          have := hkp a u hau
          rw [hg] at this
          rw [hOj]
          exact this
        · rw [hdst] at hd'
          cases hd'
          exact ⟨by simpa [Nat.blt_eq] using hdn, r0, by rw [look_cons, if_pos rfl], by rw [hOj]; exact hbk⟩
      · rw [hen] at hcl
        cases hcl
    · obtain ⟨h1, h2⟩ := hout j o hj hje ho
      refine headG_of (fun L => ?_) fun L => ?_
      · have : e ≠ j := fun h => hje h.symm
        simp [O, this]
      · by_cases hL : e ∈ L
        · have : O L = objs1 := by simp [O, hL]
          rw [this]
          exact headOp_ext h1 h2 (b3 o (hin j o hj hje ho))
        · have : O L = objs' := by simp [O, hL]
          rw [this]
          exact headOp_ext h1 h2 (a3 o (hin j o hj hje ho))
  · intro t ht a ha
    have hne : d ≠ t := by
      rintro rfl
      have := ht e (by omega)
      rw [hde] at this
      cases this
    rw [look_cons, if_neg hne] at ha
    refine a1 t (fun o ho hd => ?_) a ha
    have ho := List.mem_of_mem_eraseIdx ho
    rw [List.mem_take_iff_getElem] at ho
    obtain ⟨j, hj, rfl⟩ := ho
    have hjs : j < ops.size := by simp at hj; omega
    have := ht j (by simp at hj; omega)
    rw [dstIs_iff.2 ⟨_, Array.getElem?_eq_getElem hjs, by simpa using hd⟩] at this
    cases this
end
end Ab
set_option linter.unusedSimpArgs false
set_option linter.unusedVariables false
namespace Ab
open Go

mutual
theorem RelV.monoT {w w' : World} {ok ok' : Nat → Prop} {π π' : List Value} (hk : Keeps w ok w' ok') (hp : ∀ j h, nth π j = some h → h ≠ .tuple #[] → nth π' j = some h) {a : AV} {v : Value} : RelV w ok π a v → RelV w' ok' π' a v
  | .d h => .d (h.mono hk)
  | .ro h hm => .ro (h.mono hk) (keeps_run hk hm)
  | .ptr h => .ptr (hp _ _ h (by intro e; cases e))
  | .gs h => .gs (hp _ _ h (by intro e; cases e))
  | .ge h => .ge (hp _ _ h (by intro e; cases e))
  | .mp h => .mp (hp _ _ h (by intro e; cases e))
  | .e0 => .e0
  | .lit => .lit
  | .und => .und
  | .orc => .orc
  | .ag h hf => .ag (h.monoT hk hp) hf
  | .tp h => .tp (h.monoT hk hp)
  | .fn h => .fn (h.monoT hk hp)
  | .ifc h => .ifc (h.monoT hk hp)
  | .dead => .dead
theorem RelVs.monoT {w w' : World} {ok ok' : Nat → Prop} {π π' : List Value} (hk : Keeps w ok w' ok') (hp : ∀ j h, nth π j = some h → h ≠ .tuple #[] → nth π' j = some h) {a : List AV} {v : List Value} : RelVs w ok π a v → RelVs w' ok' π' a v
  | .nil => .nil
  | .cons h t => .cons (h.monoT hk hp) (t.monoT hk hp)
end
theorem RelEs.monoT {w w' : World} {ok ok' : Nat → Prop} {π π' : List Value} (hk : Keeps w ok w' ok') (hp : ∀ j h, nth π j = some h → h ≠ .tuple #[] → nth π' j = some h) : ∀ {a : List (Value × AV)} {v : List MapEntry}, RelEs w ok π a v → RelEs w' ok' π' a v
  | _, _, .nil => .nil
  | _, _, .cons h t => .cons (h.monoT hk hp) (t.monoT hk hp)
theorem RelO.monoT {w w' : World} {ok ok' : Nat → Prop} {π π' : List Value} (hk : Keeps w ok w' ok') (hp : ∀ j h, nth π j = some h → h ≠ .tuple #[] → nth π' j = some h) {o : AObj} {h : Value} (hh : ∀ b, blk h = some b → w'.heap[b]? = w.heap[b]?) : RelO w ok π o h → RelO w' ok' π' o h
  | .cells hb h hf => .cells ((hh _ rfl).trans hb) (h.monoT hk hp) hf
  | .gnil => .gnil
  | .grow hb hz h hu hc hm ho hr => .grow ((hh _ rfl).trans hb) hz (h.mono hk) hu hc hm ho hr
  | .map hb h => .map ((hh _ rfl).trans hb) (h.monoT hk hp)
  | .hold h => .hold (h.monoT hk hp)

/-- A place that is kept for an object. -/
def HD : AObj := .hold (.d (.v .nilIface)) .nilIface
theorem relHD {w : World} {ok : Nat → Prop} {π : List Value} : RelO w ok π HD (.tuple #[]) := .hold (.d (.v rfl))
theorem handHD {w : World} {ok : Nat → Prop} {π : List Value} {h : Value} : RelO w ok π HD h → h = .tuple #[] := by
  intro h
  cases h
  rfl

theorem nth_setIf {α : Type} {l : List α} {i j : Nat} {x : α} : nth (setNth l i x) j = if i = j then (if j < l.length then some x else none) else nth l j := by
  rw [setNth_eq, nth_eq, nth_eq, List.getElem?_set]
  split
  · rename_i e
    subst e
    rfl
  · rfl

/-- A place is filled: the object lies in new memory, or in none. -/
theorem fill {X : Nat → Prop} {π : List Value} {objs : List (Option AObj)} {w w' : World} (m : Mem X π objs w) {p : Nat} (hp : nth objs p = some (some HD)) (hos : w'.os = w.os) (htape : w'.tape = w.tape) (hout : w'.output = w.output ∧ dr w ≤ dr w') (hsz : w.heap.size ≤ w'.heap.size) (hw : ∀ b, b < w.heap.size → w'.heap[b]? = w.heap[b]?)
    (h : Value) (o : AObj) (hh : ∀ b, blk h = some b → w.heap.size ≤ b) (hrel : RelO w' (okOf X (setNth π p h) (setNth objs p (some o))) (setNth π p h) o h) :
    Mem X (setNth π p h) (setNth objs p (some o)) w' ∧
      (∀ {π0 : List Value} {objs0 : List (Option AObj)} {w0 : World}, π0.length ≤ p → Hist π0 objs0 w0 π objs w → Hist π0 objs0 w0 (setNth π p h) (setNth objs p (some o)) w') ∧
      (∀ a v, RelV w (okOf X π objs) π a v → RelV w' (okOf X (setNth π p h) (setNth objs p (some o))) (setNth π p h) a v) := by
  have hpl := nth_lt hp
  have hml := m.len
  obtain ⟨h0, hp0, hr0⟩ := m.obj p _ hp
  obtain rfl := handHD hr0
  have hsame : ∀ {j : Nat} {x : Value}, nth (setNth π p h) j = some x → (j = p ∧ x = h) ∨ (j ≠ p ∧ nth π j = some x) := by
    intro j x hj
    rw [nth_setIf] at hj
    split at hj
    · rename_i e
      split at hj
      · cases hj; exact .inl ⟨e.symm, rfl⟩
      · cases hj
    · rename_i e
      exact .inr ⟨fun e2 => e e2.symm, hj⟩
  have hsameO : ∀ {j : Nat} {x : AObj}, nth (setNth objs p (some o)) j = some (some x) → (j = p ∧ x = o) ∨ (j ≠ p ∧ nth objs j = some (some x)) := by
    intro j x hj
    rw [nth_setIf] at hj
    split at hj
    · rename_i e
      split at hj
      · cases hj; exact .inl ⟨e.symm, rfl⟩
      · cases hj
    · rename_i e
      exact .inr ⟨fun e2 => e e2.symm, hj⟩
  have hok : ∀ b, b < w.heap.size → okOf X π objs b → okOf X (setNth π p h) (setNth objs p (some o)) b := by
    intro b hb hk
    refine ⟨hk.1, fun i o' h' h1 h2 => ?_⟩
    rcases hsame h2 with ⟨rfl, rfl⟩ | ⟨hne, h3⟩
    · intro hc
      have := hh _ hc
      omega
    · rcases hsameO h1 with ⟨rfl, _⟩ | ⟨_, h4⟩
      · exact absurd rfl hne
      · exact hk.2 i o' h' h4 h3
  have hk : Keeps w (okOf X π objs) w' (okOf X (setNth π p h) (setNth objs p (some o))) := by
    intro b off u h1 h2
    have hb := cell_lt h2
    refine ⟨hok b hb h1, ?_⟩
    unfold World.cell? at h2 ⊢
    rw [hw b hb]
    exact h2
  have hpp : ∀ j x, nth π j = some x → x ≠ .tuple #[] → nth (setNth π p h) j = some x := by
    intro j x hj hx
    rw [nth_setIf, if_neg ?_]
    · exact hj
    · rintro rfl
      rw [hp0] at hj
      cases hj
      exact hx rfl
  have hblk : ∀ {j : Nat} {x : AObj} {y : Value} {b : Nat}, nth objs j = some (some x) → nth π j = some y → blk y = some b → b < w.heap.size := fun h1 h2 h3 => m.lt h1 h2 h3
  refine ⟨⟨by rw [setNth_length, setNth_length]; exact hml, ?_, ?_, ?_, fun b hx => Nat.lt_of_lt_of_le (m.inX b hx) hsz⟩, ?_, fun a v h1 => h1.monoT hk hpp⟩
  · intro i o' ho
    rcases hsameO ho with ⟨rfl, rfl⟩ | ⟨hne, h1⟩
    · exact ⟨h, by rw [nth_setIf, if_pos rfl, if_pos (by omega)], hrel⟩
    · obtain ⟨k, h2, h3⟩ := m.obj i o' h1
      exact ⟨k, by rw [nth_setIf, if_neg (fun e => hne e.symm)]; exact h2, h3.monoT hk hpp (fun b e => hw b (h3.lt e))⟩
  · intro i j o1 o2 h1 h2 b hne ho1 ho2 hp1 hp2 hb1 hb2
    rcases hsameO ho1 with ⟨rfl, rfl⟩ | ⟨hi, e1⟩ <;> rcases hsameO ho2 with ⟨rfl, rfl⟩ | ⟨hj, e2⟩
    · exact hne rfl
    · rcases hsame hp1 with ⟨_, rfl⟩ | ⟨hc, _⟩
      · rcases hsame hp2 with ⟨rfl, _⟩ | ⟨_, h4⟩
        · exact hj rfl
        · have := hblk e2 h4 hb2
          have := hh _ hb1
          omega
      · exact hc rfl
    · rcases hsame hp2 with ⟨_, rfl⟩ | ⟨hc, _⟩
      · rcases hsame hp1 with ⟨rfl, _⟩ | ⟨_, h4⟩
        · exact hi rfl
        · have := hblk e1 h4 hb1
          have := hh _ hb2
          omega
      · exact hc rfl
    · rcases hsame hp1 with ⟨rfl, _⟩ | ⟨_, h3⟩
      · exact hi rfl
      · rcases hsame hp2 with ⟨rfl, _⟩ | ⟨_, h4⟩
        · exact hj rfl
        · exact m.dist i j o1 o2 h1 h2 b hne e1 e2 h3 h4 hb1 hb2
  · intro i o' h' b ho' hp' hb' hx
    rcases hsameO ho' with ⟨rfl, rfl⟩ | ⟨hi, e1⟩
    · rcases hsame hp' with ⟨_, rfl⟩ | ⟨hc, _⟩
      · have := hh _ hb'
        have := m.inX b hx
        omega
      · exact hc rfl
    · rcases hsame hp' with ⟨rfl, _⟩ | ⟨_, h4⟩
      · exact hi rfl
      · exact m.ext i o' h' b e1 h4 hb' hx
  · intro π0 objs0 w0 hle hst
    refine ⟨hos.trans hst.os, htape.trans hst.tape, ⟨hout.1.trans hst.output.1, dr_le _ _⟩, Nat.le_trans hst.size hsz, ?_, ?_, ?_⟩
    · intro b hb hn
      rw [hw b (Nat.lt_of_lt_of_le hb hst.size)]
      exact hst.heap b hb hn
    · intro i o' h' b ho' hp' hb'
      rcases hsameO ho' with ⟨rfl, rfl⟩ | ⟨hi, e1⟩
      · rcases hsame hp' with ⟨_, rfl⟩ | ⟨hc, _⟩
        · exact .inl (Nat.le_trans hst.size (hh _ hb'))
        · exact absurd rfl hc
      · rcases hsame hp' with ⟨rfl, _⟩ | ⟨_, h4⟩
        · exact absurd rfl hi
        · exact hst.own i o' h' b e1 h4 hb'
    · intro i x hi hs
      have h1 := nth_lt hi
      rw [nth_setIf, if_neg (by omega)]
      exact hst.hand i x hi hs

section
variable {P : Program} {T : Tab} {f : FuncId} {fn : Func} {n m : Nat} {C : Cx} {R : AV → List (Option AObj) → Prop} {todo todo' k : List Item} {env env0 env' envF : Env} {objs objs' : List (Option AObj)} {nd : Prop} {ops : Array Oper} {l : List Oper} {K : Env → Prop} {X : Nat → Prop}

structure StepH (C : Cx) (O : List Nat → List (Option AObj)) (L : List Nat) (j : Nat) (π : List Value) (w : World) (π' : List Value) (w2 : World) : Prop where
  mem : Mem C.X π' (O (j :: L)) w2
  hist : Hist C.π C.objs C.w π (O L) w → Hist C.π C.objs C.w π' (O (j :: L)) w2
  keep : ∀ a v, RelV w (okOf C.X π (O L)) π a v → RelV w2 (okOf C.X π' (O (j :: L))) π' a v
/-- What an operation does, whenever it is come to, whatever acted ahead of it. -/
def HeadH (P : Program) (n : Nat) (C : Cx) (O : List Nat → List (Option AObj)) (m : Nat) (ops : Array Oper) (envF : Env) (j : Nat) (o : Oper) : Prop :=
  ∀ L, (∀ q ∈ L, q < m) → j ∉ L → (∀ q, waitsB ops j q = true → q ∈ L) → ∀ π w tmps, tmps.size = n → Mem C.X π (O L) w → (∀ t ∈ o.looksAt ops, ∀ a, look envF t = some a → RelV w (okOf C.X π (O L)) π a (tmps.getD t undef)) →
    (Region.wanted o (yielded ops tmps) = false ∧ ∃ π', StepH C O L j π w π' w ∧ PutOk n w (okOf C.X π' (O (j :: L))) π' envF o undef) ∨
    (Region.wanted o (yielded ops tmps) = true ∧
      ((∃ v w2 π', (execOp (Act.eval ⟨tmps, []⟩) o).run P w = .ok (.value v) w2 ∧ StepH C O L j π w π' w2 ∧ PutOk n w2 (okOf C.X π' (O (j :: L))) π' envF o v) ∨
       (∃ w2 π', (execOp (Act.eval ⟨tmps, []⟩) o).run P w = .ok .skip w2 ∧ StepH C O L j π w π' w2 ∧ PutOk n w2 (okOf C.X π' (O (j :: L))) π' envF o undef) ∨
       (∃ g args, (execOp (Act.eval ⟨tmps, []⟩) o).run P w = .ok (.enter g args) w ∧ Calls P g args w fun e w2 => ∃ v π', e = .returned v ∧ StepH C O L j π w π' w2 ∧ PutOk n w2 (okOf C.X π' (O (j :: L))) π' envF o v)))

theorem drawn_soundH {O : List Nat → List (Option AObj)} {objsF : List (Option AObj)} (hmx : P.follows .mixedOrders = true) (hB : drawB ops m = true) (hops : ∀ j o, j < m → ops[j]? = some o → HeadH P n C O m ops envF j o)
    (hO0 : O [] = objs) (hOF : ∀ L, (∀ i, i < m → i ∈ L) → O L = objsF)
    (henv : ∀ t, (∀ j, j < m → dstIs ops j t = false) → ∀ a, look envF t = some a → ∃ b, look env0 t = some b ∧ VLe b a)
    (hK : ASat P f n C (.inRegion ops (List.range' m (ops.size - m)) :: k) envF objsF R) {id : Nat} : ASat P f n C (.code (.region id ops true) :: k) env0 objs R := by
  simp only [drawB, Bool.and_eq_true, decide_eq_true_eq] at hB
  obtain ⟨⟨⟨⟨hms, hback⟩, hsink⟩, hchain⟩, hap⟩ := hB
  have hap : ∀ j o, j < m → ops[j]? = some o → (∀ k, k < m → k ≠ j → ∀ d, o.dst = some d → dstIs ops k d = false) ∧ ∀ k, k < m → ∀ t ∈ o.looksAt ops, dstIs ops k t = true → waitsB ops j k = true := by
    intro j o hj ho
    have h1 := List.all_eq_true.1 hap j (List.mem_range.2 hj)
    rw [ho] at h1
    have h2 : ∀ k, k < m → ((decide (k = j) || dstFree ops o k) = true ∧ (o.looksAt ops).all (fun t => !dstIs ops k t || waitsB ops j k) = true) := fun k hk => by
      have := List.all_eq_true.1 h1 k (List.mem_range.2 hk)
      simpa only [Bool.and_eq_true] using this
    refine ⟨fun k hk hne d hd => ?_, fun k hk t ht hd => ?_⟩
    · have := (h2 k hk).1
      unfold dstFree at this
      rw [hd] at this
      simpa [hne] using this
    · have := List.all_eq_true.1 (h2 k hk).2 t ht
      simpa [hd] using this
  intro π w tmps0 hn hm hh he
  have hl1 : Later w { w with drawn := w.drawn + 1 } := ⟨rfl, rfl, ⟨rfl, dr_le _ _⟩, Nat.le_refl _, fun _ _ => rfl⟩
  have htr1 := hl1.tr hm
  have key : ∀ (fuel t : Nat) (listed : Array Bool) (L : List Nat) (tmps : Array Value) (w' : World) (π : List Value), Lst ops m L listed → L.length + fuel = ops.size → Mem C.X π (O L) w' → Hist C.π C.objs C.w π (O L) w' → tmps.size = n →
      (∀ j ∈ L, ∀ o, ops[j]? = some o → ∀ d, o.dst = some d → ∃ b, look envF d = some b ∧ RelV w' (okOf C.X π (O L)) π b (tmps.getD d undef)) →
      (∀ t, (∀ j, j < m → dstIs ops j t = false) → ∀ a, look envF t = some a → RelV w' (okOf C.X π (O L)) π a (tmps.getD t undef)) →
      Sat P f (.inRegion ops (Region.linearise.go .any ops fuel t listed []) :: k) tmps w' (APost C R) := by
    intro fuel
    induction fuel with
    | zero =>
      intro t listed L tmps w' π hL hlen _ _ _ _ _
      have := nodup_le hL.nd (b := List.range m) fun y hy => List.mem_range.2 (hL.lt y hy)
      rw [List.length_range] at this
      omega
    | succ fuel ih =>
      intro t listed L tmps w' π hL hlen hm hh hsz hdone hrest
      have hLm := nodup_le hL.nd (b := List.range m) fun y hy => List.mem_range.2 (hL.lt y hy)
      rw [List.length_range] at hLm
      by_cases hall : ∀ i, i < m → i ∈ L
      · have hml := nodup_le (List.nodup_range (n := m)) (b := L) fun y hy => hall y (List.mem_range.1 hy)
        rw [List.length_range] at hml
        have hfu : fuel + 1 = ops.size - m := by omega
        rw [hfu]
        have hg := go_chain hback hchain (ops.size - m) t listed (.inl (by omega)) (by omega) hL.size (fun i hi => by
          rw [hL.mem i hi, show ops.size - (ops.size - m) = m by omega]
          exact ⟨fun h => hL.lt i h, fun h => hall i h⟩)
        rw [hg, show ops.size - (ops.size - m) = m by omega]
        rw [hOF L hall] at hm hh hdone hrest
        refine hK π w' tmps hsz hm hh fun u a hu => ?_
        by_cases hd : ∃ j, j < m ∧ dstIs ops j u = true
        · obtain ⟨j, hj, hd⟩ := hd
          obtain ⟨o, ho, hdo⟩ := dstIs_iff.1 hd
          obtain ⟨b, hb, hr⟩ := hdone j (hall j hj) o ho u hdo
          rw [hu] at hb
          cases hb
          exact hr
        · have hd' : ∀ j, j < m → dstIs ops j u = false := fun j hj => by
            cases hx : dstIs ops j u with
            | false => rfl
            | true => exact absurd ⟨j, hj, hx⟩ hd
          exact hrest u hd' a hu
      · have hex : ∃ i, i ∈ Region.ready .any ops listed := by
          have hmin : ∀ q i, i ≤ q → i < m → i ∉ L → ∃ j, j < m ∧ j ∉ L ∧ ∀ j', j' < j → j' ∈ L := by
            intro q
            induction q with
            | zero => intro i hi hm hL; exact ⟨i, hm, hL, by omega⟩
            | succ q ihq =>
              intro i hi him hiL
              by_cases hx : ∃ j', j' < i ∧ j' ∉ L
              · obtain ⟨j', h1, h2⟩ := hx
                exact ihq j' (by omega) (by omega) h2
              · exact ⟨i, him, hiL, fun j' hj' => Decidable.byContradiction fun h2 => hx ⟨j', hj', h2⟩⟩
          obtain ⟨i, hi⟩ := Classical.not_forall.1 hall
          have hi1 : i < m := Classical.byContradiction fun h => hi fun h2 => absurd h2 h
          have hi2 : i ∉ L := fun h => hi fun _ => h
          obtain ⟨j, h1, h2, h3⟩ := hmin i i (Nat.le_refl _) hi1 hi2
          refine ⟨j, (ready_iff (by omega) hL).2 ⟨by omega, h2, ops[j], Array.getElem?_eq_getElem (by omega), fun e hee hb => ?_⟩⟩
          have hlt := backB_spec hback (Array.getElem?_eq_getElem (by omega : j < ops.size)) hee hb
          exact (hL.mem e.on (by omega)).2 (h3 e.on hlt)
        rw [go_succ]
        have hlen2 : 0 < (Region.ready .any ops listed).length := List.length_pos_of_mem hex.choose_spec
        have hmod : t % (Region.ready .any ops listed).length < (Region.ready .any ops listed).length := Nat.mod_lt _ hlen2
        rw [List.getElem?_eq_getElem hmod]
        simp only
        have hir : (Region.ready .any ops listed)[t % (Region.ready .any ops listed).length] ∈ Region.ready .any ops listed := List.getElem_mem hmod
        generalize (Region.ready .any ops listed)[t % (Region.ready .any ops listed).length] = i at hir
        have him : i < m := by
          apply Classical.byContradiction
          intro hge
          exact hall (all_listed (by omega) hsink hback hL (by omega) hchain hir).2
        obtain ⟨his, hiL, o, ho, hdeps⟩ := (ready_iff (by omega) hL).1 hir
        obtain ⟨ha1, ha2⟩ := hap i o him ho
        have hlooks : ∀ u ∈ o.looksAt ops, ∀ a, look envF u = some a → RelV w' (okOf C.X π (O L)) π a (tmps.getD u undef) := by
          intro u hu a hua
          by_cases hd : ∃ j, j < m ∧ dstIs ops j u = true
          · obtain ⟨j, hj, hd⟩ := hd
            have hw := ha2 j hj u hu hd
            obtain ⟨o2, ho2, e, hee, hb, heq⟩ := waitsB_spec hw
            rw [ho] at ho2
            cases ho2
            have hjL := listed_of hL (hdeps e hee hb)
            rw [heq] at hjL
            obtain ⟨oj, hoj, hdj⟩ := dstIs_iff.1 hd
            obtain ⟨b, hb2, hr⟩ := hdone j hjL oj hoj u hdj
            rw [hua] at hb2
            cases hb2
            exact hr
          · have hd' : ∀ j, j < m → dstIs ops j u = false := fun j hj => by
              cases hx : dstIs ops j u with
              | false => rfl
              | true => exact absurd ⟨j, hj, hx⟩ hd
            exact hrest u hd' a hua
        have hL' : Lst ops m (i :: L) (listed.setIfInBounds i true) := by
          refine ⟨by simpa using hL.size, fun j hj => ?_, List.nodup_cons.2 ⟨hiL, hL.nd⟩, fun j hj => ?_, fun j hj oj hoj e hee hb => ?_⟩
          · by_cases e : i = j
            · subst e
              rw [show (listed.setIfInBounds i true).getD i false = true by simp [hL.size, hj]]
              simp
            · rw [show (listed.setIfInBounds i true).getD j false = listed.getD j false by simp [Array.getElem?_setIfInBounds, e]]
              rw [hL.mem j hj, List.mem_cons]
              exact ⟨.inr, fun h => h.resolve_left fun h2 => e h2.symm⟩
          · rcases List.mem_cons.1 hj with rfl | hj
            · exact him
            · exact hL.lt j hj
          · rcases List.mem_cons.1 hj with rfl | hj
            · rw [ho] at hoj
              cases hoj
              exact List.mem_cons_of_mem _ (listed_of hL (hdeps e hee hb))
            · exact List.mem_cons_of_mem _ (hL.cl j hj oj hoj e hee hb)
        have hdeps2 : ∀ q, waitsB ops i q = true → q ∈ L := by
          intro q hq
          obtain ⟨o2, ho2, e, hee, hb, heq⟩ := waitsB_spec hq
          rw [ho] at ho2
          cases ho2
          rw [← heq]
          exact listed_of hL (hdeps e hee hb)
        have next : ∀ (v : Value) (w2 : World) (π' : List Value), StepH C O L i π w' π' w2 → PutOk n w2 (okOf C.X π' (O (i :: L))) π' envF o v → Sat P f (.inRegion ops (Region.linearise.go .any ops fuel (t / (Region.ready .any ops listed).length) (listed.setIfInBounds i true) []) :: k) (putT o.dst v tmps) w2 (APost C R) := by
          intro v w2 π' hst hput
          refine ih _ _ (i :: L) _ w2 π' hL' (by simp only [List.length_cons]; omega) hst.mem (hst.hist hh) ?_ ?_ ?_
          · cases hd : o.dst with
            | none => exact hsz
            | some d => simpa [putT] using hsz
          · intro j hj0 oj hoj d hd
            rcases List.mem_cons.1 hj0 with e | hj
            · subst e
              rw [ho] at hoj
              cases hoj
              obtain ⟨h1, b, h2, h3⟩ := hput d hd
              refine ⟨b, h2, ?_⟩
              rw [hd, getD_putT, if_pos ⟨rfl, by rw [hsz]; exact h1⟩]
              exact h3
            · obtain ⟨b, h2, h3⟩ := hdone j hj oj hoj d hd
              refine ⟨b, h2, ?_⟩
              have hne : ∀ d', o.dst = some d' → d' ≠ d := by
                rintro d' hd' rfl
                have := ha1 j (hL.lt j hj) (fun e => hiL (e ▸ hj)) d' hd'
                rw [dstIs_iff.2 ⟨oj, hoj, hd⟩] at this
                cases this
              cases hdo : o.dst with
              | none => exact hst.keep _ _ h3
              | some d' =>
                rw [getD_putT, if_neg fun hh => hne d' hdo hh.1]
                exact hst.keep _ _ h3
          · intro u hu a hua
            have h3 := hst.keep _ _ (hrest u hu a hua)
            cases hdo : o.dst with
            | none => exact h3
            | some d' =>
              rw [getD_putT, if_neg fun hh => ?_]
              · exact h3
              · have := hu i him
                rw [dstIs_iff.2 ⟨o, ho, by rw [hdo, hh.1]⟩] at this
                cases this
        rcases hops i o him ho L (fun q hq => hL.lt q hq) hiL hdeps2 π w' tmps hsz hm hlooks with ⟨hw, hput⟩ | ⟨hw, ⟨v, w2, π', hrun, hst, hput⟩ | ⟨w2, π', hrun, hst, hput⟩ | ⟨g, args, hrun, hcall⟩⟩
        · obtain ⟨π', hst, hput⟩ := hput
          exact .opSkip ho hw (next undef w' π' hst hput)
        · exact .opVal ho hw hrun (next v w2 π' hst hput)
        · exact .opUnit ho hw hrun (next undef w2 π' hst hput)
        · exact .opCall ho hw hrun (hcall.mono fun e w2 ⟨v, π', h1, h2, h3⟩ => ⟨v, h1, next v w2 π' h2 h3⟩)
  refine .step (fun cs => step_region_draw) ?_
  simp only [Region.schedule, hmx, Bool.true_or, if_true]
  subst hO0
  refine key ops.size _ _ [] tmps0 _ π ⟨by simp, fun i hi => ?_, List.nodup_nil, by simp, by simp⟩ (by simp) htr1.mem (hist_tr hh htr1) hn (by simp) (fun u hu a hua => ?_)
  · simp [hi]
  · obtain ⟨b, hb, hle⟩ := henv u hu a hua
    exact rel_later hl1 (hle _ _ _ _ (he u b hb))



theorem sat_pad1 (h : ASat P f n C todo env (objs ++ [some HD]) R) : ASat P f n C todo env objs R := by
  intro π w tmps hn hm hh he
  have htr : Tr C.X π objs w none (π ++ [.tuple #[]]) (objs ++ [some HD]) w := tr_newW hm rfl rfl ⟨rfl, Nat.le_refl _⟩ (Nat.le_refl _) (fun _ _ => rfl) _ _ (by intro b e; cases e) relHD
  exact h _ w tmps hn htr.mem (hist_tr hh htr) (env_tr he htr)
theorem sat_pad (k : Nat) (h : ASat P f n C todo env (objs ++ List.replicate k (some HD)) R) : ASat P f n C todo env objs R := by
  induction k generalizing objs with
  | zero => simpa using h
  | succ k ih =>
    refine sat_pad1 (ih ?_)
    rw [List.append_assoc]
    exact h

/-- An operation that does not act. -/
theorem headH_of {O : List Nat → List (Option AObj)} {j : Nat} {o : Oper} (hO : ∀ L, O (j :: L) = O L) (h : ∀ L, HeadOp P n C.X (O L) ops envF o) : HeadH P n C O m ops envF j o := by
  have st : ∀ {L : List Nat} {π : List Value} {w w2 : World}, Mem C.X π (O L) w → Later w w2 → StepH C O L j π w π w2 := by
    intro L π w w2 hm l
    have htr := l.tr hm
    refine ⟨by rw [hO]; exact htr.mem, fun hh => by rw [hO]; exact hh.trans htr.hist, fun a v h => ?_⟩
    rw [hO]
    exact rel_later l h
  intro L _ _ _ π w tmps hs hm hl
  rcases h L π w tmps hs hm hl with ⟨hw, hp⟩ | ⟨hw, ⟨v, w2, hr, hlt, hp⟩ | ⟨g, args, hr, hc⟩⟩
  · exact .inl ⟨hw, π, st hm (.refl w), by rw [hO]; exact hp⟩
  · exact .inr ⟨hw, .inl ⟨v, w2, π, hr, st hm hlt, by rw [hO]; exact hp⟩⟩
  · exact .inr ⟨hw, .inr (.inr ⟨g, args, hr, hc.mono fun e w2 ⟨v, h1, h2, h3⟩ => ⟨v, π, h1, st hm h2, by rw [hO]; exact h3⟩⟩)⟩

/-- A new variable. -/
theorem headH_alloc {O : List Nat → List (Option AObj)} {j p : Nat} {o : Oper} {t d : Nat} {r : TRow} (hT : TabOk P T) (hop : o.op = .alloc t) (hg : o.guard = none) (hr : tlook T t = some r) (hdst : o.dst = some d) (hdn : Nat.blt d n = true) (hlook : look envF d = some (.ptr p 0)) (hple : C.π.length ≤ p)
    (hO0 : ∀ L, j ∉ L → nth (O L) p = some (some HD)) (hO : ∀ L, O (j :: L) = setNth (O L) p (some (.cells t (r.zero.map fun v => .d (.v v))))) : HeadH P n C O m ops envF j o := by
  intro L _ hjL _ π w tmps hs hm _
  obtain ⟨z, hz1, hz2, hz3, _⟩ := (tab_row hT hr).zero
  have e : z.cells = r.zero.toArray := by rw [← hz2]
  have hrun : (execOp (Act.eval ⟨tmps, []⟩) o).run P w = .ok (.value (.pointer (some ⟨w.heap.size, 0, none⟩))) (w.alloc (.cells r.zero.toArray t)) := by
    unfold execOp
    rw [hop]
    simp [Instr.alloc, hz1, newVar, run_newRow, e]
  have hpl := nth_lt (hO0 L hjL)
  have hml := hm.len
  have hf := fill (w' := w.alloc (.cells r.zero.toArray t)) hm (hO0 L hjL) rfl rfl ⟨rfl, dr_le _ _⟩ (by rw [alloc_heap, Array.size_push]; omega) (fun b hb => heap_push_old _ hb) (.pointer (some ⟨w.heap.size, 0, none⟩)) (.cells t (r.zero.map fun v => .d (.v v)))
    (by intro b e; cases e; exact Nat.le_refl _) (.cells (heap_push_new _) (zeros_rel r.zero hz3) hz3)
  refine .inr ⟨by simp [Region.wanted, hg], .inl ⟨_, _, setNth π p (.pointer (some ⟨w.heap.size, 0, none⟩)), hrun, ⟨?_, ?_, ?_⟩, ?_⟩⟩
  · rw [hO]; exact hf.1
  · rw [hO]; exact hf.2.1 hple
  · rw [hO]; exact hf.2.2
  · intro d' hd'
    rw [hdst] at hd'
    cases hd'
    refine ⟨by simpa [Nat.blt_eq] using hdn, _, hlook, ?_⟩
    rw [hO]
    exact .ptr (by rw [nth_setIf, if_pos rfl, if_pos (by omega)])

/-- A call on data that hands back what is the caller's own. -/
theorem headH_new {O : List Nat → List (Option AObj)} {j p q0 : Nat} {o : Oper} {g : FuncId} {az bs : List AV} {d : Nat} {E : Env} {a : AV} {o1 : AObj} {R' : AV → List (Option AObj) → Prop}
    (hw : wantE ops (restr E (o.looksAt ops)) o = .yes) (hco : callOf (restr E (o.looksAt ops)) o = some (g, az)) (hE : ∀ t ∈ o.looksAt ops, ∀ b, look E t = some b → look envF t = some b)
    (hc : ACall P g bs [] R') (hen : ∀ args w, (callFunc g args).run P w = .ok (.enter g args) w) (hr : ∀ r oz, R' r oz → r = a.ren (fun _ => q0) ∧ nth oz q0 = some (some o1)) (hv : VLs az bs) (hd : refsBs 0 bs = true) (ha : refsB 1 a = true) (ho1 : refsO1 0 o1 = true)
    (hdst : o.dst = some d) (hdn : Nat.blt d n = true) (hlook : look envF d = some (a.ren (fun _ => p))) (hple : C.π.length ≤ p)
    (hO0 : ∀ L, j ∉ L → nth (O L) p = some (some HD)) (hO : ∀ L, O (j :: L) = setNth (O L) p (some o1)) : HeadH P n C O m ops envF j o := by
  intro L _ hjL _ π w tmps hs hm hlk
  have he : EnvRel w (okOf C.X π (O L)) π (restr E (o.looksAt ops)) tmps := fun t b ht => by
    obtain ⟨h1, h2⟩ := look_restr ht
    exact hlk t h1 b (hE t h1 b h2)
  obtain ⟨vs, c1, c2⟩ := callOf_run he hco
  have hpl := nth_lt (hO0 L hjL)
  have hml := hm.len
  have h1 : RelVs w (okOf (Xof C.X π (O L)) [] []) [] bs vs := (hv.rel c1).cut (m := 0) (fun b o u a1 a2 => ⟨Xof_ok.2 a1, a2⟩) (fun j _ hj => absurd hj (Nat.not_lt_zero j)) hd
  refine .inr ⟨(wanted_of he).1 hw, .inr (.inr ⟨g, vs.toArray, by rw [c2, hen], ?_⟩)⟩
  rcases hc _ _ w vs (mem_nil hm) h1 with ⟨_, hcl⟩ | ⟨v, w', hcl, _⟩
  · refine hcl.mono ?_
    rintro e w' ⟨v, r, oz, π', rfl, hR, hm', hrel, hhist⟩
    obtain ⟨rfl, hoz⟩ := hr r oz hR
    obtain ⟨h, hh, hro⟩ := hm'.obj q0 o1 hoz
    have hnew : ∀ b, blk h = some b → w.heap.size ≤ b := by
      intro b hb
      rcases hhist.own q0 o1 h b hoz hh hb with h3 | ⟨j', o', h', h4, _⟩
      · exact h3
      · simp [nth] at h4
    have hlt := hist_later hhist
    have hkeep2 : Keeps w' (okOf (Xof C.X π (O L)) π' oz) w' (okOf C.X (setNth π p h) (setNth (O L) p (some o1))) := by
      intro b off u a1 a2
      have a0 := a1.1
      refine ⟨⟨fun hx => a0 (.inl hx), fun i o' h' g1 g2 => ?_⟩, a2⟩
      rw [nth_setIf] at g1 g2
      by_cases hip : p = i
      · rw [if_pos hip] at g1 g2
        split at g2
        · cases g2
          exact a1.2 q0 o1 h hoz hh
        · cases g2
      · rw [if_neg hip] at g1 g2
        exact fun hb => a0 (.inr ⟨i, o', h', g1, g2, hb⟩)
    have hf := fill (w' := w') hm (hO0 L hjL) hlt.os hlt.tape hlt.output hlt.size hlt.ext h o1 hnew (hro.cut (m := 0) hkeep2 (fun j _ hj => absurd hj (Nat.not_lt_zero j)) ho1 (fun _ _ => rfl))
    refine ⟨v, setNth π p h, rfl, ⟨?_, ?_, ?_⟩, ?_⟩
    · rw [hO]; exact hf.1
    · rw [hO]; exact hf.2.1 hple
    · rw [hO]; exact hf.2.2
    · intro d' hd'
      rw [hdst] at hd'
      cases hd'
      refine ⟨by simpa [Nat.blt_eq] using hdn, _, hlook, ?_⟩
      rw [hO]
      have r1 : RelV w' (okOf C.X (setNth π p h) (setNth (O L) p (some o1))) [h] a v := RelV.unren (m := 1) hkeep2 (fun j h' hj hh' => by
        obtain rfl : j = 0 := by omega
        rw [hh] at hh'
        cases hh'
        rfl) a ha hrel
      exact r1.ren (fun b off u a1 a2 => ⟨a1, a2⟩) (fun j h' hj => by
        have : j = 0 ∧ h' = h := by
          cases j with
          | zero => simp only [nth, Option.some.injEq] at hj; exact ⟨rfl, hj.symm⟩
          | succ j => simp [nth] at hj
        obtain ⟨rfl, rfl⟩ := this
        rw [nth_setIf, if_pos rfl, if_pos (by omega)])
  · rw [hen] at hcl
    cases hcl

/-- The region. -/
theorem sat_drawH (m kk : Nat) (O : List Nat → List (Option AObj)) (envF : Env) {id : Nat} {objsF : List (Option AObj)} (hT : TabOk P T) (hf : P.funcs[f]? = some fn) (hmx : P.follows .mixedOrders = true) (h : srun T n fn.results.toList 2000 True todo env objs = .draw nd id ops k env' objs') (hn : nd)
    (hB : drawB ops m = true) (hO0 : O [] = objs' ++ List.replicate kk (some HD)) (hOF : ∀ L, (∀ i, i < m → i ∈ L) → O L = objsF)
    (hops : ∀ j o, j < m → ops[j]? = some o → HeadH P n C O m ops envF j o)
    (henv : ∀ t, (∀ j, j < m → dstIs ops j t = false) → ∀ a, look envF t = some a → ∃ b, look env' t = some b ∧ VLe b a)
    (hk : ASat P f n C (.inRegion ops (List.range' m (ops.size - m)) :: k) envF objsF R) : ASat P f n C todo env objs R := by
  suffices hcc : Cont P f n C R (.draw nd id ops k env' objs') from (run_sound hT hf 2000 True todo env objs (by rw [h]; exact hcc)).2
  exact ⟨hn, sat_pad kk (drawn_soundH hmx hB hops hO0 hOF henv hk)⟩

theorem look_skip {t : Nat} : ∀ {A E : Env}, (∀ x ∈ A, x.1 ≠ t) → look (A ++ E) t = look E t
  | [], _, _ => rfl
  | (d, a) :: r, E, h => by
    have h1 : d ≠ t := h (d, a) (List.mem_cons_self ..)
    show look ((d, a) :: (r ++ E)) t = _
    rw [look_cons, if_neg h1]
    exact look_skip fun x hx => h x (List.mem_cons_of_mem _ hx)
theorem headOp_env {o : Oper} {E : Env} (hl : ∀ t ∈ o.looksAt ops, look envF t = look E t) (hd : ∀ d, o.dst = some d → look envF d = look E d) (h : HeadOp P n X objs ops E o) : HeadOp P n X objs ops envF o := by
  intro π w tmps hs hm hlk
  have hlk' : ∀ t ∈ o.looksAt ops, ∀ b, look E t = some b → RelV w (okOf X π objs) π b (tmps.getD t undef) := fun t ht b hb => hlk t ht b (by rw [hl t ht]; exact hb)
  have hp : ∀ {w : World} {v : Value}, PutOk n w (okOf X π objs) π E o v → PutOk n w (okOf X π objs) π envF o v := fun hp u hu => by
    obtain ⟨h1, b, h2, h3⟩ := hp u hu
    exact ⟨h1, b, by rw [hd u hu]; exact h2, h3⟩
  rcases h π w tmps hs hm hlk' with ⟨hw, h1⟩ | ⟨hw, ⟨v, w2, hr, hlt, h1⟩ | ⟨g, args, hr, hc⟩⟩
  · exact .inl ⟨hw, hp h1⟩
  · exact .inr ⟨hw, .inl ⟨v, w2, hr, hlt, hp h1⟩⟩
  · exact .inr ⟨hw, .inr ⟨g, args, hr, hc.mono fun e w2 ⟨v, a1, a2, a3⟩ => ⟨v, a1, a2, hp a3⟩⟩⟩

/-- A variable or a cell of the call's own is written. -/
theorem headH_skip {O : List Nat → List (Option AObj)} {j : Nat} {o : Oper} {E : Env} {a : AV} {c : Option Prop} (hT : TabOk P T) (hw : wantE ops (restr E (o.looksAt ops)) o = .yes) (hE : ∀ t ∈ o.looksAt ops, ∀ b, look E t = some b → look envF t = some b)
    (hs : ∀ L, j ∉ L → estep T o (restr E (o.looksAt ops)) (O L) = some ⟨c, true, a, none, O (j :: L)⟩) (hc : cond c) (hdst : o.dst = none) : HeadH P n C O m ops envF j o := by
  intro L _ hjL _ π w tmps hsz hm hlk
  have he : EnvRel w (okOf C.X π (O L)) π (restr E (o.looksAt ops)) tmps := fun t b ht => by
    obtain ⟨h1, h2⟩ := look_restr ht
    exact hlk t h1 b (hE t h1 b h2)
  have hst := estep_ok (ds := []) hT hm he o
  rw [hs L hjL] at hst
  obtain ⟨v, w', π', h1, h2, _⟩ := hst hc
  refine .inr ⟨(wanted_of he).1 hw, .inr (.inl ⟨w', π', h1, ⟨h2.mem, fun hh => hh.trans h2.hist, h2.keep⟩, fun d hd => ?_⟩)⟩
  rw [hdst] at hd
  cases hd

abbrev Acts := List (Nat × Option (Tmp × AV))
def actE (A : Acts) : Env := A.filterMap (·.2)
def actB (A : Acts) (j : Nat) : Bool := A.any fun x => Nat.beq x.1 j
/-- The head's operations that do not act. -/
def quietOps (ops : Array Oper) (m : Nat) (A : Acts) : List Oper := ((List.range m).filter fun j => !actB A j).filterMap fun j => ops[j]?
/-- No operation of the head that does not act looks at what one tells that does, nor tells it. -/
def seeB (ops : Array Oper) (m : Nat) (A : Acts) : Bool := (List.range m).all fun j => actB A j || match ops[j]? with
  | some o => (actE A).all fun x => !(o.looksAt ops).contains x.1 && o.dst != some x.1
  | none => true

/-- The region, its quiet operations shown together, those that act one by one. -/
theorem sat_drawA (m kk : Nat) (A : Acts) (O : List Nat → List (Option AObj)) (E : Env) {id : Nat} {objsF : List (Option AObj)} (hT : TabOk P T) (hf : P.funcs[f]? = some fn) (hmx : P.follows .mixedOrders = true) (h : srun T n fn.results.toList 2000 True todo env objs = .draw nd id ops k env' objs') (hn : nd)
    (hB : drawB ops m = true) (hsee : seeB ops m A = true) (hO0 : O [] = objs' ++ List.replicate kk (some HD)) (hOF : ∀ L, (∀ i, i < m → i ∈ L) → O L = objsF) (hOj : ∀ j L, actB A j = false → O (j :: L) = O L)
    (hAm : (A.all fun x => Nat.blt x.1 m) = true) (hD : ∀ L, DSat P n C.X (O L) ops (fun x => x = E) (quietOps ops m A) env')
    (hA : ∀ x ∈ A, ∃ oe, ops[x.1]? = some oe ∧ oe.dst = x.2.map (·.1) ∧ HeadH P n C O m ops (actE A ++ E) x.1 oe)
    (hk : ASat P f n C (.inRegion ops (List.range' m (ops.size - m)) :: k) (actE A ++ E) objsF R) : ASat P f n C todo env objs R := by
  have hq : ∀ {j : Nat} {o : Oper}, j < m → actB A j = false → ops[j]? = some o → o ∈ quietOps ops m A := by
    intro j o hj hb ho
    unfold quietOps
    rw [List.mem_filterMap]
    exact ⟨j, List.mem_filter.2 ⟨List.mem_range.2 hj, by rw [hb]; rfl⟩, ho⟩
  have hns : ∀ {j : Nat} {o : Oper}, j < m → actB A j = false → ops[j]? = some o → ∀ x ∈ actE A, x.1 ∉ o.looksAt ops ∧ o.dst ≠ some x.1 := by
    intro j o hj hb ho x hx
    have h1 := List.all_eq_true.1 hsee j (List.mem_range.2 hj)
    rw [hb, ho] at h1
    have h1' : ((actE A).all fun x => !(o.looksAt ops).contains x.1 && o.dst != some x.1) = true := by simpa only [Bool.false_or] using h1
    have h2 := List.all_eq_true.1 h1' x hx
    simpa using h2
  refine sat_drawH m kk O (actE A ++ E) hT hf hmx h hn hB hO0 hOF ?_ ?_ hk
  · intro j o hj ho
    cases hb : actB A j with
    | false =>
      refine headH_of (fun L => hOj j L hb) fun L => ?_
      obtain ⟨E0, a1, a2, a3, rfl⟩ := hD L
      have hn2 := hns hj hb ho
      refine headOp_env (fun t ht => look_skip fun x hx e => (hn2 x hx).1 (e ▸ ht)) (fun d hd => look_skip fun x hx e => (hn2 x hx).2 (e ▸ hd)) (a3 o (hq hj hb ho))
    | true =>
      obtain ⟨x, hx, hxe⟩ := List.any_eq_true.1 hb
      obtain rfl : x.1 = j := Nat.eq_of_beq_eq_true hxe
      obtain ⟨oe, h1, _, h3⟩ := hA x hx
      rw [ho] at h1
      cases h1
      exact h3
  · intro t ht a ha
    have hne : ∀ x ∈ actE A, x.1 ≠ t := by
      rintro x hx rfl
      obtain ⟨y, hy, hyx⟩ := List.mem_filterMap.1 hx
      obtain ⟨oe, h1, h2, _⟩ := hA y hy
      rw [hyx] at h2
      have hym := List.all_eq_true.1 hAm y hy
      have := ht y.1 (by simpa [Nat.blt_eq] using hym)
      rw [dstIs_iff.2 ⟨oe, h1, by simpa using h2⟩] at this
      cases this
    rw [look_skip hne] at ha
    obtain ⟨E0, a1, a2, a3, rfl⟩ := hD []
    refine a1 t (fun o ho hd => ?_) a ha
    unfold quietOps at ho
    rw [List.mem_filterMap] at ho
    obtain ⟨j, hj, ho⟩ := ho
    have hj := List.mem_range.1 (List.mem_filter.1 hj).1
    have := ht j hj
    rw [dstIs_iff.2 ⟨o, ho, hd⟩] at this
    cases this
end
end Ab
namespace Go.Proofs.YtclamogkchdkgaaGreatDoor
open Go Ab
set_option maxRecDepth 100000
set_option linter.unusedVariables false
set_option linter.unusedSimpArgs false

/-! ### divided -/
def sel (e : Nat) (L : List Nat) (o h : AObj) : AObj := if e ∈ L then o else h
theorem sel_self (e : Nat) (L : List Nat) (o h : AObj) : sel e (e :: L) o h = o := if_pos (List.mem_cons_self ..)
theorem sel_ne {e j : Nat} (hne : j ≠ e) (L : List Nat) (o h : AObj) : sel e (j :: L) o h = sel e L o h := by
  unfold sel
  simp only [List.mem_cons, hne.symm, false_or]
theorem sel_no {e : Nat} {L : List Nat} (hn : e ∉ L) (o h : AObj) : sel e L o h = h := if_neg hn
theorem sel_yes {e : Nat} {L : List Nat} (hn : e ∈ L) (o h : AObj) : sel e L o h = o := if_pos hn
/-- The bits of the quotient that are there after k steps. -/
def dvQN (w x y k : Nat) : Nat := ofB (dvQ w x y k) w
theorem dvQN_zero (w x y : Nat) : dvQN w x y 0 = 0 := by
  unfold dvQN
  exact ofB_eq (Nat.two_pow_pos _) fun i hi => by rw [dvQ_zero hi, Nat.zero_testBit]
theorem dvQN_end {w x y : Nat} (hx : x < 2 ^ w) : dvQN w x y w = quN w x y := ofB_eq (quN_lt hx) fun i _ => dvQ_end w x y i
theorem dvQN_f {w x y k : Nat} (hk : k < w) (hq : (quN w x y).testBit (w - 1 - k) = false) : dvQN w x y (k + 1) = dvQN w x y k := by
  unfold dvQN
  apply Nat.eq_of_testBit_eq
  intro i
  rw [ofB_tb, ofB_tb]
  by_cases hi : i < w
  · simp only [hi, decide_true, Bool.true_and, dvQ]
    by_cases he : i = w - 1 - k
    · subst he
      simp [hq]
    · have : decide (w - (k + 1) ≤ i) = decide (w - k ≤ i) := by
        rw [decide_eq_decide]; omega
      rw [this]
  · simp [hi]
theorem dvQN_t {w x y k : Nat} (hk : k < w) (hq : (quN w x y).testBit (w - 1 - k) = true) : dvQN w x y (k + 1) = dvQN w x y k ||| 2 ^ (w - 1 - k) := by
  unfold dvQN
  apply Nat.eq_of_testBit_eq
  intro i
  rw [Nat.testBit_or, Nat.testBit_two_pow, ofB_tb, ofB_tb]
  by_cases hi : i < w
  · simp only [hi, decide_true, Bool.true_and, dvQ]
    by_cases he : i = w - 1 - k
    · subst he
      simp [hq]
      omega
    · have h1 : decide (w - (k + 1) ≤ i) = decide (w - k ≤ i) := by
        rw [decide_eq_decide]; omega
      have h2 : ¬ w - 1 - k = i := fun e => he e.symm
      rw [h1]
      simp [h2]
  · have : ¬ w - 1 - k = i := by omega
    simp [hi, this]
theorem divided_call (w x y : Nat) (hx : x < 2 ^ w) (hy : y < 2 ^ w) (hw : 0 < w) (hwb : w ≤ 100000) : ACall Tryz.prog 87 [.d (vN w x), .d (vN w y)] [] (fun r o => r = tupOf [.d (vN w (quN w x y)), .d (vN w (reN x y))]) := by
  refine acall_enter Tryz.func87 rfl rfl (Nat.le_of_ble_eq_true rfl) fun C hC hCl => ?_
  have hpl : C.π.length = 0 := by rw [hCl, hC]; rfl
  refine sat_drawA 8 4 [(2, some (12, .ag [vI .i64 w, .gs 4])), (5, some (15, .ag [vI .i64 w, .gs 5])), (6, some (6, .ptr 6 0)), (7, some (7, .ptr 7 0))]
    (fun L => [some (bN w x), some (bN w y), some zV, some zV, some (sel 2 L (gUs (List.replicate (limbsN w) 0)) HD), some (sel 5 L (gUs (List.replicate (limbsN w) 0)) HD), some (sel 6 L zV HD), some (sel 7 L zV HD)]) _
    (objsF := [some (bN w x), some (bN w y), some zV, some zV, some (gUs (List.replicate (limbsN w) 0)), some (gUs (List.replicate (limbsN w) 0)), some zV, some zV])
    tabOk Tryz.func87 rfl rfl trivial (by kernel_rfl) (by kernel_rfl) ?_ ?_ ?_ ?_ (fun L => ds_done tabOk rfl trivial rfl) ?_ ?_
  · rfl
  · intro L hL
    simp only [sel_yes (hL 2 (by decide)), sel_yes (hL 5 (by decide)), sel_yes (hL 6 (by decide)), sel_yes (hL 7 (by decide))]
  · intro j L hb
    simp only [actB, List.any_cons, List.any_nil, Bool.or_false, Bool.or_eq_false_iff] at hb
    obtain ⟨b1, b2, b3, b4⟩ := hb
    have n1 := Nat.ne_of_beq_eq_false b1
    have n2 := Nat.ne_of_beq_eq_false b2
    have n3 := Nat.ne_of_beq_eq_false b3
    have n4 := Nat.ne_of_beq_eq_false b4
    simp only [sel_ne (fun e => n1 e.symm), sel_ne (fun e => n2 e.symm), sel_ne (fun e => n3 e.symm), sel_ne (fun e => n4 e.symm)]
  · rfl
  · refine List.forall_mem_cons.2 ⟨⟨_, rfl, rfl, ?_⟩, List.forall_mem_cons.2 ⟨⟨_, rfl, rfl, ?_⟩, List.forall_mem_cons.2 ⟨⟨_, rfl, rfl, ?_⟩, List.forall_mem_cons.2 ⟨⟨_, rfl, rfl, ?_⟩, fun x h => by cases h⟩⟩⟩⟩
    · refine headH_new (p := 4) (a := .ag [vI .i64 w, .gs 0]) (q0 := 1) (o1 := gUs (List.replicate (limbsN w) 0)) rfl rfl (fun _ _ _ h => h) (none_call w (by omega)) (callFunc_run Tryz.func34 rfl rfl) (by rintro r oz ⟨rfl, rfl⟩; exact ⟨rfl, rfl⟩) (.refl _) rfl rfl rfl rfl rfl rfl (by omega) ?_ ?_
      · intro L h
        show some (some (sel 2 L _ _)) = _
        rw [sel_no h]
      · intro L
        simp only [sel_self, sel_ne (show (2 : Nat) ≠ 5 by decide), sel_ne (show (2 : Nat) ≠ 6 by decide), sel_ne (show (2 : Nat) ≠ 7 by decide)]
        rfl
    · refine headH_new (p := 5) (a := .ag [vI .i64 w, .gs 0]) (q0 := 1) (o1 := gUs (List.replicate (limbsN w) 0)) rfl rfl (fun _ _ _ h => h) (none_call w (by omega)) (callFunc_run Tryz.func34 rfl rfl) (by rintro r oz ⟨rfl, rfl⟩; exact ⟨rfl, rfl⟩) (.refl _) rfl rfl rfl rfl rfl rfl (by omega) ?_ ?_
      · intro L h
        show some (some (sel 5 L _ _)) = _
        rw [sel_no h]
      · intro L
        simp only [sel_self, sel_ne (show (5 : Nat) ≠ 2 by decide), sel_ne (show (5 : Nat) ≠ 6 by decide), sel_ne (show (5 : Nat) ≠ 7 by decide)]
        rfl
    · refine headH_alloc (p := 6) tabOk rfl rfl rfl rfl rfl rfl (by omega) ?_ ?_
      · intro L h
        show some (some (sel 6 L _ _)) = _
        rw [sel_no h]
      · intro L
        simp only [sel_self, sel_ne (show (6 : Nat) ≠ 2 by decide), sel_ne (show (6 : Nat) ≠ 5 by decide), sel_ne (show (6 : Nat) ≠ 7 by decide)]
        rfl
    · refine headH_alloc (p := 7) tabOk rfl rfl rfl rfl rfl rfl (by omega) ?_ ?_
      · intro L h
        show some (some (sel 7 L _ _)) = _
        rw [sel_no h]
      · intro L
        simp only [sel_self, sel_ne (show (7 : Nat) ≠ 2 by decide), sel_ne (show (7 : Nat) ≠ 5 by decide), sel_ne (show (7 : Nat) ≠ 6 by decide)]
        rfl
  refine sat_freeze 5 rfl ?_
  refine sat_stop tabOk Tryz.func87 rfl trivial ?_
  refine sat_while (α := Nat) (fun i => [(2, .ptr 0 0), (3, .ptr 1 0), (4, .ptr 2 0), (5, .ptr 3 0), (6, .ptr 6 0), (7, .ptr 7 0), (17, vI .i64 (w : Int)), (18, vI .i64 i)]) (fun i => [some (bN w x), some (bN w y), some zV, some zV, some (gUs (lmb (limbsN w) (dvQN w x y i))), none, some (cV w 4), some (bN w (dvR w x y i))]) (fun i => i ≤ w) (fun i => w - i) 0 (Nat.zero_le _) ?_ ?_
  · refine fun h => sat_le h hC hCl ⟨⟨_, rfl, .refl _⟩, ⟨_, rfl, .refl _⟩, ⟨_, rfl, .refl _⟩, ⟨_, rfl, .refl _⟩, ⟨_, rfl, .refl _⟩, ⟨_, rfl, .refl _⟩, ⟨_, rfl, .refl _⟩, ⟨_, rfl, .refl _⟩, trivial⟩ ⟨.refl _, .refl _, .refl _, .refl _, .of ?_, .refl _, .of ?_, trivial⟩ rfl rfl (Nat.zero_le _)
    · rw [zero_lmb, dvQN_zero]; rfl
    · rw [zero_lmb, dvR_zero hx]; rfl
  rintro i hi ih
  refine sat_branch tabOk Tryz.func87 rfl trivial (fun hb => ?_) (fun hb => ?_) <;> simp only [decide_eq_true_eq, decide_eq_false_iff_not] at hb
  · have hlt : i < w := by omega
    have hR : dvR w x y i < 2 ^ i := dvR_lt hx (by omega)
    have hp : 2 ^ i ≤ 2 ^ (w - 1) := Nat.pow_le_pow_right (by decide) (by omega)
    have hp2 : 2 ^ w = 2 * 2 ^ (w - 1) := by rw [← Nat.pow_succ', Nat.succ_eq_add_one, Nat.sub_add_cancel hw]
    have eat : IntKind.i64.wrap (IntKind.i64.wrap ((w : Int) - 1) - i) = ((w - 1 - i : Nat) : Int) := by rw [wrap_id (n := (w : Int) - 1) (by omega) (by omega), wrap_id (by omega) (by omega)]; omega
    have hs := dvR_step (x := x) (y := y) hlt
    have hq := dvQ_step (x := x) (y := y) hlt
    refine sat_callG [] tabOk Tryz.func87 rfl trivial (up_callO w 1 (lmb (limbsN w) (dvR w x y i)) (lmb_lims _ _) (lmb_len _ _) hwb (by decide)) trivial (.refl _) rfl rfl rfl ⟨_, rfl⟩ ?_
    rintro r o ⟨rfl, rfl⟩
    have eup : upI (lmb (limbsN w) (dvR w x y i)) w 1 (w - 1) = lmb (limbsN w) (2 * dvR w x y i) := by
      rw [upI_lmb (w - 1) (Nat.le_refl _), Nat.mod_eq_of_lt (by omega), Nat.pow_one, Nat.mul_comm]
    have hset : setB (lmb (limbsN w) (2 * dvR w x y i)) 0 = lmb (limbsN w) (2 * dvR w x y i + 1) := by
      rw [setB_lmb (limbs_at hw)]
      congr 1
      have := Nat.two_pow_add_eq_or_of_lt (i := 1) (b := 1) (by decide) (dvR w x y i)
      rw [Nat.pow_one] at this
      exact this.symm
    refine sat_le (env' := [(2, .ptr 0 0), (3, .ptr 1 0), (4, .ptr 2 0), (5, .ptr 3 0), (6, .ptr 6 0), (7, .ptr 7 0), (17, vI .i64 (w : Int)), (18, vI .i64 i), (9, vI .i64 ((w - 1 - i : Nat) : Int)), (27, .ag [vI .i64 w, .gs 11])]) (objs' := [some (bN w x), some (bN w y), some zV, some zV, some (gUs (lmb (limbsN w) (dvQN w x y i))), none, some (cV w 4), some (bN w (dvR w x y i)), none, none, none, some (gUs (lmb (limbsN w) (2 * dvR w x y i)))]) ?_ hC hCl ⟨⟨_, rfl, .refl _⟩, ⟨_, rfl, .refl _⟩, ⟨_, rfl, .refl _⟩, ⟨_, rfl, .refl _⟩, ⟨_, rfl, .refl _⟩, ⟨_, rfl, .refl _⟩, ⟨_, rfl, .refl _⟩, ⟨_, rfl, .refl _⟩, ⟨_, rfl, .of ?_⟩, ⟨_, rfl, .refl _⟩, trivial⟩ ⟨.refl _, .refl _, .refl _, .refl _, .refl _, .refl _, .refl _, .of (by rw [eup]; rfl), trivial⟩ rfl rfl (Nat.zero_le _)
    rotate_left
    · show vI .i64 _ = _
      rw [eat]
    refine sat_call tabOk Tryz.func87 rfl trivial (BitN_call w x ((w - 1 - i : Nat) : Int) (by omega)) (.refl _) rfl ⟨_, rfl⟩ (by rintro r o rfl; rfl) ?_
    rintro r o rfl
    rw [bitI'_nat (by omega)]
    obtain ⟨R2, hR2⟩ : ∃ R2, 2 * dvR w x y i + (if x.testBit (w - 1 - i) = true then 1 else 0) = R2 := ⟨_, rfl⟩
    rw [hR2] at hs hq
    have h2 : R2 < 2 ^ w := by rw [← hR2]; split <;> omega
    refine sat_branch tabOk Tryz.func87 rfl trivial (fun hb2 => ?_) (fun hb2 => ?_)
    · rw [if_pos hb2] at hR2
      refine sat_callG [7, 11] tabOk Tryz.func87 rfl trivial (set_call w 0 (lmb (limbsN w) (2 * dvR w x y i)) (lmb_lims _ _) (by rw [lmb_len]; exact limbs_at hw) (by omega)) ⟨⟨_, rfl, .refl _⟩, ⟨_, rfl, .refl _⟩, trivial⟩ (.refl _) rfl rfl rfl ⟨_, rfl⟩ ?_
      rintro r o ⟨rfl, rfl⟩
      rw [hset, hR2]
      refine sat_freeze 11 rfl ?_
      refine sat_le (env' := [(2, .ptr 0 0), (3, .ptr 1 0), (4, .ptr 2 0), (5, .ptr 3 0), (6, .ptr 6 0), (7, .ptr 7 0), (17, vI .i64 (w : Int)), (18, vI .i64 i), (9, vI .i64 ((w - 1 - i : Nat) : Int))]) (objs' := [some (bN w x), some (bN w y), some zV, some zV, some (gUs (lmb (limbsN w) (dvQN w x y i))), none, some (cV w 4), some (bN w R2)]) ?_ hC hCl ⟨⟨_, rfl, .refl _⟩, ⟨_, rfl, .refl _⟩, ⟨_, rfl, .refl _⟩, ⟨_, rfl, .refl _⟩, ⟨_, rfl, .refl _⟩, ⟨_, rfl, .refl _⟩, ⟨_, rfl, .refl _⟩, ⟨_, rfl, .refl _⟩, ⟨_, rfl, .refl _⟩, trivial⟩ ⟨.refl _, .refl _, .refl _, .refl _, .refl _, .refl _, .refl _, trivial⟩ rfl rfl (Nat.zero_le _)
      refine sat_call tabOk Tryz.func87 rfl trivial (lessN_call w R2 y h2 hy hw (by omega)) (.refl _) rfl ⟨_, rfl⟩ (by rintro r o rfl; rfl) ?_
      rintro r o rfl
      refine sat_branch tabOk Tryz.func87 rfl trivial (fun h => ?_) (fun h => ?_)
      · have h : ¬ R2 < y := by simpa using h
        rw [if_neg h] at hs
        rw [decide_eq_false h] at hq
        refine sat_drawT 3 tabOk Tryz.func87 rfl rfl trivial (by kernel_rfl) ?_
        refine ds_call tabOk rfl trivial (turnedN_call w y hy hw (by omega)) (callFunc_run Tryz.func63 rfl rfl) (by rintro r o rfl; rfl) (.refl _) rfl rfl ⟨_, rfl⟩ ?_
        refine ds_done tabOk rfl trivial ?_
        refine sat_call tabOk Tryz.func87 rfl trivial (sumN_call w R2 (2 ^ w - (y + 1)) 1 hw (by omega) (by decide)) (.refl _) rfl ⟨_, rfl⟩ (by rintro r o rfl; rfl) ?_
        rintro r o rfl
        rw [show R2 + (2 ^ w - (y + 1)) + 1 = (R2 - y) + 2 ^ w by omega, Nat.add_mod_right, Nat.mod_eq_of_lt (by omega : R2 - y < 2 ^ w), ← hs]
        refine sat_callG [6, 4] tabOk Tryz.func87 rfl trivial (set_call w (w - 1 - i) (lmb (limbsN w) (dvQN w x y i)) (lmb_lims _ _) (by rw [lmb_len]; exact limbs_at (by omega)) (by omega)) ⟨⟨_, rfl, .refl _⟩, ⟨_, rfl, .refl _⟩, trivial⟩ (.refl _) rfl rfl rfl ⟨_, rfl⟩ ?_
        rintro r o ⟨rfl, rfl⟩
        refine sat_stop tabOk Tryz.func87 rfl trivial ?_
        exact sat_le (ih (i + 1) (by omega) (by omega)) hC hCl ⟨⟨_, rfl, .refl _⟩, ⟨_, rfl, .refl _⟩, ⟨_, rfl, .refl _⟩, ⟨_, rfl, .refl _⟩, ⟨_, rfl, .refl _⟩, ⟨_, rfl, .refl _⟩, ⟨_, rfl, .refl _⟩, ⟨_, rfl, .of (by rw [wrap_id (by omega) (by omega)]; rfl)⟩, trivial⟩ ⟨.refl _, .refl _, .refl _, .refl _, .of (by rw [setB_lmb (limbs_at (by omega)), ← dvQN_t hlt hq]; rfl), .refl _, .refl _, trivial⟩ rfl rfl (Nat.zero_le _)
      · have h : R2 < y := by simpa using h
        rw [if_pos h] at hs
        rw [decide_eq_true h] at hq
        refine sat_stop tabOk Tryz.func87 rfl trivial ?_
        exact sat_le (ih (i + 1) (by omega) (by omega)) hC hCl ⟨⟨_, rfl, .refl _⟩, ⟨_, rfl, .refl _⟩, ⟨_, rfl, .refl _⟩, ⟨_, rfl, .refl _⟩, ⟨_, rfl, .refl _⟩, ⟨_, rfl, .refl _⟩, ⟨_, rfl, .refl _⟩, ⟨_, rfl, .of (by rw [wrap_id (by omega) (by omega)]; rfl)⟩, trivial⟩ ⟨.refl _, .refl _, .refl _, .refl _, .of (by rw [dvQN_f hlt hq]), .refl _, .of (by rw [hs]), trivial⟩ rfl rfl (Nat.zero_le _)
    · rw [if_neg (by simp [hb2]), Nat.add_zero] at hR2
      rw [hR2]
      refine sat_freeze 11 rfl ?_
      refine sat_le (env' := [(2, .ptr 0 0), (3, .ptr 1 0), (4, .ptr 2 0), (5, .ptr 3 0), (6, .ptr 6 0), (7, .ptr 7 0), (17, vI .i64 (w : Int)), (18, vI .i64 i), (9, vI .i64 ((w - 1 - i : Nat) : Int)), (30, .lit false)]) (objs' := [some (bN w x), some (bN w y), some zV, some zV, some (gUs (lmb (limbsN w) (dvQN w x y i))), none, some (cV w 4), some (bN w R2)]) ?_ hC hCl ⟨⟨_, rfl, .refl _⟩, ⟨_, rfl, .refl _⟩, ⟨_, rfl, .refl _⟩, ⟨_, rfl, .refl _⟩, ⟨_, rfl, .refl _⟩, ⟨_, rfl, .refl _⟩, ⟨_, rfl, .refl _⟩, ⟨_, rfl, .refl _⟩, ⟨_, rfl, .refl _⟩, ⟨_, rfl, .refl _⟩, trivial⟩ ⟨.refl _, .refl _, .refl _, .refl _, .refl _, .refl _, .refl _, trivial⟩ rfl rfl (Nat.zero_le _)
      refine sat_call tabOk Tryz.func87 rfl trivial (lessN_call w R2 y h2 hy hw (by omega)) (.refl _) rfl ⟨_, rfl⟩ (by rintro r o rfl; rfl) ?_
      rintro r o rfl
      refine sat_branch tabOk Tryz.func87 rfl trivial (fun h => ?_) (fun h => ?_)
      · have h : ¬ R2 < y := by simpa using h
        rw [if_neg h] at hs
        rw [decide_eq_false h] at hq
        refine sat_drawT 3 tabOk Tryz.func87 rfl rfl trivial (by kernel_rfl) ?_
        refine ds_call tabOk rfl trivial (turnedN_call w y hy hw (by omega)) (callFunc_run Tryz.func63 rfl rfl) (by rintro r o rfl; rfl) (.refl _) rfl rfl ⟨_, rfl⟩ ?_
        refine ds_done tabOk rfl trivial ?_
        refine sat_call tabOk Tryz.func87 rfl trivial (sumN_call w R2 (2 ^ w - (y + 1)) 1 hw (by omega) (by decide)) (.refl _) rfl ⟨_, rfl⟩ (by rintro r o rfl; rfl) ?_
        rintro r o rfl
        rw [show R2 + (2 ^ w - (y + 1)) + 1 = (R2 - y) + 2 ^ w by omega, Nat.add_mod_right, Nat.mod_eq_of_lt (by omega : R2 - y < 2 ^ w), ← hs]
        refine sat_callG [6, 4] tabOk Tryz.func87 rfl trivial (set_call w (w - 1 - i) (lmb (limbsN w) (dvQN w x y i)) (lmb_lims _ _) (by rw [lmb_len]; exact limbs_at (by omega)) (by omega)) ⟨⟨_, rfl, .refl _⟩, ⟨_, rfl, .refl _⟩, trivial⟩ (.refl _) rfl rfl rfl ⟨_, rfl⟩ ?_
        rintro r o ⟨rfl, rfl⟩
        refine sat_stop tabOk Tryz.func87 rfl trivial ?_
        exact sat_le (ih (i + 1) (by omega) (by omega)) hC hCl ⟨⟨_, rfl, .refl _⟩, ⟨_, rfl, .refl _⟩, ⟨_, rfl, .refl _⟩, ⟨_, rfl, .refl _⟩, ⟨_, rfl, .refl _⟩, ⟨_, rfl, .refl _⟩, ⟨_, rfl, .refl _⟩, ⟨_, rfl, .of (by rw [wrap_id (by omega) (by omega)]; rfl)⟩, trivial⟩ ⟨.refl _, .refl _, .refl _, .refl _, .of (by rw [setB_lmb (limbs_at (by omega)), ← dvQN_t hlt hq]; rfl), .refl _, .refl _, trivial⟩ rfl rfl (Nat.zero_le _)
      · have h : R2 < y := by simpa using h
        rw [if_pos h] at hs
        rw [decide_eq_true h] at hq
        refine sat_stop tabOk Tryz.func87 rfl trivial ?_
        exact sat_le (ih (i + 1) (by omega) (by omega)) hC hCl ⟨⟨_, rfl, .refl _⟩, ⟨_, rfl, .refl _⟩, ⟨_, rfl, .refl _⟩, ⟨_, rfl, .refl _⟩, ⟨_, rfl, .refl _⟩, ⟨_, rfl, .refl _⟩, ⟨_, rfl, .refl _⟩, ⟨_, rfl, .of (by rw [wrap_id (by omega) (by omega)]; rfl)⟩, trivial⟩ ⟨.refl _, .refl _, .refl _, .refl _, .of (by rw [dvQN_f hlt hq]), .refl _, .of (by rw [hs]), trivial⟩ rfl rfl (Nat.zero_le _)
  · obtain rfl : i = w := by omega
    rw [dvQN_end hx, dvR_end]
    refine sat_freeze 4 rfl ?_
    refine sat_le (env' := [(2, .ptr 0 0), (3, .ptr 1 0), (4, .ptr 2 0), (5, .ptr 3 0), (6, .ptr 6 0), (7, .ptr 7 0), (19, .lit false)]) (objs' := [some (bN i x), some (bN i y), some zV, some zV, none, none, some (bN i (quN i x y)), some (bN i (reN x y))]) ?_ hC hCl ⟨⟨_, rfl, .refl _⟩, ⟨_, rfl, .refl _⟩, ⟨_, rfl, .refl _⟩, ⟨_, rfl, .refl _⟩, ⟨_, rfl, .refl _⟩, ⟨_, rfl, .refl _⟩, ⟨_, rfl, .refl _⟩, trivial⟩ ⟨.refl _, .refl _, .refl _, .refl _, .refl _, .refl _, trivial⟩ rfl rfl (Nat.zero_le _)
    refine sat_drawA 3 0 [(2, none)] (fun L => [some (bN i x), some (bN i y), some (sel 2 L (bN i (quN i x y)) zV), some zV, none, none, some (bN i (quN i x y)), some (bN i (reN x y))]) _
      (objsF := [some (bN i x), some (bN i y), some (bN i (quN i x y)), some zV, none, none, some (bN i (quN i x y)), some (bN i (reN x y))])
      tabOk Tryz.func87 rfl rfl trivial (by kernel_rfl) (by kernel_rfl) ?_ ?_ ?_ rfl (fun L => ds_done tabOk rfl trivial rfl) ?_ ?_
    · rfl
    · intro L hL
      simp only [sel_yes (hL 2 (by decide))]
    · intro j L hb
      simp only [actB, List.any_cons, List.any_nil, Bool.or_false] at hb
      have n1 := Nat.ne_of_beq_eq_false hb
      simp only [sel_ne (fun e => n1 e.symm)]
    · refine List.forall_mem_cons.2 ⟨⟨_, rfl, rfl, ?_⟩, fun x h => by cases h⟩
      refine headH_skip (c := none) (a := .dead) tabOk rfl (fun _ _ _ h => h) ?_ trivial rfl
      intro L h
      simp only [sel_self, sel_no h]
      rfl
    exact sat_ret tabOk Tryz.func87 rfl trivial rfl
end Go.Proofs.YtclamogkchdkgaaGreatDoor
set_option linter.unusedVariables false
namespace Ab
open Go

theorem ACall.frzO (ι : List Nat) {P : Program} {f : FuncId} {az : List AV} {objs o1 o2 o3 : List (Option AObj)} {r1 r2 r3 : AV} {env2 : Env} (h : ACall P f az objs (fun r o => r = r1 ∧ o = o1)) (hz : frzI ι [] o1 [r1] = some (env2, o2, [r2])) (hle : VLe r2 r3) (hO : subO o3 o2) (hb : refsB o3.length r3 = true) (hro : refsO o3.length o3 = true) (hl : objs.length ≤ o3.length) : ACall P f az objs (fun r o => r = r3 ∧ o = o3) := by
  have h2 : ACall P f az objs (fun r o => r = r2 ∧ o = o2) := by
    intro X π w vs m hv
    refine (h X π w vs m hv).mono ?_
    rintro e w' ⟨v, r, o, π', rfl, ⟨rfl, rfl⟩, hm, hrel, hh⟩
    obtain ⟨m2, h2, _, r2⟩ := freeze_all (C := ⟨X, π, objs, w⟩) (tmps := #[]) ι hz hm hh (fun t a ht => by simp [look] at ht) (.cons hrel .nil)
    cases r2 with | cons hr _ => exact ⟨v, _, o2, π', rfl, ⟨rfl, rfl⟩, m2, hr, h2⟩
  refine h2.less ?_
  rintro r o ⟨rfl, rfl⟩
  exact ⟨r3, o3, ⟨rfl, rfl⟩, hle, hO, hb, hro, hl⟩
end Ab
namespace Go.Proofs.YtclamogkchdkgaaGreatDoor
open Go Ab
set_option maxRecDepth 100000
set_option linter.unusedVariables false
set_option linter.unusedSimpArgs false

/-! ### The rest of the tables' functions -/
theorem xor_low {m x : Nat} (hx : x < 2 ^ m) : x ^^^ 2 ^ m = 2 ^ m + x := by
  apply Nat.eq_of_testBit_eq
  intro j
  have h := Nat.testBit_two_pow_mul_add 1 hx j
  rw [Nat.mul_one] at h
  rw [h, Nat.testBit_xor, Nat.testBit_two_pow]
  split
  · rename_i hj
    simp [show ¬ m = j by omega]
  · rename_i hj
    rw [Nat.testBit_lt_two_pow (Nat.lt_of_lt_of_le hx (Nat.pow_le_pow_right (by decide) (by omega)))]
    by_cases e : m = j
    · subst e; simp
    · obtain ⟨k, hk⟩ : ∃ k, j - m = k + 1 := ⟨j - m - 1, by omega⟩
      rw [hk]
      simp [e, Nat.testBit_succ]
theorem top_iff {m x : Nat} (hx : x < 2 ^ (m + 1)) : x.testBit m = decide (2 ^ m ≤ x) := by
  rw [Nat.testBit_eq_decide_div_mod_eq]
  rw [Nat.pow_succ] at hx
  have : x / 2 ^ m < 2 := by rw [Nat.div_lt_iff_lt_mul (Nat.two_pow_pos _)]; omega
  rw [Nat.mod_eq_of_lt this, decide_eq_decide]
  constructor
  · intro h
    have := Nat.div_mul_le_self x (2 ^ m)
    rw [h] at this
    omega
  · intro h
    have := Nat.div_pos h (Nat.two_pow_pos m)
    omega
theorem xor_top {m x : Nat} (hx : x < 2 ^ (m + 1)) : x ^^^ 2 ^ m = if x.testBit m then x - 2 ^ m else 2 ^ m + x := by
  rw [top_iff hx]
  rw [Nat.pow_succ] at hx
  by_cases h : 2 ^ m ≤ x
  · simp only [h, decide_true, if_true]
    have := xor_low (m := m) (x := x - 2 ^ m) (by omega)
    rw [show 2 ^ m + (x - 2 ^ m) = x by omega] at this
    conv => lhs; rw [← this]
    rw [Nat.xor_assoc, Nat.xor_self, Nat.xor_zero]
  · simp only [h, decide_false, Bool.false_eq_true, if_false]
    exact xor_low (by omega)
theorem slt_eq {w x y : Nat} (hw : 0 < w) (hx : x < 2 ^ w) (hy : y < 2 ^ w) : decide (x ^^^ 2 ^ (w - 1) < y ^^^ 2 ^ (w - 1)) = ((x.testBit (w - 1) && !y.testBit (w - 1)) || ((x.testBit (w - 1) == y.testBit (w - 1)) && decide (x < y))) := by
  obtain ⟨m, rfl⟩ : ∃ m, w = m + 1 := ⟨w - 1, by omega⟩
  rw [Nat.add_sub_cancel, xor_top hx, xor_top hy, top_iff hx, top_iff hy]
  rw [Nat.pow_succ] at hx hy
  by_cases h1 : 2 ^ m ≤ x <;> by_cases h2 : 2 ^ m ≤ y <;> simp [h1, h2] <;> omega
theorem xor_lt {w x : Nat} (hw : 0 < w) (hx : x < 2 ^ w) : x ^^^ 2 ^ (w - 1) < 2 ^ w := Nat.xor_lt_two_pow hx (Nat.pow_lt_pow_right (by decide) (by omega))
theorem xorB_lmb {n X j : Nat} (hj : j / 64 < n) : (lmb n X).set (j / 64) ((lmb n X).getD (j / 64) 0 ^^^ 2 ^ (j % 64)) = lmb n (X ^^^ 2 ^ j) := by
  have hjl : j / 64 < (lmb n X).length := by rw [lmb_len]; exact hj
  refine lmb_ext (by rw [List.length_set, lmb_len]) (lims_set (lmb_lims _ _) (Nat.xor_lt_two_pow (n := 64) (lims_get (lmb_lims _ _) _) (pow64 (Nat.mod_lt _ (by omega))))) fun i hi => ?_
  rw [bitN_tb, Nat.testBit_xor, Nat.testBit_two_pow, ← bitN_lmb (n := n) (X := X) (i := i) (by omega), bitN_tb]
  by_cases e : i / 64 = j / 64
  · have e1 : ((lmb n X).set (j / 64) ((lmb n X).getD (j / 64) 0 ^^^ 2 ^ (j % 64))).getD (i / 64) 0 = (lmb n X).getD (j / 64) 0 ^^^ 2 ^ (j % 64) := by
      rw [e]
      simp [hjl]
    rw [e1, Nat.testBit_xor, Nat.testBit_two_pow, e, decide_eq_decide.2 (show j % 64 = i % 64 ↔ j = i by omega)]
  · have e1 : ((lmb n X).set (j / 64) ((lmb n X).getD (j / 64) 0 ^^^ 2 ^ (j % 64))).getD (i / 64) 0 = (lmb n X).getD (i / 64) 0 := by
      simp [List.getElem?_set, Ne.symm e]
    rw [e1]
    have : ¬ j = i := fun h => e (by rw [h])
    simp [this]

theorem low_callO (w x : Nat) (hx : x < 2 ^ w) (hwb : w ≤ 100000) : ACall Tryz.prog 73 [.d (vN w x)] [] (fun r o => r = .ag [vI .i64 w, .gs 5] ∧ o = [none, none, none, none, none, some (gUs (lmb (limbsN w) x))]) := by
  refine acall_enter Tryz.func73 rfl rfl (Nat.le_of_ble_eq_true rfl) fun C hC hCl => ?_
  refine sat_callG [] tabOk Tryz.func73 rfl trivial (up_callO w 0 (lmb (limbsN w) x) (lmb_lims _ _) (lmb_len _ _) hwb (by decide)) trivial (.refl _) rfl rfl rfl ⟨_, rfl⟩ ?_
  rintro r o ⟨rfl, rfl⟩
  have eup : upI (lmb (limbsN w) x) w 0 (w - 0) = lmb (limbsN w) x := by
    rw [upI_lmb (w - 0) (Nat.le_refl _), Nat.sub_zero, Nat.mod_eq_of_lt hx, Nat.pow_zero, Nat.mul_one]
  rw [eup]
  exact sat_retL tabOk Tryz.func73 rfl trivial hC hCl (.refl _) (o2 := [none, none, none, none, none, some (gUs (lmb (limbsN w) x))]) ⟨.refl _, trivial⟩ rfl rfl (Nat.zero_le _) ⟨rfl, rfl⟩

theorem signed_callO (w x : Nat) (hx : x < 2 ^ w) (hw : 0 < w) (hwb : w ≤ 100000) : ACall Tryz.prog 75 [.d (vN w x), .ptr 0 0] [some (cV1 73)] (fun r o => r = .ag [vI .i64 w, .gs 8] ∧ o = [some (cV1 73), none, none, none, none, none, none, none, some (gUs (lmb (limbsN w) (x ^^^ 2 ^ (w - 1))))]) := by
  refine acall_enter Tryz.func75 rfl rfl (Nat.le_of_ble_eq_true rfl) fun C hC hCl => ?_
  refine sat_callG [] tabOk Tryz.func75 rfl trivial (low_callO w x hx hwb) trivial (.refl _) rfl rfl rfl ⟨_, rfl⟩ ?_
  rintro r o ⟨rfl, rfl⟩
  have e0 : IntKind.i64.wrap ((w : Int) - 1) = ((w - 1 : Nat) : Int) := by rw [wrap_id (by omega) (by omega)]; omega
  have e1 : IntKind.i64.wrap (((w - 1 : Nat) : Int).tdiv 64) = (((w - 1) / 64 : Nat) : Int) := by rw [show ((w - 1 : Nat) : Int).tdiv 64 = (((w - 1) / 64 : Nat) : Int) from rfl, wrap_id (by omega) (by omega)]
  have e2 : ((w - 1 : Nat) : Int).tmod 64 = (((w - 1) % 64 : Nat) : Int) := rfl
  have hm : (w - 1) % 64 < 64 := Nat.mod_lt _ (by omega)
  have hat : (w - 1) / 64 < limbsN w := limbs_at (by omega)
  refine sat_drawT 13 tabOk Tryz.func75 rfl rfl trivial (by kernel_rfl) ?_
  refine ds_done tabOk rfl ?_ ?_
  · simp only [e0, e1, e2, Int.toNat_natCast, List.length_map, lmb_len]
    exact ⟨by omega, by decide, hat, ⟨by omega, by omega⟩, by decide, trivial⟩
  refine sat_retL tabOk Tryz.func75 rfl ?_ hC hCl (.refl _) (o2 := [some (cV1 73), none, none, none, none, none, none, none, some (gUs (lmb (limbsN w) (x ^^^ 2 ^ (w - 1))))]) ⟨.refl _, .gL ?_, trivial⟩ rfl rfl (Nat.le_of_ble_eq_true rfl) ⟨rfl, rfl⟩
  · simp only [andP, e0, e1, Int.toNat_natCast, List.length_map, lmb_len]
    exact ⟨hat, ⟨by omega, by omega⟩, trivial⟩
  · simp only [e0, e1, e2, Int.toNat_natCast]
    rw [← xorB_lmb hat, List.map_set]
    congr 1
    show D.v (.int .u64 _) = D.v (.int .u64 _)
    have e3 : IntKind.u64.wrap ((1 : Int) * 2 ^ (min (((w - 1) % 64 : Nat) : Int).toNat IntKind.u64.bits)) = ((2 ^ ((w - 1) % 64) : Nat) : Int) := by
      have := shlU (x := 1) hm
      rw [Nat.one_mul, Nat.mod_eq_of_lt (pow64 hm)] at this
      exact this
    rw [Int.toNat_natCast] at e3
    rw [e3, xorU (lims_get (lmb_lims _ _) _) (pow64 hm)]
theorem signed_call (w x : Nat) (hx : x < 2 ^ w) (hw : 0 < w) (hwb : w ≤ 100000) : ACall Tryz.prog 75 [.d (vN w x), .ptr 0 0] [some (cV1 73)] (fun r o => r = .d (vN w (x ^^^ 2 ^ (w - 1))) ∧ o = [some (cV1 73)]) :=
  (signed_callO w x hx hw hwb).frzO [8] rfl (.agL (.refl _)) (o3 := [some (cV1 73)]) ⟨.refl _, trivial⟩ rfl rfl (Nat.le_refl _)

theorem udiv_call (w x y : Nat) (hx : x < 2 ^ w) (hy : y < 2 ^ w) (hw : 0 < w) (hwb : w ≤ 100000) : ACall Tryz.prog 86 [.d (vN w x), .d (vN w y)] [] (fun r o => r = .d (vN w (quN w x y))) := by
  refine acall_enter Tryz.func86 rfl rfl (Nat.le_of_ble_eq_true rfl) fun C hC hCl => ?_
  refine sat_call tabOk Tryz.func86 rfl trivial (divided_call w x y hx hy hw hwb) (.refl _) rfl ⟨_, rfl⟩ (by rintro r o rfl; rfl) ?_
  rintro r o rfl
  exact sat_ret tabOk Tryz.func86 rfl trivial rfl
theorem urem_call (w x y : Nat) (hx : x < 2 ^ w) (hy : y < 2 ^ w) (hw : 0 < w) (hwb : w ≤ 100000) : ACall Tryz.prog 88 [.d (vN w x), .d (vN w y)] [] (fun r o => r = .d (vN w (reN x y))) := by
  refine acall_enter Tryz.func88 rfl rfl (Nat.le_of_ble_eq_true rfl) fun C hC hCl => ?_
  refine sat_call tabOk Tryz.func88 rfl trivial (divided_call w x y hx hy hw hwb) (.refl _) rfl ⟨_, rfl⟩ (by rintro r o rfl; rfl) ?_
  rintro r o rfl
  exact sat_ret tabOk Tryz.func88 rfl trivial rfl
theorem ult_call (w x y : Nat) (hx : x < 2 ^ w) (hy : y < 2 ^ w) (hw : 0 < w) (hwb : w ≤ 100000) : ACall Tryz.prog 95 [.d (vN w x), .d (vN w y)] [] (fun r o => r = .d (vN 1 (if x < y then 1 else 0))) := by
  refine acall_enter Tryz.func95 rfl rfl (Nat.le_of_ble_eq_true rfl) fun C hC hCl => ?_
  refine sat_call tabOk Tryz.func95 rfl trivial (lessN_call w x y hx hy hw (by omega)) (.refl _) rfl ⟨_, rfl⟩ (by rintro r o rfl; rfl) ?_
  rintro r o rfl
  refine sat_call tabOk Tryz.func95 rfl trivial (flagN_call (decide (x < y))) (.refl _) rfl ⟨_, rfl⟩ (by rintro r o rfl; rfl) ?_
  rintro r o rfl
  refine sat_ret tabOk Tryz.func95 rfl trivial ?_
  by_cases h : x < y <;> simp [h] <;> rfl
theorem slt_call (w x y : Nat) (hx : x < 2 ^ w) (hy : y < 2 ^ w) (hw : 0 < w) (hwb : w ≤ 100000) : ACall Tryz.prog 97 [.d (vN w x), .d (vN w y), .ptr 1 0] [some (cV1 73), some (cV2 75)]
    (fun r o => r = .d (vN 1 (if (x.testBit (w - 1) && !y.testBit (w - 1)) || ((x.testBit (w - 1) == y.testBit (w - 1)) && decide (x < y)) then 1 else 0)) ∧ o = [some (cV1 73), some (cV2 75)]) := by
  refine acall_enter Tryz.func97 rfl rfl (Nat.le_of_ble_eq_true rfl) fun C hC hCl => ?_
  refine sat_drawM 5 2 [0] tabOk Tryz.func97 rfl rfl (objs1 := [some (cV1 73), some (cV2 75), some (bN w x), some (bN w y), some zV]) (r0 := .d (vN w (x ^^^ 2 ^ (w - 1)))) trivial (by kernel_rfl) (by decide) (by kernel_rfl) rfl (ds_done tabOk rfl trivial rfl) (ds_done tabOk rfl trivial rfl) rfl rfl rfl rfl (callFunc_run Tryz.func75 rfl rfl) (signed_call w x hx hw hwb) ⟨⟨_, rfl, .refl _⟩, trivial⟩ (.refl _) rfl rfl rfl ?_ rfl ?_
  · rintro r o ⟨rfl, rfl⟩
    exact ⟨rfl, rfl⟩
  refine sat_callG [0] tabOk Tryz.func97 rfl trivial (signed_call w y hy hw hwb) ⟨⟨_, rfl, .refl _⟩, trivial⟩ (.refl _) rfl rfl rfl ⟨_, rfl⟩ ?_
  rintro r o ⟨rfl, rfl⟩
  refine sat_call tabOk Tryz.func97 rfl trivial (lessN_call w (x ^^^ 2 ^ (w - 1)) (y ^^^ 2 ^ (w - 1)) (xor_lt hw hx) (xor_lt hw hy) hw (by omega)) (.refl _) rfl ⟨_, rfl⟩ (by rintro r o rfl; rfl) ?_
  rintro r o rfl
  rw [slt_eq hw hx hy]
  refine sat_call tabOk Tryz.func97 rfl trivial (flagN_call _) (.refl _) rfl ⟨_, rfl⟩ (by rintro r o rfl; rfl) ?_
  rintro r o rfl
  exact sat_retL tabOk Tryz.func97 rfl trivial hC hCl (.refl _) (o2 := [some (cV1 73), some (cV2 75)]) ⟨.refl _, .refl _, trivial⟩ rfl rfl (Nat.le_refl _) ⟨rfl, rfl⟩

/-! ### counting -/
theorem redand_call (w x : Nat) (hx : x < 2 ^ w) (hwb : w ≤ 100000) : ACall Tryz.prog 68 [.d (vN w x)] [] (fun r o => r = .d (vN 1 (if cnt x.testBit w = w then 1 else 0))) := by
  refine acall_enter Tryz.func68 rfl rfl (Nat.le_of_ble_eq_true rfl) fun C hC hCl => ?_
  refine sat_drawT 4 tabOk Tryz.func68 rfl rfl trivial (by kernel_rfl) ?_
  refine ds_call tabOk rfl trivial (ones_call w x hx (by omega)) (callFunc_run Tryz.func70 rfl rfl) (by rintro r o rfl; rfl) (.refl _) rfl rfl ⟨_, rfl⟩ ?_
  refine ds_done tabOk rfl trivial ?_
  refine sat_call tabOk Tryz.func68 rfl trivial (flagN_call _) (.refl _) rfl ⟨_, rfl⟩ (by rintro r o rfl; rfl) ?_
  rintro r o rfl
  refine sat_ret tabOk Tryz.func68 rfl trivial ?_
  by_cases h : cnt x.testBit w = w
  · rw [if_pos h, h]; simp; rfl
  · have : ¬ ((cnt x.testBit w : Nat) : Int) = (w : Int) := by omega
    rw [if_neg h]
    simp [this]
    rfl
theorem redor_call (w x : Nat) (hx : x < 2 ^ w) (hwb : w ≤ 100000) : ACall Tryz.prog 71 [.d (vN w x)] [] (fun r o => r = .d (vN 1 (if 0 < cnt x.testBit w then 1 else 0))) := by
  refine acall_enter Tryz.func71 rfl rfl (Nat.le_of_ble_eq_true rfl) fun C hC hCl => ?_
  refine sat_call tabOk Tryz.func71 rfl trivial (ones_call w x hx (by omega)) (.refl _) rfl ⟨_, rfl⟩ (by rintro r o rfl; rfl) ?_
  rintro r o rfl
  refine sat_call tabOk Tryz.func71 rfl trivial (flagN_call _) (.refl _) rfl ⟨_, rfl⟩ (by rintro r o rfl; rfl) ?_
  rintro r o rfl
  refine sat_ret tabOk Tryz.func71 rfl trivial ?_
  by_cases h : 0 < cnt x.testBit w
  · have : ((cnt x.testBit w : Nat) : Int) > 0 := by omega
    rw [if_pos h]; simp [h]; rfl
  · have : ¬ ((cnt x.testBit w : Nat) : Int) > 0 := by omega
    rw [if_neg h]
    simp [h]
    rfl
theorem redxor_call (w x : Nat) (hx : x < 2 ^ w) (hwb : w ≤ 100000) : ACall Tryz.prog 72 [.d (vN w x)] [] (fun r o => r = .d (vN 1 (if cnt x.testBit w % 2 = 1 then 1 else 0))) := by
  refine acall_enter Tryz.func72 rfl rfl (Nat.le_of_ble_eq_true rfl) fun C hC hCl => ?_
  refine sat_call tabOk Tryz.func72 rfl trivial (ones_call w x hx (by omega)) (.refl _) rfl ⟨_, rfl⟩ (by rintro r o rfl; rfl) ?_
  rintro r o rfl
  refine sat_call tabOk Tryz.func72 rfl ⟨by decide, trivial⟩ (flagN_call _) (.refl _) rfl ⟨_, rfl⟩ (by rintro r o rfl; rfl) ?_
  rintro r o rfl
  refine sat_ret tabOk Tryz.func72 rfl trivial ?_
  have e : ((cnt x.testBit w : Nat) : Int).tmod 2 = ((cnt x.testBit w % 2 : Nat) : Int) := rfl
  have e2 : ((((cnt x.testBit w).cast : Int).tmod 2) == 1) = decide (cnt x.testBit w % 2 = 1) := by
    rw [e]
    by_cases h : cnt x.testBit w % 2 = 1
    · rw [h]; rfl
    · have h0 : cnt x.testBit w % 2 = 0 := by omega
      rw [h0]; rfl
  rw [e2]
  by_cases h : cnt x.testBit w % 2 = 1 <;> simp [h] <;> rfl
end Go.Proofs.YtclamogkchdkgaaGreatDoor
namespace Go.Proofs.YtclamogkchdkgaaGreatDoor
open Go Ab
set_option maxRecDepth 100000
set_option linter.unusedVariables false
set_option linter.unusedSimpArgs false

/-! ### the reference's concat -/
theorem bl_app (v w : Nat) (f g : Nat → Bool) : bl v f ++ bl w g = bl (v + w) (fun i => if i < v then f i else g (i - v)) := by
  refine List.ext_getElem (by simp [bl]) fun i h1 h2 => ?_
  simp only [bl, List.getElem_append, List.getElem_map, List.getElem_range, List.length_map, List.length_range]
  split
  · rename_i h
    simp [h]
  · rename_i h
    simp [h]

theorem rBin_cat (w x v y : Nat) (hwb : w ≤ 128) (hvb : v ≤ 128) (h : w + v ≤ 128) : ACall Tryz.prog 25 [vSL sConcat, .d (vN w x), .d (vN v y)] [] (fun r o => r = tupOf [.d (vN (w + v) (jnN w x v y)), vI .i64 0]) := by
  refine acall_enter Tryz.func25 rfl rfl (Nat.le_of_ble_eq_true rfl) fun C hC hCl => ?_
  have hpl : C.π.length = 0 := by rw [hCl, hC]; rfl
  have ew : IntKind.i64.wrap ((w : Int) + v) = ((w + v : Nat) : Int) := by rw [wrap_id (by omega) (by omega)]; omega
  refine sat_branch tabOk Tryz.func25 rfl trivial (fun _ => ?_) (fun hc => ?_)
  rotate_left
  · rw [show ((⟨#[99, 111, 110, 99, 97, 116]⟩ : ByteArray)) = ⟨sConcat.toArray⟩ from rfl, strE] at hc
    simp at hc
  refine sat_branch tabOk Tryz.func25 rfl trivial (fun hc => ?_) (fun _ => ?_)
  · have hc : decide (IntKind.i64.wrap ((w : Int) + v) > 128) = true := hc
    rw [ew] at hc
    simp only [decide_eq_true_eq] at hc
    omega
  refine sat_drawA 3 1 [(1, some (21, .gs 3))]
    (fun L => [some (bN w x), some (bN v y), some zV, some (sel 1 L (gBs (bl v y.testBit)) HD)]) _
    (objsF := [some (bN w x), some (bN v y), some zV, some (gBs (bl v y.testBit))])
    tabOk Tryz.func25 rfl rfl trivial (by kernel_rfl) (by kernel_rfl) ?_ ?_ ?_ rfl (fun L => ds_done tabOk rfl trivial rfl) ?_ ?_
  · rfl
  · intro L hL
    simp only [sel_yes (hL 1 (by decide))]
  · intro j L hb
    simp only [actB, List.any_cons, List.any_nil, Bool.or_false] at hb
    have n1 := Nat.ne_of_beq_eq_false hb
    simp only [sel_ne (fun e => n1 e.symm)]
  · refine List.forall_mem_cons.2 ⟨⟨_, rfl, rfl, ?_⟩, fun x h => by cases h⟩
    refine headH_new (p := 3) (a := .gs 0) (q0 := 1) (o1 := gBs (bl v y.testBit)) rfl rfl (fun _ _ _ h => h) (Bits_callO v y (by omega)) (callFunc_run Tryz.func43 rfl rfl) (by rintro r oz ⟨rfl, rfl⟩; exact ⟨rfl, rfl⟩) (.refl _) rfl rfl rfl rfl rfl rfl (by omega) ?_ ?_
    · intro L h
      show some (some (sel 1 L _ _)) = _
      rw [sel_no h]
    · intro L
      simp only [sel_self]
      rfl
  refine sat_call tabOk Tryz.func25 rfl trivial (Bits_call w x (by omega)) (.refl _) rfl ⟨_, rfl⟩ (by rintro r o rfl; rfl) ?_
  rintro r o rfl
  refine sat_callF [3] tabOk Tryz.func25 rfl ?_ rfl (Of_call (v + w) (fun i => if i < v then y.testBit i else x.testBit (i - v)) (by omega)) ⟨.eL ?_, trivial⟩ rfl ⟨_, rfl⟩ (by rintro r o rfl; rfl) ?_
  · simp only [List.length_map, bl_len, andP]
    exact ⟨by show (v + w) * 1 ≤ 140737488355328; omega, trivial⟩
  · rw [← bl_app, List.map_append]
  rintro r o rfl
  refine sat_ret tabOk Tryz.func25 rfl trivial ?_
  rw [jnN, Nat.add_comm w v]
  rfl
theorem rBin_catNo (w x v y : Nat) (hwb : w ≤ 128) (hvb : v ≤ 128) (h : ¬ w + v ≤ 128) : ACall Tryz.prog 25 [vSL sConcat, .d (vN w x), .d (vN v y)] [] (fun r o => r = tupOf [.d z24, vI .i64 5]) := by
  refine acall_enter Tryz.func25 rfl rfl (Nat.le_of_ble_eq_true rfl) fun C hC hCl => ?_
  have ew : IntKind.i64.wrap ((w : Int) + v) = ((w + v : Nat) : Int) := by rw [wrap_id (by omega) (by omega)]; omega
  refine sat_branch tabOk Tryz.func25 rfl trivial (fun _ => ?_) (fun hc => ?_)
  rotate_left
  · rw [show ((⟨#[99, 111, 110, 99, 97, 116]⟩ : ByteArray)) = ⟨sConcat.toArray⟩ from rfl, strE] at hc
    simp at hc
  refine sat_branch tabOk Tryz.func25 rfl trivial (fun _ => ?_) (fun hc => ?_)
  · exact sat_ret tabOk Tryz.func25 rfl trivial rfl
  · have hc : decide (IntKind.i64.wrap ((w : Int) + v) > 128) = false := hc
    rw [ew] at hc
    simp only [decide_eq_false_iff_not] at hc
    omega
end Go.Proofs.YtclamogkchdkgaaGreatDoor
namespace Go.Proofs.YtclamogkchdkgaaGreatDoor
open Go Ab
set_option maxRecDepth 100000
set_option linter.unusedVariables false
set_option linter.unusedSimpArgs false
set_option maxHeartbeats 400000

/-! ### Un and Bin at any word -/
theorem onN_cnt (w x : Nat) : onN w x = cnt x.testBit w := cnt_count _ _
theorem assoc_ne {k j : List UInt8} {a : AV} {r : List (List UInt8 × AV)} (h : ¬ k = j) : assocK k ((j, a) :: r) = assocK k r := by
  rw [assocK, if_neg fun e => h e.symm]
theorem Un_all (op : List UInt8) (w x : Nat) (hx : x < 2 ^ w) (hw : 0 < w) (hwb : w ≤ 128) : ACall Tryz.prog 22 [vSL op, .d (vN w x)] [] (fun r o => r = unR op w x) := by
  have hdec := dec_call w x hw (by omega)
  have hp : 2 ≤ 2 ^ w := by
    have := Nat.pow_le_pow_right (n := 2) (by decide) hw
    rwa [Nat.pow_one] at this
  rw [show x + (2 ^ w - (1 + 1)) + 1 = x + (2 ^ w - 1) by omega] at hdec
  unfold unR
  rw [onN_cnt]
  by_cases h0 : op = sNot
  · rw [if_pos h0]
    subst h0
    exact Un_fn sNot _ w x _ _ rfl (turnedN_call w x hx hw (by omega))
  by_cases h1 : op = sInc
  · rw [if_neg h0, if_pos h1]
    subst h1
    exact Un_cl sInc _ w x _ _ rfl (inc_call w x hw (by omega))
  by_cases h2 : op = sDec
  · rw [if_neg h0, if_neg h1, if_pos h2]
    subst h2
    exact Un_cl sDec _ w x _ _ rfl (hdec)
  by_cases h3 : op = sNeg
  · rw [if_neg h0, if_neg h1, if_neg h2, if_pos h3]
    subst h3
    exact Un_fn sNeg _ w x _ _ rfl (neg_call w x hx hw (by omega))
  by_cases h4 : op = sRedand
  · rw [if_neg h0, if_neg h1, if_neg h2, if_neg h3, if_pos h4]
    subst h4
    exact Un_fn sRedand _ w x _ _ rfl (redand_call w x hx (by omega))
  by_cases h5 : op = sRedor
  · rw [if_neg h0, if_neg h1, if_neg h2, if_neg h3, if_neg h4, if_pos h5]
    subst h5
    exact Un_fn sRedor _ w x _ _ rfl (redor_call w x hx (by omega))
  by_cases h6 : op = sRedxor
  · rw [if_neg h0, if_neg h1, if_neg h2, if_neg h3, if_neg h4, if_neg h5, if_pos h6]
    subst h6
    exact Un_fn sRedxor _ w x _ _ rfl (redxor_call w x hx (by omega))
  rw [if_neg h0, if_neg h1, if_neg h2, if_neg h3, if_neg h4, if_neg h5, if_neg h6]
  refine Un_no op w x ?_
  unfold unsE
  rw [assoc_ne h0, assoc_ne h1, assoc_ne h2, assoc_ne h3, assoc_ne h4, assoc_ne h5, assoc_ne h6]
  rfl
theorem Bin_all (op : List UInt8) (w x y : Nat) (hc : op ≠ sConcat) (hx : x < 2 ^ w) (hy : y < 2 ^ w) (hw : 0 < w) (hwb : w ≤ 128) : ACall Tryz.prog 24 [vSL op, .d (vN w x), .d (vN w y)] [] (fun r o => r = rbinA (binR op w x y)) := by
  unfold binR
  by_cases h0 : op = sAnd
  · rw [if_pos h0]
    subst h0
    exact Bin_fn sAnd _ w x y _ _ hc rfl (andN_call w x y hx hw (by omega))
  by_cases h1 : op = sOr
  · rw [if_neg h0, if_pos h1]
    subst h1
    exact Bin_fn sOr _ w x y _ _ hc rfl (orN_call w x y hx hy hw (by omega))
  by_cases h2 : op = sXor
  · rw [if_neg h0, if_neg h1, if_pos h2]
    subst h2
    exact Bin_fn sXor _ w x y _ _ hc rfl (xorN_call w x y hx hy hw (by omega))
  by_cases h3 : op = sAdd
  · rw [if_neg h0, if_neg h1, if_neg h2, if_pos h3]
    subst h3
    exact Bin_fn sAdd _ w x y _ _ hc rfl (add_call w x y hw (by omega))
  by_cases h4 : op = sSub
  · rw [if_neg h0, if_neg h1, if_neg h2, if_neg h3, if_pos h4]
    subst h4
    exact Bin_fn sSub _ w x y _ _ hc rfl (sub_call w x y hy hw (by omega))
  by_cases h5 : op = sMul
  · rw [if_neg h0, if_neg h1, if_neg h2, if_neg h3, if_neg h4, if_pos h5]
    subst h5
    exact Bin_fn sMul _ w x y _ _ hc rfl (productN_call w x y hy hw (by omega))
  by_cases h6 : op = sUdiv
  · rw [if_neg h0, if_neg h1, if_neg h2, if_neg h3, if_neg h4, if_neg h5, if_pos h6]
    subst h6
    exact Bin_fn sUdiv _ w x y _ _ hc rfl (udiv_call w x y hx hy hw (by omega))
  by_cases h7 : op = sUrem
  · rw [if_neg h0, if_neg h1, if_neg h2, if_neg h3, if_neg h4, if_neg h5, if_neg h6, if_pos h7]
    subst h7
    exact Bin_fn sUrem _ w x y _ _ hc rfl (urem_call w x y hx hy hw (by omega))
  by_cases h8 : op = sSll
  · rw [if_neg h0, if_neg h1, if_neg h2, if_neg h3, if_neg h4, if_neg h5, if_neg h6, if_neg h7, if_pos h8]
    subst h8
    exact Bin_fn sSll _ w x y _ _ hc rfl (sll_call w x y hy hw hwb)
  by_cases h9 : op = sSrl
  · rw [if_neg h0, if_neg h1, if_neg h2, if_neg h3, if_neg h4, if_neg h5, if_neg h6, if_neg h7, if_neg h8, if_pos h9]
    subst h9
    exact Bin_fn sSrl _ w x y _ _ hc rfl (srl_call w x y hy hw hwb)
  by_cases h10 : op = sSra
  · rw [if_neg h0, if_neg h1, if_neg h2, if_neg h3, if_neg h4, if_neg h5, if_neg h6, if_neg h7, if_neg h8, if_neg h9, if_pos h10]
    subst h10
    exact Bin_fn sSra _ w x y _ _ hc rfl (sra_call w x y hy hw hwb)
  by_cases h11 : op = sEq
  · rw [if_neg h0, if_neg h1, if_neg h2, if_neg h3, if_neg h4, if_neg h5, if_neg h6, if_neg h7, if_neg h8, if_neg h9, if_neg h10, if_pos h11]
    subst h11
    exact Bin_fn sEq _ w x y _ _ hc rfl (eq_call w x y hx hy)
  by_cases h12 : op = sUlt
  · rw [if_neg h0, if_neg h1, if_neg h2, if_neg h3, if_neg h4, if_neg h5, if_neg h6, if_neg h7, if_neg h8, if_neg h9, if_neg h10, if_neg h11, if_pos h12]
    subst h12
    exact Bin_fn sUlt _ w x y _ _ hc rfl (ult_call w x y hx hy hw (by omega))
  by_cases h13 : op = sSlt
  · rw [if_neg h0, if_neg h1, if_neg h2, if_neg h3, if_neg h4, if_neg h5, if_neg h6, if_neg h7, if_neg h8, if_neg h9, if_neg h10, if_neg h11, if_neg h12, if_pos h13]
    subst h13
    exact Bin_cl sSlt _ w x y _ _ hc rfl (slt_call w x y hx hy hw (by omega))
  rw [if_neg h0, if_neg h1, if_neg h2, if_neg h3, if_neg h4, if_neg h5, if_neg h6, if_neg h7, if_neg h8, if_neg h9, if_neg h10, if_neg h11, if_neg h12, if_neg h13]
  refine Bin_no op z24 z24 w w _ _ hc ?_
  unfold binsE
  rw [assoc_ne h0, assoc_ne h1, assoc_ne h2, assoc_ne h3, assoc_ne h4, assoc_ne h5, assoc_ne h6, assoc_ne h7, assoc_ne h8, assoc_ne h9, assoc_ne h10, assoc_ne h11, assoc_ne h12, assoc_ne h13]
  rfl
theorem binK_assoc (op : List UInt8) : (∃ f g, (f = fnV g ∨ f = .fn (.func g) [.ptr 1 0]) ∧ assocK op binsE = some f ∧ binK op = true) ∨ (assocK op binsE = none ∧ binK op = false) := by
  by_cases h0 : op = sAnd
  · subst h0
    exact .inl ⟨_, _, .inl rfl, rfl, rfl⟩
  by_cases h1 : op = sOr
  · subst h1
    exact .inl ⟨_, _, .inl rfl, rfl, rfl⟩
  by_cases h2 : op = sXor
  · subst h2
    exact .inl ⟨_, _, .inl rfl, rfl, rfl⟩
  by_cases h3 : op = sAdd
  · subst h3
    exact .inl ⟨_, _, .inl rfl, rfl, rfl⟩
  by_cases h4 : op = sSub
  · subst h4
    exact .inl ⟨_, _, .inl rfl, rfl, rfl⟩
  by_cases h5 : op = sMul
  · subst h5
    exact .inl ⟨_, _, .inl rfl, rfl, rfl⟩
  by_cases h6 : op = sUdiv
  · subst h6
    exact .inl ⟨_, _, .inl rfl, rfl, rfl⟩
  by_cases h7 : op = sUrem
  · subst h7
    exact .inl ⟨_, _, .inl rfl, rfl, rfl⟩
  by_cases h8 : op = sSll
  · subst h8
    exact .inl ⟨_, _, .inl rfl, rfl, rfl⟩
  by_cases h9 : op = sSrl
  · subst h9
    exact .inl ⟨_, _, .inl rfl, rfl, rfl⟩
  by_cases h10 : op = sSra
  · subst h10
    exact .inl ⟨_, _, .inl rfl, rfl, rfl⟩
  by_cases h11 : op = sEq
  · subst h11
    exact .inl ⟨_, _, .inl rfl, rfl, rfl⟩
  by_cases h12 : op = sUlt
  · subst h12
    exact .inl ⟨_, _, .inl rfl, rfl, rfl⟩
  by_cases h13 : op = sSlt
  · subst h13
    exact .inl ⟨_, _, .inr rfl, rfl, rfl⟩
  right
  constructor
  · unfold binsE
    rw [assoc_ne h0, assoc_ne h1, assoc_ne h2, assoc_ne h3, assoc_ne h4, assoc_ne h5, assoc_ne h6, assoc_ne h7, assoc_ne h8, assoc_ne h9, assoc_ne h10, assoc_ne h11, assoc_ne h12, assoc_ne h13]
    rfl
  · unfold binK binR
    rw [if_neg h0, if_neg h1, if_neg h2, if_neg h3, if_neg h4, if_neg h5, if_neg h6, if_neg h7, if_neg h8, if_neg h9, if_neg h10, if_neg h11, if_neg h12, if_neg h13]
    rfl
theorem Un_both (op : List UInt8) (w x : Nat) (hx : x < 2 ^ w) (hw : 0 < w) (hwb : w ≤ 128) : ∃ (w' : Int) (q : D) (l' : List Nat) (f : Int), ACall Tryz.prog 22 [vSL op, .d (vN w x)] [] (fun r o => r = tupOf [.d (cutD w' q), vI .i64 f]) ∧ ACall Tryz.prog 23 [vSL op, .d (vN w x)] [] (fun r o => r = tupOf [.d (cutD w' q), vI .i64 f]) ∧ VLe (.d (cutD w' q)) (.d (eV w' l')) ∧ l'.length ≤ 1000 := by
  have a := Un_all op w x hx hw hwb
  have b := rUn_call op w x hx hw hwb
  have key : (∃ w' x' : Nat, w' ≤ 128 ∧ unR op w x = tupOf [.d (vN w' x'), vI .i64 0]) ∨ unR op w x = tupOf [.d z24, vI .i64 1] := by
    unfold unR
    split
    · exact .inl ⟨_, _, hwb, rfl⟩
    split
    · exact .inl ⟨_, _, hwb, rfl⟩
    split
    · exact .inl ⟨_, _, hwb, rfl⟩
    split
    · exact .inl ⟨_, _, hwb, rfl⟩
    split
    · exact .inl ⟨1, _, by decide, rfl⟩
    split
    · exact .inl ⟨1, _, by decide, rfl⟩
    split
    · exact .inl ⟨1, _, by decide, rfl⟩
    exact .inr rfl
  rcases key with ⟨w', x', h1, h2⟩ | h2
  · rw [h2] at a b
    exact ⟨w', _, _, 0, a, b, .refl _, vlen _ _ h1⟩
  · rw [h2] at a b
    exact ⟨0, .v (.slice none 0 0), [], 1, a, b, z24_le, by simp⟩
theorem Bin_both (op : List UInt8) (w x v y : Nat) (hx : x < 2 ^ w) (hw : 0 < w) (hwb : w ≤ 128) (hy : y < 2 ^ v) (hv : 0 < v) (hvb : v ≤ 128) : ∃ (w' : Int) (q : D) (l' : List Nat) (f : Int), ACall Tryz.prog 24 [vSL op, .d (vN w x), .d (vN v y)] [] (fun r o => r = tupOf [.d (cutD w' q), vI .i64 f]) ∧ ACall Tryz.prog 25 [vSL op, .d (vN w x), .d (vN v y)] [] (fun r o => r = tupOf [.d (cutD w' q), vI .i64 f]) ∧ VLe (.d (cutD w' q)) (.d (eV w' l')) ∧ l'.length ≤ 1000 := by
  by_cases hc : op = sConcat
  · subst hc
    by_cases h : w + v ≤ 128
    · exact ⟨_, _, _, 0, Bin_cat w x v y hw hv hwb hvb h, rBin_cat w x v y hwb hvb h, .refl _, vlen _ _ h⟩
    · exact ⟨0, .v (.slice none 0 0), [], 5, Bin_catNo w x v y hw hv hwb hvb h, rBin_catNo w x v y hwb hvb h, z24_le, by simp⟩
  by_cases hne : w = v
  · subst hne
    have a := Bin_all op w x y hc hx hy hw hwb
    have b := rBin_call op w x y hc hx hy hw hwb
    cases hr : binR op w x y with
    | none =>
      rw [hr] at a b
      exact ⟨0, .v (.slice none 0 0), [], 1, a, b, z24_le, by simp⟩
    | some p =>
      have hl := (binR_lt hx hy hr).2
      rw [hr] at a b
      exact ⟨_, _, _, 0, a, b, .refl _, vlen _ _ (by omega)⟩
  · have b := rBin_ne op w v x y hne hc
    rcases binK_assoc op with ⟨f, g, hf, h1, h2⟩ | ⟨h1, h2⟩
    · rw [if_pos h2] at b
      exact ⟨0, .v (.slice none 0 0), [], 5, Bin_ne op f g hf w v _ _ hne hc h1, b, z24_le, by simp⟩
    · rw [if_neg (by simp [h2])] at b
      exact ⟨0, .v (.slice none 0 0), [], 1, Bin_no op z24 z24 w v _ _ hc h1, b, z24_le, by simp⟩
end Go.Proofs.YtclamogkchdkgaaGreatDoor
namespace Go.Proofs.YtclamogkchdkgaaGreatDoor
open Go Ab
set_option maxRecDepth 100000
set_option linter.unusedVariables false
set_option linter.unusedSimpArgs false
set_option maxHeartbeats 400000

theorem VecReckons_law (op : List UInt8) (w v : Int) (l k : List Nat) (hl : lims l) (hk : lims k) (hll : l.length ≤ maxLen) (hkl : k.length ≤ maxLen) : ACall Tryz.prog 4 [vSL op, .d (.ag [eI w, eUs l]), .d (.ag [eI v, eUs k])] [] (fun r o => r = vB true) := by
  refine acall_enter Tryz.func4 rfl rfl (Nat.le_of_ble_eq_true rfl) fun C hC hCl => ?_
  refine sat_call tabOk Tryz.func4 rfl trivial shown_call (.refl _) rfl ⟨_, rfl⟩ (by rintro r o rfl; rfl) ?_
  rintro r o rfl
  refine sat_le (env' := [(0, vSL op), (4, .ptr 0 0), (5, .ptr 1 0), (16, vB true)]) (objs' := [some (bV w l), some (bV v k)]) ?_ hC hCl ⟨⟨_, rfl, .refl _⟩, ⟨_, rfl, .refl _⟩, ⟨_, rfl, .refl _⟩, ⟨_, rfl, .refl _⟩, trivial⟩ ⟨.refl _, .refl _, trivial⟩ rfl rfl (Nat.zero_le _)
  refine sat_call tabOk Tryz.func4 rfl trivial (rRight_call w l hl hll) (.refl _) rfl ⟨_, rfl⟩ (by rintro r o rfl; rfl) ?_
  rintro r o rfl
  refine sat_branch tabOk Tryz.func4 rfl trivial (fun h1 => ?_) (fun h1 => ?_)
  · refine sat_branch tabOk Tryz.func4 rfl trivial (fun _ => ?_) (fun h => by cases h)
    exact sat_ret tabOk Tryz.func4 rfl trivial rfl
  refine sat_call tabOk Tryz.func4 rfl trivial (rRight_call v k hk hkl) (.refl _) rfl ⟨_, rfl⟩ (by rintro r o rfl; rfl) ?_
  rintro r o rfl
  refine sat_branch tabOk Tryz.func4 rfl trivial (fun h2 => ?_) (fun h2 => ?_)
  · exact sat_ret tabOk Tryz.func4 rfl trivial rfl
  have r1 : rightV w l = true := by cases h : rightV w l with | true => rfl | false => rw [h] at h1; cases h1
  have r2 : rightV v k = true := by cases h : rightV v k with | true => rfl | false => rw [h] at h2; cases h2
  obtain ⟨n, x, rfl, n1, n2, hx, rfl⟩ := right_lmb hl r1
  obtain ⟨p, y, rfl, p1, p2, hy, rfl⟩ := right_lmb hk r2
  obtain ⟨wa, qa, la, fa, a1, a2, a3, a4⟩ := Un_both op n x hx (by omega) n2
  obtain ⟨wb, qb, lb, fb, b1, b2, b3, b4⟩ := Bin_both op n x p y hx (by omega) n2 hy (by omega) p2
  refine sat_call tabOk Tryz.func4 rfl trivial a1 (.refl _) rfl ⟨_, rfl⟩ (by rintro r o rfl; rfl) ?_
  rintro r o rfl
  refine sat_le (env' := [(0, vSL op), (4, .ptr 0 0), (5, .ptr 1 0), (7, vB true), (29, tupOf [.d (cutD wa qa), vI .i64 fa])]) (objs' := [some (bN n x), some (bN p y)]) ?_ hC hCl ⟨⟨_, rfl, .refl _⟩, ⟨_, rfl, .refl _⟩, ⟨_, rfl, .refl _⟩, ⟨_, rfl, .refl _⟩, ⟨_, rfl, .refl _⟩, trivial⟩ ⟨.refl _, .refl _, trivial⟩ rfl rfl (Nat.zero_le _)
  refine sat_call tabOk Tryz.func4 rfl trivial a2 (.refl _) rfl ⟨_, rfl⟩ (by rintro r o rfl; rfl) ?_
  rintro r o rfl
  refine sat_le (env' := [(0, vSL op), (4, .ptr 0 0), (5, .ptr 1 0), (7, vB true), (8, .ptr 2 0), (9, vI .i64 fa), (35, tupOf [.d (cutD wa qa), vI .i64 fa])]) (objs' := [some (bN n x), some (bN p y), some (cD wa qa)]) ?_ hC hCl ⟨⟨_, rfl, .refl _⟩, ⟨_, rfl, .refl _⟩, ⟨_, rfl, .refl _⟩, ⟨_, rfl, .refl _⟩, ⟨_, rfl, .refl _⟩, ⟨_, rfl, .refl _⟩, ⟨_, rfl, .refl _⟩, trivial⟩ ⟨.refl _, .refl _, .refl _, trivial⟩ rfl rfl (Nat.zero_le _)
  refine sat_call tabOk Tryz.func4 rfl trivial b1 (.refl _) rfl ⟨_, rfl⟩ (by rintro r o rfl; rfl) ?_
  rintro r o rfl
  refine sat_le (env' := [(0, vSL op), (4, .ptr 0 0), (5, .ptr 1 0), (7, vB true), (8, .ptr 2 0), (9, vI .i64 fa), (10, .ptr 3 0), (11, vI .i64 fa), (42, tupOf [.d (cutD wb qb), vI .i64 fb])]) (objs' := [some (bN n x), some (bN p y), some (cD wa qa), some (cD wa qa)]) ?_ hC hCl ⟨⟨_, rfl, .refl _⟩, ⟨_, rfl, .refl _⟩, ⟨_, rfl, .refl _⟩, ⟨_, rfl, .refl _⟩, ⟨_, rfl, .refl _⟩, ⟨_, rfl, .refl _⟩, ⟨_, rfl, .refl _⟩, ⟨_, rfl, .refl _⟩, ⟨_, rfl, .refl _⟩, trivial⟩ ⟨.refl _, .refl _, .refl _, .refl _, trivial⟩ rfl rfl (Nat.zero_le _)
  refine sat_call tabOk Tryz.func4 rfl trivial b2 (.refl _) rfl ⟨_, rfl⟩ (by rintro r o rfl; rfl) ?_
  rintro r o rfl
  refine sat_le (env' := [(0, vSL op), (4, .ptr 0 0), (5, .ptr 1 0), (7, vB true), (8, .ptr 2 0), (9, vI .i64 fa), (10, .ptr 3 0), (11, vI .i64 fa), (12, .ptr 4 0), (13, vI .i64 fb), (49, tupOf [.d (cutD wb qb), vI .i64 fb])]) (objs' := [some (bN n x), some (bN p y), some (cD wa qa), some (cD wa qa), some (cD wb qb)]) ?_ hC hCl ⟨⟨_, rfl, .refl _⟩, ⟨_, rfl, .refl _⟩, ⟨_, rfl, .refl _⟩, ⟨_, rfl, .refl _⟩, ⟨_, rfl, .refl _⟩, ⟨_, rfl, .refl _⟩, ⟨_, rfl, .refl _⟩, ⟨_, rfl, .refl _⟩, ⟨_, rfl, .refl _⟩, ⟨_, rfl, .refl _⟩, ⟨_, rfl, .refl _⟩, trivial⟩ ⟨.refl _, .refl _, .refl _, .refl _, .refl _, trivial⟩ rfl rfl (Nat.zero_le _)
  refine sat_branch tabOk Tryz.func4 rfl trivial (fun _ => ?_) (fun h => by cases h)
  refine sat_call tabOk Tryz.func4 rfl trivial (rSame_call wa wa la la (by omega)) ⟨a3, a3, trivial⟩ rfl ⟨_, rfl⟩ (by rintro r o rfl; rfl) ?_
  rintro r o rfl
  rw [sameV_self]
  refine sat_branch tabOk Tryz.func4 rfl trivial (fun _ => ?_) (fun h => by cases h)
  refine sat_branch tabOk Tryz.func4 rfl trivial (fun _ => ?_) (fun h => by simp at h)
  refine sat_call tabOk Tryz.func4 rfl trivial (rSame_call wb wb lb lb (by omega)) ⟨b3, b3, trivial⟩ rfl ⟨_, rfl⟩ (by rintro r o rfl; rfl) ?_
  rintro r o rfl
  rw [sameV_self]
  refine sat_branch tabOk Tryz.func4 rfl trivial (fun _ => ?_) (fun h => by cases h)
  refine sat_ret tabOk Tryz.func4 rfl trivial ?_
  show vB (fb == fb) = _
  simp
end Go.Proofs.YtclamogkchdkgaaGreatDoor
namespace Go.Proofs.YtclamogkchdkgaaGreatDoor
open Go Ab
set_option maxRecDepth 100000
set_option linter.unusedVariables false
set_option linter.unusedSimpArgs false
set_option maxHeartbeats 1000000

theorem ring1 (M x y z : Nat) : (x + (y + z) % M) % M = ((x + y) % M + z) % M := by
  rw [Nat.add_mod_mod, Nat.mod_add_mod, Nat.add_assoc]
theorem ring2 (M x y z : Nat) : x * (y * z % M) % M = x * y % M * z % M := by
  rw [Nat.mul_mod_mod, Nat.mod_mul_mod, Nat.mul_assoc]
theorem ring3 (M x y z : Nat) : (x * z % M + y * z % M) % M = (x + y) % M * z % M := by
  rw [Nat.mod_mul_mod, Nat.add_mul, ← Nat.add_mod]
theorem ring4 {M x : Nat} (hx : x < M) : (x + (M - (x + 1)) + 1) % M = 0 := by
  rw [show x + (M - (x + 1)) + 1 = M by omega, Nat.mod_self]
theorem ring5 {M x y : Nat} (hx : x < M) (hy : y < M) : ((x + y) % M + (M - (y + 1)) + 1) % M = x := by
  rw [show (x + y) % M + (M - (y + 1)) + 1 = (x + y) % M + (M - y) by omega, Nat.mod_add_mod, show x + y + (M - y) = x + M by omega, Nat.add_mod_right, Nat.mod_eq_of_lt hx]
theorem ring6 {n x y : Nat} (hx : x < 2 ^ n) (hy : y ≠ 0) : (quN n x y * y % 2 ^ n + reN x y) % 2 ^ n = x := by
  rw [quN, reN, if_neg hy, if_neg hy, Nat.mod_add_mod, Nat.mul_comm, Nat.div_add_mod, Nat.mod_eq_of_lt hx]
theorem ring7 {x y : Nat} (hy : y ≠ 0) : reN x y < y := by
  rw [reN, if_neg hy]
  exact Nat.mod_lt _ (by omega)
theorem ring8 {n x y : Nat} (hx : x < 2 ^ n) : reN x y < 2 ^ n := Nat.lt_of_le_of_lt (reN_le _ _) hx

theorem rRightN_call (w x : Nat) (hx : x < 2 ^ w) (h1 : 1 ≤ w) (h2 : w ≤ 128) : ACall Tryz.prog 14 [.d (vN w x)] [] (fun r o => r = vB true) := by
  have := rRight_call w (lmb (limbsN w) x) (lmb_lims _ _) (by rw [lmb_len]; unfold limbsN maxLen; omega)
  rwa [right_of_lmb h1 h2 hx] at this

theorem VecRing_law (w v u : Int) (l k m : List Nat) (hl : lims l) (hk : lims k) (hm : lims m) (hll : l.length ≤ maxLen) (hkl : k.length ≤ maxLen) (hml : m.length ≤ maxLen) : ACall Tryz.prog 6 [.d (.ag [eI w, eUs l]), .d (.ag [eI v, eUs k]), .d (.ag [eI u, eUs m])] [] (fun r o => r = vB true) := by
  refine acall_enter Tryz.func6 rfl rfl (Nat.le_of_ble_eq_true rfl) fun C hC hCl => ?_
  refine sat_call tabOk Tryz.func6 rfl trivial shown_call (.refl _) rfl ⟨_, rfl⟩ (by rintro r o rfl; rfl) ?_
  rintro r o rfl
  refine sat_le (env' := [(3, .ptr 0 0), (4, .ptr 1 0), (5, .ptr 2 0), (15, vB true)]) (objs' := [some (bV w l), some (bV v k), some (bV u m)]) ?_ hC hCl ⟨⟨_, rfl, .refl _⟩, ⟨_, rfl, .refl _⟩, ⟨_, rfl, .refl _⟩, ⟨_, rfl, .refl _⟩, trivial⟩ ⟨.refl _, .refl _, .refl _, trivial⟩ rfl rfl (Nat.zero_le _)
  refine sat_call tabOk Tryz.func6 rfl trivial (rRight_call w l hl hll) (.refl _) rfl ⟨_, rfl⟩ (by rintro r o rfl; rfl) ?_
  rintro r o rfl
  refine sat_branch tabOk Tryz.func6 rfl trivial (fun h1 => ?_) (fun h1 => ?_)
  · refine sat_branch tabOk Tryz.func6 rfl trivial (fun _ => ?_) (fun h => by cases h)
    refine sat_branch tabOk Tryz.func6 rfl trivial (fun _ => ?_) (fun h => by cases h)
    refine sat_branch tabOk Tryz.func6 rfl trivial (fun _ => ?_) (fun h => by cases h)
    refine sat_branch tabOk Tryz.func6 rfl trivial (fun _ => ?_) (fun h => by cases h)
    exact sat_ret tabOk Tryz.func6 rfl trivial rfl
  refine sat_call tabOk Tryz.func6 rfl trivial (rRight_call v k hk hkl) (.refl _) rfl ⟨_, rfl⟩ (by rintro r o rfl; rfl) ?_
  rintro r o rfl
  refine sat_branch tabOk Tryz.func6 rfl trivial (fun h2 => ?_) (fun h2 => ?_)
  · refine sat_branch tabOk Tryz.func6 rfl trivial (fun _ => ?_) (fun h => by cases h)
    refine sat_branch tabOk Tryz.func6 rfl trivial (fun _ => ?_) (fun h => by cases h)
    refine sat_branch tabOk Tryz.func6 rfl trivial (fun _ => ?_) (fun h => by cases h)
    exact sat_ret tabOk Tryz.func6 rfl trivial rfl
  refine sat_call tabOk Tryz.func6 rfl trivial (rRight_call u m hm hml) (.refl _) rfl ⟨_, rfl⟩ (by rintro r o rfl; rfl) ?_
  rintro r o rfl
  refine sat_branch tabOk Tryz.func6 rfl trivial (fun h3 => ?_) (fun h3 => ?_)
  · refine sat_branch tabOk Tryz.func6 rfl trivial (fun _ => ?_) (fun h => by cases h)
    refine sat_branch tabOk Tryz.func6 rfl trivial (fun _ => ?_) (fun h => by cases h)
    exact sat_ret tabOk Tryz.func6 rfl trivial rfl
  have r1 : rightV w l = true := by cases h : rightV w l with | true => rfl | false => rw [h] at h1; cases h1
  have r2 : rightV v k = true := by cases h : rightV v k with | true => rfl | false => rw [h] at h2; cases h2
  have r3 : rightV u m = true := by cases h : rightV u m with | true => rfl | false => rw [h] at h3; cases h3
  obtain ⟨n, x, rfl, n1, n2, hx, rfl⟩ := right_lmb hl r1
  obtain ⟨p, y, rfl, p1, p2, hy, rfl⟩ := right_lmb hk r2
  obtain ⟨q, z, rfl, q1, q2, hz, rfl⟩ := right_lmb hm r3
  refine sat_branch tabOk Tryz.func6 rfl trivial (fun h4 => ?_) (fun h4 => ?_)
  · refine sat_branch tabOk Tryz.func6 rfl trivial (fun _ => ?_) (fun h => by cases h)
    exact sat_ret tabOk Tryz.func6 rfl trivial rfl
  have h4 : ((n : Int) != (p : Int)) = false := h4
  simp at h4
  obtain rfl : n = p := by omega
  refine sat_branch tabOk Tryz.func6 rfl trivial (fun h5 => ?_) (fun h5 => ?_)
  · exact sat_ret tabOk Tryz.func6 rfl trivial rfl
  have h5 : ((n : Int) != (q : Int)) = false := h5
  simp at h5
  obtain rfl : n = q := by omega
  have hp := Nat.two_pow_pos n
  have hn0 : 0 < n := by omega
  have hn6 : n ≤ 1000000 := by omega
  have hn5 : n ≤ 100000 := by omega
  have md : ∀ a, a % 2 ^ n < 2 ^ n := fun a => Nat.mod_lt _ hp
  have ad : ∀ a b, ACall Tryz.prog 32 [vSL sAdd, .d (vN n a), .d (vN n b)] [] (fun r o => r = .d (vN n ((a + b) % 2 ^ n))) := fun a b => of_call sAdd n a n b n _ 0 (Bin_fn sAdd _ n a b n _ (by decide) rfl (add_call n a b hn0 hn6))
  have mu : ∀ a b, b < 2 ^ n → ACall Tryz.prog 32 [vSL sMul, .d (vN n a), .d (vN n b)] [] (fun r o => r = .d (vN n (a * b % 2 ^ n))) := fun a b hb => of_call sMul n a n b n _ 0 (Bin_fn sMul _ n a b n _ (by decide) rfl (productN_call n a b hb hn0 hn5))
  have su : ∀ a b, b < 2 ^ n → ACall Tryz.prog 32 [vSL sSub, .d (vN n a), .d (vN n b)] [] (fun r o => r = .d (vN n ((a + (2 ^ n - (b + 1)) + 1) % 2 ^ n))) := fun a b hb => of_call sSub n a n b n _ 0 (Bin_fn sSub _ n a b n _ (by decide) rfl (sub_call n a b hb hn0 hn6))
  have sm : ∀ a, a < 2 ^ n → ACall Tryz.prog 16 [.d (vN n a), .d (vN n a)] [] (fun r o => r = vB true) := fun a ha => by
    have := rSameN_call n a n a ha ha (by omega)
    rwa [decide_eq_true (rfl : n = n), decide_eq_true (rfl : a = a)] at this
  have c1 := ad x y
  have c2 := mu x y hy
  have c3 := ad y x
  rw [Nat.add_comm y x] at c3
  have c4 := mu y x hx
  rw [Nat.mul_comm y x] at c4
  have c5 := ad ((x + y) % 2 ^ n) z
  have c6 := ad y z
  have c7 := ad x ((y + z) % 2 ^ n)
  rw [ring1] at c7
  have c8 := mu (x * y % 2 ^ n) z hz
  have c9 := mu y z hz
  have c10 := mu x (y * z % 2 ^ n) (md _)
  rw [ring2] at c10
  have c11 := mu ((x + y) % 2 ^ n) z hz
  have c12 := mu x z hz
  have c13 := ad (x * z % 2 ^ n) (y * z % 2 ^ n)
  rw [ring3] at c13
  have c14 := of_call sUdiv n x n y n _ 0 (Bin_fn sUdiv _ n x y n _ (by decide) rfl (udiv_call n x y hx hy hn0 hn5))
  have c15 := of_call sUrem n x n y n _ 0 (Bin_fn sUrem _ n x y n _ (by decide) rfl (urem_call n x y hx hy hn0 hn5))
  have c16 := su x x hx
  rw [ring4 hx] at c16
  have c17 := Un_fn sNot _ n 0 n _ rfl (turnedN_call n 0 hp hn0 hn6)
  have c18 := su ((x + y) % 2 ^ n) y hy
  rw [ring5 hx hy] at c18
  have c19 := mu (quN n x y) y hy
  have c20 := ad (quN n x y * y % 2 ^ n) (reN x y)
  have c21 := of_call sUlt n (reN x y) n y 1 _ 0 (Bin_fn sUlt _ n (reN x y) y 1 _ (by decide) rfl (ult_call n (reN x y) y (ring8 hx) hy hn0 hn5))
  have t1 := rRightN_call n ((x + y) % 2 ^ n) (md _) n1 n2
  have t2 := rRightN_call n (x * y % 2 ^ n) (md _) n1 n2
  have l1 := md (x + y)
  have l2 := md (x * y)
  have l3 := md ((x + y) % 2 ^ n + z)
  have l4 := md (x * y % 2 ^ n * z)
  have l5 := md ((x + y) % 2 ^ n * z)
  have e1 : y = 0 → quN n x y = 2 ^ n - (0 + 1) ∧ reN x y = x := fun h => by rw [quN, reN, if_pos h, if_pos h]; exact ⟨rfl, rfl⟩
  have e2 : y ≠ 0 → (quN n x y * y % 2 ^ n + reN x y) % 2 ^ n = x ∧ reN x y < y := fun h => ⟨ring6 hx h, ring7 h⟩
  have l6 : 2 ^ n - (0 + 1) < 2 ^ n := by omega
  generalize 2 ^ n - (0 + 1) = on at *
  generalize (quN n x y * y % 2 ^ n + reN x y) % 2 ^ n = w3 at *
  generalize quN n x y * y % 2 ^ n = w2 at *
  generalize quN n x y = qd at *
  generalize reN x y = qr at *
  generalize ((x + y) % 2 ^ n + z) % 2 ^ n = g1 at *
  generalize x * y % 2 ^ n * z % 2 ^ n = g3 at *
  generalize (x + y) % 2 ^ n * z % 2 ^ n = g5 at *
  generalize (x + y) % 2 ^ n = s1 at *
  generalize x * y % 2 ^ n = s2 at *
  generalize (y + z) % 2 ^ n = g2 at *
  generalize y * z % 2 ^ n = g4 at *
  generalize x * z % 2 ^ n = g6 at *
  refine sat_call tabOk Tryz.func6 rfl trivial c1 (.refl _) rfl ⟨_, rfl⟩ (by rintro r o rfl; rfl) ?_
  rintro r o rfl
  refine sat_le (env' := [(3, .ptr 0 0), (4, .ptr 1 0), (5, .ptr 2 0), (7, vB true), (46, .d (vN n s1))]) (objs' := [some (bN n x), some (bN n y), some (bN n z)]) ?_ hC hCl ⟨⟨_, rfl, .refl _⟩, ⟨_, rfl, .refl _⟩, ⟨_, rfl, .refl _⟩, ⟨_, rfl, .refl _⟩, ⟨_, rfl, .refl _⟩, trivial⟩ ⟨.refl _, .refl _, .refl _, trivial⟩ rfl rfl (Nat.zero_le _)
  refine sat_call tabOk Tryz.func6 rfl trivial c2 (.refl _) rfl ⟨_, rfl⟩ (by rintro r o rfl; rfl) ?_
  rintro r o rfl
  refine sat_le (env' := [(3, .ptr 0 0), (4, .ptr 1 0), (5, .ptr 2 0), (7, vB true), (8, .ptr 3 0), (49, .d (vN n s2))]) (objs' := [some (bN n x), some (bN n y), some (bN n z), some (bN n s1)]) ?_ hC hCl ⟨⟨_, rfl, .refl _⟩, ⟨_, rfl, .refl _⟩, ⟨_, rfl, .refl _⟩, ⟨_, rfl, .refl _⟩, ⟨_, rfl, .refl _⟩, ⟨_, rfl, .refl _⟩, trivial⟩ ⟨.refl _, .refl _, .refl _, .refl _, trivial⟩ rfl rfl (Nat.zero_le _)
  refine sat_drawT 21 tabOk Tryz.func6 rfl rfl trivial (by kernel_rfl) ?_
  refine ds_call tabOk rfl trivial (t1) (callFunc_run Tryz.func14 rfl rfl) (by rintro r o rfl; rfl) (.refl _) rfl rfl ⟨_, rfl⟩ ?_
  refine ds_branch tabOk rfl trivial (fun h => by cases h) (fun _ => ?_)
  refine ds_call tabOk rfl trivial (t2) (callFunc_run Tryz.func14 rfl rfl) (by rintro r o rfl; rfl) (.refl _) rfl rfl ⟨_, rfl⟩ ?_
  refine ds_branch tabOk rfl trivial (fun h => by cases h) (fun _ => ?_)
  refine ds_call tabOk rfl trivial (c3) (callFunc_run Tryz.func32 rfl rfl) (by rintro r o rfl; rfl) (.refl _) rfl rfl ⟨_, rfl⟩ ?_
  refine ds_call tabOk rfl trivial (sm s1 l1) (callFunc_run Tryz.func16 rfl rfl) (by rintro r o rfl; rfl) (.refl _) rfl rfl ⟨_, rfl⟩ ?_
  refine ds_branch tabOk rfl trivial (fun h => by cases h) (fun _ => ?_)
  refine ds_call tabOk rfl trivial (c4) (callFunc_run Tryz.func32 rfl rfl) (by rintro r o rfl; rfl) (.refl _) rfl rfl ⟨_, rfl⟩ ?_
  refine ds_done tabOk rfl trivial ?_
  refine sat_call tabOk Tryz.func6 rfl trivial (sm s2 l2) (.refl _) rfl ⟨_, rfl⟩ (by rintro r o rfl; rfl) ?_
  rintro r o rfl
  refine sat_branch tabOk Tryz.func6 rfl trivial (fun h => by cases h) (fun _ => ?_)
  refine sat_drawT 31 tabOk Tryz.func6 rfl rfl trivial (by kernel_rfl) ?_
  refine ds_call tabOk rfl trivial (c5) (callFunc_run Tryz.func32 rfl rfl) (by rintro r o rfl; rfl) (.refl _) rfl rfl ⟨_, rfl⟩ ?_
  refine ds_call tabOk rfl trivial (c6) (callFunc_run Tryz.func32 rfl rfl) (by rintro r o rfl; rfl) (.refl _) rfl rfl ⟨_, rfl⟩ ?_
  refine ds_call tabOk rfl trivial (c7) (callFunc_run Tryz.func32 rfl rfl) (by rintro r o rfl; rfl) (.refl _) rfl rfl ⟨_, rfl⟩ ?_
  refine ds_call tabOk rfl trivial (sm g1 l3) (callFunc_run Tryz.func16 rfl rfl) (by rintro r o rfl; rfl) (.refl _) rfl rfl ⟨_, rfl⟩ ?_
  refine ds_branch tabOk rfl trivial (fun h => by cases h) (fun _ => ?_)
  refine ds_call tabOk rfl trivial (c8) (callFunc_run Tryz.func32 rfl rfl) (by rintro r o rfl; rfl) (.refl _) rfl rfl ⟨_, rfl⟩ ?_
  refine ds_call tabOk rfl trivial (c9) (callFunc_run Tryz.func32 rfl rfl) (by rintro r o rfl; rfl) (.refl _) rfl rfl ⟨_, rfl⟩ ?_
  refine ds_call tabOk rfl trivial (c10) (callFunc_run Tryz.func32 rfl rfl) (by rintro r o rfl; rfl) (.refl _) rfl rfl ⟨_, rfl⟩ ?_
  refine ds_call tabOk rfl trivial (sm g3 l4) (callFunc_run Tryz.func16 rfl rfl) (by rintro r o rfl; rfl) (.refl _) rfl rfl ⟨_, rfl⟩ ?_
  refine ds_branch tabOk rfl trivial (fun h => by cases h) (fun _ => ?_)
  refine ds_call tabOk rfl trivial (c11) (callFunc_run Tryz.func32 rfl rfl) (by rintro r o rfl; rfl) (.refl _) rfl rfl ⟨_, rfl⟩ ?_
  refine ds_call tabOk rfl trivial (c12) (callFunc_run Tryz.func32 rfl rfl) (by rintro r o rfl; rfl) (.refl _) rfl rfl ⟨_, rfl⟩ ?_
  refine ds_done tabOk rfl trivial ?_
  refine sat_call tabOk Tryz.func6 rfl trivial c9 (.refl _) rfl ⟨_, rfl⟩ (by rintro r o rfl; rfl) ?_
  rintro r o rfl
  refine sat_call tabOk Tryz.func6 rfl trivial c13 (.refl _) rfl ⟨_, rfl⟩ (by rintro r o rfl; rfl) ?_
  rintro r o rfl
  refine sat_call tabOk Tryz.func6 rfl trivial (sm g5 l5) (.refl _) rfl ⟨_, rfl⟩ (by rintro r o rfl; rfl) ?_
  rintro r o rfl
  refine sat_branch tabOk Tryz.func6 rfl trivial (fun h => by cases h) (fun _ => ?_)
  refine sat_call tabOk Tryz.func6 rfl trivial c14 (.refl _) rfl ⟨_, rfl⟩ (by rintro r o rfl; rfl) ?_
  rintro r o rfl
  refine sat_le (env' := [(3, .ptr 0 0), (4, .ptr 1 0), (5, .ptr 2 0), (7, vB true), (8, .ptr 3 0), (9, .ptr 4 0), (112, .d (vN n qd))]) (objs' := [some (bN n x), some (bN n y), some (bN n z), some (bN n s1), some (bN n s2)]) ?_ hC hCl ⟨⟨_, rfl, .refl _⟩, ⟨_, rfl, .refl _⟩, ⟨_, rfl, .refl _⟩, ⟨_, rfl, .refl _⟩, ⟨_, rfl, .refl _⟩, ⟨_, rfl, .refl _⟩, ⟨_, rfl, .refl _⟩, trivial⟩ ⟨.refl _, .refl _, .refl _, .refl _, .refl _, trivial⟩ rfl rfl (Nat.zero_le _)
  refine sat_call tabOk Tryz.func6 rfl trivial c15 (.refl _) rfl ⟨_, rfl⟩ (by rintro r o rfl; rfl) ?_
  rintro r o rfl
  refine sat_le (env' := [(3, .ptr 0 0), (4, .ptr 1 0), (5, .ptr 2 0), (7, vB true), (8, .ptr 3 0), (9, .ptr 4 0), (10, .ptr 5 0), (115, .d (vN n qr))]) (objs' := [some (bN n x), some (bN n y), some (bN n z), some (bN n s1), some (bN n s2), some (bN n qd)]) ?_ hC hCl ⟨⟨_, rfl, .refl _⟩, ⟨_, rfl, .refl _⟩, ⟨_, rfl, .refl _⟩, ⟨_, rfl, .refl _⟩, ⟨_, rfl, .refl _⟩, ⟨_, rfl, .refl _⟩, ⟨_, rfl, .refl _⟩, ⟨_, rfl, .refl _⟩, trivial⟩ ⟨.refl _, .refl _, .refl _, .refl _, .refl _, .refl _, trivial⟩ rfl rfl (Nat.zero_le _)
  refine sat_call tabOk Tryz.func6 rfl trivial c16 (.refl _) rfl ⟨_, rfl⟩ (by rintro r o rfl; rfl) ?_
  rintro r o rfl
  refine sat_le (env' := [(3, .ptr 0 0), (4, .ptr 1 0), (5, .ptr 2 0), (7, vB true), (8, .ptr 3 0), (9, .ptr 4 0), (10, .ptr 5 0), (11, .ptr 6 0), (118, .d (vN n 0))]) (objs' := [some (bN n x), some (bN n y), some (bN n z), some (bN n s1), some (bN n s2), some (bN n qd), some (bN n qr)]) ?_ hC hCl ⟨⟨_, rfl, .refl _⟩, ⟨_, rfl, .refl _⟩, ⟨_, rfl, .refl _⟩, ⟨_, rfl, .refl _⟩, ⟨_, rfl, .refl _⟩, ⟨_, rfl, .refl _⟩, ⟨_, rfl, .refl _⟩, ⟨_, rfl, .refl _⟩, ⟨_, rfl, .refl _⟩, trivial⟩ ⟨.refl _, .refl _, .refl _, .refl _, .refl _, .refl _, .refl _, trivial⟩ rfl rfl (Nat.zero_le _)
  refine sat_call tabOk Tryz.func6 rfl trivial (rSameN_call n y n 0 hy hp (by omega)) (.refl _) rfl ⟨_, rfl⟩ (by rintro r o rfl; rfl) ?_
  rintro r o rfl
  by_cases hy0 : y = 0
  · obtain ⟨rfl, rfl⟩ := e1 hy0
    rw [decide_eq_true (rfl : n = n), decide_eq_true hy0]
    refine sat_branch tabOk Tryz.func6 rfl trivial (fun _ => ?_) (fun h => by cases h)
    refine sat_call tabOk Tryz.func6 rfl trivial c17 (.refl _) rfl ⟨_, rfl⟩ (by rintro r o rfl; rfl) ?_
    rintro r o rfl
    refine sat_branch tabOk Tryz.func6 rfl trivial (fun _ => ?_) (fun h => by cases h)
    refine sat_call tabOk Tryz.func6 rfl trivial (sm qd l6) (.refl _) rfl ⟨_, rfl⟩ (by rintro r o rfl; rfl) ?_
    rintro r o rfl
    refine sat_branch tabOk Tryz.func6 rfl trivial (fun _ => ?_) (fun h => by cases h)
    refine sat_call tabOk Tryz.func6 rfl trivial (sm qr hx) (.refl _) rfl ⟨_, rfl⟩ (by rintro r o rfl; rfl) ?_
    rintro r o rfl
    exact sat_ret tabOk Tryz.func6 rfl trivial rfl
  · obtain ⟨rfl, hlt⟩ := e2 hy0
    rw [if_pos hlt] at c21
    rw [decide_eq_true (rfl : n = n), decide_eq_false hy0]
    refine sat_branch tabOk Tryz.func6 rfl trivial (fun h => by cases h) (fun _ => ?_)
    refine sat_drawT 20 tabOk Tryz.func6 rfl rfl trivial (by kernel_rfl) ?_
    refine ds_branch tabOk rfl trivial (fun _ => ?_) (fun h => by cases h)
    refine ds_call tabOk rfl trivial (c18) (callFunc_run Tryz.func32 rfl rfl) (by rintro r o rfl; rfl) (.refl _) rfl rfl ⟨_, rfl⟩ ?_
    refine ds_call tabOk rfl trivial (sm w3 hx) (callFunc_run Tryz.func16 rfl rfl) (by rintro r o rfl; rfl) (.refl _) rfl rfl ⟨_, rfl⟩ ?_
    refine ds_branch tabOk rfl trivial (fun _ => ?_) (fun h => by cases h)
    refine ds_call tabOk rfl trivial (c19) (callFunc_run Tryz.func32 rfl rfl) (by rintro r o rfl; rfl) (.refl _) rfl rfl ⟨_, rfl⟩ ?_
    refine ds_call tabOk rfl trivial (c20) (callFunc_run Tryz.func32 rfl rfl) (by rintro r o rfl; rfl) (.refl _) rfl rfl ⟨_, rfl⟩ ?_
    refine ds_call tabOk rfl trivial (sm w3 hx) (callFunc_run Tryz.func16 rfl rfl) (by rintro r o rfl; rfl) (.refl _) rfl rfl ⟨_, rfl⟩ ?_
    refine ds_branch tabOk rfl trivial (fun _ => ?_) (fun h => by cases h)
    refine ds_done tabOk rfl trivial ?_
    refine sat_call tabOk Tryz.func6 rfl trivial c21 (.refl _) rfl ⟨_, rfl⟩ (by rintro r o rfl; rfl) ?_
    rintro r o rfl
    refine sat_call tabOk Tryz.func6 rfl trivial (BitN_call 1 1 0 (by decide)) (.refl _) rfl ⟨_, rfl⟩ (by rintro r o rfl; rfl) ?_
    rintro r o rfl
    exact sat_ret tabOk Tryz.func6 rfl trivial rfl
end Go.Proofs.YtclamogkchdkgaaGreatDoor
