/- A part of the proof: Ab74, N37, N28, N41, N42, N43, N44, N30, N45, Ab63. -/
import Derived.Test.YtjjlipbddlignaaGreatDoorP19
import Derived.Lib.ConvBytes
import Derived.Lib.SlBytesConst
set_option linter.unusedVariables false
set_option linter.unusedSimpArgs false
set_option linter.unusedSimpArgs false
set_option linter.unusedVariables false
set_option linter.unusedSectionVars false
namespace Ab
open Go
variable [Draws]

section
variable {P : Program} [Globals P] {T : Tab} {f : FuncId} {n : Nat} {C : Cx} {R : AV → List (Option AObj) → Prop} {env : Env} {objs : List (Option AObj)} {ops : Array Oper}

/-- A string's bytes, in a slice of the call's own. -/
theorem sat_strB {i : Nat} {r : List Nat} {k : List Item} {o : Oper} {e2 : Env} {src dst e : TypeId} {rs rd re : TRow} {xo : Operand} {bs : List UInt8} (hT : TabOk P T) (ho : ops[i]? = some o) (hw : wantE ops env o = .yes) (hop : o.op = .convert src dst xo) (hx : opnd env xo = some (.d (.v (.string ⟨bs.toArray⟩))))
    (hrs : tlook T src = some rs) (hks : rs.kd = .str) (hrd : tlook T dst = some rd) (hkd : rd.kd = .slice e) (hre : tlook T e = some re) (h8 : re.kd = .int .u8) (hlen : bs.length ≤ 1000000000)
    (hput : putE n o.dst (.gs objs.length) env = some e2) (h : ASat P f n C (.inRegion ops r :: k) e2 (objs ++ [some (gL e 1 eU8 0 bs)]) R) : ASat P f n C (.inRegion ops (i :: r) :: k) env objs R := by
  refine sat_op ⟨none, false, .gs objs.length, none, objs ++ [some (gL e 1 eU8 0 bs)]⟩ ho hw (fun X π w tmps m he _ => ?_) trivial hput h
  have hax := look_ok (P := P) he hx
  have hs := str_type hT hrs hks
  have hd := slice_elem hT hrd hkd
  have heU := int_type hT hre h8
  have hrun := Go.Lib.run_convert_string_bytes (P := P) w src dst e ⟨bs.toArray⟩ hs hd heU
  have hsize : (⟨bs.toArray⟩ : ByteArray).size = bs.length := by simp [ByteArray.size]
  have hml : maxLen = 9223372036854775807 := rfl
  rw [hsize] at hrun
  have hcell := Go.Lib.bytesWorld_cell w e ⟨bs.toArray⟩
  have hold : ∀ b, b < w.heap.size → (Go.Lib.bytesWorld w e ⟨bs.toArray⟩).heap[b]? = w.heap[b]? := fun b hb => Go.Lib.bytesWorld_at_old w e _ b hb
  have hnew := Go.Lib.bytesWorld_at_new w e ⟨bs.toArray⟩
  have hhs := Go.Lib.bytesWorld_size w e ⟨bs.toArray⟩
  have hout : (Go.Lib.bytesWorld w e ⟨bs.toArray⟩).os = w.os ∧ (Go.Lib.bytesWorld w e ⟨bs.toArray⟩).tape = w.tape ∧ (Go.Lib.bytesWorld w e ⟨bs.toArray⟩).output = w.output ∧ w.drawn ≤ (Go.Lib.bytesWorld w e ⟨bs.toArray⟩).drawn := by
    unfold Go.Lib.bytesWorld World.freeze
    rw [if_neg (by decide)]
    exact ⟨rfl, rfl, rfl, Nat.le_succ _⟩
  have hc1 := grownCap_ge w bs.length 0 e
  have hc2 := grownCap_le_maxLen w bs.length 0 e (by omega)
  have hclen : (Go.Lib.bytesCells w e ⟨bs.toArray⟩).size = grownCap w bs.length 0 e := by
    simp only [Go.Lib.bytesCells, hsize, Array.size_append, Array.size_map, List.size_toArray, Array.size_replicate]
    omega
  generalize grownCap w bs.length 0 e = c at hc1 hc2 hclen hrun
  generalize Go.Lib.bytesCells w e ⟨bs.toArray⟩ = BC at hnew hclen
  generalize Go.Lib.bytesWorld w e ⟨bs.toArray⟩ = W at *
  obtain ⟨BC⟩ := BC
  simp only [List.size_toArray] at hclen hnew
  have hh' : ∀ b, blk (.slice (some ⟨w.heap.size, 0, none⟩) bs.length c) = some b → w.heap.size ≤ b := by
    intro b hb
    cases c <;> cases hb
    exact Nat.le_refl _
  refine ⟨.slice (some ⟨w.heap.size, 0, none⟩) bs.length c, W, π ++ [.slice (some ⟨w.heap.size, 0, none⟩) bs.length c], ?_, tr_newW m hout.1 hout.2.1 ⟨hout.2.2.1, dr_mono hout.2.2.2⟩ (by rw [hhs]; omega) hold _ (gL e 1 eU8 0 bs) hh' ?_, fun _ => .gs (nth_new m.len _)⟩
  · unfold execOp
    rw [hop]
    simp only [Sem.run_bind, hax, hrun, Result.andThen_ok, Sem.run_pure]
    rfl
  · cases c with
    | zero =>
      obtain rfl : bs = [] := List.eq_nil_of_length_eq_zero (by omega)
      exact .gnil
    | succ c =>
      have hls : (bs.map fun b => Value.int .u8 (b.toNat : Int)).length = bs.length := by simp
      have hk := new_keepsW (X := X) (π := π) (objs := objs) hold (.slice (some ⟨w.heap.size, 0, none⟩) bs.length (c + 1)) (gL e 1 eU8 0 bs) m.len hh'
      have := RelO.grow (w := W) (ok := okOf X (π ++ [.slice (some ⟨w.heap.size, 0, none⟩) bs.length (c + 1)]) (objs ++ [some (gL e 1 eU8 0 bs)])) (π := π ++ [.slice (some ⟨w.heap.size, 0, none⟩) bs.length (c + 1)]) (e := e) (s := 1) (b := w.heap.size) (o := 0) (c := c) (xs := bs.map eU8) (us := bs.map fun b => Value.int .u8 (b.toNat : Int))
        (vs := BC) (rd := fun i => eU8 (bs.getD i 0)) (fz := (BC.length, BC.length + 1)) hnew (fun q hq => by omega) (strEs_rel bs) (fun q hq => ?_) (by rw [List.length_map]; exact hc1) hc2 (by omega) (map_rd eU8 0 bs)
      · rw [List.length_map] at this
        exact this
      · rw [hls] at hq
        have h1 := hcell q (by rw [hsize]; exact hq)
        have h2 := cell_of_heap (i := q) hnew
        rw [h2] at h1
        rw [Nat.zero_add, h1]
        simp [hq, List.getD_eq_getElem?_getD]
end
end Ab
namespace Go.Proofs.YtjjlipbddlignaaGreatDoor
open Go Ab Go.RowKit Go.Lib
set_option maxRecDepth 100000
set_option linter.unusedVariables false
set_option linter.unusedSimpArgs false
set_option maxHeartbeats 4000000

/-! ### The document's example -/
theorem dleI (l : List Int) : DLe (.sl 1 (l.map eI) (litRd (l.map eI))) (eIs l) := DLe.slR rfl (map_rd eI 0 l)
theorem cleA {cs ds : List D} (h : DLes cs ds) : CLe (.ag cs) (.ag ds) := fun _ _ _ h2 => h.rel h2
theorem dleS {s : Nat} {xs ys : List D} {rd rd' : Nat → D} (h : CLes xs ys) (hr : ∀ i, i < ys.length → ys[i]? = some (rd' i)) : DLe (.sl s xs rd) (.sl s ys rd') := by
  intro w ok v hv
  have hf : flat v = true := by cases hv <;> rfl
  have := CLe.sl h hr w ok [v] (.cons hv hf .nil)
  cases this with | cons h _ _ => exact h
def exM : List Nd := [⟨kSort, 0, [], [8], []⟩, ⟨kInput, 1, [], [], [120]⟩, ⟨kAdd, 1, [2, 2], [], []⟩]
def exT : List UInt8 := [49, 32, 115, 111, 114, 116, 32, 98, 105, 116, 118, 101, 99, 32, 56, 10, 50, 32, 105, 110, 112, 117, 116, 32, 49, 32, 120, 10, 51, 32, 97, 100, 100, 32, 49, 32, 50, 32, 50, 10]
theorem ex_right : rightM exM = true := by decide
theorem ex_text : textM exM = exT := by kernel_rfl
theorem ex_b : ∀ x ∈ exM, NdB x := by
  intro x hx
  have hml : maxLen = 9223372036854775807 := rfl
  simp only [exM, List.mem_cons, List.not_mem_nil, or_false] at hx
  rcases hx with rfl | rfl | rfl <;> exact ⟨by decide, by decide, by decide, by decide⟩
theorem ex_par : parM exT = (exM, ((exT.length : Nat) : Int), 0) := by
  have := par_read ex_right (by rw [ex_text]; decide)
  rwa [ex_text] at this
theorem ex_le : VLe (.d (.ag [.sl 5 [.ag [dSL kSort, eI 0, .v (.slice none 0 0), .sl 1 [eI 8] (litRd [eI 8]), dSL []], .ag [dSL kInput, eI 1, .v (.slice none 0 0), .v (.slice none 0 0), dSL [120]], .ag [dSL kAdd, eI 1, .sl 1 [eI 2, eI 2] (litRd [eI 2, eI 2]), .v (.slice none 0 0), dSL []]]
    (litRd [.ag [dSL kSort, eI 0, .v (.slice none 0 0), .sl 1 [eI 8] (litRd [eI 8]), dSL []], .ag [dSL kInput, eI 1, .v (.slice none 0 0), .v (.slice none 0 0), dSL [120]], .ag [dSL kAdd, eI 1, .sl 1 [eI 2, eI 2] (litRd [eI 2, eI 2]), .v (.slice none 0 0), dSL []]])])) (.d (eBt exM)) := by
  refine VLe.dag ⟨dleS (ys := exM.map eNd) ?_ (map_rd eNd default exM), trivial⟩
  exact ⟨cleA ⟨.refl _, .refl _, dle_nil, dleI [8], .refl _, trivial⟩, cleA ⟨.refl _, .refl _, dle_nil, dle_nil, .refl _, trivial⟩, cleA ⟨.refl _, .refl _, dleI [2, 2], dle_nil, .refl _, trivial⟩, trivial⟩
theorem shown13_call : ACall Tryz.prog 8 [] [] (fun r o => r = vB true) := by
  refine acall_enter Tryz.func8 rfl rfl (Nat.le_of_ble_eq_true rfl) fun C hC hCl hDs hGk => ?_
  refine sat_call tabOk Tryz.func8 rfl trivial (bPrint_call exM (by decide) ex_b (fun _ => by rw [ex_text]; decide)) ⟨ex_le, trivial⟩ rfl ⟨_, rfl⟩ (by rintro r o rfl; rfl) ?_
  rintro _ o rfl
  unfold prA
  rw [ex_right, if_pos rfl, if_pos rfl, ex_text]
  refine sat_steps 9 tabOk Tryz.func8 rfl trivial ?_
  refine sat_strB (bs := exT) tabOk rfl rfl rfl rfl rfl rfl rfl rfl rfl rfl (by decide) rfl ?_
  refine sat_freeze 1 rfl ?_
  refine sat_call tabOk Tryz.func8 rfl trivial (bParse_call exT (by decide)) ⟨VLe.eL rfl, trivial⟩ rfl ⟨_, rfl⟩ (by rintro r o rfl; rfl) ?_
  rintro _ o rfl
  unfold parA
  rw [ex_par]
  refine sat_call tabOk Tryz.func8 rfl trivial (pForm_call kSlice) (.refl _) rfl ⟨_, rfl⟩ (by rintro r o rfl; rfl) ?_
  rintro _ o rfl
  refine sat_branch tabOk Tryz.func8 rfl trivial (fun _ => ?_) (fun h => by cases h)
  refine sat_branch tabOk Tryz.func8 rfl trivial (fun _ => ?_) (fun h => by cases h)
  refine sat_branch tabOk Tryz.func8 rfl trivial (fun _ => ?_) (fun h => ?_)
  rotate_left
  · have h : ((⟨exT.toArray⟩ : ByteArray).toList == (⟨exT.toArray⟩ : ByteArray).toList) = false := h
    rw [isEq_bytes, decide_eq_true rfl] at h
    cases h
  refine sat_branch tabOk Tryz.func8 rfl trivial (fun _ => ?_) (fun h => by cases h)
  refine sat_call tabOk Tryz.func8 rfl trivial (bSame_call exM exM) ⟨ex_le, .refl _, trivial⟩ rfl ⟨_, rfl⟩ (by rintro r o rfl; rfl) ?_
  rintro _ o rfl
  rw [decide_eq_true (rfl : exM = exM)]
  refine sat_branch tabOk Tryz.func8 rfl trivial (fun _ => ?_) (fun h => by cases h)
  refine sat_call tabOk Tryz.func8 rfl trivial (pRight_call exM (by decide) ex_b) ⟨ex_le, trivial⟩ rfl ⟨_, rfl⟩ (by rintro r o rfl; rfl) ?_
  rintro _ o rfl
  rw [ex_right]
  refine sat_branch tabOk Tryz.func8 rfl trivial (fun _ => ?_) (fun h => by cases h)
  refine sat_branch tabOk Tryz.func8 rfl trivial (fun _ => ?_) (fun h => ?_)
  rotate_left
  · have h : ((⟨([115, 97, 110, 110] : List UInt8).toArray⟩ : ByteArray).toList == (⟨([115, 97, 110, 110] : List UInt8).toArray⟩ : ByteArray).toList) = false := h
    rw [isEq_bytes, decide_eq_true rfl] at h
    cases h
  exact sat_ret tabOk Tryz.func8 rfl trivial rfl
end Go.Proofs.YtjjlipbddlignaaGreatDoor
namespace Go.Proofs.YtjjlipbddlignaaGreatDoor
open Go Ab Go.Lib
set_option maxRecDepth 100000
set_option linter.unusedVariables false
set_option linter.unusedSimpArgs false

/-! ### How long texts are; texts that are the same -/
theorem nodeT_len {id : Int} {x : Nd} (h0 : 0 ≤ id) (hid : id ≤ 100000) (h : nodeB id x = true) (hs : SmN x) : (nodeT id x).length ≤ 1000 := by
  obtain ⟨n1, n2, n3⟩ := nodeB_nums hid h
  have l1 := nums_len x.a n2
  have l2 := nums_len x.n n3
  have l3 := numT_len (n := x.s) (by omega) (by omega)
  have l4 : (tItoa id).length ≤ 21 := Go.Lib.itoa_length_le id (by omega) (by omega)
  have s1 := hs.op
  have s2 := hs.t
  have s3 := hs.a
  have s4 := hs.n
  have l5 : (if frm x.op = [119] then sBitvec else []).length ≤ 7 := by split <;> decide
  have l6 : (if 0 < x.s then numT x.s else []).length ≤ 24 := by split <;> first | exact l3 | exact Nat.zero_le _
  have l7 : (if x.t = [] then [] else 32 :: x.t).length ≤ 201 := by
    split
    · exact Nat.zero_le _
    · rw [List.length_cons]; omega
  unfold nodeT
  simp only [List.length_append, List.length_cons, List.length_nil]
  omega
theorem textFrom_len : ∀ (l : List Nd) (i : Nat), rightFrom i l = true → i + l.length ≤ 5000 → (∀ x ∈ l, SmN x) → (textFrom i l).length ≤ 1000 * l.length
  | [], _, _, _, _ => Nat.le_refl _
  | x :: r, i, h, hl, hs => by
    rw [rightFrom, Bool.and_eq_true] at h
    rw [List.length_cons] at hl
    have h1 := nodeT_len (by omega) (by omega) h.1 (hs x List.mem_cons_self)
    have h2 := textFrom_len r (i + 1) h.2 (by omega) fun y hy => hs y (List.mem_cons_of_mem _ hy)
    rw [textFrom, List.length_append, List.length_cons]
    omega
theorem textM_len {l : List Nd} (h : rightM l = true) (hl : l.length ≤ 41) (hs : ∀ x ∈ l, SmN x) : (textM l).length ≤ 41000 := by
  unfold rightM at h
  rw [Bool.and_eq_true] at h
  have := textFrom_len l 0 h.1 (by omega) hs
  unfold textM
  omega
end Go.Proofs.YtjjlipbddlignaaGreatDoor
namespace Go.Proofs.YtjjlipbddlignaaGreatDoor
open Go Ab Go.RowKit Go.Lib
set_option maxRecDepth 100000
set_option linter.unusedVariables false
set_option linter.unusedSimpArgs false
set_option maxHeartbeats 4000000

theorem small_b {l : List Nd} {n : Nat} (h : (l.length : Int) ≤ n ∧ ∀ x ∈ l, SmN x) : l.length ≤ n ∧ ∀ x ∈ l, NdB x := ⟨by have := h.1; omega, fun x hx => (h.2 x hx).b⟩
end Go.Proofs.YtjjlipbddlignaaGreatDoor
namespace Go.Proofs.YtjjlipbddlignaaGreatDoor
open Go Ab Go.RowKit Go.Lib
set_option maxRecDepth 100000
set_option linter.unusedVariables false
set_option linter.unusedSimpArgs false
set_option maxHeartbeats 4000000

end Go.Proofs.YtjjlipbddlignaaGreatDoor
namespace Go.Proofs.YtjjlipbddlignaaGreatDoor
open Go Ab Go.RowKit Go.Lib
set_option maxRecDepth 100000
set_option linter.unusedVariables false
set_option linter.unusedSimpArgs false
set_option maxHeartbeats 4000000

end Go.Proofs.YtjjlipbddlignaaGreatDoor
namespace Go.Proofs.YtjjlipbddlignaaGreatDoor
open Go Ab Go.RowKit Go.Lib
set_option maxRecDepth 100000
set_option linter.unusedVariables false
set_option linter.unusedSimpArgs false
set_option maxHeartbeats 4000000

end Go.Proofs.YtjjlipbddlignaaGreatDoor
namespace Go.Proofs.YtjjlipbddlignaaGreatDoor
open Go Ab Go.Lib
set_option maxRecDepth 100000
set_option linter.unusedVariables false
set_option linter.unusedSimpArgs false

/-! ### Texts that are cut off -/
theorem count_no10 {s : List UInt8} (h : ∀ c ∈ s, c ≠ 10) : s.count 10 = 0 := List.count_eq_zero.2 fun hc => h 10 hc rfl
theorem cut_whole : ∀ (l : List Nd) (i k : Nat), rightFrom i l = true → i + l.length ≤ 5000 → k ≤ (textFrom i l).length → (k = 0 ∨ (textFrom i l).getD (k - 1) 0 = 10) → (textFrom i l).take k = textFrom i (l.take (((textFrom i l).take k).count 10))
  | [], i, k, _, _, hk, _ => by
    simp [textFrom]
  | x :: r, i, k, h, hl, hk, hw => by
    rw [rightFrom, Bool.and_eq_true] at h
    rw [List.length_cons] at hl
    obtain ⟨s, e, hs⟩ := nodeT_line (by omega) (by omega) h.1
    rw [textFrom, e] at hk hw ⊢
    rw [List.length_append, List.length_append, List.length_cons, List.length_nil] at hk
    rcases Nat.eq_zero_or_pos k with rfl | hpos
    · simp [textFrom]
    · have hw := hw.resolve_left (by omega)
      rcases Nat.lt_or_ge s.length k with hlt | hge
      · obtain ⟨k', rfl⟩ : ∃ k', k = s.length + 1 + k' := ⟨k - (s.length + 1), by omega⟩
        have e1 : ((s ++ [10]) ++ textFrom (i + 1) r).take (s.length + 1 + k') = (s ++ [10]) ++ (textFrom (i + 1) r).take k' := by
          rw [List.take_append]
          have : (s ++ [10]).length = s.length + 1 := by simp
          rw [this, List.take_of_length_le (by omega), show s.length + 1 + k' - (s.length + 1) = k' by omega]
        have hw' : k' = 0 ∨ (textFrom (i + 1) r).getD (k' - 1) 0 = 10 := by
          rcases Nat.eq_zero_or_pos k' with h0 | h0
          · exact .inl h0
          · right
            rw [List.getD_eq_getElem?_getD, List.getElem?_append_right (by simp; omega)] at hw
            rw [List.getD_eq_getElem?_getD]
            rw [show s.length + 1 + k' - 1 - (s ++ [(10 : UInt8)]).length = k' - 1 by simp; omega] at hw
            exact hw
        have ih := cut_whole r (i + 1) k' h.2 (by omega) (by omega) hw'
        rw [e1, List.count_append, List.count_append, count_no10 hs]
        have e2 : [(10 : UInt8)].count 10 = 1 := rfl
        rw [e2, show 0 + 1 + ((textFrom (i + 1) r).take k').count 10 = ((textFrom (i + 1) r).take k').count 10 + 1 by omega, List.take_succ_cons, textFrom, e, ← ih]
      · exfalso
        have hk1 : k - 1 < s.length := by omega
        rw [List.getD_eq_getElem?_getD, List.append_assoc, List.getElem?_append_left hk1, List.getElem?_eq_getElem hk1] at hw
        exact hs _ (List.getElem_mem hk1) hw
theorem text_last : ∀ (l : List Nd) (i : Nat), l ≠ [] → ∃ s, textFrom i l = s ++ [10]
  | [], _, h => absurd rfl h
  | [x], i, _ => ⟨_, by rw [textFrom, textFrom, List.append_nil]; rfl⟩
  | x :: y :: r, i, _ => by
    obtain ⟨s, e⟩ := text_last (y :: r) (i + 1) (by simp)
    exact ⟨nodeT ((i : Int) + 1) x ++ s, by rw [textFrom, e, List.append_assoc]⟩
/-- Cut off at a line's end: the lines ahead. -/
theorem ends_whole {l : List Nd} {k : Nat} (h : rightM l = true) (hk : k ≤ (textM l).length) (hT : (textM l).length ≤ 100000) (hw : k = 0 ∨ (textM l).getD (k - 1) 0 = 10) :
    parM ((textM l).take k) = (l.take (((textM l).take k).count 10), ((k : Int), 0)) := by
  have h' := h
  unfold rightM at h
  rw [Bool.and_eq_true, decide_eq_true_eq] at h
  have e := cut_whole l 0 k h.1 (by omega) hk hw
  have e' : (textM l).take k = textM (l.take (((textM l).take k).count 10)) := e
  generalize ((textM l).take k).count 10 = m at e'
  have hr : rightM (l.take m) = true := by
    unfold rightM
    rw [Bool.and_eq_true, decide_eq_true_eq]
    refine ⟨?_, Nat.le_trans (List.length_take_le' m l) h.2⟩
    rw [rightFrom_iff]
    intro j hj
    have hj2 : j < l.length := by
      rw [List.length_take] at hj
      omega
    have := h.1
    rw [rightFrom_iff] at this
    rw [List.getElem_take]
    exact this j hj2
  have hlen : ((textM l).take k).length = k := by rw [List.length_take]; omega
  rw [e'] at hlen ⊢
  rw [par_read hr (by omega), hlen]
/-- Cut off elsewhere: no model's. -/
theorem ends_not {l : List Nd} {k : Nat} (hk : k ≤ (textM l).length) (h0 : k ≠ 0) (hw : (textM l).getD (k - 1) 0 ≠ 10) : (parM ((textM l).take k)).2.2 ≠ 0 := by
  intro he
  obtain ⟨-, e, -⟩ := par_inv he
  have hlen : ((textM l).take k).length = k := by rw [List.length_take]; omega
  generalize (parM ((textM l).take k)).1 = m at e
  by_cases hm : m = []
  · rw [hm] at e
    have := congrArg List.length e
    rw [hlen] at this
    exact h0 this
  · obtain ⟨s, e2⟩ := text_last m 0 hm
    have e3 : (textM l).take k = s ++ [10] := e.trans e2
    have hs : s.length + 1 = k := by
      have := congrArg List.length e3
      rw [hlen] at this
      simpa using this.symm
    apply hw
    have e4 : (textM l).getD (k - 1) 0 = ((textM l).take k).getD (k - 1) 0 := by
      rw [List.getD_eq_getElem?_getD, List.getD_eq_getElem?_getD, List.getElem?_take, if_pos (by omega)]
    rw [e4, e3, show k - 1 = s.length by omega]
    simp
end Go.Proofs.YtjjlipbddlignaaGreatDoor
namespace Go.Proofs.YtjjlipbddlignaaGreatDoor
open Go Ab Go.RowKit Go.Lib
set_option maxRecDepth 100000
set_option linter.unusedVariables false
set_option linter.unusedSimpArgs false
set_option maxHeartbeats 4000000

theorem text_count : ∀ (l : List Nd) (i : Nat), rightFrom i l = true → i + l.length ≤ 5000 → (textFrom i l).count 10 = l.length
  | [], _, _, _ => rfl
  | x :: l, i, h, hl => by
    rw [rightFrom, Bool.and_eq_true] at h
    rw [List.length_cons] at hl
    obtain ⟨s, hs, h10⟩ := nodeT_line (by omega) (by omega) h.1
    rw [textFrom, hs, List.count_append, List.count_append, count_no10 h10, text_count l (i + 1) h.2 (by omega), List.length_cons]
    simp
    omega
theorem Ends_law (l : List Nd) (c : Int) (hl : l.length ≤ maxLen) (hc : 0 ≤ c ∧ c ≤ 65535) : ACall Tryz.prog 7 [.d (eBt l), vI .u16 c] [] (fun r o => r = vB true) := by
  refine acall_enter Tryz.func7 rfl rfl (Nat.le_of_ble_eq_true rfl) fun C hC hCl hDs hGk => ?_
  refine sat_call tabOk Tryz.func7 rfl trivial shown13_call (.refl _) rfl ⟨_, rfl⟩ (by rintro r o rfl; rfl) ?_
  rintro _ o rfl
  refine sat_call tabOk Tryz.func7 rfl trivial (small13_call l hl 40) (.refl _) rfl ⟨_, rfl⟩ (by rintro r o ⟨b, rfl, -⟩; rfl) ?_
  rintro _ o ⟨b1, rfl, h1⟩
  cases b1 with
  | false =>
    repeat refine sat_branch tabOk Tryz.func7 rfl trivial (fun _ => ?_) (fun h => by cases h)
    exact sat_ret tabOk Tryz.func7 rfl trivial rfl
  | true =>
  have s1 := small_b (n := 40) (h1 rfl)
  have hl40 := s1.1
  refine sat_branch tabOk Tryz.func7 rfl trivial (fun h => by cases h) (fun _ => ?_)
  refine sat_call tabOk Tryz.func7 rfl trivial (rRight_call l (by omega) s1.2) (.refl _) rfl ⟨_, rfl⟩ (by rintro r o rfl; rfl) ?_
  rintro _ o rfl
  cases r1 : rightM l with
  | false =>
    repeat refine sat_branch tabOk Tryz.func7 rfl trivial (fun _ => ?_) (fun h => by cases h)
    exact sat_ret tabOk Tryz.func7 rfl trivial rfl
  | true =>
  refine sat_branch tabOk Tryz.func7 rfl trivial (fun h => by cases h) (fun _ => ?_)
  refine sat_branch tabOk Tryz.func7 rfl trivial (fun h2 => ?_) (fun h2 => ?_)
  · exact sat_ret tabOk Tryz.func7 rfl trivial rfl
  have hne : l ≠ [] := fun e => by
    rw [e] at h2
    cases h2
  have t1 := textM_len r1 (by omega) (h1 rfl).2
  refine sat_call tabOk Tryz.func7 rfl trivial (bPrint_call l (by omega) s1.2 (fun _ => by omega)) (.refl _) rfl ⟨_, rfl⟩ (by rintro r o rfl; rfl) ?_
  rintro _ o rfl
  unfold prA
  rw [r1, if_pos rfl, if_pos rfl]
  have hT0 : 0 < (textM l).length := by
    obtain ⟨s, hs⟩ := text_last l 0 hne
    unfold textM
    rw [hs, List.length_append, List.length_singleton]
    omega
  have hew := fun k => ends_whole (k := k) r1
  have hen := fun k => ends_not (l := l) (k := k)
  have hcT : ∀ k, ((textM l).take k).count 10 ≤ l.length := fun k => by
    have hr := r1
    unfold rightM at hr
    rw [Bool.and_eq_true, decide_eq_true_eq] at hr
    refine Nat.le_trans ((List.take_sublist k _).count_le 10) ?_
    unfold textM
    rw [text_count l 0 hr.1 (by omega)]
    exact Nat.le_refl _
  generalize textM l = T at *
  refine sat_branch tabOk Tryz.func7 rfl trivial (fun h => by cases h) (fun _ => ?_)
  refine sat_branch tabOk Tryz.func7 rfl trivial (fun h3 => ?_) (fun h3 => ?_)
  · have h3 : ((((⟨T.toArray⟩ : ByteArray).size : Nat) : Int) == 0) = true := h3
    rw [sizeBy, beq_iff_eq] at h3
    omega
  have hwc : IntKind.i64.wrap c = c := wrap_id (by omega) (by omega)
  obtain ⟨k, hk, hkl⟩ : ∃ k : Nat, (IntKind.i64.wrap c).tmod (((⟨T.toArray⟩ : ByteArray).size : Nat) : Int) = (k : Int) ∧ k < T.length := by
    rw [sizeBy, hwc, Int.tmod_eq_emod_of_nonneg hc.1]
    have h4 := Int.emod_nonneg c (show ((T.length : Nat) : Int) ≠ 0 by omega)
    have h5 := Int.emod_lt_of_pos c (show (0 : Int) < ((T.length : Nat) : Int) by omega)
    exact ⟨(c % (T.length : Int)).toNat, by omega, by omega⟩
  refine sat_steps 16 tabOk Tryz.func7 rfl ?nd ?_
  case nd =>
    rw [hk, sizeBy]
    exact ⟨⟨by omega, by omega, by omega⟩, by omega, trivial⟩
  have hex : (⟨T.toArray⟩ : ByteArray).extract (Int.toNat 0) ((k : Int)).toNat = ⟨(T.take k).toArray⟩ := by
    rw [exBy, Int.toNat_natCast, show (Int.toNat 0) = 0 from rfl, List.drop_zero]
  refine sat_le (env' := [(2, .ptr 0 0), (5, vB true), (6, vTx T), (8, vI .i64 (k : Int)), (51, vTx (T.take k))]) (objs' := [some (bBt l)]) ?_ hC hCl ⟨⟨_, rfl, .refl _⟩, ⟨_, rfl, .refl _⟩, ⟨_, rfl, .refl _⟩, ⟨_, rfl, .of (by rw [← hk])⟩, ⟨_, rfl, .of (by show vS _ = _; rw [hk, hex])⟩, trivial⟩ ⟨.refl _, trivial⟩ rfl rfl (Nat.zero_le _)
  refine sat_strB (bs := T.take k) tabOk rfl rfl rfl rfl rfl rfl rfl rfl rfl rfl (by rw [List.length_take]; omega) rfl ?_
  refine sat_freeze 1 rfl ?_
  refine sat_call tabOk Tryz.func7 rfl trivial (bParse_call (T.take k) (by rw [List.length_take]; omega)) ⟨VLe.eL rfl, trivial⟩ rfl ⟨_, rfl⟩ (by rintro r o rfl; rfl) ?_
  rintro _ o rfl
  have hpl := par_pl (T.take k)
  have hew := hew k (by omega) (by omega)
  have hen := hen k (by omega)
  have htl : (T.take k).length = k := by rw [List.length_take]; omega
  unfold Pl at hpl
  rw [htl] at hpl
  generalize parM (T.take k) = q at *
  obtain ⟨L, at_, e⟩ := q
  simp only at hpl hew hen
  unfold parA
  apply letK (p := ∀ W : Bool, (W = true ↔ k = 0 ∨ T.getD (k - 1) 0 = 10) → ASat Tryz.prog 7 Tryz.f7.ntmps C _ [(2, .ptr 0 0), (5, vB true), (6, vTx T), (8, vI .i64 (k : Int)), (9, .ptr 2 0), (10, vI .i64 at_), (11, vI .i64 e), (12, vB W)] [some (bBt l), none, some (bBt L)] (fun r o => r = vB true))
  · intro key
    refine sat_branch tabOk Tryz.func7 rfl trivial (fun h4 => ?_) (fun h4 => ?_)
    · have h4 : ((k : Int) == 0) = true := h4
      rw [beq_iff_eq] at h4
      refine sat_steps 8 tabOk Tryz.func7 rfl trivial ?_
      refine sat_le (key true (by simp; omega)) hC hCl ⟨⟨_, rfl, .refl _⟩, ⟨_, rfl, .refl _⟩, ⟨_, rfl, .refl _⟩, ⟨_, rfl, .refl _⟩, ⟨_, rfl, .refl _⟩, ⟨_, rfl, .refl _⟩, ⟨_, rfl, .refl _⟩, ⟨_, rfl, .refl _⟩, trivial⟩ ⟨.refl _, .refl _, trivial⟩ rfl rfl (Nat.zero_le _)
    · have h4 : ((k : Int) == 0) = false := h4
      rw [beq_eq_false_iff_ne] at h4
      have hw : IntKind.i64.wrap ((k : Int) - 1) = ((k - 1 : Nat) : Int) := by
        rw [wrap_id (by omega) (by omega)]
        omega
      refine sat_steps 8 tabOk Tryz.func7 rfl ?nd ?_
      case nd =>
        refine ⟨?_, trivial⟩
        show 0 ≤ IntKind.i64.wrap ((k : Int) - 1) ∧ IntKind.i64.wrap ((k : Int) - 1) < (((⟨T.toArray⟩ : ByteArray).size : Nat) : Int)
        rw [hw, sizeBy]
        omega
      refine sat_le (key (decide (T.getD (k - 1) 0 = 10)) ?_) hC hCl ⟨⟨_, rfl, .refl _⟩, ⟨_, rfl, .refl _⟩, ⟨_, rfl, .refl _⟩, ⟨_, rfl, .refl _⟩, ⟨_, rfl, .refl _⟩, ⟨_, rfl, .refl _⟩, ⟨_, rfl, .refl _⟩, ⟨_, rfl, .of ?_⟩, trivial⟩ ⟨.refl _, .refl _, trivial⟩ rfl rfl (Nat.zero_le _)
      · rw [decide_eq_true_eq]
        constructor
        · exact fun h => .inr h
        · rintro (h | h)
          · omega
          · exact h
      · show vB (bt ⟨T.toArray⟩ (IntKind.i64.wrap ((k : Int) - 1)).toNat == 10) = _
        rw [hw, Int.toNat_natCast, bt_list]
        congr 2
        rw [Bool.eq_iff_iff, beq_iff_eq, decide_eq_true_eq]
        constructor
        · intro h
          refine UInt8.toNat_inj.1 ?_
          show _ = 10
          omega
        · intro h
          rw [h]
          rfl
  intro W hW
  refine sat_stop tabOk Tryz.func7 rfl trivial ?_
  refine sat_while (α := Nat) (fun i => [(2, .ptr 0 0), (5, vB true), (6, vTx T), (8, vI .i64 (k : Int)), (9, .ptr 2 0), (10, vI .i64 at_), (11, vI .i64 e), (12, vB W), (13, vI .i64 ((T.take i).count 10 : Int)), (14, vI .i64 (i : Int))]) (fun _ => [some (bBt l), none, some (bBt L)]) (fun i => i ≤ k) (fun i => k - i) 0 (Nat.zero_le _) ?_ ?_
  · exact fun h => sat_le h hC hCl ⟨⟨_, rfl, .refl _⟩, ⟨_, rfl, .refl _⟩, ⟨_, rfl, .refl _⟩, ⟨_, rfl, .refl _⟩, ⟨_, rfl, .refl _⟩, ⟨_, rfl, .refl _⟩, ⟨_, rfl, .refl _⟩, ⟨_, rfl, .refl _⟩, ⟨_, rfl, .refl _⟩, ⟨_, rfl, .refl _⟩, trivial⟩ ⟨.refl _, .refl _, trivial⟩ rfl rfl (Nat.zero_le _)
  rintro i hi ih
  have hcn : ∀ j, (T.take j).count 10 ≤ j := fun j => Nat.le_trans List.count_le_length (by rw [List.length_take]; omega)
  refine sat_branch tabOk Tryz.func7 rfl trivial (fun h5 => ?_) (fun h5 => ?_)
  · have h5 : decide ((i : Int) < (k : Int)) = true := h5
    rw [decide_eq_true_eq] at h5
    have hlt : i < T.length := by omega
    have hci := hcn i
    have hcs : (T.take (i + 1)).count 10 = (T.take i).count 10 + if T.getD i 0 = 10 then 1 else 0 := by
      rw [List.take_succ_eq_append_getElem hlt, List.count_append, show T.getD i 0 = T[i] by simp [hlt]]
      by_cases h : T[i] = 10
      · rw [if_pos h, h]
        rfl
      · rw [if_neg h, List.count_singleton, if_neg (by simpa using h)]
    have ih := ih (i + 1) (by omega) (by omega)
    have hv := UInt8.toNat_lt (T.getD i 0)
    refine sat_branch tabOk Tryz.func7 rfl ?nd (fun h6 => ?_) (fun h6 => ?_)
    case nd =>
      refine ⟨?_, trivial⟩
      rw [sizeBy]
      omega
    · have h6 : (bt ⟨T.toArray⟩ ((i : Int)).toNat == 10) = true := h6
      rw [Int.toNat_natCast, bt_list, beq_iff_eq] at h6
      rw [hcs, if_pos (UInt8.toNat_inj.1 (show (T.getD i 0).toNat = 10 by omega))] at ih
      refine sat_stop tabOk Tryz.func7 rfl trivial ?_
      exact sat_le ih hC hCl ⟨⟨_, rfl, .refl _⟩, ⟨_, rfl, .refl _⟩, ⟨_, rfl, .refl _⟩, ⟨_, rfl, .refl _⟩, ⟨_, rfl, .refl _⟩, ⟨_, rfl, .refl _⟩, ⟨_, rfl, .refl _⟩, ⟨_, rfl, .refl _⟩, ⟨_, rfl, .of (by rw [wrap_id (by omega) (by omega)]; rfl)⟩, ⟨_, rfl, .of (by rw [wrap_id (by omega) (by omega)]; rfl)⟩, trivial⟩ ⟨.refl _, .refl _, trivial⟩ rfl rfl (Nat.zero_le _)
    · have h6 : (bt ⟨T.toArray⟩ ((i : Int)).toNat == 10) = false := h6
      rw [Int.toNat_natCast, bt_list, beq_eq_false_iff_ne] at h6
      rw [hcs, if_neg (fun h => h6 (by rw [h]; rfl)), Nat.add_zero] at ih
      refine sat_stop tabOk Tryz.func7 rfl trivial ?_
      exact sat_le ih hC hCl ⟨⟨_, rfl, .refl _⟩, ⟨_, rfl, .refl _⟩, ⟨_, rfl, .refl _⟩, ⟨_, rfl, .refl _⟩, ⟨_, rfl, .refl _⟩, ⟨_, rfl, .refl _⟩, ⟨_, rfl, .refl _⟩, ⟨_, rfl, .refl _⟩, ⟨_, rfl, .refl _⟩, ⟨_, rfl, .of (by rw [wrap_id (by omega) (by omega)]; rfl)⟩, trivial⟩ ⟨.refl _, .refl _, trivial⟩ rfl rfl (Nat.zero_le _)
  have h5 : decide ((i : Int) < (k : Int)) = false := h5
  rw [decide_eq_false_iff_not] at h5
  obtain rfl : i = k := by omega
  clear ih
  have hci := hcn i
  cases W with
  | true =>
    have hq := hew (hW.1 rfl)
    obtain ⟨rfl, rfl, rfl⟩ : L = l.take ((T.take i).count 10) ∧ at_ = (i : Int) ∧ e = 0 := by
      have h1 := congrArg Prod.fst hq
      have h2 := congrArg (fun z => z.2.1) hq
      have h3 := congrArg (fun z => z.2.2) hq
      exact ⟨h1, h2, h3⟩
    have hnl := hcT i
    clear hcT hcn
    generalize (T.take i).count 10 = n at *
    have cc := rSame_call (l.take n) (l.take n) (by rw [List.length_take]; omega)
    rw [decide_eq_true rfl] at cc
    refine sat_branch tabOk Tryz.func7 rfl trivial (fun _ => ?_) (fun h => by cases h)
    refine sat_drawT 17 tabOk Tryz.func7 rfl rfl ?nd (by kernel_rfl) ?_
    case nd => trivial
    refine ds_branch tabOk rfl trivial (fun _ => ?_) (fun h => by cases h)
    refine ds_branch tabOk rfl trivial (fun _ => ?_) (fun h => by cases h)
    refine ds_branch tabOk rfl trivial (fun _ => ?_) (fun h => ?_)
    rotate_left
    · have h : ((i : Int) == (i : Int)) = false := h
      simp at h
    refine ds_done tabOk rfl ?nd2 ?_
    case nd2 =>
      rw [List.length_map]
      exact ⟨⟨by omega, by omega, by omega⟩, trivial⟩
    refine sat_call tabOk Tryz.func7 rfl trivial cc ⟨.refl _, VLe.dag ⟨DLe.eL ?ls, trivial⟩, trivial⟩ rfl ⟨_, rfl⟩ (by rintro r o rfl; rfl) ?_
    case ls =>
      show List.take ((n : Int) - 0).toNat (List.drop (Int.toNat 0) (l.map eNd)) = _
      rw [Int.sub_zero, Int.toNat_natCast, List.map_take]
      rfl
    rintro _ o rfl
    exact sat_ret tabOk Tryz.func7 rfl trivial rfl
  | false =>
    have he : e ≠ 0 := hen (fun h => by have := hW.2 (.inl h); cases this) (fun h => by have := hW.2 (.inr h); cases this)
    refine sat_branch tabOk Tryz.func7 rfl trivial (fun h => by cases h) (fun _ => ?_)
    refine sat_branch tabOk Tryz.func7 rfl trivial (fun _ => ?_) (fun h => by cases h)
    refine sat_branch tabOk Tryz.func7 rfl trivial (fun h6 => ?_) (fun h6 => ?_)
    rotate_left
    · have h6 : (e != 0) = false := h6
      rw [bne_eq_false_iff_eq] at h6
      exact absurd h6 he
    refine sat_branch tabOk Tryz.func7 rfl trivial (fun h7 => ?_) (fun h7 => ?_)
    rotate_left
    · have h7 : decide (at_ ≤ (i : Int)) = false := h7
      rw [decide_eq_false_iff_not] at h7
      exact absurd hpl.1.2.1 h7
    refine sat_ret tabOk Tryz.func7 rfl trivial ?_
    show vB (decide (at_ ≥ 0)) = _
    rw [decide_eq_true hpl.1.1]
end Go.Proofs.YtjjlipbddlignaaGreatDoor
set_option linter.unusedSimpArgs false
set_option linter.unusedVariables false
set_option linter.unusedSectionVars false
namespace Ab
open Go
variable [Draws]

def reachB (l : List Nat) : Bool := l.all fun n => decide (n ≤ reachBytes)
/-- Whatever is read at a type's place, and is no greater than a machine's memory, is data of a shape. -/
structure ReadsS (P : Program) (t : TypeId) {α : Type} (enc : α → D) (Q : α → Prop) : Prop where
  len : ∀ a, (enc a).cells.length = P.cellsOf t
  rd : ∀ {H : Type} (eH : TypeId × Value → H) (w : World) (fuel : Nat) (cs : List Value) (x : DataW H × List MemPlace) (ok : Nat → Prop), (∀ b, ok b) → DataW.trod eH P w 0 (fun _ => true) true fuel t cs = some x → reachB (x.1.weights P t) = true → ∃ a, Q a ∧ RelL w ok (enc a).cells cs
/-- Data told in other words. -/
theorem Reads.via {P : Program} {t : TypeId} {α β : Type} {enc : α → D} {Q : α → Prop} {enc' : β → D} {Q' : β → Prop} (R : Reads P t enc Q) (g : α → β) (hg : ∀ a, Q a → Q' (g a)) (he : ∀ a, Q a → enc' (g a) = enc a) (hl : ∀ b, (enc' b).cells.length = P.cellsOf t) : Reads P t enc' Q' where
  len := hl
  rd eH w fuel cs x ok hok h := by
    obtain ⟨a, qa, ra⟩ := R.rd eH w fuel cs x ok hok h
    exact ⟨g a, hg a qa, by rw [he a qa]; exact ra⟩
theorem ReadsS.via {P : Program} {t : TypeId} {α β : Type} {enc : α → D} {Q : α → Prop} {enc' : β → D} {Q' : β → Prop} (R : ReadsS P t enc Q) (g : α → β) (hg : ∀ a, Q a → Q' (g a)) (he : ∀ a, Q a → enc' (g a) = enc a) (hl : ∀ b, (enc' b).cells.length = P.cellsOf t) : ReadsS P t enc' Q' where
  len := hl
  rd eH w fuel cs x ok hok h hw := by
    obtain ⟨a, qa, ra⟩ := R.rd eH w fuel cs x ok hok h hw
    exact ⟨g a, hg a qa, by rw [he a qa]; exact ra⟩
/-- Fields, one behind the other from a place on. -/
structure ReadsFS (P : Program) (fs : List Field) (o tot : Nat) {α : Type} (enc : α → List D) (Q : α → Prop) : Prop where
  len : ∀ a, (enc a).length = tot
  rd : ∀ {H : Type} (eH : TypeId × Value → H) (w : World) (fuel : Nat) (cs : List Value) (ok : Nat → Prop), (∀ b, ok b) → (∀ f ∈ fs, ∃ x, DataW.trod eH P w 0 (fun _ => true) true fuel f.type ((cs.drop f.offset).take (P.cellsOf f.type)) = some x ∧ reachB (x.1.weights P f.type) = true) → ∃ a, Q a ∧ RelL w ok (enc a) ((cs.drop o).take tot)
theorem ReadsS.argS {P : Program} {t : TypeId} {α : Type} {enc : α → D} {Q : α → Prop} (R : ReadsS P t enc Q) {H : Type} {eH : TypeId × Value → H} {W : World} {cs : Array Value} {d : DataW H} {p : List MemPlace} (h : DataW.Trod eH P W 0 (fun _ => true) true t (.agg cs) d p) (hw : reachB (d.weights P t) = true) (ok : Nat → Prop) (hok : ∀ b, ok b) :
    ∃ a, Q a ∧ RelL W ok (enc a).cells cs.toList := by
  obtain ⟨fuel, hf⟩ := h
  exact R.rd eH W fuel cs.toList _ ok hok hf hw
theorem ReadsS.arg {P : Program} {t : TypeId} {α : Type} {enc : α → D} {Q : α → Prop} (R : ReadsS P t enc Q) {H : Type} {eH : TypeId × Value → H} {W : World} {v : Value} {d : DataW H} {p : List MemPlace} (h : DataW.Trod eH P W 0 (fun _ => true) true t v d p) (hw : reachB (d.weights P t) = true) (hna : ∀ cs, v ≠ .agg cs) (ok : Nat → Prop) (hok : ∀ b, ok b) :
    ∃ a, Q a ∧ RelL W ok (enc a).cells [v] := by
  obtain ⟨fuel, hf⟩ := h
  have : v.cells.toList = [v] := by
    cases v <;> first | rfl | exact absurd rfl (hna _)
  rw [this] at hf
  exact R.rd eH W fuel [v] _ ok hok hf hw
end Ab
