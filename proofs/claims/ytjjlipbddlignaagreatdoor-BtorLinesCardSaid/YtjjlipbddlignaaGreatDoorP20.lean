/- A part of the proof: Ab74, N37, N28, N41, N42, N43, N44, Ab63. -/
import Derived.Test.YtjjlipbddlignaaGreatDoorP19
import Derived.Lib.ConvBytes
import Derived.Lib.SlBytesConst
set_option linter.unusedVariables false
set_option linter.unusedSimpArgs false
set_option linter.unusedSimpArgs false
set_option linter.unusedVariables false
set_option linter.unusedSectionVars false
namespace Ab
open Go
variable [Draws]

section
variable {P : Program} [Globals P] {T : Tab} {f : FuncId} {n : Nat} {C : Cx} {R : AV → List (Option AObj) → Prop} {env : Env} {objs : List (Option AObj)} {ops : Array Oper}

/-- A string's bytes, in a slice of the call's own. -/
theorem sat_strB {i : Nat} {r : List Nat} {k : List Item} {o : Oper} {e2 : Env} {src dst e : TypeId} {rs rd re : TRow} {xo : Operand} {bs : List UInt8} (hT : TabOk P T) (ho : ops[i]? = some o) (hw : wantE ops env o = .yes) (hop : o.op = .convert src dst xo) (hx : opnd env xo = some (.d (.v (.string ⟨bs.toArray⟩))))
    (hrs : tlook T src = some rs) (hks : rs.kd = .str) (hrd : tlook T dst = some rd) (hkd : rd.kd = .slice e) (hre : tlook T e = some re) (h8 : re.kd = .int .u8) (hlen : bs.length ≤ 1000000000)
    (hput : putE n o.dst (.gs objs.length) env = some e2) (h : ASat P f n C (.inRegion ops r :: k) e2 (objs ++ [some (gL e 1 eU8 0 bs)]) R) : ASat P f n C (.inRegion ops (i :: r) :: k) env objs R := by
  refine sat_op ⟨none, false, .gs objs.length, none, objs ++ [some (gL e 1 eU8 0 bs)]⟩ ho hw (fun X π w tmps m he _ => ?_) trivial hput h
  have hax := look_ok (P := P) he hx
  have hs := str_type hT hrs hks
  have hd := slice_elem hT hrd hkd
  have heU := int_type hT hre h8
  have hrun := Go.Lib.run_convert_string_bytes (P := P) w src dst e ⟨bs.toArray⟩ hs hd heU
  have hsize : (⟨bs.toArray⟩ : ByteArray).size = bs.length := by simp [ByteArray.size]
  have hml : maxLen = 9223372036854775807 := rfl
  rw [hsize] at hrun
  have hcell := Go.Lib.bytesWorld_cell w e ⟨bs.toArray⟩
  have hold : ∀ b, b < w.heap.size → (Go.Lib.bytesWorld w e ⟨bs.toArray⟩).heap[b]? = w.heap[b]? := fun b hb => Go.Lib.bytesWorld_at_old w e _ b hb
  have hnew := Go.Lib.bytesWorld_at_new w e ⟨bs.toArray⟩
  have hhs := Go.Lib.bytesWorld_size w e ⟨bs.toArray⟩
  have hout : (Go.Lib.bytesWorld w e ⟨bs.toArray⟩).os = w.os ∧ (Go.Lib.bytesWorld w e ⟨bs.toArray⟩).tape = w.tape ∧ (Go.Lib.bytesWorld w e ⟨bs.toArray⟩).output = w.output ∧ w.drawn ≤ (Go.Lib.bytesWorld w e ⟨bs.toArray⟩).drawn := by
    unfold Go.Lib.bytesWorld World.freeze
    rw [if_neg (by decide)]
    exact ⟨rfl, rfl, rfl, Nat.le_succ _⟩
  have hc1 := grownCap_ge w bs.length 0 e
  have hc2 := grownCap_le_maxLen w bs.length 0 e (by omega)
  have hclen : (Go.Lib.bytesCells w e ⟨bs.toArray⟩).size = grownCap w bs.length 0 e := by
    simp only [Go.Lib.bytesCells, hsize, Array.size_append, Array.size_map, List.size_toArray, Array.size_replicate]
    omega
  generalize grownCap w bs.length 0 e = c at hc1 hc2 hclen hrun
  generalize Go.Lib.bytesCells w e ⟨bs.toArray⟩ = BC at hnew hclen
  generalize Go.Lib.bytesWorld w e ⟨bs.toArray⟩ = W at *
  obtain ⟨BC⟩ := BC
  simp only [List.size_toArray] at hclen hnew
  have hh' : ∀ b, blk (.slice (some ⟨w.heap.size, 0, none⟩) bs.length c) = some b → w.heap.size ≤ b := by
    intro b hb
    cases c <;> cases hb
    exact Nat.le_refl _
  refine ⟨.slice (some ⟨w.heap.size, 0, none⟩) bs.length c, W, π ++ [.slice (some ⟨w.heap.size, 0, none⟩) bs.length c], ?_, tr_newW m hout.1 hout.2.1 ⟨hout.2.2.1, dr_mono hout.2.2.2⟩ (by rw [hhs]; omega) hold _ (gL e 1 eU8 0 bs) hh' ?_, fun _ => .gs (nth_new m.len _)⟩
  · unfold execOp
    rw [hop]
    simp only [Sem.run_bind, hax, hrun, Result.andThen_ok, Sem.run_pure]
    rfl
  · cases c with
    | zero =>
      obtain rfl : bs = [] := List.eq_nil_of_length_eq_zero (by omega)
      exact .gnil
    | succ c =>
      have hls : (bs.map fun b => Value.int .u8 (b.toNat : Int)).length = bs.length := by simp
      have hk := new_keepsW (X := X) (π := π) (objs := objs) hold (.slice (some ⟨w.heap.size, 0, none⟩) bs.length (c + 1)) (gL e 1 eU8 0 bs) m.len hh'
      have := RelO.grow (w := W) (ok := okOf X (π ++ [.slice (some ⟨w.heap.size, 0, none⟩) bs.length (c + 1)]) (objs ++ [some (gL e 1 eU8 0 bs)])) (π := π ++ [.slice (some ⟨w.heap.size, 0, none⟩) bs.length (c + 1)]) (e := e) (s := 1) (b := w.heap.size) (o := 0) (c := c) (xs := bs.map eU8) (us := bs.map fun b => Value.int .u8 (b.toNat : Int))
        (vs := BC) (rd := fun i => eU8 (bs.getD i 0)) (fz := (BC.length, BC.length + 1)) hnew (fun q hq => by omega) (strEs_rel bs) (fun q hq => ?_) (by rw [List.length_map]; exact hc1) hc2 (by omega) (map_rd eU8 0 bs)
      · rw [List.length_map] at this
        exact this
      · rw [hls] at hq
        have h1 := hcell q (by rw [hsize]; exact hq)
        have h2 := cell_of_heap (i := q) hnew
        rw [h2] at h1
        rw [Nat.zero_add, h1]
        simp [hq, List.getD_eq_getElem?_getD]
end
end Ab
namespace Go.Proofs.YtjjlipbddlignaaGreatDoor
open Go Ab Go.RowKit Go.Lib
set_option maxRecDepth 100000
set_option linter.unusedVariables false
set_option linter.unusedSimpArgs false
set_option maxHeartbeats 4000000

/-! ### The document's example -/
theorem dleI (l : List Int) : DLe (.sl 1 (l.map eI) (litRd (l.map eI))) (eIs l) := DLe.slR rfl (map_rd eI 0 l)
theorem cleA {cs ds : List D} (h : DLes cs ds) : CLe (.ag cs) (.ag ds) := fun _ _ _ h2 => h.rel h2
theorem dleS {s : Nat} {xs ys : List D} {rd rd' : Nat → D} (h : CLes xs ys) (hr : ∀ i, i < ys.length → ys[i]? = some (rd' i)) : DLe (.sl s xs rd) (.sl s ys rd') := by
  intro w ok v hv
  have hf : flat v = true := by cases hv <;> rfl
  have := CLe.sl h hr w ok [v] (.cons hv hf .nil)
  cases this with | cons h _ _ => exact h
def exM : List Nd := [⟨kSort, 0, [], [8], []⟩, ⟨kInput, 1, [], [], [120]⟩, ⟨kAdd, 1, [2, 2], [], []⟩]
def exT : List UInt8 := [49, 32, 115, 111, 114, 116, 32, 98, 105, 116, 118, 101, 99, 32, 56, 10, 50, 32, 105, 110, 112, 117, 116, 32, 49, 32, 120, 10, 51, 32, 97, 100, 100, 32, 49, 32, 50, 32, 50, 10]
theorem ex_right : rightM exM = true := by decide
theorem ex_text : textM exM = exT := by kernel_rfl
theorem ex_b : ∀ x ∈ exM, NdB x := by
  intro x hx
  have hml : maxLen = 9223372036854775807 := rfl
  simp only [exM, List.mem_cons, List.not_mem_nil, or_false] at hx
  rcases hx with rfl | rfl | rfl <;> exact ⟨by decide, by decide, by decide, by decide⟩
theorem ex_par : parM exT = (exM, ((exT.length : Nat) : Int), 0) := by
  have := par_read ex_right (by rw [ex_text]; decide)
  rwa [ex_text] at this
theorem ex_le : VLe (.d (.ag [.sl 5 [.ag [dSL kSort, eI 0, .v (.slice none 0 0), .sl 1 [eI 8] (litRd [eI 8]), dSL []], .ag [dSL kInput, eI 1, .v (.slice none 0 0), .v (.slice none 0 0), dSL [120]], .ag [dSL kAdd, eI 1, .sl 1 [eI 2, eI 2] (litRd [eI 2, eI 2]), .v (.slice none 0 0), dSL []]]
    (litRd [.ag [dSL kSort, eI 0, .v (.slice none 0 0), .sl 1 [eI 8] (litRd [eI 8]), dSL []], .ag [dSL kInput, eI 1, .v (.slice none 0 0), .v (.slice none 0 0), dSL [120]], .ag [dSL kAdd, eI 1, .sl 1 [eI 2, eI 2] (litRd [eI 2, eI 2]), .v (.slice none 0 0), dSL []]])])) (.d (eBt exM)) := by
  refine VLe.dag ⟨dleS (ys := exM.map eNd) ?_ (map_rd eNd default exM), trivial⟩
  exact ⟨cleA ⟨.refl _, .refl _, dle_nil, dleI [8], .refl _, trivial⟩, cleA ⟨.refl _, .refl _, dle_nil, dle_nil, .refl _, trivial⟩, cleA ⟨.refl _, .refl _, dleI [2, 2], dle_nil, .refl _, trivial⟩, trivial⟩
theorem shown13_call : ACall Tryz.prog 8 [] [] (fun r o => r = vB true) := by
  refine acall_enter Tryz.func8 rfl rfl (Nat.le_of_ble_eq_true rfl) fun C hC hCl hDs hGk => ?_
  refine sat_call tabOk Tryz.func8 rfl trivial (bPrint_call exM (by decide) ex_b (fun _ => by rw [ex_text]; decide)) ⟨ex_le, trivial⟩ rfl ⟨_, rfl⟩ (by rintro r o rfl; rfl) ?_
  rintro _ o rfl
  unfold prA
  rw [ex_right, if_pos rfl, if_pos rfl, ex_text]
  refine sat_steps 9 tabOk Tryz.func8 rfl trivial ?_
  refine sat_strB (bs := exT) tabOk rfl rfl rfl rfl rfl rfl rfl rfl rfl rfl (by decide) rfl ?_
  refine sat_freeze 1 rfl ?_
  refine sat_call tabOk Tryz.func8 rfl trivial (bParse_call exT (by decide)) ⟨VLe.eL rfl, trivial⟩ rfl ⟨_, rfl⟩ (by rintro r o rfl; rfl) ?_
  rintro _ o rfl
  unfold parA
  rw [ex_par]
  refine sat_call tabOk Tryz.func8 rfl trivial (pForm_call kSlice) (.refl _) rfl ⟨_, rfl⟩ (by rintro r o rfl; rfl) ?_
  rintro _ o rfl
  refine sat_branch tabOk Tryz.func8 rfl trivial (fun _ => ?_) (fun h => by cases h)
  refine sat_branch tabOk Tryz.func8 rfl trivial (fun _ => ?_) (fun h => by cases h)
  refine sat_branch tabOk Tryz.func8 rfl trivial (fun _ => ?_) (fun h => ?_)
  rotate_left
  · have h : ((⟨exT.toArray⟩ : ByteArray).toList == (⟨exT.toArray⟩ : ByteArray).toList) = false := h
    rw [isEq_bytes, decide_eq_true rfl] at h
    cases h
  refine sat_branch tabOk Tryz.func8 rfl trivial (fun _ => ?_) (fun h => by cases h)
  refine sat_call tabOk Tryz.func8 rfl trivial (bSame_call exM exM) ⟨ex_le, .refl _, trivial⟩ rfl ⟨_, rfl⟩ (by rintro r o rfl; rfl) ?_
  rintro _ o rfl
  rw [decide_eq_true (rfl : exM = exM)]
  refine sat_branch tabOk Tryz.func8 rfl trivial (fun _ => ?_) (fun h => by cases h)
  refine sat_call tabOk Tryz.func8 rfl trivial (pRight_call exM (by decide) ex_b) ⟨ex_le, trivial⟩ rfl ⟨_, rfl⟩ (by rintro r o rfl; rfl) ?_
  rintro _ o rfl
  rw [ex_right]
  refine sat_branch tabOk Tryz.func8 rfl trivial (fun _ => ?_) (fun h => by cases h)
  refine sat_branch tabOk Tryz.func8 rfl trivial (fun _ => ?_) (fun h => ?_)
  rotate_left
  · have h : ((⟨([115, 97, 110, 110] : List UInt8).toArray⟩ : ByteArray).toList == (⟨([115, 97, 110, 110] : List UInt8).toArray⟩ : ByteArray).toList) = false := h
    rw [isEq_bytes, decide_eq_true rfl] at h
    cases h
  exact sat_ret tabOk Tryz.func8 rfl trivial rfl
end Go.Proofs.YtjjlipbddlignaaGreatDoor
namespace Go.Proofs.YtjjlipbddlignaaGreatDoor
open Go Ab Go.Lib
set_option maxRecDepth 100000
set_option linter.unusedVariables false
set_option linter.unusedSimpArgs false

/-! ### How long texts are; texts that are the same -/
theorem nodeT_len {id : Int} {x : Nd} (h0 : 0 ≤ id) (hid : id ≤ 100000) (h : nodeB id x = true) (hs : SmN x) : (nodeT id x).length ≤ 1000 := by
  obtain ⟨n1, n2, n3⟩ := nodeB_nums hid h
  have l1 := nums_len x.a n2
  have l2 := nums_len x.n n3
  have l3 := numT_len (n := x.s) (by omega) (by omega)
  have l4 : (tItoa id).length ≤ 21 := Go.Lib.itoa_length_le id (by omega) (by omega)
  have s1 := hs.op
  have s2 := hs.t
  have s3 := hs.a
  have s4 := hs.n
  have l5 : (if frm x.op = [119] then sBitvec else []).length ≤ 7 := by split <;> decide
  have l6 : (if 0 < x.s then numT x.s else []).length ≤ 24 := by split <;> first | exact l3 | exact Nat.zero_le _
  have l7 : (if x.t = [] then [] else 32 :: x.t).length ≤ 201 := by
    split
    · exact Nat.zero_le _
    · rw [List.length_cons]; omega
  unfold nodeT
  simp only [List.length_append, List.length_cons, List.length_nil]
  omega
theorem textFrom_len : ∀ (l : List Nd) (i : Nat), rightFrom i l = true → i + l.length ≤ 5000 → (∀ x ∈ l, SmN x) → (textFrom i l).length ≤ 1000 * l.length
  | [], _, _, _, _ => Nat.le_refl _
  | x :: r, i, h, hl, hs => by
    rw [rightFrom, Bool.and_eq_true] at h
    rw [List.length_cons] at hl
    have h1 := nodeT_len (by omega) (by omega) h.1 (hs x List.mem_cons_self)
    have h2 := textFrom_len r (i + 1) h.2 (by omega) fun y hy => hs y (List.mem_cons_of_mem _ hy)
    rw [textFrom, List.length_append, List.length_cons]
    omega
theorem textM_len {l : List Nd} (h : rightM l = true) (hl : l.length ≤ 41) (hs : ∀ x ∈ l, SmN x) : (textM l).length ≤ 41000 := by
  unfold rightM at h
  rw [Bool.and_eq_true] at h
  have := textFrom_len l 0 h.1 (by omega) hs
  unfold textM
  omega
end Go.Proofs.YtjjlipbddlignaaGreatDoor
namespace Go.Proofs.YtjjlipbddlignaaGreatDoor
open Go Ab Go.RowKit Go.Lib
set_option maxRecDepth 100000
set_option linter.unusedVariables false
set_option linter.unusedSimpArgs false
set_option maxHeartbeats 4000000

theorem small_b {l : List Nd} {n : Nat} (h : (l.length : Int) ≤ n ∧ ∀ x ∈ l, SmN x) : l.length ≤ n ∧ ∀ x ∈ l, NdB x := ⟨by have := h.1; omega, fun x hx => (h.2 x hx).b⟩
end Go.Proofs.YtjjlipbddlignaaGreatDoor
namespace Go.Proofs.YtjjlipbddlignaaGreatDoor
open Go Ab Go.RowKit Go.Lib
set_option maxRecDepth 100000
set_option linter.unusedVariables false
set_option linter.unusedSimpArgs false
set_option maxHeartbeats 4000000

end Go.Proofs.YtjjlipbddlignaaGreatDoor
namespace Go.Proofs.YtjjlipbddlignaaGreatDoor
open Go Ab Go.RowKit Go.Lib
set_option maxRecDepth 100000
set_option linter.unusedVariables false
set_option linter.unusedSimpArgs false
set_option maxHeartbeats 4000000

end Go.Proofs.YtjjlipbddlignaaGreatDoor
namespace Go.Proofs.YtjjlipbddlignaaGreatDoor
open Go Ab Go.RowKit Go.Lib
set_option maxRecDepth 100000
set_option linter.unusedVariables false
set_option linter.unusedSimpArgs false
set_option maxHeartbeats 4000000

def sel (e : Nat) (L : List Nat) (o h : AObj) : AObj := if e ∈ L then o else h
theorem sel_self (e : Nat) (L : List Nat) (o h : AObj) : sel e (e :: L) o h = o := if_pos (List.mem_cons_self ..)
theorem sel_ne {e j : Nat} (hne : j ≠ e) (L : List Nat) (o h : AObj) : sel e (j :: L) o h = sel e L o h := by
  unfold sel
  simp only [List.mem_cons, hne.symm, false_or]
theorem sel_no {e : Nat} {L : List Nat} (hn : e ∉ L) (o h : AObj) : sel e L o h = h := if_neg hn
theorem sel_yes {e : Nat} {L : List Nat} (hn : e ∈ L) (o h : AObj) : sel e L o h = o := if_pos hn
def selO (e : Nat) (L : List Nat) (o h : Option AObj) : Option AObj := if e ∈ L then o else h
theorem selO_self (e : Nat) (L : List Nat) (o h : Option AObj) : selO e (e :: L) o h = o := if_pos (List.mem_cons_self ..)
theorem selO_ne {e j : Nat} (hne : j ≠ e) (L : List Nat) (o h : Option AObj) : selO e (j :: L) o h = selO e L o h := by
  unfold selO
  simp only [List.mem_cons, hne.symm, false_or]
theorem selO_no {e : Nat} {L : List Nat} (hn : e ∉ L) (o h : Option AObj) : selO e L o h = h := if_neg hn
theorem selO_yes {e : Nat} {L : List Nat} (hn : e ∈ L) (o h : Option AObj) : selO e L o h = o := if_pos hn


theorem right_more {l : List Nd} (h : rightM l = true) (hl : l.length ≤ 4000) (x : Nd) : rightM (l ++ [x]) = nodeB ((l.length : Int) + 1) x := by
  unfold rightM at h
  rw [Bool.and_eq_true, rightFrom_iff, decide_eq_true_eq] at h
  rw [Bool.eq_iff_iff]
  unfold rightM
  rw [Bool.and_eq_true, rightFrom_iff, decide_eq_true_eq]
  constructor
  · rintro ⟨h1, _⟩
    have := h1 l.length (by simp)
    simpa using this
  · intro hx
    refine ⟨fun j hj => ?_, by simp; omega⟩
    rw [List.length_append, List.length_singleton] at hj
    rcases Nat.lt_or_ge j l.length with h2 | h2
    · rw [List.getElem_append_left h2]
      exact h.1 j h2
    · obtain rfl : j = l.length := by omega
      simpa using hx
theorem text_more (l : List Nd) (x : Nd) : textM (l ++ [x]) = textM l ++ nodeT ((l.length : Int) + 1) x := by
  unfold textM
  rw [text_app, Nat.zero_add]
  simp [textFrom]
theorem nodeB_form {id : Int} {x : Nd} (h : nodeB id x = true) : (formR x.op).2 = true ∧ 0 < (formR x.op).1.length := by
  unfold nodeB at h
  simp only [Bool.and_eq_true] at h
  refine ⟨h.1.1.1.1, ?_⟩
  rcases form_cases x.op with ⟨e, _⟩ | ⟨_, e⟩
  · rw [e] at h
    exact absurd h.1.1.1.1 (by decide)
  · unfold frm at e
    rcases e with e | e | e | e | e | e | e | e | e <;> rw [e] <;> decide
theorem Lines_law (l : List Nd) (x : Nd) (hl : l.length ≤ maxLen) : ACall Tryz.prog 6 [.d (eBt l), .d (eNd x)] [] (fun r o => r = vB true) := by
  refine acall_enter Tryz.func6 rfl rfl (Nat.le_of_ble_eq_true rfl) fun C hC hCl hDs hGk => ?_
  refine sat_call tabOk Tryz.func6 rfl trivial shown13_call (.refl _) rfl ⟨_, rfl⟩ (by rintro r o rfl; rfl) ?_
  rintro _ o rfl
  refine sat_call tabOk Tryz.func6 rfl trivial (small13_call l hl 40) (.refl _) rfl ⟨_, rfl⟩ (by rintro r o ⟨b, rfl, -⟩; rfl) ?_
  rintro _ o ⟨b1, rfl, h1⟩
  cases b1 with
  | false =>
    repeat refine sat_branch tabOk Tryz.func6 rfl trivial (fun _ => ?_) (fun h => by cases h)
    exact sat_ret tabOk Tryz.func6 rfl trivial rfl
  | true =>
  refine sat_branch tabOk Tryz.func6 rfl trivial (fun h => by cases h) (fun _ => ?_)
  refine sat_call tabOk Tryz.func6 rfl trivial (small13_call [x] (Nat.le_of_ble_eq_true rfl) 1) ⟨VLe.dag ⟨DLe.eL rfl, trivial⟩, .refl _, trivial⟩ rfl ⟨_, rfl⟩ (by rintro r o ⟨b, rfl, -⟩; rfl) ?_
  rintro _ o ⟨b2, rfl, h2⟩
  cases b2 with
  | false =>
    repeat refine sat_branch tabOk Tryz.func6 rfl trivial (fun _ => ?_) (fun h => by cases h)
    exact sat_ret tabOk Tryz.func6 rfl trivial rfl
  | true =>
  have s1 := small_b (n := 40) (h1 rfl)
  have hsx := (h2 rfl).2 x (List.mem_singleton.2 rfl)
  refine sat_branch tabOk Tryz.func6 rfl trivial (fun h => by cases h) (fun _ => ?_)
  refine sat_call tabOk Tryz.func6 rfl trivial (rRight_call l (by omega) s1.2) (.refl _) rfl ⟨_, rfl⟩ (by rintro r o rfl; rfl) ?_
  rintro _ o rfl
  cases r1 : rightM l with
  | false =>
    repeat refine sat_branch tabOk Tryz.func6 rfl trivial (fun _ => ?_) (fun h => by cases h)
    exact sat_ret tabOk Tryz.func6 rfl trivial rfl
  | true =>
  refine sat_branch tabOk Tryz.func6 rfl trivial (fun h => by cases h) (fun _ => ?_)
  have hpl : C.π.length = 0 := by rw [hCl, hC]; rfl
  have hl40 := s1.1
  refine sat_drawK 9 2 [(3, some (33, .gs 2)), (6, some (36, .d (.sl 5 (l.map eNd ++ [eNd x]) (catRd (l.map eNd).length (fun i => eNd (l.getD i default)) (litRd [eNd x]))))), (7, some (37, .d (.ag [.sl 5 (l.map eNd ++ [eNd x]) (catRd (l.map eNd).length (fun i => eNd (l.getD i default)) (litRd [eNd x]))]))), (8, some (6, .ptr 3 0))] [(33, 6)]
    (fun L => [some (bBt l), some (bNd x), selO 6 L none (selO 3 L (some (.grow 43 5 (l.map eNd) (fun i => eNd (l.getD i default)))) (some HD)), some (sel 8 L (.cells 24 [.d (.v (.slice none 0 0))]) HD)]) _
    (objsF := [some (bBt l), some (bNd x), none, some (.cells 24 [.d (.v (.slice none 0 0))])])
    tabOk Tryz.func6 rfl rfl trivial (by kernel_rfl) (by kernel_rfl) ?_ ?_ ?_ rfl (by kernel_rfl) (fun L => by
      refine ds_lit tabOk rfl rfl rfl rfl rfl rfl rfl ?_
      refine ds_ok tabOk rfl rfl rfl rfl rfl ?_
      refine ds_ok tabOk rfl rfl rfl rfl rfl ?_
      refine ds_ok tabOk rfl rfl rfl rfl rfl ?_
      refine ds_lit tabOk rfl rfl rfl rfl rfl rfl rfl ?_
      exact ds_done tabOk rfl trivial rfl) ?_ ?_
  · rfl
  · intro L hL
    simp only [sel_yes (hL 8 (by decide)), selO_yes (hL 6 (by decide))]
  · intro j L hb
    simp only [actB, List.any_cons, List.any_nil, Bool.or_false, Bool.or_eq_false_iff] at hb
    have n3 := Nat.ne_of_beq_eq_false hb.1
    have n6 := Nat.ne_of_beq_eq_false hb.2.1
    have n8 := Nat.ne_of_beq_eq_false hb.2.2.2
    simp only [sel_ne (fun e => n8 e.symm), selO_ne (fun e => n6 e.symm), selO_ne (fun e => n3 e.symm)]
  · refine List.forall_mem_cons.2 ⟨⟨_, rfl, rfl, ?_⟩, List.forall_mem_cons.2 ⟨⟨_, rfl, rfl, ?_⟩, List.forall_mem_cons.2 ⟨⟨_, rfl, rfl, ?_⟩, List.forall_mem_cons.2 ⟨⟨_, rfl, rfl, ?_⟩, fun x h => by cases h⟩⟩⟩⟩
    · refine HeadH.toK _ (headH_app0 (p := 2) (ys := l.map eNd) (rd2 := fun i => eNd (l.getD i default)) tabOk rfl (fun _ _ _ h => h) rfl rfl rfl (fun L => rfl) rfl rfl rfl rfl rfl rfl ?_ rfl rfl rfl (by omega) ?_ ?_)
      · rw [List.length_map]
        show l.length * 88 ≤ _
        omega
      · intro L h3 hc
        have h6 : 6 ∉ L := fun h => h3 (hc 6 h 3 (by kernel_rfl))
        show some (selO 6 L _ (selO 3 L _ _)) = _
        rw [selO_no h6, selO_no h3]
      · intro L h3 hc
        have h6 : 6 ∉ L := fun h => h3 (hc 6 h 3 (by kernel_rfl))
        have h6' : 6 ∉ 3 :: L := by simp only [List.mem_cons, not_or]; exact ⟨by decide, h6⟩
        simp only [selO_no h6, selO_no h6', selO_self, sel_ne (show (3 : Nat) ≠ 8 by decide)]
        rfl
    · refine headK_eat (c := some (((l.map eNd).length + [eNd x].length) * 88 ≤ 140737488355328)) (p := 2) (s := 5) (e := 43) (xs := l.map eNd ++ [eNd x]) (rd := catRd (l.map eNd).length (fun i => eNd (l.getD i default)) (litRd [eNd x])) (O1 := fun L => [some (bBt l), some (bNd x), some (.grow 43 5 (l.map eNd ++ [eNd x]) (catRd (l.map eNd).length (fun i => eNd (l.getD i default)) (litRd [eNd x]))), some (sel 8 L (.cells 24 [.d (.v (.slice none 0 0))]) HD)]) tabOk rfl (fun _ _ _ h => h) ?_ ?_ (fun L _ _ => rfl) ?_ ?_ rfl rfl rfl
      · intro L h6 hw
        have h3 := hw 3 (by kernel_rfl)
        simp only [selO_no h6, selO_yes h3]
        cases h8 : decide (8 ∈ L) with
        | true => simp only [sel_yes (of_decide_eq_true h8)]; rfl
        | false => simp only [sel_no (of_decide_eq_false h8)]; rfl
      · show ((l.map eNd).length + 1) * 88 ≤ _
        rw [List.length_map]
        omega
      · intro L h6 hw
        simp only [selO_self, sel_ne (show (6 : Nat) ≠ 8 by decide)]
        cases h8 : decide (8 ∈ L) with
        | true => simp only [sel_yes (of_decide_eq_true h8)]; rfl
        | false => simp only [sel_no (of_decide_eq_false h8)]; rfl
      · refine frz_env ?_
        repeat (refine List.forall_mem_cons.2 ⟨?_, ?_⟩; first | exact fun _ => rfl | exact fun h => (by have h2 : true = false := h; cases h2))
        intro x h
        exact absurd h List.not_mem_nil
    · refine HeadH.toK _ (headH_pure tabOk rfl (fun _ _ _ h => h) (fun L => rfl) (fun L => ?_) rfl rfl rfl)
      simp only [sel_ne (show (7 : Nat) ≠ 8 by decide), selO_ne (show (7 : Nat) ≠ 6 by decide), selO_ne (show (7 : Nat) ≠ 3 by decide)]
    · refine HeadH.toK _ (headH_allocC (p := 3) tabOk rfl rfl rfl rfl rfl rfl (by omega) ?_ ?_)
      · intro L h8 hc
        show some (some (sel 8 L _ _)) = _
        rw [sel_no h8]
      · intro L h8 hc
        simp only [sel_self, selO_ne (show (8 : Nat) ≠ 6 by decide), selO_ne (show (8 : Nat) ≠ 3 by decide)]
        rfl
  have hB : VLe (.d (.ag [.sl 5 (l.map eNd ++ [eNd x]) (catRd (l.map eNd).length (fun i => eNd (l.getD i default)) (litRd [eNd x]))])) (.d (eBt (l ++ [x]))) := .dag ⟨DLe.slR (by rw [List.map_append]; rfl) (map_rd eNd default (l ++ [x])), trivial⟩
  have hrm := right_more r1 (by omega) x
  have htm := text_more l x
  have hsm : ∀ y ∈ l ++ [x], SmN y := fun y hy => by
    rcases List.mem_append.1 hy with h | h
    · exact (h1 rfl).2 y h
    · rw [List.mem_singleton.1 h]
      exact hsx
  have hlm : (l ++ [x]).length ≤ 41 := by rw [List.length_append, List.length_singleton]; omega
  have t1 := textM_len r1 (by omega) (h1 rfl).2
  have t2 := fun h => textM_len (l := l ++ [x]) h hlm hsm
  have hnb : ∀ y ∈ l ++ [x], NdB y := fun y hy => (hsm y hy).b
  have hT1 : 0 ≤ (textM l).length := Nat.zero_le _
  refine sat_call tabOk Tryz.func6 rfl trivial (bPrint_call l (by omega) s1.2 (fun _ => by omega)) (.refl _) rfl ⟨_, rfl⟩ (by rintro r o rfl; rfl) ?_
  rintro _ o rfl
  refine sat_call tabOk Tryz.func6 rfl trivial (bPrint_call (l ++ [x]) (by omega) hnb (fun h => by have := t2 h; omega)) ⟨hB, trivial⟩ rfl ⟨_, rfl⟩ (by rintro r o rfl; rfl) ?_
  rintro _ o rfl
  refine sat_call tabOk Tryz.func6 rfl trivial (pForm_call x.op) (.refl _) rfl ⟨_, rfl⟩ (by rintro r o rfl; rfl) ?_
  rintro _ o rfl
  have c1 := pRight_call (l ++ [x]) (by have : maxLen = 9223372036854775807 := rfl; omega) hnb
  unfold prA
  rw [r1, if_pos rfl, if_pos rfl]
  rw [hrm] at c1 t2 ⊢
  rw [htm] at t2 ⊢
  have hfo := nodeB_form (id := (l.length : Int) + 1) (x := x)
  have hln := nodeT_line (id := (l.length : Int) + 1) (x := x) (by omega) (by omega)
  generalize nodeT ((l.length : Int) + 1) x = N at *
  generalize textM l = T at *
  generalize (formR x.op).1 = f at *
  generalize (formR x.op).2 = g at *
  refine sat_call tabOk Tryz.func6 rfl trivial c1 ⟨hB, trivial⟩ rfl ⟨_, rfl⟩ (by rintro r o rfl; rfl) ?_
  rintro _ o rfl
  cases hR : nodeB ((l.length : Int) + 1) x with
  | false =>
    rw [if_neg (by decide), if_neg (by decide)]
    cases g
    all_goals
      repeat (refine sat_branch tabOk Tryz.func6 rfl trivial (fun h => ?_) (fun h => ?_) <;> first | (exfalso; revert h; decide) | skip)
      refine sat_ret tabOk Tryz.func6 rfl trivial ?_
      show vB ((⟨([] : List UInt8).toArray⟩ : ByteArray).toList == (⟨#[]⟩ : ByteArray).toList) = _
      rw [eqE_list]
      rfl
  | true =>
    rw [if_pos rfl, if_pos rfl]
    obtain ⟨rfl, hf⟩ := hfo hR
    obtain ⟨s, rfl, -⟩ := hln hR
    have ht2 : T.length + (s.length + 1) ≤ 41000 := by
      have := t2 hR
      rwa [List.length_append, List.length_append, List.length_singleton] at this
    refine sat_branch tabOk Tryz.func6 rfl trivial (fun h => by cases h) (fun _ => ?_)
    refine sat_branch tabOk Tryz.func6 rfl trivial (fun h => by cases h) (fun _ => ?_)
    refine sat_branch tabOk Tryz.func6 rfl trivial (fun h => by cases h) (fun _ => ?_)
    refine sat_branch tabOk Tryz.func6 rfl trivial (fun h => by cases h) (fun _ => ?_)
    refine sat_branch tabOk Tryz.func6 rfl trivial (fun h => by cases h) (fun _ => ?_)
    refine sat_branch tabOk Tryz.func6 rfl trivial (fun _ => ?_) (fun h => by cases h)
    refine sat_branch tabOk Tryz.func6 rfl trivial (fun h => ?_) (fun h => ?_)
    rotate_left
    · have h : decide ((((⟨(T ++ (s ++ [10])).toArray⟩ : ByteArray).size : Nat) : Int) > (((⟨T.toArray⟩ : ByteArray).size : Nat) : Int)) = false := h
      rw [sizeBy, sizeBy, decide_eq_false_iff_not, List.length_append, List.length_append, List.length_singleton] at h
      omega
    have hlast : (T ++ (s ++ [10])).getD (T.length + s.length) 0 = (10 : UInt8) := by simp [List.getD_eq_getElem?_getD]
    have hTs : (T ++ (s ++ [10])).length = T.length + (s.length + 1) := by rw [List.length_append, List.length_append, List.length_singleton]
    have hw : IntKind.i64.wrap ((((⟨(T ++ (s ++ [10])).toArray⟩ : ByteArray).size : Nat) : Int) - 1) = ((T.length + s.length : Nat) : Int) := by
      rw [sizeBy, hTs, wrap_id (by omega) (by omega)]
      omega
    refine sat_branch tabOk Tryz.func6 rfl ?nd1 (fun h => ?_) (fun h => ?_)
    case nd1 =>
      refine ⟨?_, trivial⟩
      show 0 ≤ (0 : Int) ∧ (0 : Int) ≤ (((⟨T.toArray⟩ : ByteArray).size : Nat) : Int) ∧ (((⟨T.toArray⟩ : ByteArray).size : Nat) : Int) ≤ (((⟨(T ++ (s ++ [10])).toArray⟩ : ByteArray).size : Nat) : Int)
      rw [sizeBy, sizeBy, hTs]
      omega
    rotate_left
    · have h : (((⟨(T ++ (s ++ [10])).toArray⟩ : ByteArray).extract (Int.toNat 0) ((((⟨T.toArray⟩ : ByteArray).size : Nat) : Int)).toNat).toList == (⟨T.toArray⟩ : ByteArray).toList) = false := h
      rw [sizeBy, exBy, Int.toNat_natCast, List.take_left, show (Int.toNat 0) = 0 from rfl, List.drop_zero, isEq_bytes, decide_eq_true rfl] at h
      cases h
    refine sat_branch tabOk Tryz.func6 rfl ?nd2 (fun h => ?_) (fun h => ?_)
    case nd2 =>
      refine ⟨?_, trivial⟩
      show 0 ≤ IntKind.i64.wrap ((((⟨(T ++ (s ++ [10])).toArray⟩ : ByteArray).size : Nat) : Int) - 1) ∧ IntKind.i64.wrap ((((⟨(T ++ (s ++ [10])).toArray⟩ : ByteArray).size : Nat) : Int) - 1) < (((⟨(T ++ (s ++ [10])).toArray⟩ : ByteArray).size : Nat) : Int)
      rw [hw, sizeBy, hTs]
      omega
    rotate_left
    · have h : (bt ⟨(T ++ (s ++ [10])).toArray⟩ (IntKind.i64.wrap ((((⟨(T ++ (s ++ [10])).toArray⟩ : ByteArray).size : Nat) : Int) - 1)).toNat == 10) = false := h
      rw [hw, Int.toNat_natCast, bt_list, hlast] at h
      cases h
    refine sat_ret tabOk Tryz.func6 rfl trivial ?_
    show vB (decide ((((⟨f.toArray⟩ : ByteArray).size : Nat) : Int) > 0)) = _
    rw [sizeBy, decide_eq_true (by omega)]
end Go.Proofs.YtjjlipbddlignaaGreatDoor
set_option linter.unusedSimpArgs false
set_option linter.unusedVariables false
set_option linter.unusedSectionVars false
namespace Ab
open Go
variable [Draws]

def reachB (l : List Nat) : Bool := l.all fun n => decide (n ≤ reachBytes)
/-- Whatever is read at a type's place, and is no greater than a machine's memory, is data of a shape. -/
structure ReadsS (P : Program) (t : TypeId) {α : Type} (enc : α → D) (Q : α → Prop) : Prop where
  len : ∀ a, (enc a).cells.length = P.cellsOf t
  rd : ∀ {H : Type} (eH : TypeId × Value → H) (w : World) (fuel : Nat) (cs : List Value) (x : DataW H × List MemPlace) (ok : Nat → Prop), (∀ b, ok b) → DataW.trod eH P w 0 (fun _ => true) true fuel t cs = some x → reachB (x.1.weights P t) = true → ∃ a, Q a ∧ RelL w ok (enc a).cells cs
/-- Data told in other words. -/
theorem Reads.via {P : Program} {t : TypeId} {α β : Type} {enc : α → D} {Q : α → Prop} {enc' : β → D} {Q' : β → Prop} (R : Reads P t enc Q) (g : α → β) (hg : ∀ a, Q a → Q' (g a)) (he : ∀ a, Q a → enc' (g a) = enc a) (hl : ∀ b, (enc' b).cells.length = P.cellsOf t) : Reads P t enc' Q' where
  len := hl
  rd eH w fuel cs x ok hok h := by
    obtain ⟨a, qa, ra⟩ := R.rd eH w fuel cs x ok hok h
    exact ⟨g a, hg a qa, by rw [he a qa]; exact ra⟩
theorem ReadsS.via {P : Program} {t : TypeId} {α β : Type} {enc : α → D} {Q : α → Prop} {enc' : β → D} {Q' : β → Prop} (R : ReadsS P t enc Q) (g : α → β) (hg : ∀ a, Q a → Q' (g a)) (he : ∀ a, Q a → enc' (g a) = enc a) (hl : ∀ b, (enc' b).cells.length = P.cellsOf t) : ReadsS P t enc' Q' where
  len := hl
  rd eH w fuel cs x ok hok h hw := by
    obtain ⟨a, qa, ra⟩ := R.rd eH w fuel cs x ok hok h hw
    exact ⟨g a, hg a qa, by rw [he a qa]; exact ra⟩
/-- Fields, one behind the other from a place on. -/
structure ReadsFS (P : Program) (fs : List Field) (o tot : Nat) {α : Type} (enc : α → List D) (Q : α → Prop) : Prop where
  len : ∀ a, (enc a).length = tot
  rd : ∀ {H : Type} (eH : TypeId × Value → H) (w : World) (fuel : Nat) (cs : List Value) (ok : Nat → Prop), (∀ b, ok b) → (∀ f ∈ fs, ∃ x, DataW.trod eH P w 0 (fun _ => true) true fuel f.type ((cs.drop f.offset).take (P.cellsOf f.type)) = some x ∧ reachB (x.1.weights P f.type) = true) → ∃ a, Q a ∧ RelL w ok (enc a) ((cs.drop o).take tot)
theorem ReadsS.argS {P : Program} {t : TypeId} {α : Type} {enc : α → D} {Q : α → Prop} (R : ReadsS P t enc Q) {H : Type} {eH : TypeId × Value → H} {W : World} {cs : Array Value} {d : DataW H} {p : List MemPlace} (h : DataW.Trod eH P W 0 (fun _ => true) true t (.agg cs) d p) (hw : reachB (d.weights P t) = true) (ok : Nat → Prop) (hok : ∀ b, ok b) :
    ∃ a, Q a ∧ RelL W ok (enc a).cells cs.toList := by
  obtain ⟨fuel, hf⟩ := h
  exact R.rd eH W fuel cs.toList _ ok hok hf hw
end Ab
