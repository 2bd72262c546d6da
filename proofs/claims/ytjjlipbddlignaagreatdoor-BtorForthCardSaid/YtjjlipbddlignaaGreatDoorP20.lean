/- A part of the proof: Ab74, N37, N28, N41, N42, N43, Ab63. -/
import Derived.Test.YtjjlipbddlignaaGreatDoorP19
import Derived.Lib.ConvBytes
import Derived.Lib.SlBytesConst
set_option linter.unusedVariables false
set_option linter.unusedSimpArgs false
set_option linter.unusedSimpArgs false
set_option linter.unusedVariables false
set_option linter.unusedSectionVars false
namespace Ab
open Go
variable [Draws]

section
variable {P : Program} [Globals P] {T : Tab} {f : FuncId} {n : Nat} {C : Cx} {R : AV → List (Option AObj) → Prop} {env : Env} {objs : List (Option AObj)} {ops : Array Oper}

/-- A string's bytes, in a slice of the call's own. -/
theorem sat_strB {i : Nat} {r : List Nat} {k : List Item} {o : Oper} {e2 : Env} {src dst e : TypeId} {rs rd re : TRow} {xo : Operand} {bs : List UInt8} (hT : TabOk P T) (ho : ops[i]? = some o) (hw : wantE ops env o = .yes) (hop : o.op = .convert src dst xo) (hx : opnd env xo = some (.d (.v (.string ⟨bs.toArray⟩))))
    (hrs : tlook T src = some rs) (hks : rs.kd = .str) (hrd : tlook T dst = some rd) (hkd : rd.kd = .slice e) (hre : tlook T e = some re) (h8 : re.kd = .int .u8) (hlen : bs.length ≤ 1000000000)
    (hput : putE n o.dst (.gs objs.length) env = some e2) (h : ASat P f n C (.inRegion ops r :: k) e2 (objs ++ [some (gL e 1 eU8 0 bs)]) R) : ASat P f n C (.inRegion ops (i :: r) :: k) env objs R := by
  refine sat_op ⟨none, false, .gs objs.length, none, objs ++ [some (gL e 1 eU8 0 bs)]⟩ ho hw (fun X π w tmps m he _ => ?_) trivial hput h
  have hax := look_ok (P := P) he hx
  have hs := str_type hT hrs hks
  have hd := slice_elem hT hrd hkd
  have heU := int_type hT hre h8
  have hrun := Go.Lib.run_convert_string_bytes (P := P) w src dst e ⟨bs.toArray⟩ hs hd heU
  have hsize : (⟨bs.toArray⟩ : ByteArray).size = bs.length := by simp [ByteArray.size]
  have hml : maxLen = 9223372036854775807 := rfl
  rw [hsize] at hrun
  have hcell := Go.Lib.bytesWorld_cell w e ⟨bs.toArray⟩
  have hold : ∀ b, b < w.heap.size → (Go.Lib.bytesWorld w e ⟨bs.toArray⟩).heap[b]? = w.heap[b]? := fun b hb => Go.Lib.bytesWorld_at_old w e _ b hb
  have hnew := Go.Lib.bytesWorld_at_new w e ⟨bs.toArray⟩
  have hhs := Go.Lib.bytesWorld_size w e ⟨bs.toArray⟩
  have hout : (Go.Lib.bytesWorld w e ⟨bs.toArray⟩).os = w.os ∧ (Go.Lib.bytesWorld w e ⟨bs.toArray⟩).tape = w.tape ∧ (Go.Lib.bytesWorld w e ⟨bs.toArray⟩).output = w.output ∧ w.drawn ≤ (Go.Lib.bytesWorld w e ⟨bs.toArray⟩).drawn := by
    unfold Go.Lib.bytesWorld World.freeze
    rw [if_neg (by decide)]
    exact ⟨rfl, rfl, rfl, Nat.le_succ _⟩
  have hc1 := grownCap_ge w bs.length 0 e
  have hc2 := grownCap_le_maxLen w bs.length 0 e (by omega)
  have hclen : (Go.Lib.bytesCells w e ⟨bs.toArray⟩).size = grownCap w bs.length 0 e := by
    simp only [Go.Lib.bytesCells, hsize, Array.size_append, Array.size_map, List.size_toArray, Array.size_replicate]
    omega
  generalize grownCap w bs.length 0 e = c at hc1 hc2 hclen hrun
  generalize Go.Lib.bytesCells w e ⟨bs.toArray⟩ = BC at hnew hclen
  generalize Go.Lib.bytesWorld w e ⟨bs.toArray⟩ = W at *
  obtain ⟨BC⟩ := BC
  simp only [List.size_toArray] at hclen hnew
  have hh' : ∀ b, blk (.slice (some ⟨w.heap.size, 0, none⟩) bs.length c) = some b → w.heap.size ≤ b := by
    intro b hb
    cases c <;> cases hb
    exact Nat.le_refl _
  refine ⟨.slice (some ⟨w.heap.size, 0, none⟩) bs.length c, W, π ++ [.slice (some ⟨w.heap.size, 0, none⟩) bs.length c], ?_, tr_newW m hout.1 hout.2.1 ⟨hout.2.2.1, dr_mono hout.2.2.2⟩ (by rw [hhs]; omega) hold _ (gL e 1 eU8 0 bs) hh' ?_, fun _ => .gs (nth_new m.len _)⟩
  · unfold execOp
    rw [hop]
    simp only [Sem.run_bind, hax, hrun, Result.andThen_ok, Sem.run_pure]
    rfl
  · cases c with
    | zero =>
      obtain rfl : bs = [] := List.eq_nil_of_length_eq_zero (by omega)
      exact .gnil
    | succ c =>
      have hls : (bs.map fun b => Value.int .u8 (b.toNat : Int)).length = bs.length := by simp
      have hk := new_keepsW (X := X) (π := π) (objs := objs) hold (.slice (some ⟨w.heap.size, 0, none⟩) bs.length (c + 1)) (gL e 1 eU8 0 bs) m.len hh'
      have := RelO.grow (w := W) (ok := okOf X (π ++ [.slice (some ⟨w.heap.size, 0, none⟩) bs.length (c + 1)]) (objs ++ [some (gL e 1 eU8 0 bs)])) (π := π ++ [.slice (some ⟨w.heap.size, 0, none⟩) bs.length (c + 1)]) (e := e) (s := 1) (b := w.heap.size) (o := 0) (c := c) (xs := bs.map eU8) (us := bs.map fun b => Value.int .u8 (b.toNat : Int))
        (vs := BC) (rd := fun i => eU8 (bs.getD i 0)) (fz := (BC.length, BC.length + 1)) hnew (fun q hq => by omega) (strEs_rel bs) (fun q hq => ?_) (by rw [List.length_map]; exact hc1) hc2 (by omega) (map_rd eU8 0 bs)
      · rw [List.length_map] at this
        exact this
      · rw [hls] at hq
        have h1 := hcell q (by rw [hsize]; exact hq)
        have h2 := cell_of_heap (i := q) hnew
        rw [h2] at h1
        rw [Nat.zero_add, h1]
        simp [hq, List.getD_eq_getElem?_getD]
end
end Ab
namespace Go.Proofs.YtjjlipbddlignaaGreatDoor
open Go Ab Go.RowKit Go.Lib
set_option maxRecDepth 100000
set_option linter.unusedVariables false
set_option linter.unusedSimpArgs false
set_option maxHeartbeats 4000000

/-! ### The document's example -/
theorem dleI (l : List Int) : DLe (.sl 1 (l.map eI) (litRd (l.map eI))) (eIs l) := DLe.slR rfl (map_rd eI 0 l)
theorem cleA {cs ds : List D} (h : DLes cs ds) : CLe (.ag cs) (.ag ds) := fun _ _ _ h2 => h.rel h2
theorem dleS {s : Nat} {xs ys : List D} {rd rd' : Nat → D} (h : CLes xs ys) (hr : ∀ i, i < ys.length → ys[i]? = some (rd' i)) : DLe (.sl s xs rd) (.sl s ys rd') := by
  intro w ok v hv
  have hf : flat v = true := by cases hv <;> rfl
  have := CLe.sl h hr w ok [v] (.cons hv hf .nil)
  cases this with | cons h _ _ => exact h
def exM : List Nd := [⟨kSort, 0, [], [8], []⟩, ⟨kInput, 1, [], [], [120]⟩, ⟨kAdd, 1, [2, 2], [], []⟩]
def exT : List UInt8 := [49, 32, 115, 111, 114, 116, 32, 98, 105, 116, 118, 101, 99, 32, 56, 10, 50, 32, 105, 110, 112, 117, 116, 32, 49, 32, 120, 10, 51, 32, 97, 100, 100, 32, 49, 32, 50, 32, 50, 10]
theorem ex_right : rightM exM = true := by decide
theorem ex_text : textM exM = exT := by kernel_rfl
theorem ex_b : ∀ x ∈ exM, NdB x := by
  intro x hx
  have hml : maxLen = 9223372036854775807 := rfl
  simp only [exM, List.mem_cons, List.not_mem_nil, or_false] at hx
  rcases hx with rfl | rfl | rfl <;> exact ⟨by decide, by decide, by decide, by decide⟩
theorem ex_par : parM exT = (exM, ((exT.length : Nat) : Int), 0) := by
  have := par_read ex_right (by rw [ex_text]; decide)
  rwa [ex_text] at this
theorem ex_le : VLe (.d (.ag [.sl 5 [.ag [dSL kSort, eI 0, .v (.slice none 0 0), .sl 1 [eI 8] (litRd [eI 8]), dSL []], .ag [dSL kInput, eI 1, .v (.slice none 0 0), .v (.slice none 0 0), dSL [120]], .ag [dSL kAdd, eI 1, .sl 1 [eI 2, eI 2] (litRd [eI 2, eI 2]), .v (.slice none 0 0), dSL []]]
    (litRd [.ag [dSL kSort, eI 0, .v (.slice none 0 0), .sl 1 [eI 8] (litRd [eI 8]), dSL []], .ag [dSL kInput, eI 1, .v (.slice none 0 0), .v (.slice none 0 0), dSL [120]], .ag [dSL kAdd, eI 1, .sl 1 [eI 2, eI 2] (litRd [eI 2, eI 2]), .v (.slice none 0 0), dSL []]])])) (.d (eBt exM)) := by
  refine VLe.dag ⟨dleS (ys := exM.map eNd) ?_ (map_rd eNd default exM), trivial⟩
  exact ⟨cleA ⟨.refl _, .refl _, dle_nil, dleI [8], .refl _, trivial⟩, cleA ⟨.refl _, .refl _, dle_nil, dle_nil, .refl _, trivial⟩, cleA ⟨.refl _, .refl _, dleI [2, 2], dle_nil, .refl _, trivial⟩, trivial⟩
theorem shown13_call : ACall Tryz.prog 8 [] [] (fun r o => r = vB true) := by
  refine acall_enter Tryz.func8 rfl rfl (Nat.le_of_ble_eq_true rfl) fun C hC hCl hDs hGk => ?_
  refine sat_call tabOk Tryz.func8 rfl trivial (bPrint_call exM (by decide) ex_b (fun _ => by rw [ex_text]; decide)) ⟨ex_le, trivial⟩ rfl ⟨_, rfl⟩ (by rintro r o rfl; rfl) ?_
  rintro _ o rfl
  unfold prA
  rw [ex_right, if_pos rfl, if_pos rfl, ex_text]
  refine sat_steps 9 tabOk Tryz.func8 rfl trivial ?_
  refine sat_strB (bs := exT) tabOk rfl rfl rfl rfl rfl rfl rfl rfl rfl rfl (by decide) rfl ?_
  refine sat_freeze 1 rfl ?_
  refine sat_call tabOk Tryz.func8 rfl trivial (bParse_call exT (by decide)) ⟨VLe.eL rfl, trivial⟩ rfl ⟨_, rfl⟩ (by rintro r o rfl; rfl) ?_
  rintro _ o rfl
  unfold parA
  rw [ex_par]
  refine sat_call tabOk Tryz.func8 rfl trivial (pForm_call kSlice) (.refl _) rfl ⟨_, rfl⟩ (by rintro r o rfl; rfl) ?_
  rintro _ o rfl
  refine sat_branch tabOk Tryz.func8 rfl trivial (fun _ => ?_) (fun h => by cases h)
  refine sat_branch tabOk Tryz.func8 rfl trivial (fun _ => ?_) (fun h => by cases h)
  refine sat_branch tabOk Tryz.func8 rfl trivial (fun _ => ?_) (fun h => ?_)
  rotate_left
  · have h : ((⟨exT.toArray⟩ : ByteArray).toList == (⟨exT.toArray⟩ : ByteArray).toList) = false := h
    rw [isEq_bytes, decide_eq_true rfl] at h
    cases h
  refine sat_branch tabOk Tryz.func8 rfl trivial (fun _ => ?_) (fun h => by cases h)
  refine sat_call tabOk Tryz.func8 rfl trivial (bSame_call exM exM) ⟨ex_le, .refl _, trivial⟩ rfl ⟨_, rfl⟩ (by rintro r o rfl; rfl) ?_
  rintro _ o rfl
  rw [decide_eq_true (rfl : exM = exM)]
  refine sat_branch tabOk Tryz.func8 rfl trivial (fun _ => ?_) (fun h => by cases h)
  refine sat_call tabOk Tryz.func8 rfl trivial (pRight_call exM (by decide) ex_b) ⟨ex_le, trivial⟩ rfl ⟨_, rfl⟩ (by rintro r o rfl; rfl) ?_
  rintro _ o rfl
  rw [ex_right]
  refine sat_branch tabOk Tryz.func8 rfl trivial (fun _ => ?_) (fun h => by cases h)
  refine sat_branch tabOk Tryz.func8 rfl trivial (fun _ => ?_) (fun h => ?_)
  rotate_left
  · have h : ((⟨([115, 97, 110, 110] : List UInt8).toArray⟩ : ByteArray).toList == (⟨([115, 97, 110, 110] : List UInt8).toArray⟩ : ByteArray).toList) = false := h
    rw [isEq_bytes, decide_eq_true rfl] at h
    cases h
  exact sat_ret tabOk Tryz.func8 rfl trivial rfl
end Go.Proofs.YtjjlipbddlignaaGreatDoor
namespace Go.Proofs.YtjjlipbddlignaaGreatDoor
open Go Ab Go.Lib
set_option maxRecDepth 100000
set_option linter.unusedVariables false
set_option linter.unusedSimpArgs false

/-! ### How long texts are; texts that are the same -/
end Go.Proofs.YtjjlipbddlignaaGreatDoor
namespace Go.Proofs.YtjjlipbddlignaaGreatDoor
open Go Ab Go.RowKit Go.Lib
set_option maxRecDepth 100000
set_option linter.unusedVariables false
set_option linter.unusedSimpArgs false
set_option maxHeartbeats 4000000

end Go.Proofs.YtjjlipbddlignaaGreatDoor
namespace Go.Proofs.YtjjlipbddlignaaGreatDoor
open Go Ab Go.RowKit Go.Lib
set_option maxRecDepth 100000
set_option linter.unusedVariables false
set_option linter.unusedSimpArgs false
set_option maxHeartbeats 4000000

end Go.Proofs.YtjjlipbddlignaaGreatDoor
namespace Go.Proofs.YtjjlipbddlignaaGreatDoor
open Go Ab Go.RowKit Go.Lib
set_option maxRecDepth 100000
set_option linter.unusedVariables false
set_option linter.unusedSimpArgs false
set_option maxHeartbeats 4000000

theorem text_mem : ∀ (l : List Nd) (i : Nat) (x : Nd), x ∈ l → ∃ id, (nodeT id x).length ≤ (textFrom i l).length
  | [], _, _, h => by cases h
  | y :: l, i, x, h => by
    rw [textFrom, List.length_append]
    rcases List.mem_cons.1 h with rfl | h
    · exact ⟨_, Nat.le_add_right _ _⟩
    · obtain ⟨id, h2⟩ := text_mem l (i + 1) x h
      exact ⟨id, by omega⟩
theorem right_ndb {l : List Nd} (h : rightM l = true) (hl : (textM l).length ≤ 1000000) : ∀ x ∈ l, NdB x := by
  intro x hx
  have hml : maxLen = 9223372036854775807 := rfl
  unfold rightM at h
  rw [Bool.and_eq_true, rightFrom_iff, decide_eq_true_eq] at h
  obtain ⟨j, hj, rfl⟩ := List.getElem_of_mem hx
  have hB := h.1 j hj
  obtain ⟨id, h2⟩ := text_mem l 0 _ hx
  have h2 : (nodeT id l[j]).length ≤ 1000000 := Nat.le_trans h2 hl
  unfold nodeT at h2
  simp only [List.length_append, List.length_cons] at h2
  have hfl := form_len l[j].op
  unfold nodeB aOk nOk at hB
  simp only [Bool.and_eq_true, decide_eq_true_eq] at hB
  have c1 : (frm l[j].op).count 97 ≤ (frm l[j].op).length := List.count_le_length
  have c2 : (frm l[j].op).count 110 ≤ (frm l[j].op).length := List.count_le_length
  have c3 : (frm l[j].op).count 119 ≤ (frm l[j].op).length := List.count_le_length
  refine ⟨by omega, ?_, by omega, by omega⟩
  by_cases ht : l[j].t = []
  · rw [ht]
    exact Nat.zero_le _
  · rw [if_neg ht] at h2
    simp only [List.length_cons] at h2
    omega
theorem Forth_law (b : List UInt8) : ACall Tryz.prog 5 [.d (eBy b)] [] (fun r o => r = vB true) := by
  refine acall_enter Tryz.func5 rfl rfl (Nat.le_of_ble_eq_true rfl) fun C hC hCl hDs hGk => ?_
  refine sat_call tabOk Tryz.func5 rfl trivial shown13_call (.refl _) rfl ⟨_, rfl⟩ (by rintro r o rfl; rfl) ?_
  rintro _ o rfl
  refine sat_branch tabOk Tryz.func5 rfl trivial (fun h1 => ?_) (fun h1 => ?_)
  · exact sat_ret tabOk Tryz.func5 rfl trivial rfl
  have h1 : b.length ≤ 2000 := by
    have h1 : decide ((((b.map eU8).length : Nat) : Int) > 2000) = false := h1
    rw [decide_eq_false_iff_not, List.length_map] at h1
    omega
  refine sat_call tabOk Tryz.func5 rfl trivial (bParse_call b (by omega)) (.refl _) rfl ⟨_, rfl⟩ (by rintro r o rfl; rfl) ?_
  rintro _ o rfl
  obtain ⟨⟨p0, p1, p2⟩, p3⟩ := par_pl b
  have hinv := par_inv (b := b)
  generalize parM b = q at *
  obtain ⟨l, at_, e⟩ := q
  simp only at p0 p1 p2 p3 hinv
  unfold parA
  refine sat_branch tabOk Tryz.func5 rfl trivial (fun h2 => ?_) (fun h2 => ?_)
  · have h2 : decide (at_ < 0) = true := h2
    rw [decide_eq_true_eq] at h2
    omega
  refine sat_branch tabOk Tryz.func5 rfl trivial (fun h3 => ?_) (fun h3 => ?_)
  · have h3 : decide (at_ > (((b.map eU8).length : Nat) : Int)) = true := h3
    rw [decide_eq_true_eq, List.length_map] at h3
    omega
  refine sat_branch tabOk Tryz.func5 rfl trivial (fun h4 => ?_) (fun h4 => ?_)
  · have h5 : (e != 0) = true := h4
    rw [bne_iff_ne] at h5
    obtain rfl : l = [] := p3 h5
    have c := rSame_call [] [] (Nat.zero_le _)
    rw [decide_eq_true rfl] at c
    refine sat_branch tabOk Tryz.func5 rfl trivial (fun _ => ?_) (fun h => by cases h)
    refine sat_call tabOk Tryz.func5 rfl trivial c ⟨.refl _, VLe.dag ⟨dle_nil, trivial⟩, trivial⟩ rfl ⟨_, rfl⟩ (by rintro r o rfl; rfl) ?_
    rintro _ o rfl
    refine sat_branch tabOk Tryz.func5 rfl trivial (fun _ => ?_) (fun h => by cases h)
    rcases p2 with e2 | rfl | rfl | rfl
    · exact absurd e2 h5
    · repeat refine sat_branch tabOk Tryz.func5 rfl trivial (fun _ => ?_) (fun h => by cases h)
      exact sat_ret tabOk Tryz.func5 rfl trivial rfl
    · refine sat_branch tabOk Tryz.func5 rfl trivial (fun h => by cases h) (fun _ => ?_)
      repeat refine sat_branch tabOk Tryz.func5 rfl trivial (fun _ => ?_) (fun h => by cases h)
      exact sat_ret tabOk Tryz.func5 rfl trivial rfl
    · refine sat_branch tabOk Tryz.func5 rfl trivial (fun h => by cases h) (fun _ => ?_)
      refine sat_branch tabOk Tryz.func5 rfl trivial (fun h => by cases h) (fun _ => ?_)
      repeat refine sat_branch tabOk Tryz.func5 rfl trivial (fun _ => ?_) (fun h => by cases h)
      exact sat_ret tabOk Tryz.func5 rfl trivial rfl
  · have h4 : (e != 0) = false := h4
    rw [bne_eq_false_iff_eq] at h4
    subst h4
    obtain ⟨i1, i2, i3⟩ := hinv rfl
    have hnb := right_ndb i1 (by rw [← i2]; omega)
    have c1 := bPrint_call l (by unfold rightM at i1; rw [Bool.and_eq_true, decide_eq_true_eq] at i1; omega) hnb (fun _ => by rw [← i2]; omega)
    have c2 := rRight_call l (by unfold rightM at i1; rw [Bool.and_eq_true, decide_eq_true_eq] at i1; omega) hnb
    unfold prA at c1
    rw [i1, if_pos rfl, if_pos rfl, ← i2] at c1
    rw [i1] at c2
    refine sat_call tabOk Tryz.func5 rfl trivial c1 (.refl _) rfl ⟨_, rfl⟩ (by rintro r o rfl; rfl) ?_
    rintro _ o rfl
    refine sat_branch tabOk Tryz.func5 rfl trivial (fun _ => ?_) (fun h => by cases h)
    refine sat_branch tabOk Tryz.func5 rfl trivial (fun _ => ?_) (fun h => by cases h)
    refine sat_branch tabOk Tryz.func5 rfl ⟨isByte_by b, trivial⟩ (fun h5 => ?_) (fun h5 => ?_)
    rotate_left
    · have h5 : ((⟨b.toArray⟩ : ByteArray).toList == (strD (b.map eU8)).toList) = false := h5
      rw [strD_by, isEq_bytes, decide_eq_true rfl] at h5
      cases h5
    refine sat_branch tabOk Tryz.func5 rfl trivial (fun h6 => ?_) (fun h6 => ?_)
    rotate_left
    · have h6 : (at_ == (((b.map eU8).length : Nat) : Int)) = false := h6
      rw [beq_eq_false_iff_ne, List.length_map] at h6
      exact absurd i3 h6
    refine sat_call tabOk Tryz.func5 rfl trivial c2 (.refl _) rfl ⟨_, rfl⟩ (by rintro r o rfl; rfl) ?_
    rintro _ o rfl
    exact sat_ret tabOk Tryz.func5 rfl trivial rfl
end Go.Proofs.YtjjlipbddlignaaGreatDoor
set_option linter.unusedSimpArgs false
set_option linter.unusedVariables false
set_option linter.unusedSectionVars false
namespace Ab
open Go
variable [Draws]

def reachB (l : List Nat) : Bool := l.all fun n => decide (n ≤ reachBytes)
/-- Whatever is read at a type's place, and is no greater than a machine's memory, is data of a shape. -/
structure ReadsS (P : Program) (t : TypeId) {α : Type} (enc : α → D) (Q : α → Prop) : Prop where
  len : ∀ a, (enc a).cells.length = P.cellsOf t
  rd : ∀ {H : Type} (eH : TypeId × Value → H) (w : World) (fuel : Nat) (cs : List Value) (x : DataW H × List MemPlace) (ok : Nat → Prop), (∀ b, ok b) → DataW.trod eH P w 0 (fun _ => true) true fuel t cs = some x → reachB (x.1.weights P t) = true → ∃ a, Q a ∧ RelL w ok (enc a).cells cs
/-- Fields, one behind the other from a place on. -/
structure ReadsFS (P : Program) (fs : List Field) (o tot : Nat) {α : Type} (enc : α → List D) (Q : α → Prop) : Prop where
  len : ∀ a, (enc a).length = tot
  rd : ∀ {H : Type} (eH : TypeId × Value → H) (w : World) (fuel : Nat) (cs : List Value) (ok : Nat → Prop), (∀ b, ok b) → (∀ f ∈ fs, ∃ x, DataW.trod eH P w 0 (fun _ => true) true fuel f.type ((cs.drop f.offset).take (P.cellsOf f.type)) = some x ∧ reachB (x.1.weights P f.type) = true) → ∃ a, Q a ∧ RelL w ok (enc a) ((cs.drop o).take tot)
theorem ReadsS.arg {P : Program} {t : TypeId} {α : Type} {enc : α → D} {Q : α → Prop} (R : ReadsS P t enc Q) {H : Type} {eH : TypeId × Value → H} {W : World} {v : Value} {d : DataW H} {p : List MemPlace} (h : DataW.Trod eH P W 0 (fun _ => true) true t v d p) (hw : reachB (d.weights P t) = true) (hna : ∀ cs, v ≠ .agg cs) (ok : Nat → Prop) (hok : ∀ b, ok b) :
    ∃ a, Q a ∧ RelL W ok (enc a).cells [v] := by
  obtain ⟨fuel, hf⟩ := h
  have : v.cells.toList = [v] := by
    cases v <;> first | rfl | exact absurd rfl (hna _)
  rw [this] at hf
  exact R.rd eH W fuel [v] _ ok hok hf hw
end Ab
