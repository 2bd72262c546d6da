/- A part of the proof: Ab74, N37, N40, Ab63. -/
import Derived.Test.YtjjlipbddlignaaDoorP19
import Derived.Lib.ConvBytes
import Derived.Lib.SlBytesConst
set_option linter.unusedVariables false
set_option linter.unusedSimpArgs false
set_option linter.unusedSimpArgs false
set_option linter.unusedVariables false
set_option linter.unusedSectionVars false
namespace Ab
open Go
variable [Draws]

section
variable {P : Program} [Globals P] {T : Tab} {f : FuncId} {n : Nat} {C : Cx} {R : AV → List (Option AObj) → Prop} {env : Env} {objs : List (Option AObj)} {ops : Array Oper}

/-- A string's bytes, in a slice of the call's own. -/
theorem sat_strB {i : Nat} {r : List Nat} {k : List Item} {o : Oper} {e2 : Env} {src dst e : TypeId} {rs rd re : TRow} {xo : Operand} {bs : List UInt8} (hT : TabOk P T) (ho : ops[i]? = some o) (hw : wantE ops env o = .yes) (hop : o.op = .convert src dst xo) (hx : opnd env xo = some (.d (.v (.string ⟨bs.toArray⟩))))
    (hrs : tlook T src = some rs) (hks : rs.kd = .str) (hrd : tlook T dst = some rd) (hkd : rd.kd = .slice e) (hre : tlook T e = some re) (h8 : re.kd = .int .u8) (hlen : bs.length ≤ 1000000000)
    (hput : putE n o.dst (.gs objs.length) env = some e2) (h : ASat P f n C (.inRegion ops r :: k) e2 (objs ++ [some (gL e 1 eU8 0 bs)]) R) : ASat P f n C (.inRegion ops (i :: r) :: k) env objs R := by
  refine sat_op ⟨none, false, .gs objs.length, none, objs ++ [some (gL e 1 eU8 0 bs)]⟩ ho hw (fun X π w tmps m he _ => ?_) trivial hput h
  have hax := look_ok (P := P) he hx
  have hs := str_type hT hrs hks
  have hd := slice_elem hT hrd hkd
  have heU := int_type hT hre h8
  have hrun := Go.Lib.run_convert_string_bytes (P := P) w src dst e ⟨bs.toArray⟩ hs hd heU
  have hsize : (⟨bs.toArray⟩ : ByteArray).size = bs.length := by simp [ByteArray.size]
  have hml : maxLen = 9223372036854775807 := rfl
  rw [hsize] at hrun
  have hcell := Go.Lib.bytesWorld_cell w e ⟨bs.toArray⟩
  have hold : ∀ b, b < w.heap.size → (Go.Lib.bytesWorld w e ⟨bs.toArray⟩).heap[b]? = w.heap[b]? := fun b hb => Go.Lib.bytesWorld_at_old w e _ b hb
  have hnew := Go.Lib.bytesWorld_at_new w e ⟨bs.toArray⟩
  have hhs := Go.Lib.bytesWorld_size w e ⟨bs.toArray⟩
  have hout : (Go.Lib.bytesWorld w e ⟨bs.toArray⟩).os = w.os ∧ (Go.Lib.bytesWorld w e ⟨bs.toArray⟩).tape = w.tape ∧ (Go.Lib.bytesWorld w e ⟨bs.toArray⟩).output = w.output ∧ w.drawn ≤ (Go.Lib.bytesWorld w e ⟨bs.toArray⟩).drawn := by
    unfold Go.Lib.bytesWorld World.freeze
    rw [if_neg (by decide)]
    exact ⟨rfl, rfl, rfl, Nat.le_succ _⟩
  have hc1 := grownCap_ge w bs.length 0 e
  have hc2 := grownCap_le_maxLen w bs.length 0 e (by omega)
  have hclen : (Go.Lib.bytesCells w e ⟨bs.toArray⟩).size = grownCap w bs.length 0 e := by
    simp only [Go.Lib.bytesCells, hsize, Array.size_append, Array.size_map, List.size_toArray, Array.size_replicate]
    omega
  generalize grownCap w bs.length 0 e = c at hc1 hc2 hclen hrun
  generalize Go.Lib.bytesCells w e ⟨bs.toArray⟩ = BC at hnew hclen
  generalize Go.Lib.bytesWorld w e ⟨bs.toArray⟩ = W at *
  obtain ⟨BC⟩ := BC
  simp only [List.size_toArray] at hclen hnew
  have hh' : ∀ b, blk (.slice (some ⟨w.heap.size, 0, none⟩) bs.length c) = some b → w.heap.size ≤ b := by
    intro b hb
    cases c <;> cases hb
    exact Nat.le_refl _
  refine ⟨.slice (some ⟨w.heap.size, 0, none⟩) bs.length c, W, π ++ [.slice (some ⟨w.heap.size, 0, none⟩) bs.length c], ?_, tr_newW m hout.1 hout.2.1 ⟨hout.2.2.1, dr_mono hout.2.2.2⟩ (by rw [hhs]; omega) hold _ (gL e 1 eU8 0 bs) hh' ?_, fun _ => .gs (nth_new m.len _)⟩
  · unfold execOp
    rw [hop]
    simp only [Sem.run_bind, hax, hrun, Result.andThen_ok, Sem.run_pure]
    rfl
  · cases c with
    | zero =>
      obtain rfl : bs = [] := List.eq_nil_of_length_eq_zero (by omega)
      exact .gnil
    | succ c =>
      have hls : (bs.map fun b => Value.int .u8 (b.toNat : Int)).length = bs.length := by simp
      have hk := new_keepsW (X := X) (π := π) (objs := objs) hold (.slice (some ⟨w.heap.size, 0, none⟩) bs.length (c + 1)) (gL e 1 eU8 0 bs) m.len hh'
      have := RelO.grow (w := W) (ok := okOf X (π ++ [.slice (some ⟨w.heap.size, 0, none⟩) bs.length (c + 1)]) (objs ++ [some (gL e 1 eU8 0 bs)])) (π := π ++ [.slice (some ⟨w.heap.size, 0, none⟩) bs.length (c + 1)]) (e := e) (s := 1) (b := w.heap.size) (o := 0) (c := c) (xs := bs.map eU8) (us := bs.map fun b => Value.int .u8 (b.toNat : Int))
        (vs := BC) (rd := fun i => eU8 (bs.getD i 0)) (fz := (BC.length, BC.length + 1)) hnew (fun q hq => by omega) (strEs_rel bs) (fun q hq => ?_) (by rw [List.length_map]; exact hc1) hc2 (by omega) (map_rd eU8 0 bs)
      · rw [List.length_map] at this
        exact this
      · rw [hls] at hq
        have h1 := hcell q (by rw [hsize]; exact hq)
        have h2 := cell_of_heap (i := q) hnew
        rw [h2] at h1
        rw [Nat.zero_add, h1]
        simp [hq, List.getD_eq_getElem?_getD]
end
end Ab
namespace Go.Proofs.YtjjlipbddlignaaDoor
open Go Ab Go.RowKit Go.Lib
set_option maxRecDepth 100000
set_option linter.unusedVariables false
set_option linter.unusedSimpArgs false
set_option maxHeartbeats 4000000

/-! ### The document's example -/
theorem dleI (l : List Int) : DLe (.sl 1 (l.map eI) (litRd (l.map eI))) (eIs l) := DLe.slR rfl (map_rd eI 0 l)
theorem cleA {cs ds : List D} (h : DLes cs ds) : CLe (.ag cs) (.ag ds) := fun _ _ _ h2 => h.rel h2
theorem dleS {s : Nat} {xs ys : List D} {rd rd' : Nat → D} (h : CLes xs ys) (hr : ∀ i, i < ys.length → ys[i]? = some (rd' i)) : DLe (.sl s xs rd) (.sl s ys rd') := by
  intro w ok v hv
  have hf : flat v = true := by cases hv <;> rfl
  have := CLe.sl h hr w ok [v] (.cons hv hf .nil)
  cases this with | cons h _ _ => exact h
def exM : List Nd := [⟨kSort, 0, [], [8], []⟩, ⟨kInput, 1, [], [], [120]⟩, ⟨kAdd, 1, [2, 2], [], []⟩]
def exT : List UInt8 := [49, 32, 115, 111, 114, 116, 32, 98, 105, 116, 118, 101, 99, 32, 56, 10, 50, 32, 105, 110, 112, 117, 116, 32, 49, 32, 120, 10, 51, 32, 97, 100, 100, 32, 49, 32, 50, 32, 50, 10]
theorem ex_right : rightM exM = true := by decide
theorem ex_text : textM exM = exT := by kernel_rfl
theorem ex_b : ∀ x ∈ exM, NdB x := by
  intro x hx
  have hml : maxLen = 9223372036854775807 := rfl
  simp only [exM, List.mem_cons, List.not_mem_nil, or_false] at hx
  rcases hx with rfl | rfl | rfl <;> exact ⟨by decide, by decide, by decide, by decide⟩
theorem ex_par : parM exT = (exM, ((exT.length : Nat) : Int), 0) := by
  have := par_read ex_right (by rw [ex_text]; decide)
  rwa [ex_text] at this
theorem ex_le : VLe (.d (.ag [.sl 5 [.ag [dSL kSort, eI 0, .v (.slice none 0 0), .sl 1 [eI 8] (litRd [eI 8]), dSL []], .ag [dSL kInput, eI 1, .v (.slice none 0 0), .v (.slice none 0 0), dSL [120]], .ag [dSL kAdd, eI 1, .sl 1 [eI 2, eI 2] (litRd [eI 2, eI 2]), .v (.slice none 0 0), dSL []]]
    (litRd [.ag [dSL kSort, eI 0, .v (.slice none 0 0), .sl 1 [eI 8] (litRd [eI 8]), dSL []], .ag [dSL kInput, eI 1, .v (.slice none 0 0), .v (.slice none 0 0), dSL [120]], .ag [dSL kAdd, eI 1, .sl 1 [eI 2, eI 2] (litRd [eI 2, eI 2]), .v (.slice none 0 0), dSL []]])])) (.d (eBt exM)) := by
  refine VLe.dag ⟨dleS (ys := exM.map eNd) ?_ (map_rd eNd default exM), trivial⟩
  exact ⟨cleA ⟨.refl _, .refl _, dle_nil, dleI [8], .refl _, trivial⟩, cleA ⟨.refl _, .refl _, dle_nil, dle_nil, .refl _, trivial⟩, cleA ⟨.refl _, .refl _, dleI [2, 2], dle_nil, .refl _, trivial⟩, trivial⟩
theorem shown13_call : ACall Tryd.prog 4 [] [] (fun r o => r = vB true) := by
  refine acall_enter Tryd.func4 rfl rfl (Nat.le_of_ble_eq_true rfl) fun C hC hCl hDs hGk => ?_
  refine sat_call tabOk Tryd.func4 rfl trivial (bPrint_call exM (by decide) ex_b (fun _ => by rw [ex_text]; decide)) ⟨ex_le, trivial⟩ rfl ⟨_, rfl⟩ (by rintro r o rfl; rfl) ?_
  rintro _ o rfl
  unfold prA
  rw [ex_right, if_pos rfl, if_pos rfl, ex_text]
  refine sat_steps 9 tabOk Tryd.func4 rfl trivial ?_
  refine sat_strB (bs := exT) tabOk rfl rfl rfl rfl rfl rfl rfl rfl rfl rfl (by decide) rfl ?_
  refine sat_freeze 1 rfl ?_
  refine sat_call tabOk Tryd.func4 rfl trivial (bParse_call exT (by decide)) ⟨VLe.eL rfl, trivial⟩ rfl ⟨_, rfl⟩ (by rintro r o rfl; rfl) ?_
  rintro _ o rfl
  unfold parA
  rw [ex_par]
  refine sat_call tabOk Tryd.func4 rfl trivial (pForm_call kSlice) (.refl _) rfl ⟨_, rfl⟩ (by rintro r o rfl; rfl) ?_
  rintro _ o rfl
  refine sat_branch tabOk Tryd.func4 rfl trivial (fun _ => ?_) (fun h => by cases h)
  refine sat_branch tabOk Tryd.func4 rfl trivial (fun _ => ?_) (fun h => by cases h)
  refine sat_branch tabOk Tryd.func4 rfl trivial (fun _ => ?_) (fun h => ?_)
  rotate_left
  · have h : ((⟨exT.toArray⟩ : ByteArray).toList == (⟨exT.toArray⟩ : ByteArray).toList) = false := h
    rw [isEq_bytes, decide_eq_true rfl] at h
    cases h
  refine sat_branch tabOk Tryd.func4 rfl trivial (fun _ => ?_) (fun h => by cases h)
  refine sat_call tabOk Tryd.func4 rfl trivial (bSame_call exM exM) ⟨ex_le, .refl _, trivial⟩ rfl ⟨_, rfl⟩ (by rintro r o rfl; rfl) ?_
  rintro _ o rfl
  rw [decide_eq_true (rfl : exM = exM)]
  refine sat_branch tabOk Tryd.func4 rfl trivial (fun _ => ?_) (fun h => by cases h)
  refine sat_call tabOk Tryd.func4 rfl trivial (pRight_call exM (by decide) ex_b) ⟨ex_le, trivial⟩ rfl ⟨_, rfl⟩ (by rintro r o rfl; rfl) ?_
  rintro _ o rfl
  rw [ex_right]
  refine sat_branch tabOk Tryd.func4 rfl trivial (fun _ => ?_) (fun h => by cases h)
  refine sat_branch tabOk Tryd.func4 rfl trivial (fun _ => ?_) (fun h => ?_)
  rotate_left
  · have h : ((⟨([115, 97, 110, 110] : List UInt8).toArray⟩ : ByteArray).toList == (⟨([115, 97, 110, 110] : List UInt8).toArray⟩ : ByteArray).toList) = false := h
    rw [isEq_bytes, decide_eq_true rfl] at h
    cases h
  exact sat_ret tabOk Tryd.func4 rfl trivial rfl
end Go.Proofs.YtjjlipbddlignaaDoor
namespace Go.Proofs.YtjjlipbddlignaaDoor
open Go Ab Go.RowKit Go.Lib
set_option maxRecDepth 100000
set_option linter.unusedVariables false
set_option linter.unusedSimpArgs false
set_option maxHeartbeats 4000000

theorem Forms_law (op : List UInt8) : ACall Tryd.prog 3 [vTx op] [] (fun r o => r = vB true) := by
  refine acall_enter Tryd.func3 rfl rfl (Nat.le_of_ble_eq_true rfl) fun C hC hCl hDs hGk => ?_
  refine sat_call tabOk Tryd.func3 rfl trivial shown13_call (.refl _) rfl ⟨_, rfl⟩ (by rintro r o rfl; rfl) ?_
  rintro _ o rfl
  refine sat_branch tabOk Tryd.func3 rfl trivial (fun h1 => ?_) (fun h1 => ?_)
  · exact sat_ret tabOk Tryd.func3 rfl trivial rfl
  refine sat_call tabOk Tryd.func3 rfl trivial (pForm_call op) (.refl _) rfl ⟨_, rfl⟩ (by rintro r o rfl; rfl) ?_
  rintro _ o rfl
  rcases form_cases op with ⟨e2, e1⟩ | ⟨e2, e1⟩
  · unfold frm at e1
    rw [e1, e2]
    refine sat_branch tabOk Tryd.func3 rfl trivial (fun _ => ?_) (fun h => by cases h)
    refine sat_branch tabOk Tryd.func3 rfl trivial (fun _ => ?_) (fun h => by cases h)
    refine sat_ret tabOk Tryd.func3 rfl trivial ?_
    show vB ((⟨([] : List UInt8).toArray⟩ : ByteArray).toList == (⟨#[]⟩ : ByteArray).toList) = _
    rw [eqE_list]
    rfl
  · unfold frm at e1
    rw [e2]
    rcases e1 with e1 | e1 | e1 | e1 | e1 | e1 | e1 | e1 | e1
    all_goals
      rw [e1]
      refine sat_branch tabOk Tryd.func3 rfl trivial (fun h => by cases h) (fun _ => ?_)
      refine sat_stop tabOk Tryd.func3 rfl trivial ?_
      refine sat_loop1 ?_
      repeat (first
        | (refine sat_branch tabOk Tryd.func3 rfl trivial (fun h => ?_) (fun h => ?_) <;> first | (exfalso; revert h; decide) | skip)
        | (refine sat_branch tabOk Tryd.func3 rfl ⟨by decide, trivial⟩ (fun h => ?_) (fun h => ?_) <;> first | (exfalso; revert h; decide) | skip)
        | refine sat_stop tabOk Tryd.func3 rfl trivial (sat_in1 ?_))
      exact sat_ret tabOk Tryd.func3 rfl trivial rfl
end Go.Proofs.YtjjlipbddlignaaDoor
set_option linter.unusedSimpArgs false
set_option linter.unusedVariables false
set_option linter.unusedSectionVars false
namespace Ab
open Go
variable [Draws]

def reachB (l : List Nat) : Bool := l.all fun n => decide (n ≤ reachBytes)
/-- Whatever is read at a type's place, and is no greater than a machine's memory, is data of a shape. -/
structure ReadsS (P : Program) (t : TypeId) {α : Type} (enc : α → D) (Q : α → Prop) : Prop where
  len : ∀ a, (enc a).cells.length = P.cellsOf t
  rd : ∀ {H : Type} (eH : TypeId × Value → H) (w : World) (fuel : Nat) (cs : List Value) (x : DataW H × List MemPlace) (ok : Nat → Prop), (∀ b, ok b) → DataW.trod eH P w 0 (fun _ => true) true fuel t cs = some x → reachB (x.1.weights P t) = true → ∃ a, Q a ∧ RelL w ok (enc a).cells cs
/-- Data told in other words. -/
theorem Reads.via {P : Program} {t : TypeId} {α β : Type} {enc : α → D} {Q : α → Prop} {enc' : β → D} {Q' : β → Prop} (R : Reads P t enc Q) (g : α → β) (hg : ∀ a, Q a → Q' (g a)) (he : ∀ a, Q a → enc' (g a) = enc a) (hl : ∀ b, (enc' b).cells.length = P.cellsOf t) : Reads P t enc' Q' where
  len := hl
  rd eH w fuel cs x ok hok h := by
    obtain ⟨a, qa, ra⟩ := R.rd eH w fuel cs x ok hok h
    exact ⟨g a, hg a qa, by rw [he a qa]; exact ra⟩
theorem ReadsS.via {P : Program} {t : TypeId} {α β : Type} {enc : α → D} {Q : α → Prop} {enc' : β → D} {Q' : β → Prop} (R : ReadsS P t enc Q) (g : α → β) (hg : ∀ a, Q a → Q' (g a)) (he : ∀ a, Q a → enc' (g a) = enc a) (hl : ∀ b, (enc' b).cells.length = P.cellsOf t) : ReadsS P t enc' Q' where
  len := hl
  rd eH w fuel cs x ok hok h hw := by
    obtain ⟨a, qa, ra⟩ := R.rd eH w fuel cs x ok hok h hw
    exact ⟨g a, hg a qa, by rw [he a qa]; exact ra⟩
/-- Fields, one behind the other from a place on. -/
structure ReadsFS (P : Program) (fs : List Field) (o tot : Nat) {α : Type} (enc : α → List D) (Q : α → Prop) : Prop where
  len : ∀ a, (enc a).length = tot
  rd : ∀ {H : Type} (eH : TypeId × Value → H) (w : World) (fuel : Nat) (cs : List Value) (ok : Nat → Prop), (∀ b, ok b) → (∀ f ∈ fs, ∃ x, DataW.trod eH P w 0 (fun _ => true) true fuel f.type ((cs.drop f.offset).take (P.cellsOf f.type)) = some x ∧ reachB (x.1.weights P f.type) = true) → ∃ a, Q a ∧ RelL w ok (enc a) ((cs.drop o).take tot)
theorem ReadsS.arg {P : Program} {t : TypeId} {α : Type} {enc : α → D} {Q : α → Prop} (R : ReadsS P t enc Q) {H : Type} {eH : TypeId × Value → H} {W : World} {v : Value} {d : DataW H} {p : List MemPlace} (h : DataW.Trod eH P W 0 (fun _ => true) true t v d p) (hw : reachB (d.weights P t) = true) (hna : ∀ cs, v ≠ .agg cs) (ok : Nat → Prop) (hok : ∀ b, ok b) :
    ∃ a, Q a ∧ RelL W ok (enc a).cells [v] := by
  obtain ⟨fuel, hf⟩ := h
  have : v.cells.toList = [v] := by
    cases v <;> first | rfl | exact absurd rfl (hna _)
  rw [this] at hf
  exact R.rd eH W fuel [v] _ ok hok hf hw
end Ab
