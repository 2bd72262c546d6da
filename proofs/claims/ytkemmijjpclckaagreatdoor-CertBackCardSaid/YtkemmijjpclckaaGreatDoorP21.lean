/- A part of the proof: Ab74, C33, CL0, CL1, C28, CR1, Ab63. -/
import Derived.Test.YtkemmijjpclckaaGreatDoorP20
import Derived.Lib.ConvBytes
import Derived.Lib.SlBytesConst
set_option linter.unusedVariables false
set_option linter.unusedSimpArgs false
set_option linter.unusedSimpArgs false
set_option linter.unusedVariables false
set_option linter.unusedSectionVars false
namespace Ab
open Go
variable [Draws]

section
variable {P : Program} [Globals P] {T : Tab} {f : FuncId} {n : Nat} {C : Cx} {R : AV → List (Option AObj) → Prop} {env : Env} {objs : List (Option AObj)} {ops : Array Oper}

/-- A string's bytes, in a slice of the call's own. -/
theorem sat_strB {i : Nat} {r : List Nat} {k : List Item} {o : Oper} {e2 : Env} {src dst e : TypeId} {rs rd re : TRow} {xo : Operand} {bs : List UInt8} (hT : TabOk P T) (ho : ops[i]? = some o) (hw : wantE ops env o = .yes) (hop : o.op = .convert src dst xo) (hx : opnd env xo = some (.d (.v (.string ⟨bs.toArray⟩))))
    (hrs : tlook T src = some rs) (hks : rs.kd = .str) (hrd : tlook T dst = some rd) (hkd : rd.kd = .slice e) (hre : tlook T e = some re) (h8 : re.kd = .int .u8) (hlen : bs.length ≤ 1000000000)
    (hput : putE n o.dst (.gs objs.length) env = some e2) (h : ASat P f n C (.inRegion ops r :: k) e2 (objs ++ [some (gL e 1 eU8 0 bs)]) R) : ASat P f n C (.inRegion ops (i :: r) :: k) env objs R := by
  refine sat_op ⟨none, false, .gs objs.length, none, objs ++ [some (gL e 1 eU8 0 bs)]⟩ ho hw (fun X π w tmps m he _ => ?_) trivial hput h
  have hax := look_ok (P := P) he hx
  have hs := str_type hT hrs hks
  have hd := slice_elem hT hrd hkd
  have heU := int_type hT hre h8
  have hrun := Go.Lib.run_convert_string_bytes (P := P) w src dst e ⟨bs.toArray⟩ hs hd heU
  have hsize : (⟨bs.toArray⟩ : ByteArray).size = bs.length := by simp [ByteArray.size]
  have hml : maxLen = 9223372036854775807 := rfl
  rw [hsize] at hrun
  have hcell := Go.Lib.bytesWorld_cell w e ⟨bs.toArray⟩
  have hold : ∀ b, b < w.heap.size → (Go.Lib.bytesWorld w e ⟨bs.toArray⟩).heap[b]? = w.heap[b]? := fun b hb => Go.Lib.bytesWorld_at_old w e _ b hb
  have hnew := Go.Lib.bytesWorld_at_new w e ⟨bs.toArray⟩
  have hhs := Go.Lib.bytesWorld_size w e ⟨bs.toArray⟩
  have hout : (Go.Lib.bytesWorld w e ⟨bs.toArray⟩).os = w.os ∧ (Go.Lib.bytesWorld w e ⟨bs.toArray⟩).tape = w.tape ∧ (Go.Lib.bytesWorld w e ⟨bs.toArray⟩).output = w.output ∧ w.drawn ≤ (Go.Lib.bytesWorld w e ⟨bs.toArray⟩).drawn := by
    unfold Go.Lib.bytesWorld World.freeze
    rw [if_neg (by decide)]
    exact ⟨rfl, rfl, rfl, Nat.le_succ _⟩
  have hc1 := grownCap_ge w bs.length 0 e
  have hc2 := grownCap_le_maxLen w bs.length 0 e (by omega)
  have hclen : (Go.Lib.bytesCells w e ⟨bs.toArray⟩).size = grownCap w bs.length 0 e := by
    simp only [Go.Lib.bytesCells, hsize, Array.size_append, Array.size_map, List.size_toArray, Array.size_replicate]
    omega
  generalize grownCap w bs.length 0 e = c at hc1 hc2 hclen hrun
  generalize Go.Lib.bytesCells w e ⟨bs.toArray⟩ = BC at hnew hclen
  generalize Go.Lib.bytesWorld w e ⟨bs.toArray⟩ = W at *
  obtain ⟨BC⟩ := BC
  simp only [List.size_toArray] at hclen hnew
  have hh' : ∀ b, blk (.slice (some ⟨w.heap.size, 0, none⟩) bs.length c) = some b → w.heap.size ≤ b := by
    intro b hb
    cases c <;> cases hb
    exact Nat.le_refl _
  refine ⟨.slice (some ⟨w.heap.size, 0, none⟩) bs.length c, W, π ++ [.slice (some ⟨w.heap.size, 0, none⟩) bs.length c], ?_, tr_newW m hout.1 hout.2.1 ⟨hout.2.2.1, dr_mono hout.2.2.2⟩ (by rw [hhs]; omega) hold _ (gL e 1 eU8 0 bs) hh' ?_, fun _ => .gs (nth_new m.len _)⟩
  · unfold execOp
    rw [hop]
    simp only [Sem.run_bind, hax, hrun, Result.andThen_ok, Sem.run_pure]
    rfl
  · cases c with
    | zero =>
      obtain rfl : bs = [] := List.eq_nil_of_length_eq_zero (by omega)
      exact .gnil
    | succ c =>
      have hls : (bs.map fun b => Value.int .u8 (b.toNat : Int)).length = bs.length := by simp
      have hk := new_keepsW (X := X) (π := π) (objs := objs) hold (.slice (some ⟨w.heap.size, 0, none⟩) bs.length (c + 1)) (gL e 1 eU8 0 bs) m.len hh'
      have := RelO.grow (w := W) (ok := okOf X (π ++ [.slice (some ⟨w.heap.size, 0, none⟩) bs.length (c + 1)]) (objs ++ [some (gL e 1 eU8 0 bs)])) (π := π ++ [.slice (some ⟨w.heap.size, 0, none⟩) bs.length (c + 1)]) (e := e) (s := 1) (b := w.heap.size) (o := 0) (c := c) (xs := bs.map eU8) (us := bs.map fun b => Value.int .u8 (b.toNat : Int))
        (vs := BC) (rd := fun i => eU8 (bs.getD i 0)) (fz := (BC.length, BC.length + 1)) hnew (fun q hq => by omega) (strEs_rel bs) (fun q hq => ?_) (by rw [List.length_map]; exact hc1) hc2 (by omega) (map_rd eU8 0 bs)
      · rw [List.length_map] at this
        exact this
      · rw [hls] at hq
        have h1 := hcell q (by rw [hsize]; exact hq)
        have h2 := cell_of_heap (i := q) hnew
        rw [h2] at h1
        rw [Nat.zero_add, h1]
        simp [hq, List.getD_eq_getElem?_getD]
end
end Ab
namespace Go.Proofs.YtkemmijjpclckaaGreatDoor
open Go Ab Go.RowKit Go.Lib
set_option maxRecDepth 100000
set_option linter.unusedVariables false
set_option linter.unusedSimpArgs false
set_option maxHeartbeats 4000000

/-! ### The document's example -/
theorem dlI (l : List Int) : DLe (.sl 1 (l.map eI) (litRd (l.map eI))) (eIs l) := DLe.slR rfl (map_rd eI 0 l)
theorem clA {cs ds : List D} (h : DLes cs ds) : CLe (.ag cs) (.ag ds) := fun _ _ _ h2 => h.rel h2
theorem dlS {s : Nat} {xs ys : List D} {rd rd' : Nat → D} (h : CLes xs ys) (hr : ∀ i, i < ys.length → ys[i]? = some (rd' i)) : DLe (.sl s xs rd) (.sl s ys rd') := by
  intro w ok v hv
  have hf : flat v = true := by cases hv <;> rfl
  have := CLe.sl h hr w ok [v] (.cons hv hf .nil)
  cases this with | cons h _ _ => exact h
def exA : Ag := ⟨0, [(2, 0)], [], [], [2], [], []⟩
def exP : List Sp := [(false, [], ())]
def exC : Ct := ⟨[], 3, exP, exP, exP⟩
def exD : Ct := ⟨[], 1, exP, exP, exP⟩
def exT20 : List UInt8 := [105, 110, 118, 32, 48, 32, 51, 10, 112, 114, 111, 111, 102, 32, 49, 10, 48, 10, 112, 114, 111, 111, 102, 32, 49, 10, 48, 10, 112, 114, 111, 111, 102, 32, 49, 10, 48, 10]
theorem exA_right : RightA exA := rightA_iff.1 (by decide)
theorem exC_right : rightC exA exC = true := by decide
theorem exD_right : rightC exA exD = true := by decide
theorem exC_text : certT exC = exT20 := by kernel_rfl
theorem exC_par : certP exA exT20 = .inr (exC, ((exT20.length : Nat) : Int)) := by
  have := cert_read (a := exA) (c := exC) (by decide) exC_right (by rw [exC_text]; decide)
  rwa [exC_text] at this
theorem one_chk {l : List (List Int)} (h : Cf l []) : (chk l 0 exP).2 = 0 := by
  have hr : refB l [] = true := refB_iff.2 h
  unfold exP
  rw [chk]
  have h1 : stepR l (false, [], ()) = some (l ++ [[]]) := by simp only [stepR, Bool.false_eq_true, if_false, hr, if_true]
  rw [h1]
  simp
theorem fo_one {l : List (List Int)} {a : List Int} {x : Int} (h : [x] ∈ l) : Fo l a x := .unit h (by simp) fun y hy hne => absurd (List.mem_singleton.1 hy) hne
theorem cf_one {l : List (List Int)} {a : List Int} {x : Int} (h : [x] ∈ l) (k : [-x] ∈ l) : Cf l a := .inl ⟨x, fo_one h, fo_one k⟩
theorem ex_a0 : (chk (ask0 (grownA exA exC) exC.inv) 0 exC.p0).2 = 0 := one_chk (cf_one (x := 2) (by decide) (by decide))
theorem ex_a1 : (chk (ask1 (grownA exA exC) exC.inv) 0 exC.p1).2 = 0 := one_chk (.inr ⟨[-4, 2], by decide, fun z hz => by
  rcases List.mem_cons.1 hz with rfl | hz
  · exact fo_one (by decide)
  · rw [List.mem_singleton.1 hz]
    exact fo_one (by decide)⟩)
theorem ex_a2 : (chk (ask2 (grownA exA exC) exC.inv (exA.bad.getD (0 : Int).toNat 0)) 0 exC.p2).2 = 0 := one_chk (cf_one (x := 2) (by decide) (by decide))
theorem ex_chk : checkR exA exC 0 = (0, 0) := by
  unfold checkR
  rw [if_neg (by rw [exC_right]; decide), if_neg (by decide), if_neg (not_not_intro ex_a0), if_neg (not_not_intro ex_a1), if_neg (not_not_intro ex_a2)]
theorem ex_d0 : (chk (ask0 (grownA exA exD) exD.inv) 0 exD.p0).2 = 0 := one_chk (cf_one (x := 1) (by decide) (by decide))
theorem ex_d1 : (chk (ask1 (grownA exA exD) exD.inv) 0 exD.p1).2 = 0 := one_chk (cf_one (x := 3) (by decide) (by decide))
theorem ex_d2 : (chk (ask2 (grownA exA exD) exD.inv (exA.bad.getD (0 : Int).toNat 0)) 0 exD.p2).2 ≠ 0 := by
  refine (chk_sound (n := 2) (m := [false, true]) rfl _ _ 0 (fun c hc => ?_) (by decide)).1
  have : ask2 (grownA exA exD) exD.inv (exA.bad.getD (0 : Int).toNat 0) = [[-1], [-1], [2]] := by decide
  rw [this] at hc
  simp only [List.mem_cons, List.not_mem_nil, or_false] at hc
  rcases hc with rfl | rfl | rfl
  · exact ⟨-1, by simp, 0, by decide, .inr ⟨rfl, rfl⟩⟩
  · exact ⟨-1, by simp, 0, by decide, .inr ⟨rfl, rfl⟩⟩
  · exact ⟨2, by simp, 1, by decide, .inl ⟨rfl, rfl⟩⟩
theorem ex_chkD : checkR exA exD 0 = (3, 6) := by
  unfold checkR
  rw [if_neg (by rw [exD_right]; decide), if_neg (by decide), if_neg (not_not_intro ex_d0), if_neg (not_not_intro ex_d1), if_pos ex_d2]
theorem exB (c : Ct) (h : c = exC ∨ c = exD) : AcB exA c := by
  rcases h with rfl | rfl <;> exact ⟨by decide, by decide, by decide, by decide, by decide, by decide, by decide⟩
theorem exA_le : VLe (.d (.ag [eI 0, .sl 2 [.ag [eI 2, eI 0]] (litRd [.ag [eI 2, eI 0]]), nilD, nilD, .sl 1 [eI 2] (litRd [eI 2]), nilD, nilD])) (.d (eAg exA)) :=
  VLe.dag ⟨.refl _, dlS (ys := [(2, 0)].map eP2) ⟨.refl _, trivial⟩ (map_rd eP2 (0, 0) [(2, 0)]), dnil2, dnil2, dlI [2], dnil2, dnil2, trivial⟩
@[reducible] def exPd : D := .sl 2 [.ag [.v (.bool false), nilD]] (litRd [.ag [.v (.bool false), nilD]])
theorem exP_le : DLe exPd (eSps exP) := dlS (ys := exP.map eSp) ⟨clA ⟨.refl _, dnil2, trivial⟩, trivial⟩ (map_rd eSp (false, [], ()) exP)
theorem exC_le (i : Int) : VLe (.d (.ag [nilD, eI i, exPd, exPd, exPd])) (.d (eCt ⟨[], i, exP, exP, exP⟩)) := VLe.dag ⟨dnil2, .refl _, exP_le, exP_le, exP_le, trivial⟩
theorem cShown_call : ACall Tryz.prog 11 [] [] (fun r o => r = vB true) := by
  refine acall_enter Tryz.func11 rfl rfl (Nat.le_of_ble_eq_true rfl) fun C hC hCl hDs hGk => ?_
  refine sat_call tabOk Tryz.func11 rfl trivial (cCheck_call exA exC 0 (exB _ (.inl rfl)) (fun _ => ⟨by decide, by decide, by decide⟩)) ⟨exA_le, .refl _, exC_le 3, trivial⟩ rfl ⟨_, rfl⟩ (by rintro r o rfl; rfl) ?_
  rintro _ o rfl
  rw [ex_chk]
  refine sat_call tabOk Tryz.func11 rfl trivial (cPrint_call exA exC (exB _ (.inl rfl)) (fun _ => ⟨by decide, by decide, by decide⟩)) ⟨exA_le, exC_le 3, trivial⟩ rfl ⟨_, rfl⟩ (by rintro r o rfl; split <;> rfl) ?_
  rintro _ o rfl
  rw [if_pos exC_right, exC_text]
  refine sat_steps 60 tabOk Tryz.func11 rfl trivial ?_
  refine sat_strB (bs := exT20) tabOk rfl rfl rfl rfl rfl rfl rfl rfl rfl rfl (by decide) rfl ?_
  refine sat_freeze 2 rfl ?_
  refine sat_call tabOk Tryz.func11 rfl trivial (cParse_call exA exT20 exA_right (by decide)) ⟨exA_le, VLe.eL rfl, trivial⟩ rfl ⟨_, rfl⟩ (by rintro r o rfl; rw [exC_par]; rfl) ?_
  rintro _ o rfl
  rw [exC_par]
  unfold cparA
  refine sat_call tabOk Tryz.func11 rfl trivial (cCheck_call exA exD 0 (exB _ (.inr rfl)) (fun _ => ⟨by decide, by decide, by decide⟩)) ⟨exA_le, .refl _, exC_le 1, trivial⟩ rfl ⟨_, rfl⟩ (by rintro r o rfl; rfl) ?_
  rintro _ o rfl
  rw [ex_chkD]
  refine sat_branch tabOk Tryz.func11 rfl trivial (fun _ => ?_) (fun h => by cases h)
  refine sat_branch tabOk Tryz.func11 rfl trivial (fun _ => ?_) (fun h => by cases h)
  refine sat_branch tabOk Tryz.func11 rfl trivial (fun _ => ?_) (fun h => by cases h)
  refine sat_branch tabOk Tryz.func11 rfl trivial (fun _ => ?_) (fun h => by cases h)
  refine sat_branch tabOk Tryz.func11 rfl trivial (fun _ => ?_) (fun h => ?_)
  rotate_left
  · have h : ((⟨exT20.toArray⟩ : ByteArray).toList == (⟨exT20.toArray⟩ : ByteArray).toList) = false := h
    rw [strBy, decide_eq_true rfl] at h
    cases h
  refine sat_branch tabOk Tryz.func11 rfl trivial (fun _ => ?_) (fun h => by cases h)
  refine sat_call tabOk Tryz.func11 rfl trivial (cSame_call exC exC (by decide)) ⟨exC_le 3, .refl _, trivial⟩ rfl ⟨_, rfl⟩ (by rintro r o rfl; rfl) ?_
  rintro _ o rfl
  have hs : (decide (exC.p0 = exC.p0) && decide (exC.p1 = exC.p1) && decide (exC.p2 = exC.p2) && (exC.inv == exC.inv && decide (exC.g = exC.g))) = true := by decide
  rw [hs]
  refine sat_branch tabOk Tryz.func11 rfl trivial (fun _ => ?_) (fun h => by cases h)
  refine sat_call tabOk Tryz.func11 rfl trivial (cRightC_call exA exC (exB _ (.inl rfl))) ⟨exA_le, exC_le 3, trivial⟩ rfl ⟨_, rfl⟩ (by rintro r o rfl; rfl) ?_
  rintro _ o rfl
  rw [exC_right]
  refine sat_branch tabOk Tryz.func11 rfl trivial (fun _ => ?_) (fun h => by cases h)
  refine sat_branch tabOk Tryz.func11 rfl trivial (fun _ => ?_) (fun h => by cases h)
  refine sat_branch tabOk Tryz.func11 rfl trivial (fun _ => ?_) (fun h => by cases h)
  refine sat_call tabOk Tryz.func11 rfl trivial (Grown_call exA exC (by decide) (by decide)) ⟨exA_le, exC_le 3, trivial⟩ rfl ⟨_, rfl⟩ (by rintro r o rfl; rfl) ?_
  rintro _ o rfl
  exact sat_ret tabOk Tryz.func11 rfl trivial rfl
end Go.Proofs.YtkemmijjpclckaaGreatDoor
namespace Go.Proofs.YtkemmijjpclckaaGreatDoor
open Go Ab Go.Lib
set_option maxRecDepth 100000
set_option linter.unusedVariables false
set_option linter.unusedSimpArgs false

/-! ### What may be asked about is small -/
theorem smallP_of {p : List Sp} {m : Int} (h : smallP p m = true) : (p.length : Int) ≤ m ∧ ∀ s ∈ p, (s.2.1.length : Int) ≤ m := by
  unfold smallP at h
  rw [Bool.and_eq_true, decide_eq_true_eq, List.all_eq_true] at h
  exact ⟨h.1, fun s hs => of_decide_eq_true (h.2 s hs)⟩
theorem stepT_two (s : Sp) : 2 ≤ (stepT s).length := by
  unfold stepT
  simp only [List.length_append, List.length_cons, List.length_nil]
  omega
theorem proofT_two : ∀ (p : List Sp), 2 * p.length ≤ (proofT p).length
  | [] => Nat.zero_le _
  | s :: p => by
    have h1 := stepT_two s
    have h2 := proofT_two p
    rw [show proofT (s :: p) = stepT s ++ proofT p from List.flatMap_cons .., List.length_append, List.length_cons]
    omega
/-- All that is asked of both. -/
structure Asked (a : Ag) (c : Ct) : Prop where
  sa : SmA a 40
  ra : RightA a
  sc : SmC c 20
theorem SmA.M {a : Ag} (h : SmA a 40) : AgM a := by
  have hml : maxLen = 9223372036854775807 := rfl
  refine ⟨?_, ?_, ?_, ?_, fun x hx => ?_⟩
  · have := h.outs; omega
  · have := h.bad; omega
  · have := h.con; omega
  · have := h.names; omega
  · have := h.s x hx; omega
theorem Asked.acM {a : Ag} {c : Ct} (h : Asked a c) : AcM a c := by
  have hml : maxLen = 9223372036854775807 := rfl
  have q0 := smallP_of h.sc.p0
  have q1 := smallP_of h.sc.p1
  have q2 := smallP_of h.sc.p2
  have hg := h.sa.g
  have hcg := h.sc.g
  have hn := h.sa.names
  refine ⟨⟨by omega, by omega, by omega, fun x hx => ?_, by omega, by omega, by omega⟩, h.sa.M, fun s hs => ?_, fun s hs => ?_, fun s hs => ?_⟩
  · have := h.sa.s x hx; omega
  · have := q0.2 s hs; omega
  · have := q1.2 s hs; omega
  · have := q2.2 s hs; omega
theorem Asked.thou {a : Ag} {c : Ct} (h : Asked a c) : c.p0.length ≤ 1000 ∧ c.p1.length ≤ 1000 ∧ c.p2.length ≤ 1000 := by
  have q0 := smallP_of h.sc.p0
  have q1 := smallP_of h.sc.p1
  have q2 := smallP_of h.sc.p2
  omega
theorem small_proofT {n : Int} {p : List Sp} (hn : 0 ≤ n ∧ n ≤ 100000) (h : rightP n p = true) (hs : smallP p 20 = true) : (prT p).length ≤ 9000 := by
  obtain ⟨q1, q2⟩ := smallP_of hs
  have hr := steps_of h
  have h2 := proofT_len (m := 20) (p := p) fun s hs' => ⟨fun l hl => by have := (hr s hs').1 l hl; unfold litOk at this; omega, by have := q2 s hs'; omega⟩
  have h3 : p.length * (20 * 22 + 4) ≤ 20 * (20 * 22 + 4) := Nat.mul_le_mul_right _ (by omega)
  have i0 := itoa_len (l := (p.length : Int)) (by omega) (by omega)
  simp only [prT, kProof, List.length_append, List.length_cons, List.length_nil]
  omega
/-- A small certificate's text. -/
theorem Asked.text {a : Ag} {c : Ct} (h : Asked a c) (hR : rightC a c = true) : (certT c).length ≤ 100000 := by
  obtain ⟨-, h2, h3, -, h5, h6, h7⟩ := rightC_iff.1 hR
  have hA := rightA_iff.1 h2
  have hv := hA.v1
  have hi0 := hA.i0
  have hv0 : 0 ≤ varsA (grownA a c) := by unfold varsA; omega
  have t0 := small_proofT ⟨by omega, by omega⟩ h5 h.sc.p0
  have t1 := small_proofT ⟨by omega, by omega⟩ h6 h.sc.p1
  have t2 := small_proofT ⟨by omega, by omega⟩ h7 h.sc.p2
  have hgo := (gatOk_iff _ _).1 (grown_gates hA)
  have hvg := varsA_grown a c
  have hav : 0 ≤ varsA a := by have := h.ra.i0; unfold varsA; omega
  have tg := gateT_len c.g fun p hp => by
    obtain ⟨j, hj, rfl⟩ := List.mem_iff_getElem.1 hp
    have := hgo j hj
    omega
  have hcg := h.sc.g
  have i0 := itoa_len (l := (c.g.length : Int)) (by omega) (by omega)
  have i1 := itoa_len (l := c.inv) (by omega) (by omega)
  simp only [certT, kInv, List.length_append, List.length_cons, List.length_nil]
  omega
/-- A right certificate of a text that isn't long. -/
theorem right_acM {a : Ag} {c : Ct} (ha : SmA a 40) (hR : rightC a c = true) : AcM a c := by
  have hml : maxLen = 9223372036854775807 := rfl
  obtain ⟨h1, h2, h3, -, h5, h6, h7⟩ := rightC_iff.1 hR
  have q0 := rightP_iff.1 h5
  have q1 := rightP_iff.1 h6
  have q2 := rightP_iff.1 h7
  have hg := ha.g
  have hn := ha.names
  refine ⟨⟨by omega, by omega, by omega, fun x hx => ?_, q0.1.2.2, q1.1.2.2, q2.1.2.2⟩, ha.M, fun s hs => ?_, fun s hs => ?_, fun s hs => ?_⟩
  · have := ha.s x hx; omega
  · have := (q0.2 s hs).2; omega
  · have := (q1.2 s hs).2; omega
  · have := (q2.2 s hs).2; omega
theorem text_thou {c : Ct} (h : (certT c).length ≤ 2000) : c.p0.length ≤ 1000 ∧ c.p1.length ≤ 1000 ∧ c.p2.length ≤ 1000 := by
  have h0 := proofT_two c.p0
  have h1 := proofT_two c.p1
  have h2 := proofT_two c.p2
  simp only [certT, prT, List.length_append] at h
  omega
theorem cert_nil (a : Ag) : certP a [] = .inl (0, 2) := rfl
end Go.Proofs.YtkemmijjpclckaaGreatDoor
namespace Go.Proofs.YtkemmijjpclckaaGreatDoor
open Go Ab Go.RowKit Go.Lib
set_option maxRecDepth 100000
set_option linter.unusedVariables false
set_option linter.unusedSimpArgs false
set_option maxHeartbeats 8000000

theorem CertBack_law (a : Ag) (c : Ct) (b : List UInt8) (hm : AgM a) (hb : b.length ≤ maxLen) : ACall Tryz.prog 8 [.d (eAg a), .d (eCt c), .d (eBy b)] [] (fun r o => r = vB true) := by
  refine acall_enter Tryz.func8 rfl rfl (Nat.le_of_ble_eq_true rfl) fun C hC hCl hDs hGk => ?_
  refine sat_call tabOk Tryz.func8 rfl trivial cShown_call (.refl _) rfl ⟨_, rfl⟩ (by rintro r o rfl; rfl) ?_
  rintro _ o rfl
  refine sat_call tabOk Tryz.func8 rfl trivial (cMay_call a c hm) (.refl _) rfl ⟨_, rfl⟩ (by rintro r o ⟨b, rfl, -⟩; rfl) ?_
  rintro _ o ⟨m, rfl, h1⟩
  cases m with
  | false =>
    repeat refine sat_branch tabOk Tryz.func8 rfl trivial (fun _ => ?_) (fun h => by cases h)
    exact sat_ret tabOk Tryz.func8 rfl trivial rfl
  | true =>
  refine sat_branch tabOk Tryz.func8 rfl trivial (fun h => by cases h) (fun _ => ?_)
  refine sat_branch tabOk Tryz.func8 rfl trivial (fun h2 => ?_) (fun h2 => ?_)
  · exact sat_ret tabOk Tryz.func8 rfl trivial rfl
  have h2 : decide ((((b.map eU8).length : Nat) : Int) > 2000) = false := h2
  rw [decide_eq_false_iff_not, List.length_map] at h2
  obtain ⟨⟨sa, ra⟩, sc⟩ := h1 rfl
  have hA : Asked a c := ⟨sa, ra, sc⟩
  have hM := hA.acM
  refine sat_call tabOk Tryz.func8 rfl trivial (cPrint_call a c hM.b (fun _ => hA.thou)) (.refl _) rfl ⟨_, rfl⟩ (by rintro r o rfl; split <;> rfl) ?_
  rintro _ o rfl
  have hRc := rRightC_call a c hM
  have hS := rSameC_call c c (by have := hM.b.cg; omega)
  rw [sameC_iff.2 rfl] at hS
  have hgood := cert_good (a := a) ra (b := b)
  have hpb := cParse_call a b ra (by omega)
  apply letK (p := ASat Tryz.prog 8 Tryz.f8.ntmps C _ [(2, .d (eBy b)), (3, .ptr 0 0), (7, vB true)] [some (bAg a)] (fun r o => r = vB true))
  · intro key
    cases hR : rightC a c with
    | false =>
      rw [if_neg (by decide)]
      rw [hR] at hRc
      refine sat_call tabOk Tryz.func8 rfl trivial hRc (.refl _) rfl ⟨_, rfl⟩ (by rintro r o rfl; rfl) ?_
      rintro _ o rfl
      refine sat_branch tabOk Tryz.func8 rfl trivial (fun h => by cases h) (fun _ => ?_)
      refine sat_steps 60 tabOk Tryz.func8 rfl trivial ?_
      refine sat_strB (bs := []) tabOk rfl rfl rfl rfl rfl rfl rfl rfl rfl rfl (by decide) rfl ?_
      refine sat_freeze 2 rfl ?_
      refine sat_call tabOk Tryz.func8 rfl trivial (cParse_call a [] ra (by decide)) ⟨.refl _, VLe.eL rfl, trivial⟩ rfl ⟨_, rfl⟩ (by rintro r o rfl; rw [cert_nil]; rfl) ?_
      rintro _ o rfl
      rw [cert_nil]
      unfold cparA
      repeat refine sat_branch tabOk Tryz.func8 rfl trivial (fun h => by cases h) (fun _ => ?_)
      refine sat_steps 2 tabOk Tryz.func8 rfl trivial ?_
      exact sat_le key hC hCl ⟨⟨_, rfl, .refl _⟩, ⟨_, rfl, .refl _⟩, ⟨_, rfl, .refl _⟩, trivial⟩ ⟨.refl _, trivial⟩ rfl rfl (Nat.zero_le _)
    | true =>
      rw [if_pos rfl]
      rw [hR] at hRc
      refine sat_call tabOk Tryz.func8 rfl trivial hRc (.refl _) rfl ⟨_, rfl⟩ (by rintro r o rfl; rfl) ?_
      rintro _ o rfl
      refine sat_branch tabOk Tryz.func8 rfl trivial (fun h => by cases h) (fun _ => ?_)
      have hpr := cert_read (a := a) (c := c) (by have := ra.i0; unfold varsA; omega) hR (hA.text hR)
      have hTl := hA.text hR
      generalize certT c = T at *
      refine sat_steps 60 tabOk Tryz.func8 rfl trivial ?_
      refine sat_strB (bs := T) tabOk rfl rfl rfl rfl rfl rfl rfl rfl rfl rfl (by omega) rfl ?_
      refine sat_freeze 2 rfl ?_
      refine sat_call tabOk Tryz.func8 rfl trivial (cParse_call a T ra (by omega)) ⟨.refl _, VLe.eL rfl, trivial⟩ rfl ⟨_, rfl⟩ (by rintro r o rfl; rw [hpr]; rfl) ?_
      rintro _ o rfl
      rw [hpr]
      unfold cparA
      refine sat_branch tabOk Tryz.func8 rfl trivial (fun _ => ?_) (fun h => by cases h)
      refine sat_branch tabOk Tryz.func8 rfl trivial (fun h => by cases h) (fun _ => ?_)
      refine sat_branch tabOk Tryz.func8 rfl trivial (fun h3 => ?_) (fun h3 => ?_)
      · have h3 : ((T.length : Int) != (((⟨T.toArray⟩ : ByteArray).size : Nat) : Int)) = true := h3
        rw [sizeBy] at h3
        simp at h3
      refine sat_call tabOk Tryz.func8 rfl trivial hS (.refl _) rfl ⟨_, rfl⟩ (by rintro r o rfl; rfl) ?_
      rintro _ o rfl
      refine sat_branch tabOk Tryz.func8 rfl trivial (fun h => by cases h) (fun _ => ?_)
      refine sat_steps 2 tabOk Tryz.func8 rfl trivial ?_
      exact sat_le key hC hCl ⟨⟨_, rfl, .refl _⟩, ⟨_, rfl, .refl _⟩, ⟨_, rfl, .refl _⟩, trivial⟩ ⟨.refl _, trivial⟩ rfl rfl (Nat.zero_le _)
  refine sat_call tabOk Tryz.func8 rfl trivial hpb (.refl _) rfl ⟨_, rfl⟩ (by rintro r o rfl; unfold cparA; split <;> rfl) ?_
  rintro _ o rfl
  cases hq : certP a b with
  | inl x =>
    obtain ⟨p, e⟩ := x
    have hE := hgood.2 p e hq
    obtain ⟨e0, e1, e2⟩ := hE
    unfold cparA
    refine sat_branch tabOk Tryz.func8 rfl trivial (fun h3 => ?_) (fun h3 => ?_)
    · have h3 : decide (p < 0) = true := h3
      rw [decide_eq_true_eq] at h3
      omega
    refine sat_branch tabOk Tryz.func8 rfl trivial (fun h4 => ?_) (fun h4 => ?_)
    · have h4 : decide (p > (((b.map eU8).length : Nat) : Int)) = true := h4
      rw [decide_eq_true_eq, List.length_map] at h4
      omega
    refine sat_branch tabOk Tryz.func8 rfl trivial (fun h5 => ?_) (fun h5 => ?_)
    rotate_left
    · have h5 : (e != 0) = false := h5
      rw [bne_eq_false_iff_eq] at h5
      omega
    refine sat_branch tabOk Tryz.func8 rfl trivial (fun _ => ?_) (fun h => by cases h)
    have hS2 := rSameC_call ⟨[], 0, [], [], []⟩ ⟨[], 0, [], [], []⟩ (by decide)
    rw [sameC_iff.2 rfl] at hS2
    refine sat_call tabOk Tryz.func8 rfl trivial hS2 ⟨.refl _, VLe.dag ⟨dnil2, .refl _, dnil2, dnil2, dnil2, trivial⟩, trivial⟩ rfl ⟨_, rfl⟩ (by rintro r o rfl; rfl) ?_
    rintro _ o rfl
    refine sat_branch tabOk Tryz.func8 rfl trivial (fun _ => ?_) (fun h => by cases h)
    refine sat_branch tabOk Tryz.func8 rfl trivial (fun h6 => ?_) (fun h6 => ?_)
    · exact sat_ret tabOk Tryz.func8 rfl trivial rfl
    · have h6 : (e == 2) = false := h6
      rw [beq_eq_false_iff_ne] at h6
      refine sat_ret tabOk Tryz.func8 rfl trivial ?_
      show vB (e == 3) = _
      rw [show e = 3 by omega]
      rfl
  | inr x =>
    obtain ⟨d, p⟩ := x
    obtain ⟨g1, g2, g3⟩ := hgood.1 d p hq
    have hM2 := right_acM sa g3
    have hP2 := cPrint_call a d hM2.b (fun _ => text_thou (by rw [← g2]; omega))
    rw [if_pos g3, ← g2] at hP2
    have hR2 := rRightC_call a d hM2
    rw [g3] at hR2
    unfold cparA
    subst g1
    refine sat_branch tabOk Tryz.func8 rfl trivial (fun h3 => ?_) (fun h3 => ?_)
    · have h3 : decide ((b.length : Int) < 0) = true := h3
      rw [decide_eq_true_eq] at h3
      omega
    refine sat_branch tabOk Tryz.func8 rfl trivial (fun h4 => ?_) (fun h4 => ?_)
    · have h4 : decide ((b.length : Int) > (((b.map eU8).length : Nat) : Int)) = true := h4
      rw [decide_eq_true_eq, List.length_map] at h4
      omega
    refine sat_branch tabOk Tryz.func8 rfl trivial (fun h => by cases h) (fun _ => ?_)
    refine sat_call tabOk Tryz.func8 rfl trivial hP2 (.refl _) rfl ⟨_, rfl⟩ (by rintro r o rfl; rfl) ?_
    rintro _ o rfl
    refine sat_branch tabOk Tryz.func8 rfl trivial (fun _ => ?_) (fun h => by cases h)
    refine sat_branch tabOk Tryz.func8 rfl trivial (fun _ => ?_) (fun h => by cases h)
    refine sat_branch tabOk Tryz.func8 rfl ⟨isByte_by _, trivial⟩ (fun h5 => ?_) (fun h5 => ?_)
    rotate_left
    · have h5 : ((⟨b.toArray⟩ : ByteArray).toList == (strD (b.map eU8)).toList) = false := h5
      rw [strD_by, strBy, decide_eq_true rfl] at h5
      cases h5
    refine sat_branch tabOk Tryz.func8 rfl trivial (fun h6 => ?_) (fun h6 => ?_)
    rotate_left
    · have h6 : ((b.length : Int) == (((b.map eU8).length : Nat) : Int)) = false := h6
      rw [List.length_map] at h6
      simp at h6
    refine sat_call tabOk Tryz.func8 rfl trivial hR2 (.refl _) rfl ⟨_, rfl⟩ (by rintro r o rfl; rfl) ?_
    rintro _ o rfl
    exact sat_ret tabOk Tryz.func8 rfl trivial rfl
end Go.Proofs.YtkemmijjpclckaaGreatDoor
namespace Go.Proofs.YtkemmijjpclckaaGreatDoor
open Go Ab
set_option maxRecDepth 100000
set_option linter.unusedVariables false
set_option linter.unusedSimpArgs false

/-! ### Runs -/
/-! ### HOLDS -/
/-! ### SOUND, of two values -/
/-! ### SOUND, of three values -/
/-- Three values that tell no more than two. -/
def Abs1 (x : UInt8) (b : Bool) : Prop := (x = 0 → b = false) ∧ (x = 1 → b = true)
structure AbsL (V : List UInt8) (W : List Bool) : Prop where
  len : V.length = W.length
  get : ∀ j, j < V.length → Abs1 (V.getD j 0) (W.getD j false)
end Go.Proofs.YtkemmijjpclckaaGreatDoor
namespace Go.Proofs.YtkemmijjpclckaaGreatDoor
open Go Ab Go.RowKit
set_option maxRecDepth 100000
set_option linter.unusedVariables false
set_option linter.unusedSimpArgs false
set_option maxHeartbeats 4000000

/-! ### The document's answer: runs of two values -/
/-- A number that a word can hold. -/
def I64 (l : Int) : Prop := -9223372036854775808 ≤ l ∧ l ≤ 9223372036854775807
/-- A model whose literals a word can hold. -/
structure AgW (a : Ag) : Prop where
  b : AgB a
  l : ∀ p ∈ a.l, I64 p.1
  g : ∀ p ∈ a.g, I64 p.1 ∧ I64 p.2
  outs : ∀ x ∈ a.outs, I64 x
  bad : ∀ x ∈ a.bad, I64 x
  con : ∀ x ∈ a.con, I64 x
end Go.Proofs.YtkemmijjpclckaaGreatDoor
set_option linter.unusedSimpArgs false
set_option linter.unusedVariables false
set_option linter.unusedSectionVars false
namespace Ab
open Go
variable [Draws]

def reachB (l : List Nat) : Bool := l.all fun n => decide (n ≤ reachBytes)
/-- Whatever is read at a type's place, and is no greater than a machine's memory, is data of a shape. -/
structure ReadsS (P : Program) (t : TypeId) {α : Type} (enc : α → D) (Q : α → Prop) : Prop where
  len : ∀ a, (enc a).cells.length = P.cellsOf t
  rd : ∀ {H : Type} (eH : TypeId × Value → H) (w : World) (fuel : Nat) (cs : List Value) (x : DataW H × List MemPlace) (ok : Nat → Prop), (∀ b, ok b) → DataW.trod eH P w 0 (fun _ => true) true fuel t cs = some x → reachB (x.1.weights P t) = true → ∃ a, Q a ∧ RelL w ok (enc a).cells cs
theorem Reads.toS {P : Program} {t : TypeId} {α : Type} {enc : α → D} {Q : α → Prop} (R : Reads P t enc Q) : ReadsS P t enc Q where
  len := R.len
  rd eH w fuel cs x ok hok h _ := R.rd eH w fuel cs x ok hok h
/-- Data told in other words. -/
theorem Reads.via {P : Program} {t : TypeId} {α β : Type} {enc : α → D} {Q : α → Prop} {enc' : β → D} {Q' : β → Prop} (R : Reads P t enc Q) (g : α → β) (hg : ∀ a, Q a → Q' (g a)) (he : ∀ a, Q a → enc' (g a) = enc a) (hl : ∀ b, (enc' b).cells.length = P.cellsOf t) : Reads P t enc' Q' where
  len := hl
  rd eH w fuel cs x ok hok h := by
    obtain ⟨a, qa, ra⟩ := R.rd eH w fuel cs x ok hok h
    exact ⟨g a, hg a qa, by rw [he a qa]; exact ra⟩
theorem ReadsS.via {P : Program} {t : TypeId} {α β : Type} {enc : α → D} {Q : α → Prop} {enc' : β → D} {Q' : β → Prop} (R : ReadsS P t enc Q) (g : α → β) (hg : ∀ a, Q a → Q' (g a)) (he : ∀ a, Q a → enc' (g a) = enc a) (hl : ∀ b, (enc' b).cells.length = P.cellsOf t) : ReadsS P t enc' Q' where
  len := hl
  rd eH w fuel cs x ok hok h hw := by
    obtain ⟨a, qa, ra⟩ := R.rd eH w fuel cs x ok hok h hw
    exact ⟨g a, hg a qa, by rw [he a qa]; exact ra⟩
/-- Fields, one behind the other from a place on. -/
structure ReadsFS (P : Program) (fs : List Field) (o tot : Nat) {α : Type} (enc : α → List D) (Q : α → Prop) : Prop where
  len : ∀ a, (enc a).length = tot
  rd : ∀ {H : Type} (eH : TypeId × Value → H) (w : World) (fuel : Nat) (cs : List Value) (ok : Nat → Prop), (∀ b, ok b) → (∀ f ∈ fs, ∃ x, DataW.trod eH P w 0 (fun _ => true) true fuel f.type ((cs.drop f.offset).take (P.cellsOf f.type)) = some x ∧ reachB (x.1.weights P f.type) = true) → ∃ a, Q a ∧ RelL w ok (enc a) ((cs.drop o).take tot)
theorem ReadsS.argS {P : Program} {t : TypeId} {α : Type} {enc : α → D} {Q : α → Prop} (R : ReadsS P t enc Q) {H : Type} {eH : TypeId × Value → H} {W : World} {cs : Array Value} {d : DataW H} {p : List MemPlace} (h : DataW.Trod eH P W 0 (fun _ => true) true t (.agg cs) d p) (hw : reachB (d.weights P t) = true) (ok : Nat → Prop) (hok : ∀ b, ok b) :
    ∃ a, Q a ∧ RelL W ok (enc a).cells cs.toList := by
  obtain ⟨fuel, hf⟩ := h
  exact R.rd eH W fuel cs.toList _ ok hok hf hw
theorem ReadsS.arg {P : Program} {t : TypeId} {α : Type} {enc : α → D} {Q : α → Prop} (R : ReadsS P t enc Q) {H : Type} {eH : TypeId × Value → H} {W : World} {v : Value} {d : DataW H} {p : List MemPlace} (h : DataW.Trod eH P W 0 (fun _ => true) true t v d p) (hw : reachB (d.weights P t) = true) (hna : ∀ cs, v ≠ .agg cs) (ok : Nat → Prop) (hok : ∀ b, ok b) :
    ∃ a, Q a ∧ RelL W ok (enc a).cells [v] := by
  obtain ⟨fuel, hf⟩ := h
  have : v.cells.toList = [v] := by
    cases v <;> first | rfl | exact absurd rfl (hna _)
  rw [this] at hf
  exact R.rd eH W fuel [v] _ ok hok hf hw
end Ab
