/- A part of the proof: Ab74, C33, CL0, C28, CR1, C26, CL8, CR9, CR10, CL7, Ab63. -/
import Derived.Test.YtkemmijjpclckaaGreatDoorP20
import Derived.Lib.ConvBytes
import Derived.Lib.SlBytesConst
set_option linter.unusedVariables false
set_option linter.unusedSimpArgs false
set_option linter.unusedSimpArgs false
set_option linter.unusedVariables false
set_option linter.unusedSectionVars false
namespace Ab
open Go
variable [Draws]

section
variable {P : Program} [Globals P] {T : Tab} {f : FuncId} {n : Nat} {C : Cx} {R : AV → List (Option AObj) → Prop} {env : Env} {objs : List (Option AObj)} {ops : Array Oper}

/-- A string's bytes, in a slice of the call's own. -/
theorem sat_strB {i : Nat} {r : List Nat} {k : List Item} {o : Oper} {e2 : Env} {src dst e : TypeId} {rs rd re : TRow} {xo : Operand} {bs : List UInt8} (hT : TabOk P T) (ho : ops[i]? = some o) (hw : wantE ops env o = .yes) (hop : o.op = .convert src dst xo) (hx : opnd env xo = some (.d (.v (.string ⟨bs.toArray⟩))))
    (hrs : tlook T src = some rs) (hks : rs.kd = .str) (hrd : tlook T dst = some rd) (hkd : rd.kd = .slice e) (hre : tlook T e = some re) (h8 : re.kd = .int .u8) (hlen : bs.length ≤ 1000000000)
    (hput : putE n o.dst (.gs objs.length) env = some e2) (h : ASat P f n C (.inRegion ops r :: k) e2 (objs ++ [some (gL e 1 eU8 0 bs)]) R) : ASat P f n C (.inRegion ops (i :: r) :: k) env objs R := by
  refine sat_op ⟨none, false, .gs objs.length, none, objs ++ [some (gL e 1 eU8 0 bs)]⟩ ho hw (fun X π w tmps m he _ => ?_) trivial hput h
  have hax := look_ok (P := P) he hx
  have hs := str_type hT hrs hks
  have hd := slice_elem hT hrd hkd
  have heU := int_type hT hre h8
  have hrun := Go.Lib.run_convert_string_bytes (P := P) w src dst e ⟨bs.toArray⟩ hs hd heU
  have hsize : (⟨bs.toArray⟩ : ByteArray).size = bs.length := by simp [ByteArray.size]
  have hml : maxLen = 9223372036854775807 := rfl
  rw [hsize] at hrun
  have hcell := Go.Lib.bytesWorld_cell w e ⟨bs.toArray⟩
  have hold : ∀ b, b < w.heap.size → (Go.Lib.bytesWorld w e ⟨bs.toArray⟩).heap[b]? = w.heap[b]? := fun b hb => Go.Lib.bytesWorld_at_old w e _ b hb
  have hnew := Go.Lib.bytesWorld_at_new w e ⟨bs.toArray⟩
  have hhs := Go.Lib.bytesWorld_size w e ⟨bs.toArray⟩
  have hout : (Go.Lib.bytesWorld w e ⟨bs.toArray⟩).os = w.os ∧ (Go.Lib.bytesWorld w e ⟨bs.toArray⟩).tape = w.tape ∧ (Go.Lib.bytesWorld w e ⟨bs.toArray⟩).output = w.output ∧ w.drawn ≤ (Go.Lib.bytesWorld w e ⟨bs.toArray⟩).drawn := by
    unfold Go.Lib.bytesWorld World.freeze
    rw [if_neg (by decide)]
    exact ⟨rfl, rfl, rfl, Nat.le_succ _⟩
  have hc1 := grownCap_ge w bs.length 0 e
  have hc2 := grownCap_le_maxLen w bs.length 0 e (by omega)
  have hclen : (Go.Lib.bytesCells w e ⟨bs.toArray⟩).size = grownCap w bs.length 0 e := by
    simp only [Go.Lib.bytesCells, hsize, Array.size_append, Array.size_map, List.size_toArray, Array.size_replicate]
    omega
  generalize grownCap w bs.length 0 e = c at hc1 hc2 hclen hrun
  generalize Go.Lib.bytesCells w e ⟨bs.toArray⟩ = BC at hnew hclen
  generalize Go.Lib.bytesWorld w e ⟨bs.toArray⟩ = W at *
  obtain ⟨BC⟩ := BC
  simp only [List.size_toArray] at hclen hnew
  have hh' : ∀ b, blk (.slice (some ⟨w.heap.size, 0, none⟩) bs.length c) = some b → w.heap.size ≤ b := by
    intro b hb
    cases c <;> cases hb
    exact Nat.le_refl _
  refine ⟨.slice (some ⟨w.heap.size, 0, none⟩) bs.length c, W, π ++ [.slice (some ⟨w.heap.size, 0, none⟩) bs.length c], ?_, tr_newW m hout.1 hout.2.1 ⟨hout.2.2.1, dr_mono hout.2.2.2⟩ (by rw [hhs]; omega) hold _ (gL e 1 eU8 0 bs) hh' ?_, fun _ => .gs (nth_new m.len _)⟩
  · unfold execOp
    rw [hop]
    simp only [Sem.run_bind, hax, hrun, Result.andThen_ok, Sem.run_pure]
    rfl
  · cases c with
    | zero =>
      obtain rfl : bs = [] := List.eq_nil_of_length_eq_zero (by omega)
      exact .gnil
    | succ c =>
      have hls : (bs.map fun b => Value.int .u8 (b.toNat : Int)).length = bs.length := by simp
      have hk := new_keepsW (X := X) (π := π) (objs := objs) hold (.slice (some ⟨w.heap.size, 0, none⟩) bs.length (c + 1)) (gL e 1 eU8 0 bs) m.len hh'
      have := RelO.grow (w := W) (ok := okOf X (π ++ [.slice (some ⟨w.heap.size, 0, none⟩) bs.length (c + 1)]) (objs ++ [some (gL e 1 eU8 0 bs)])) (π := π ++ [.slice (some ⟨w.heap.size, 0, none⟩) bs.length (c + 1)]) (e := e) (s := 1) (b := w.heap.size) (o := 0) (c := c) (xs := bs.map eU8) (us := bs.map fun b => Value.int .u8 (b.toNat : Int))
        (vs := BC) (rd := fun i => eU8 (bs.getD i 0)) (fz := (BC.length, BC.length + 1)) hnew (fun q hq => by omega) (strEs_rel bs) (fun q hq => ?_) (by rw [List.length_map]; exact hc1) hc2 (by omega) (map_rd eU8 0 bs)
      · rw [List.length_map] at this
        exact this
      · rw [hls] at hq
        have h1 := hcell q (by rw [hsize]; exact hq)
        have h2 := cell_of_heap (i := q) hnew
        rw [h2] at h1
        rw [Nat.zero_add, h1]
        simp [hq, List.getD_eq_getElem?_getD]
end
end Ab
namespace Go.Proofs.YtkemmijjpclckaaGreatDoor
open Go Ab Go.RowKit Go.Lib
set_option maxRecDepth 100000
set_option linter.unusedVariables false
set_option linter.unusedSimpArgs false
set_option maxHeartbeats 4000000

/-! ### The document's example -/
theorem dlI (l : List Int) : DLe (.sl 1 (l.map eI) (litRd (l.map eI))) (eIs l) := DLe.slR rfl (map_rd eI 0 l)
theorem clA {cs ds : List D} (h : DLes cs ds) : CLe (.ag cs) (.ag ds) := fun _ _ _ h2 => h.rel h2
theorem dlS {s : Nat} {xs ys : List D} {rd rd' : Nat → D} (h : CLes xs ys) (hr : ∀ i, i < ys.length → ys[i]? = some (rd' i)) : DLe (.sl s xs rd) (.sl s ys rd') := by
  intro w ok v hv
  have hf : flat v = true := by cases hv <;> rfl
  have := CLe.sl h hr w ok [v] (.cons hv hf .nil)
  cases this with | cons h _ _ => exact h
def exA : Ag := ⟨0, [(2, 0)], [], [], [2], [], []⟩
def exP : List Sp := [(false, [], ())]
def exC : Ct := ⟨[], 3, exP, exP, exP⟩
def exD : Ct := ⟨[], 1, exP, exP, exP⟩
def exT20 : List UInt8 := [105, 110, 118, 32, 48, 32, 51, 10, 112, 114, 111, 111, 102, 32, 49, 10, 48, 10, 112, 114, 111, 111, 102, 32, 49, 10, 48, 10, 112, 114, 111, 111, 102, 32, 49, 10, 48, 10]
theorem exA_right : RightA exA := rightA_iff.1 (by decide)
theorem exC_right : rightC exA exC = true := by decide
theorem exD_right : rightC exA exD = true := by decide
theorem exC_text : certT exC = exT20 := by kernel_rfl
theorem exC_par : certP exA exT20 = .inr (exC, ((exT20.length : Nat) : Int)) := by
  have := cert_read (a := exA) (c := exC) (by decide) exC_right (by rw [exC_text]; decide)
  rwa [exC_text] at this
theorem one_chk {l : List (List Int)} (h : Cf l []) : (chk l 0 exP).2 = 0 := by
  have hr : refB l [] = true := refB_iff.2 h
  unfold exP
  rw [chk]
  have h1 : stepR l (false, [], ()) = some (l ++ [[]]) := by simp only [stepR, Bool.false_eq_true, if_false, hr, if_true]
  rw [h1]
  simp
theorem fo_one {l : List (List Int)} {a : List Int} {x : Int} (h : [x] ∈ l) : Fo l a x := .unit h (by simp) fun y hy hne => absurd (List.mem_singleton.1 hy) hne
theorem cf_one {l : List (List Int)} {a : List Int} {x : Int} (h : [x] ∈ l) (k : [-x] ∈ l) : Cf l a := .inl ⟨x, fo_one h, fo_one k⟩
theorem ex_a0 : (chk (ask0 (grownA exA exC) exC.inv) 0 exC.p0).2 = 0 := one_chk (cf_one (x := 2) (by decide) (by decide))
theorem ex_a1 : (chk (ask1 (grownA exA exC) exC.inv) 0 exC.p1).2 = 0 := one_chk (.inr ⟨[-4, 2], by decide, fun z hz => by
  rcases List.mem_cons.1 hz with rfl | hz
  · exact fo_one (by decide)
  · rw [List.mem_singleton.1 hz]
    exact fo_one (by decide)⟩)
theorem ex_a2 : (chk (ask2 (grownA exA exC) exC.inv (exA.bad.getD (0 : Int).toNat 0)) 0 exC.p2).2 = 0 := one_chk (cf_one (x := 2) (by decide) (by decide))
theorem ex_chk : checkR exA exC 0 = (0, 0) := by
  unfold checkR
  rw [if_neg (by rw [exC_right]; decide), if_neg (by decide), if_neg (not_not_intro ex_a0), if_neg (not_not_intro ex_a1), if_neg (not_not_intro ex_a2)]
theorem ex_d0 : (chk (ask0 (grownA exA exD) exD.inv) 0 exD.p0).2 = 0 := one_chk (cf_one (x := 1) (by decide) (by decide))
theorem ex_d1 : (chk (ask1 (grownA exA exD) exD.inv) 0 exD.p1).2 = 0 := one_chk (cf_one (x := 3) (by decide) (by decide))
theorem ex_d2 : (chk (ask2 (grownA exA exD) exD.inv (exA.bad.getD (0 : Int).toNat 0)) 0 exD.p2).2 ≠ 0 := by
  refine (chk_sound (n := 2) (m := [false, true]) rfl _ _ 0 (fun c hc => ?_) (by decide)).1
  have : ask2 (grownA exA exD) exD.inv (exA.bad.getD (0 : Int).toNat 0) = [[-1], [-1], [2]] := by decide
  rw [this] at hc
  simp only [List.mem_cons, List.not_mem_nil, or_false] at hc
  rcases hc with rfl | rfl | rfl
  · exact ⟨-1, by simp, 0, by decide, .inr ⟨rfl, rfl⟩⟩
  · exact ⟨-1, by simp, 0, by decide, .inr ⟨rfl, rfl⟩⟩
  · exact ⟨2, by simp, 1, by decide, .inl ⟨rfl, rfl⟩⟩
theorem ex_chkD : checkR exA exD 0 = (3, 6) := by
  unfold checkR
  rw [if_neg (by rw [exD_right]; decide), if_neg (by decide), if_neg (not_not_intro ex_d0), if_neg (not_not_intro ex_d1), if_pos ex_d2]
theorem exB (c : Ct) (h : c = exC ∨ c = exD) : AcB exA c := by
  rcases h with rfl | rfl <;> exact ⟨by decide, by decide, by decide, by decide, by decide, by decide, by decide⟩
theorem exA_le : VLe (.d (.ag [eI 0, .sl 2 [.ag [eI 2, eI 0]] (litRd [.ag [eI 2, eI 0]]), nilD, nilD, .sl 1 [eI 2] (litRd [eI 2]), nilD, nilD])) (.d (eAg exA)) :=
  VLe.dag ⟨.refl _, dlS (ys := [(2, 0)].map eP2) ⟨.refl _, trivial⟩ (map_rd eP2 (0, 0) [(2, 0)]), dnil2, dnil2, dlI [2], dnil2, dnil2, trivial⟩
@[reducible] def exPd : D := .sl 2 [.ag [.v (.bool false), nilD]] (litRd [.ag [.v (.bool false), nilD]])
theorem exP_le : DLe exPd (eSps exP) := dlS (ys := exP.map eSp) ⟨clA ⟨.refl _, dnil2, trivial⟩, trivial⟩ (map_rd eSp (false, [], ()) exP)
theorem exC_le (i : Int) : VLe (.d (.ag [nilD, eI i, exPd, exPd, exPd])) (.d (eCt ⟨[], i, exP, exP, exP⟩)) := VLe.dag ⟨dnil2, .refl _, exP_le, exP_le, exP_le, trivial⟩
theorem cShown_call : ACall Tryz.prog 11 [] [] (fun r o => r = vB true) := by
  refine acall_enter Tryz.func11 rfl rfl (Nat.le_of_ble_eq_true rfl) fun C hC hCl hDs hGk => ?_
  refine sat_call tabOk Tryz.func11 rfl trivial (cCheck_call exA exC 0 (exB _ (.inl rfl)) (fun _ => ⟨by decide, by decide, by decide⟩)) ⟨exA_le, .refl _, exC_le 3, trivial⟩ rfl ⟨_, rfl⟩ (by rintro r o rfl; rfl) ?_
  rintro _ o rfl
  rw [ex_chk]
  refine sat_call tabOk Tryz.func11 rfl trivial (cPrint_call exA exC (exB _ (.inl rfl)) (fun _ => ⟨by decide, by decide, by decide⟩)) ⟨exA_le, exC_le 3, trivial⟩ rfl ⟨_, rfl⟩ (by rintro r o rfl; split <;> rfl) ?_
  rintro _ o rfl
  rw [if_pos exC_right, exC_text]
  refine sat_steps 60 tabOk Tryz.func11 rfl trivial ?_
  refine sat_strB (bs := exT20) tabOk rfl rfl rfl rfl rfl rfl rfl rfl rfl rfl (by decide) rfl ?_
  refine sat_freeze 2 rfl ?_
  refine sat_call tabOk Tryz.func11 rfl trivial (cParse_call exA exT20 exA_right (by decide)) ⟨exA_le, VLe.eL rfl, trivial⟩ rfl ⟨_, rfl⟩ (by rintro r o rfl; rw [exC_par]; rfl) ?_
  rintro _ o rfl
  rw [exC_par]
  unfold cparA
  refine sat_call tabOk Tryz.func11 rfl trivial (cCheck_call exA exD 0 (exB _ (.inr rfl)) (fun _ => ⟨by decide, by decide, by decide⟩)) ⟨exA_le, .refl _, exC_le 1, trivial⟩ rfl ⟨_, rfl⟩ (by rintro r o rfl; rfl) ?_
  rintro _ o rfl
  rw [ex_chkD]
  refine sat_branch tabOk Tryz.func11 rfl trivial (fun _ => ?_) (fun h => by cases h)
  refine sat_branch tabOk Tryz.func11 rfl trivial (fun _ => ?_) (fun h => by cases h)
  refine sat_branch tabOk Tryz.func11 rfl trivial (fun _ => ?_) (fun h => by cases h)
  refine sat_branch tabOk Tryz.func11 rfl trivial (fun _ => ?_) (fun h => by cases h)
  refine sat_branch tabOk Tryz.func11 rfl trivial (fun _ => ?_) (fun h => ?_)
  rotate_left
  · have h : ((⟨exT20.toArray⟩ : ByteArray).toList == (⟨exT20.toArray⟩ : ByteArray).toList) = false := h
    rw [strBy, decide_eq_true rfl] at h
    cases h
  refine sat_branch tabOk Tryz.func11 rfl trivial (fun _ => ?_) (fun h => by cases h)
  refine sat_call tabOk Tryz.func11 rfl trivial (cSame_call exC exC (by decide)) ⟨exC_le 3, .refl _, trivial⟩ rfl ⟨_, rfl⟩ (by rintro r o rfl; rfl) ?_
  rintro _ o rfl
  have hs : (decide (exC.p0 = exC.p0) && decide (exC.p1 = exC.p1) && decide (exC.p2 = exC.p2) && (exC.inv == exC.inv && decide (exC.g = exC.g))) = true := by decide
  rw [hs]
  refine sat_branch tabOk Tryz.func11 rfl trivial (fun _ => ?_) (fun h => by cases h)
  refine sat_call tabOk Tryz.func11 rfl trivial (cRightC_call exA exC (exB _ (.inl rfl))) ⟨exA_le, exC_le 3, trivial⟩ rfl ⟨_, rfl⟩ (by rintro r o rfl; rfl) ?_
  rintro _ o rfl
  rw [exC_right]
  refine sat_branch tabOk Tryz.func11 rfl trivial (fun _ => ?_) (fun h => by cases h)
  refine sat_branch tabOk Tryz.func11 rfl trivial (fun _ => ?_) (fun h => by cases h)
  refine sat_branch tabOk Tryz.func11 rfl trivial (fun _ => ?_) (fun h => by cases h)
  refine sat_call tabOk Tryz.func11 rfl trivial (Grown_call exA exC (by decide) (by decide)) ⟨exA_le, exC_le 3, trivial⟩ rfl ⟨_, rfl⟩ (by rintro r o rfl; rfl) ?_
  rintro _ o rfl
  exact sat_ret tabOk Tryz.func11 rfl trivial rfl
end Go.Proofs.YtkemmijjpclckaaGreatDoor
namespace Go.Proofs.YtkemmijjpclckaaGreatDoor
open Go Ab Go.Lib
set_option maxRecDepth 100000
set_option linter.unusedVariables false
set_option linter.unusedSimpArgs false

/-! ### What may be asked about is small -/
theorem smallP_of {p : List Sp} {m : Int} (h : smallP p m = true) : (p.length : Int) ≤ m ∧ ∀ s ∈ p, (s.2.1.length : Int) ≤ m := by
  unfold smallP at h
  rw [Bool.and_eq_true, decide_eq_true_eq, List.all_eq_true] at h
  exact ⟨h.1, fun s hs => of_decide_eq_true (h.2 s hs)⟩
/-- All that is asked of both. -/
structure Asked (a : Ag) (c : Ct) : Prop where
  sa : SmA a 40
  ra : RightA a
  sc : SmC c 20
theorem SmA.M {a : Ag} (h : SmA a 40) : AgM a := by
  have hml : maxLen = 9223372036854775807 := rfl
  refine ⟨?_, ?_, ?_, ?_, fun x hx => ?_⟩
  · have := h.outs; omega
  · have := h.bad; omega
  · have := h.con; omega
  · have := h.names; omega
  · have := h.s x hx; omega
theorem Asked.acM {a : Ag} {c : Ct} (h : Asked a c) : AcM a c := by
  have hml : maxLen = 9223372036854775807 := rfl
  have q0 := smallP_of h.sc.p0
  have q1 := smallP_of h.sc.p1
  have q2 := smallP_of h.sc.p2
  have hg := h.sa.g
  have hcg := h.sc.g
  have hn := h.sa.names
  refine ⟨⟨by omega, by omega, by omega, fun x hx => ?_, by omega, by omega, by omega⟩, h.sa.M, fun s hs => ?_, fun s hs => ?_, fun s hs => ?_⟩
  · have := h.sa.s x hx; omega
  · have := q0.2 s hs; omega
  · have := q1.2 s hs; omega
  · have := q2.2 s hs; omega
theorem small_proofT {n : Int} {p : List Sp} (hn : 0 ≤ n ∧ n ≤ 100000) (h : rightP n p = true) (hs : smallP p 20 = true) : (prT p).length ≤ 9000 := by
  obtain ⟨q1, q2⟩ := smallP_of hs
  have hr := steps_of h
  have h2 := proofT_len (m := 20) (p := p) fun s hs' => ⟨fun l hl => by have := (hr s hs').1 l hl; unfold litOk at this; omega, by have := q2 s hs'; omega⟩
  have h3 : p.length * (20 * 22 + 4) ≤ 20 * (20 * 22 + 4) := Nat.mul_le_mul_right _ (by omega)
  have i0 := itoa_len (l := (p.length : Int)) (by omega) (by omega)
  simp only [prT, kProof, List.length_append, List.length_cons, List.length_nil]
  omega
/-- A small certificate's text. -/
theorem Asked.text {a : Ag} {c : Ct} (h : Asked a c) (hR : rightC a c = true) : (certT c).length ≤ 100000 := by
  obtain ⟨-, h2, h3, -, h5, h6, h7⟩ := rightC_iff.1 hR
  have hA := rightA_iff.1 h2
  have hv := hA.v1
  have hi0 := hA.i0
  have hv0 : 0 ≤ varsA (grownA a c) := by unfold varsA; omega
  have t0 := small_proofT ⟨by omega, by omega⟩ h5 h.sc.p0
  have t1 := small_proofT ⟨by omega, by omega⟩ h6 h.sc.p1
  have t2 := small_proofT ⟨by omega, by omega⟩ h7 h.sc.p2
  have hgo := (gatOk_iff _ _).1 (grown_gates hA)
  have hvg := varsA_grown a c
  have hav : 0 ≤ varsA a := by have := h.ra.i0; unfold varsA; omega
  have tg := gateT_len c.g fun p hp => by
    obtain ⟨j, hj, rfl⟩ := List.mem_iff_getElem.1 hp
    have := hgo j hj
    omega
  have hcg := h.sc.g
  have i0 := itoa_len (l := (c.g.length : Int)) (by omega) (by omega)
  have i1 := itoa_len (l := c.inv) (by omega) (by omega)
  simp only [certT, kInv, List.length_append, List.length_cons, List.length_nil]
  omega
end Go.Proofs.YtkemmijjpclckaaGreatDoor
namespace Go.Proofs.YtkemmijjpclckaaGreatDoor
open Go Ab
set_option maxRecDepth 100000
set_option linter.unusedVariables false
set_option linter.unusedSimpArgs false

/-! ### Runs -/
/-! ### HOLDS -/
/-! ### SOUND, of two values -/
/-! ### SOUND, of three values -/
/-- Three values that tell no more than two. -/
def Abs1 (x : UInt8) (b : Bool) : Prop := (x = 0 → b = false) ∧ (x = 1 → b = true)
structure AbsL (V : List UInt8) (W : List Bool) : Prop where
  len : V.length = W.length
  get : ∀ j, j < V.length → Abs1 (V.getD j 0) (W.getD j false)
end Go.Proofs.YtkemmijjpclckaaGreatDoor
namespace Go.Proofs.YtkemmijjpclckaaGreatDoor
open Go Ab Go.RowKit
set_option maxRecDepth 100000
set_option linter.unusedVariables false
set_option linter.unusedSimpArgs false
set_option maxHeartbeats 4000000

/-! ### The document's answer: runs of two values -/
@[reducible] def eBls (l : List Bool) : D := eL 1 eBo false l
theorem half_w {l : Int} (h0 : 0 ≤ l) (h : l ≤ 9223372036854775807) : IntKind.i64.wrap (Int.tdiv l 2) = l / 2 := by rw [Int.tdiv_eq_ediv_of_nonneg h0, wrap_id (by omega) (by omega)]
theorem odd_w {l : Int} (h0 : 0 ≤ l) : Int.tmod l 2 = l % 2 := Int.tmod_eq_emod_of_nonneg h0
/-- A number that a word can hold. -/
def I64 (l : Int) : Prop := -9223372036854775808 ≤ l ∧ l ≤ 9223372036854775807
theorem rLit8_call (v : List Bool) (l : Int) (hl : I64 l) : ACall Tryz.prog 34 [.d (eBls v), vI .i64 l] [] (fun r o => r = vB (litB v l)) := by
  refine acall_enter Tryz.func34 rfl rfl (Nat.le_of_ble_eq_true rfl) fun C hC hCl hDs hGk => ?_
  unfold litB
  unfold I64 at hl
  refine sat_branch tabOk Tryz.func34 rfl trivial (fun h => ?_) (fun h => ?_)
  · have h : decide (l < 0) = true := h
    rw [decide_eq_true_eq] at h
    rw [if_pos (.inl h)]
    refine sat_branch tabOk Tryz.func34 rfl trivial (fun _ => ?_) (fun h => by cases h)
    exact sat_ret tabOk Tryz.func34 rfl trivial rfl
  have h : decide (l < 0) = false := h
  rw [decide_eq_false_iff_not] at h
  have e1 := @half_w l (by omega) hl.2
  have e2 := @odd_w l (by omega)
  refine sat_branch tabOk Tryz.func34 rfl ⟨by decide, trivial⟩ (fun h2 => ?_) (fun h2 => ?_)
  · have h2 : decide (IntKind.i64.wrap (Int.tdiv l 2) ≥ (((v.map eBo).length : Nat) : Int)) = true := h2
    rw [e1, decide_eq_true_eq, List.length_map] at h2
    rw [if_pos (.inr (by omega))]
    exact sat_ret tabOk Tryz.func34 rfl trivial rfl
  have h2 : decide (IntKind.i64.wrap (Int.tdiv l 2) ≥ (((v.map eBo).length : Nat) : Int)) = false := h2
  rw [e1, decide_eq_false_iff_not, List.length_map] at h2
  rw [if_neg (by omega)]
  refine sat_branch tabOk Tryz.func34 rfl ⟨by decide, trivial⟩ (fun h3 => ?_) (fun h3 => ?_)
  · have h3 : (Int.tmod l 2 == 1) = true := h3
    rw [e2, beq_iff_eq] at h3
    rw [if_pos h3]
    refine sat_ret tabOk Tryz.func34 rfl ?_ ?_
    · rw [e1, List.length_map]
      exact ⟨⟨by omega, by omega⟩, by decide, trivial⟩
    · rw [e1]
      rfl
  · have h3 : (Int.tmod l 2 == 1) = false := h3
    rw [e2, beq_eq_false_iff_ne] at h3
    rw [if_neg h3]
    refine sat_ret tabOk Tryz.func34 rfl ?_ ?_
    · rw [e1, List.length_map]
      exact ⟨⟨by omega, by omega⟩, by decide, trivial⟩
    · rw [e1]
      rfl
/-- A model whose literals a word can hold. -/
structure AgW (a : Ag) : Prop where
  b : AgB a
  l : ∀ p ∈ a.l, I64 p.1
  g : ∀ p ∈ a.g, I64 p.1 ∧ I64 p.2
  outs : ∀ x ∈ a.outs, I64 x
  bad : ∀ x ∈ a.bad, I64 x
  con : ∀ x ∈ a.con, I64 x
theorem valG_snoc (g : List P2) {i : Nat} (v : List Bool) (h : i < g.length) : valG (g.take (i + 1)) v = valG (g.take i) v ++ [litB (valG (g.take i) v) (p2 g i).1 && litB (valG (g.take i) v) (p2 g i).2] := by
  have e : g[i] = p2 g i := by simp [p2, h]
  rw [List.take_succ_eq_append_getElem h, valG_app, e]
  rfl
theorem p2_mem {l : List P2} {i : Nat} (h : i < l.length) : p2 l i ∈ l := by
  have e : l[i] = p2 l i := by simp [p2, h]
  rw [← e]
  exact List.getElem_mem h
@[reducible] def valAn (a : Ag) (st inp : List Bool) : AV := if (st.length : Int) ≠ a.l.length ∨ (inp.length : Int) ≠ a.i then tupOf [.d (eBls []), vI .i64 7] else tupOf [.d (eBls (valA a.g inp st)), vI .i64 0]
theorem rValues8_call (a : Ag) (st inp : List Bool) (h : AgW a) (hs : st.length ≤ 1000000) (hi : inp.length ≤ 1000000) : ACall Tryz.prog 32 [.d (eAg a), .d (eBls st), .d (eBls inp)] [] (fun r o => r = valAn a st inp) := by
  refine acall_enter Tryz.func32 rfl rfl (Nat.le_of_ble_eq_true rfl) fun C hC hCl hDs hGk => ?_
  unfold valAn
  have hgl := h.b.g
  refine sat_branch tabOk Tryz.func32 rfl trivial (fun h1 => ?_) (fun h1 => ?_)
  · have h1 : ((((st.map eBo).length : Nat) : Int) != (((a.l.map eP2).length : Nat) : Int)) = true := h1
    rw [bne_iff_ne, List.length_map, List.length_map] at h1
    rw [if_pos (.inl h1)]
    refine sat_branch tabOk Tryz.func32 rfl trivial (fun _ => ?_) (fun h => by cases h)
    exact sat_retL tabOk Tryz.func32 rfl trivial hC hCl (r2 := tupOf [.d (eBls []), vI .i64 7]) (.tp ⟨.nil, .refl _, trivial⟩) (o2 := []) trivial rfl rfl (Nat.zero_le _) rfl
  have h1 : ((((st.map eBo).length : Nat) : Int) != (((a.l.map eP2).length : Nat) : Int)) = false := h1
  rw [bne_eq_false_iff_eq, List.length_map, List.length_map] at h1
  refine sat_branch tabOk Tryz.func32 rfl trivial (fun h2 => ?_) (fun h2 => ?_)
  · have h2 : ((((inp.map eBo).length : Nat) : Int) != a.i) = true := h2
    rw [bne_iff_ne, List.length_map] at h2
    rw [if_pos (.inr h2)]
    exact sat_retL tabOk Tryz.func32 rfl trivial hC hCl (r2 := tupOf [.d (eBls []), vI .i64 7]) (.tp ⟨.nil, .refl _, trivial⟩) (o2 := []) trivial rfl rfl (Nat.zero_le _) rfl
  have h2 : ((((inp.map eBo).length : Nat) : Int) != a.i) = false := h2
  rw [bne_eq_false_iff_eq, List.length_map] at h2
  rw [if_neg (by omega)]
  refine sat_steps 4 tabOk Tryz.func32 rfl trivial ?_
  refine sat_litG _ tabOk rfl rfl rfl rfl rfl trivial rfl ?_
  refine sat_stop tabOk Tryz.func32 rfl ?nd ?_
  case nd => exact (by simp only [andP, and_true, true_and, Int.toNat_natCast, List.length_map, List.length_append, List.length_cons, List.length_nil, List.length_replicate]; omega)
  refine sat_while (α := Nat) (fun i => [(3, .ptr 0 0), (8, .gs 1), (9, vI .i64 (i : Int))]) (fun i => [some (bAg a), some (gBo (valG (a.g.take i) (false :: (inp ++ st))))]) (fun i => i ≤ a.g.length) (fun i => a.g.length - i) 0 (Nat.zero_le _) ?_ ?_
  · refine fun h => sat_le h hC hCl ⟨⟨_, rfl, .refl _⟩, ⟨_, rfl, .refl _⟩, ⟨_, rfl, .refl _⟩, trivial⟩ ⟨.refl _, .gL ?_, trivial⟩ rfl rfl (Nat.zero_le _)
    simp [valG]
  rintro i hi2 ih
  have hvl : (valG (a.g.take i) (false :: (inp ++ st))).length = inp.length + st.length + i + 1 := by
    rw [valG_len, List.length_cons, List.length_append, List.length_take]
    omega
  refine sat_branch tabOk Tryz.func32 rfl trivial (fun hb => ?_) (fun hb => ?_)
  · have hb : decide ((i : Int) < (((a.g.map eP2).length : Nat) : Int)) = true := hb
    rw [decide_eq_true_eq, List.length_map] at hb
    have hlt : i < a.g.length := by omega
    have hst := valG_snoc a.g (false :: (inp ++ st)) hlt
    have ih := ih (i + 1) (by omega) (by omega)
    rw [hst] at ih
    have hw := h.g _ (p2_mem hlt)
    clear hst
    generalize valG (a.g.take i) (false :: (inp ++ st)) = V at *
    refine sat_callL tabOk Tryz.func32 rfl (by simp only [andP, and_true, true_and, Int.toNat_natCast, List.length_map, List.length_append, List.length_cons, List.length_nil, List.length_replicate]; omega) (rLit8_call V (p2 a.g i).1 hw.1) ⟨.inr ⟨1, 4, 1, _, _, _, rfl, rfl, rfl, map_rd eBo false _⟩, .inl (.refl _), trivial⟩ rfl ⟨_, rfl⟩ (by rintro r o rfl; rfl) ?_
    rintro _ o rfl
    refine sat_callL tabOk Tryz.func32 rfl (by simp only [andP, and_true, true_and, Int.toNat_natCast, List.length_map, List.length_append, List.length_cons, List.length_nil, List.length_replicate]; omega) (rLit8_call V (p2 a.g i).2 hw.2) ⟨.inr ⟨1, 4, 1, _, _, _, rfl, rfl, rfl, map_rd eBo false _⟩, .inl (.refl _), trivial⟩ rfl ⟨_, rfl⟩ (by rintro r o rfl; rfl) ?_
    rintro _ o rfl
    generalize litB V (p2 a.g i).1 = x at *
    generalize litB V (p2 a.g i).2 = y at *
    cases x with
    | true =>
      refine sat_branch tabOk Tryz.func32 rfl trivial (fun _ => ?_) (fun h => by cases h)
      refine sat_stop tabOk Tryz.func32 rfl (by simp only [andP, and_true, true_and, Int.toNat_natCast, List.length_map, List.length_append, List.length_cons, List.length_nil, List.length_replicate, hvl]; omega) ?_
      refine sat_le ih hC hCl ⟨⟨_, rfl, .refl _⟩, ⟨_, rfl, .refl _⟩, ⟨_, rfl, .of (by rw [wrap_id (by omega) (by omega)]; rfl)⟩, trivial⟩ ⟨.refl _, .gL ?_, trivial⟩ rfl rfl (Nat.zero_le _)
      rw [List.map_append]
      rfl
    | false =>
      refine sat_branch tabOk Tryz.func32 rfl trivial (fun h => by cases h) (fun _ => ?_)
      refine sat_stop tabOk Tryz.func32 rfl (by simp only [andP, and_true, true_and, Int.toNat_natCast, List.length_map, List.length_append, List.length_cons, List.length_nil, List.length_replicate, hvl]; omega) ?_
      refine sat_le ih hC hCl ⟨⟨_, rfl, .refl _⟩, ⟨_, rfl, .refl _⟩, ⟨_, rfl, .of (by rw [wrap_id (by omega) (by omega)]; rfl)⟩, trivial⟩ ⟨.refl _, .gL ?_, trivial⟩ rfl rfl (Nat.zero_le _)
      rw [List.map_append]
      rfl
  · have hb : decide ((i : Int) < (((a.g.map eP2).length : Nat) : Int)) = false := hb
    rw [decide_eq_false_iff_not, List.length_map] at hb
    obtain rfl : i = a.g.length := by omega
    rw [List.take_length]
    refine sat_freeze 1 rfl ?_
    exact sat_ret tabOk Tryz.func32 rfl trivial rfl
end Go.Proofs.YtkemmijjpclckaaGreatDoor
namespace Go.Proofs.YtkemmijjpclckaaGreatDoor
open Go Ab
set_option maxRecDepth 100000
set_option linter.unusedVariables false
set_option linter.unusedSimpArgs false

/-! ### Runs, and what a certificate that is checked tells of them -/
/-- A certificate that is checked. -/
structure ChkC (a : Ag) (c : Ct) (k : Int) : Prop where
  right : rightC a c = true
  k0 : 0 ≤ k
  k1 : k < a.bad.length
  c0 : (chk (ask0 (grownA a c) c.inv) 0 c.p0).2 = 0
  c1 : (chk (ask1 (grownA a c) c.inv) 0 c.p1).2 = 0
  c2 : (chk (ask2 (grownA a c) c.inv (a.bad.getD k.toNat 0)) 0 c.p2).2 = 0
section
variable {a : Ag} {c : Ct} {k : Int}
theorem grown_n (ha : RightA (grownA a c)) {inp st : List Bool} (hi : inp.length = a.i.toNat) (hs : st.length = a.l.length) : inp.length + st.length + (a.g ++ c.g).length = (varsA (grownA a c)).toNat := by
  have := ha.i0
  have e : varsA (grownA a c) = a.i + a.l.length + ((a.g ++ c.g).length : Nat) := rfl
  have e2 : (grownA a c).i = a.i := rfl
  omega
theorem own_lit {x : Int} {inp st : List Bool} (h0 : 0 ≤ varsA a) (hi : inp.length = a.i.toNat) (hi0 : 0 ≤ a.i) (hs : st.length = a.l.length) (hx : 0 ≤ x ∧ x ≤ 2 * varsA a + 1) : litB (valA (a.g ++ c.g) inp st) x = litB (valA a.g inp st) x := by
  have e : valA (a.g ++ c.g) inp st = valG c.g (valA a.g inp st) := by
    unfold valA
    rw [valG_app]
  rw [e, litB_valG]
  rw [valA_len, hi, hs]
  unfold varsA at hx
  omega
/-- Latches, bads and constraints of a right model. -/
theorem RightA.latches (ha : RightA a) : ∀ p ∈ a.l, 0 ≤ p.1 ∧ p.1 ≤ 2 * varsA a + 1 := by
  intro p hp
  obtain ⟨j, hj, rfl⟩ := List.mem_iff_getElem.1 hp
  exact ((latOk_iff _ _ _ _).1 ha.lat j hj).1
theorem RightA.cons (ha : RightA a) : ∀ x ∈ a.con, 0 ≤ x ∧ x ≤ 2 * varsA a + 1 := by
  intro x hx
  have := ha.con
  unfold litsOk at this
  rw [Bool.and_eq_true, List.all_eq_true] at this
  exact of_decide_eq_true (this.2 x hx)
theorem RightA.bads (ha : RightA a) : ∀ x ∈ a.bad, 0 ≤ x ∧ x ≤ 2 * varsA a + 1 := by
  intro x hx
  have := ha.bad
  unfold litsOk at this
  rw [Bool.and_eq_true, List.all_eq_true] at this
  exact of_decide_eq_true (this.2 x hx)
theorem RightA.gatesF (ha : RightA a) {inp st : List Bool} (hi : inp.length = a.i.toNat) (hs : st.length = a.l.length) : GOkF (inp.length + st.length + 1) a.g := by
  have := ha.gat
  have h0 := ha.i0
  refine gatOk_F ?_
  rw [hi, hs, ← this]
  congr 1
  omega
theorem litOk_of {n m : Int} {p : List Sp} (h : rightP n p = true) (e : n = m) : ∀ s ∈ p, ∀ x ∈ s.2.1, litOk m x := by
  subst e
  exact fun s hs => (steps_of h s hs).1
/-- In a first state the invariant is true. -/
theorem ChkC.first (H : ChkC a c k) {inp st : List Bool} (hi : inp.length = a.i.toNat) (hs : StartOk a.l st) : litB (valA (a.g ++ c.g) inp st) c.inv = true := by
  obtain ⟨-, h2, h3, h4, h5, h6, h7⟩ := rightC_iff.1 H.right
  have hA := rightA_iff.1 h2
  have hn := grown_n hA hi hs.1
  have h0 := hA.i0
  have hv0 : 0 ≤ varsA (grownA a c) := by unfold varsA; omega
  have hc0 := H.c0
  unfold ask0 at hc0
  rw [← hn] at hc0
  refine starts_sound (l := a.l) (p := c.p0) (hA.gatesF hi hs.1) ⟨h3.1, by rw [hn]; omega⟩ hs (litOk_of h5 (by rw [hn]; omega)) ?_
  change (chk (startsF (inp.length + st.length + (a.g ++ c.g).length) (a.i.toNat + a.l.length) a.i.toNat a.l (a.g ++ c.g) c.inv) 0 c.p0).2 = 0 at hc0
  rw [← hi, ← hs.1] at hc0
  exact hc0
/-- It stays true, where constraints hold. -/
theorem ChkC.next (H : ChkC a c k) (ha : RightA a) {inp inp' st : List Bool} (hi : inp.length = a.i.toNat) (hi' : inp'.length = a.i.toNat) (hs : st.length = a.l.length) (hinv : litB (valA (a.g ++ c.g) inp st) c.inv = true) (hcon : ∀ x ∈ a.con, litB (valA a.g inp st) x = true) :
    litB (valA (a.g ++ c.g) inp' (nextB a.l (valA a.g inp st))) c.inv = true := by
  obtain ⟨-, h2, h3, h4, h5, h6, h7⟩ := rightC_iff.1 H.right
  have hA := rightA_iff.1 h2
  have hn := grown_n hA hi hs
  have h0 := ha.i0
  have hv0 : 0 ≤ varsA a := by unfold varsA; omega
  have hvg := varsA_grown a c
  have hc0 := H.c1
  unfold ask1 at hc0
  rw [← hn] at hc0
  have e : nextB a.l (valA a.g inp st) = nextB a.l (valA (a.g ++ c.g) inp st) := by
    unfold nextB
    refine List.map_congr_left fun p hp => ?_
    rw [own_lit hv0 hi h0 hs (ha.latches p hp)]
  rw [e]
  refine stays_sound (l := a.l) (con := a.con) (p := c.p1) (hi'.trans hi.symm) hs (hA.gatesF hi hs) ⟨h3.1, by rw [hn]; omega⟩ (fun p hp => ?_) (fun x hx => ⟨?_, ?_⟩) hinv (litOk_of h6 (by rw [hn]; omega)) ?_
  · have := ha.latches p hp
    rw [hn]
    omega
  · have := ha.cons x hx
    rw [hn]
    omega
  · rw [own_lit hv0 hi h0 hs (ha.cons x hx)]
    exact hcon x hx
  · change (chk (staysF (inp.length + st.length + (a.g ++ c.g).length) (a.i.toNat + a.l.length) a.i.toNat a.l (a.g ++ c.g) a.con c.inv) 0 c.p1).2 = 0 at hc0
    rw [← hi, ← hs] at hc0
    exact hc0
end
end Go.Proofs.YtkemmijjpclckaaGreatDoor
namespace Go.Proofs.YtkemmijjpclckaaGreatDoor
open Go Ab Go.RowKit Go.Lib
set_option maxRecDepth 100000
set_option linter.unusedVariables false
set_option linter.unusedSimpArgs false
set_option maxHeartbeats 8000000

theorem RightA.gates {a : Ag} (ha : RightA a) : ∀ p ∈ a.g, (0 ≤ p.1 ∧ p.1 ≤ 2 * varsA a + 1) ∧ 0 ≤ p.2 ∧ p.2 ≤ 2 * varsA a + 1 := by
  intro p hp
  obtain ⟨j, hj, rfl⟩ := List.mem_iff_getElem.1 hp
  have := (gatOk_iff _ _).1 ha.gat j hj
  unfold varsA
  omega
theorem RightA.W {a : Ag} (ha : RightA a) : AgW a := by
  have hv := ha.v1
  have lb : ∀ x ∈ a.outs, 0 ≤ x ∧ x ≤ 2 * varsA a + 1 := by
    intro x hx
    have := ha.outs
    unfold litsOk at this
    rw [Bool.and_eq_true, List.all_eq_true] at this
    exact of_decide_eq_true (this.2 x hx)
  refine ⟨rightA_B (rightA_iff.2 ha), fun p hp => ?_, fun p hp => ?_, fun x hx => ?_, fun x hx => ?_, fun x hx => ?_⟩
  · have := ha.latches p hp; unfold I64; omega
  · have := ha.gates p hp; unfold I64; omega
  · have := lb x hx; unfold I64; omega
  · have := ha.bads x hx; unfold I64; omega
  · have := ha.cons x hx; unfold I64; omega
end Go.Proofs.YtkemmijjpclckaaGreatDoor
namespace Go.Proofs.YtkemmijjpclckaaGreatDoor
open Go Ab Go.RowKit
set_option maxRecDepth 100000
set_option linter.unusedVariables false
set_option linter.unusedSimpArgs false
set_option maxHeartbeats 1000000

/-! ### Latches and names that are the same -/
theorem lat_fields : ∃ f g : Field, Tryz.prog.underlying 85 = some (.struct ⟨[f, g]⟩) ∧ f.type = 3 ∧ g.type = 3 ∧ f.offset = 0 ∧ g.offset = 1 ∧ f.name ≠ "_" ∧ g.name ≠ "_" := by
  have h : pairB (Tryz.prog.underlying 85) = true := by kernel_rfl
  unfold pairB at h
  split at h
  · rename_i f g hfg
    simp only [Bool.and_eq_true, beq_iff_eq, bne_iff_ne] at h
    obtain ⟨⟨⟨⟨⟨h1, h2⟩, h3⟩, h4⟩, h5⟩, h6⟩ := h
    exact ⟨f, g, hfg, h1, h2, h3, h4, h5, h6⟩
  · cases h
theorem eq_lat (w : World) (a b : Int) : (Op.equal 85 (.agg #[.int .i64 a, .int .i64 b]) (.agg #[.int .i64 a, .int .i64 b])).run Tryz.prog w = .ok true w := by
  obtain ⟨f, g, h0, h1, h2, h3, h4, h5, h6⟩ := lat_fields
  have hs : Tryz.prog.stoodInHeld 85 = false := by kernel_rfl
  have key : ∀ D : Nat, (Op.equalIn (D + 1 + 1) 85 (.agg #[.int .i64 a, .int .i64 b]) (.agg #[.int .i64 a, .int .i64 b])).run Tryz.prog w = .ok true w := fun D => by
    have q := fun x => eq_int w D x x
    simp only [BEq.rfl] at q
    have p0 := fun x y => part_and0 w 3 x y rfl
    have p1 := fun x y => part_and1 w 3 x y rfl
    rw [Op.equalIn]
    generalize Op.equalIn (D + 1) = E at *
    simp [run_underlying h0, hs, h1, h2, h3, h4, h5, h6, p0, p1, q]
  exact key 9998
theorem guard_lat (w : World) (x y : Operand) (u v : Value) (hu : ∃ us, u = .agg us) (hv : ∃ vs, v = .agg vs) : (eqGuard .neq 85 x y u v).run Tryz.prog w = .ok () w := by
  obtain ⟨us, rfl⟩ := hu
  obtain ⟨vs, rfl⟩ := hv
  have h : Tryz.prog.eqGuardType Tryz.prog.depth 85 = false := by kernel_rfl
  simp [eqGuard, h]
def tripB : Option TypeDesc → Bool
  | some (.struct ⟨[f, g, k]⟩) => f.type == 5 && g.type == 3 && k.type == 9 && f.offset == 0 && g.offset == 1 && k.offset == 2 && f.name != "_" && g.name != "_" && k.name != "_"
  | _ => false
theorem nm_fields : ∃ f g k : Field, Tryz.prog.underlying 104 = some (.struct ⟨[f, g, k]⟩) ∧ f.type = 5 ∧ g.type = 3 ∧ k.type = 9 ∧ f.offset = 0 ∧ g.offset = 1 ∧ k.offset = 2 ∧ f.name ≠ "_" ∧ g.name ≠ "_" ∧ k.name ≠ "_" := by
  have h : tripB (Tryz.prog.underlying 104) = true := by kernel_rfl
  unfold tripB at h
  split at h
  · rename_i f g k hfg
    simp only [Bool.and_eq_true, beq_iff_eq, bne_iff_ne] at h
    obtain ⟨⟨⟨⟨⟨⟨⟨⟨h1, h2⟩, h3⟩, h4⟩, h5⟩, h6⟩, h7⟩, h8⟩, h9⟩ := h
    exact ⟨f, g, k, hfg, h1, h2, h3, h4, h5, h6, h7, h8, h9⟩
  · cases h
theorem eq_u8 (w : World) (d : Nat) (a : Int) : (Op.equalIn (d + 1) 5 (.int .u8 a) (.int .u8 a)).run Tryz.prog w = .ok true w := by
  have ht : Tryz.prog.underlying 5 = some (.int .u8) := by kernel_rfl
  simp [Op.equalIn, run_underlying ht]
theorem eq_str (w : World) (d : Nat) (a : ByteArray) : (Op.equalIn (d + 1) 9 (.string a) (.string a)).run Tryz.prog w = .ok true w := by
  have ht : Tryz.prog.underlying 9 = some .string := by kernel_rfl
  have hb : (a == a) = true := by
    first
    | exact beq_self_eq_true a
    | exact decide_eq_true rfl
    | (show (a.toList == a.toList) = true; simp)
    | (show (a.data == a.data) = true; simp)
  simp [Op.equalIn, run_underlying ht, hb]
theorem part_nm (w : World) (t : TypeId) (x y z : Value) (i : Nat) (v : Value) (hi : #[x, y, z][i]? = some v) (ht : Tryz.prog.underlying t = some (.int .u8) ∨ Tryz.prog.underlying t = some (.int .i64) ∨ Tryz.prog.underlying t = some .string) : (part t #[x, y, z] i).run Tryz.prog w = .ok v w := by
  rcases ht with ht | ht | ht <;> simp [part, run_isAgg ht, Pagg, ht, hi]
theorem eq_nm (w : World) (a b : Int) (s : ByteArray) : (Op.equal 104 (.agg #[.int .u8 a, .int .i64 b, .string s]) (.agg #[.int .u8 a, .int .i64 b, .string s])).run Tryz.prog w = .ok true w := by
  obtain ⟨f, g, k, h0, h1, h2, h3, h4, h5, h6, h7, h8, h9⟩ := nm_fields
  have hs : Tryz.prog.stoodInHeld 104 = false := by kernel_rfl
  have t0 : Tryz.prog.underlying 5 = some (.int .u8) := by kernel_rfl
  have t1 : Tryz.prog.underlying 3 = some (.int .i64) := by kernel_rfl
  have t2 : Tryz.prog.underlying 9 = some .string := by kernel_rfl
  have key : ∀ D : Nat, (Op.equalIn (D + 1 + 1) 104 (.agg #[.int .u8 a, .int .i64 b, .string s]) (.agg #[.int .u8 a, .int .i64 b, .string s])).run Tryz.prog w = .ok true w := fun D => by
    have q0 := eq_u8 w D a
    have q1 := eq_int w D b b
    have q2 := eq_str w D s
    simp only [BEq.rfl] at q1
    have p0 := part_nm w 5 (.int .u8 a) (.int .i64 b) (.string s) 0 _ rfl (.inl t0)
    have p1 := part_nm w 3 (.int .u8 a) (.int .i64 b) (.string s) 1 _ rfl (.inr (.inl t1))
    have p2 := part_nm w 9 (.int .u8 a) (.int .i64 b) (.string s) 2 _ rfl (.inr (.inr t2))
    rw [Op.equalIn]
    generalize Op.equalIn (D + 1) = E at *
    simp [run_underlying h0, hs, h1, h2, h3, h4, h5, h6, h7, h8, h9, p0, p1, p2, q0, q1, q2]
  exact key 9998
theorem guard_nm (w : World) (x y : Operand) (u v : Value) (hu : ∃ us, u = .agg us) (hv : ∃ vs, v = .agg vs) : (eqGuard .neq 104 x y u v).run Tryz.prog w = .ok () w := by
  obtain ⟨us, rfl⟩ := hu
  obtain ⟨vs, rfl⟩ := hv
  have h : Tryz.prog.eqGuardType Tryz.prog.depth 104 = false := by kernel_rfl
  simp [eqGuard, h]
theorem rel_nm {w : World} {ok : Nat → Prop} {π : List Value} {p : Nm} {v : Value} (h : RelV w ok π (.d (eNm p)) v) : v = .agg #[.int .u8 (p.1.toNat : Int), .int .i64 p.2.1, .string ⟨p.2.2.toArray⟩] := by
  cases h with | d h => cases h with | ag h =>
  cases h with | cons h1 _ h => cases h with | cons h2 _ h => cases h with | cons h3 _ h => cases h with | nil =>
  cases h1 with | v _ => cases h2 with | v _ => cases h3 with | v _ => rfl
section
variable {f : FuncId} {fn : Func} {n : Nat} {C : Cx} {R : AV → List (Option AObj) → Prop} {k : List Item} {env : Env} {objs : List (Option AObj)} {ops : Array Oper}
theorem sat_sameLat {i : Nat} {r : List Nat} {o : Oper} {e : Env} {x y : Operand} {t2 : TypeId} {p : P2} (ho : ops[i]? = some o) (hw : wantE ops env o = .yes) (hop : o.op = .binOp .neq 85 x y t2)
    (hx : opnd env x = some (.d (eP2 p))) (hy : opnd env y = some (.d (eP2 p))) (hput : putE n o.dst (vB false) env = some e)
    (h : ASat Tryz.prog f n C (.inRegion ops r :: k) e objs R) : ASat Tryz.prog f n C (.inRegion ops (i :: r) :: k) env objs R := by
  refine sat_quiet _ ho hw (fun X π w tmps m he => ?_) hput h
  have hv := rel_and (opnd_rel (ds := []) he hx)
  have hu := rel_and (opnd_rel (ds := []) he hy)
  refine ⟨.bool false, ?_, .d (.v rfl)⟩
  have hg := guard_lat w x y (.agg #[.int .i64 p.1, .int .i64 p.2]) (.agg #[.int .i64 p.1, .int .i64 p.2]) ⟨_, rfl⟩ ⟨_, rfl⟩
  have hq := eq_lat w p.1 p.2
  unfold execOp
  simp [hop, hv, hu, hg, binOp, hq]
theorem sat_sameNm {i : Nat} {r : List Nat} {o : Oper} {e : Env} {x y : Operand} {t2 : TypeId} {p : Nm} (ho : ops[i]? = some o) (hw : wantE ops env o = .yes) (hop : o.op = .binOp .neq 104 x y t2)
    (hx : opnd env x = some (.d (eNm p))) (hy : opnd env y = some (.d (eNm p))) (hput : putE n o.dst (vB false) env = some e)
    (h : ASat Tryz.prog f n C (.inRegion ops r :: k) e objs R) : ASat Tryz.prog f n C (.inRegion ops (i :: r) :: k) env objs R := by
  refine sat_quiet _ ho hw (fun X π w tmps m he => ?_) hput h
  have hv := rel_nm (opnd_rel (ds := []) he hx)
  have hu := rel_nm (opnd_rel (ds := []) he hy)
  refine ⟨.bool false, ?_, .d (.v rfl)⟩
  have hg := guard_nm w x y (.agg #[.int .u8 (p.1.toNat : Int), .int .i64 p.2.1, .string ⟨p.2.2.toArray⟩]) (.agg #[.int .u8 (p.1.toNat : Int), .int .i64 p.2.1, .string ⟨p.2.2.toArray⟩]) ⟨_, rfl⟩ ⟨_, rfl⟩
  have hq := eq_nm w (p.1.toNat : Int) p.2.1 ⟨p.2.2.toArray⟩
  unfold execOp
  simp [hop, hv, hu, hg, binOp, hq]
end
end Go.Proofs.YtkemmijjpclckaaGreatDoor
namespace Go.Proofs.YtkemmijjpclckaaGreatDoor
open Go Ab Go.RowKit
set_option maxRecDepth 100000
set_option linter.unusedVariables false
set_option linter.unusedSimpArgs false
set_option maxHeartbeats 4000000

theorem rSame6_refl (a : Ag) (h1 : a.l.length ≤ 1000000) (h2 : a.g.length ≤ 1000000) (h3 : a.names.length ≤ 1000000) : ACall Tryz.prog 15 [.d (eAg a), .d (eAg a)] [] (fun r o => r = vB true) := by
  refine acall_enter Tryz.func15 rfl rfl (Nat.le_of_ble_eq_true rfl) fun C hC hCl hDs hGk => ?_
  have ho := Ints_call a.outs a.outs
  have hd := Ints_call a.bad a.bad
  have hc := Ints_call a.con a.con
  rw [decide_eq_true rfl] at ho hd hc
  refine sat_call tabOk Tryz.func15 rfl trivial ho (.refl _) rfl ⟨_, rfl⟩ (by rintro r o rfl; rfl) ?_
  rintro _ o rfl
  refine sat_call tabOk Tryz.func15 rfl trivial hd (.refl _) rfl ⟨_, rfl⟩ (by rintro r o rfl; rfl) ?_
  rintro _ o rfl
  refine sat_call tabOk Tryz.func15 rfl trivial hc (.refl _) rfl ⟨_, rfl⟩ (by rintro r o rfl; rfl) ?_
  rintro _ o rfl
  refine sat_branch tabOk Tryz.func15 rfl trivial (fun h => by cases h) (fun _ => ?_)
  refine sat_branch tabOk Tryz.func15 rfl trivial (fun h => by cases h) (fun _ => ?_)
  refine sat_branch tabOk Tryz.func15 rfl trivial (fun h => by cases h) (fun _ => ?_)
  refine sat_branch tabOk Tryz.func15 rfl trivial (fun h => ?_) (fun h => ?_)
  · have h : (a.i != a.i) = true := h
    simp at h
  refine sat_branch tabOk Tryz.func15 rfl trivial (fun h => ?_) (fun h => ?_)
  · have h : ((((a.l.map eP2).length : Nat) : Int) != (((a.l.map eP2).length : Nat) : Int)) = true := h
    simp at h
  refine sat_branch tabOk Tryz.func15 rfl trivial (fun h => ?_) (fun h => ?_)
  · have h : ((((a.g.map eP2).length : Nat) : Int) != (((a.g.map eP2).length : Nat) : Int)) = true := h
    simp at h
  refine sat_branch tabOk Tryz.func15 rfl trivial (fun h => ?_) (fun h => ?_)
  · have h : ((((a.names.map eNm).length : Nat) : Int) != (((a.names.map eNm).length : Nat) : Int)) = true := h
    simp at h
  refine sat_stop tabOk Tryz.func15 rfl trivial ?_
  refine sat_while (α := Nat) (fun i => [(2, .ptr 0 0), (3, .ptr 1 0), (8, vI .i64 (i : Int))]) (fun _ => [some (bAg a), some (bAg a)]) (fun i => i ≤ a.l.length) (fun i => a.l.length - i) 0 (Nat.zero_le _) ?_ ?_
  · exact fun h => sat_le h hC hCl ⟨⟨_, rfl, .refl _⟩, ⟨_, rfl, .refl _⟩, ⟨_, rfl, .refl _⟩, trivial⟩ ⟨.refl _, .refl _, trivial⟩ rfl rfl (Nat.zero_le _)
  rintro i hi ih
  refine sat_branch tabOk Tryz.func15 rfl trivial (fun hb => ?_) (fun hb => ?_)
  · have hb : decide ((i : Int) < (((a.l.map eP2).length : Nat) : Int)) = true := hb
    rw [decide_eq_true_eq, List.length_map] at hb
    refine sat_drawT 10 tabOk Tryz.func15 rfl rfl trivial (by kernel_rfl) ?_
    refine ds_done tabOk rfl ?_ ?_
    · exact (by simp only [andP, and_true, true_and, Int.toNat_natCast, List.length_map, List.length_append, List.length_cons, List.length_nil, List.length_replicate]; omega)
    refine sat_sameLat (p := a.l.getD i (0, 0)) rfl rfl rfl rfl rfl rfl ?_
    refine sat_branch tabOk Tryz.func15 rfl trivial (fun h => by cases h) (fun _ => ?_)
    refine sat_stop tabOk Tryz.func15 rfl trivial ?_
    exact sat_le (ih (i + 1) (by omega) (by omega)) hC hCl ⟨⟨_, rfl, .refl _⟩, ⟨_, rfl, .refl _⟩, ⟨_, rfl, .of (by rw [wrap_id (by omega) (by omega)]; rfl)⟩, trivial⟩ ⟨.refl _, .refl _, trivial⟩ rfl rfl (Nat.zero_le _)
  clear ih hb
  refine sat_stop tabOk Tryz.func15 rfl trivial ?_
  refine sat_while (α := Nat) (fun i => [(2, .ptr 0 0), (3, .ptr 1 0), (9, vI .i64 (i : Int))]) (fun _ => [some (bAg a), some (bAg a)]) (fun i => i ≤ a.g.length) (fun i => a.g.length - i) 0 (Nat.zero_le _) ?_ ?_
  · exact fun h => sat_le h hC hCl ⟨⟨_, rfl, .refl _⟩, ⟨_, rfl, .refl _⟩, ⟨_, rfl, .refl _⟩, trivial⟩ ⟨.refl _, .refl _, trivial⟩ rfl rfl (Nat.zero_le _)
  rintro i hi ih
  refine sat_branch tabOk Tryz.func15 rfl trivial (fun hb => ?_) (fun hb => ?_)
  · have hb : decide ((i : Int) < (((a.g.map eP2).length : Nat) : Int)) = true := hb
    rw [decide_eq_true_eq, List.length_map] at hb
    refine sat_drawT 10 tabOk Tryz.func15 rfl rfl trivial (by kernel_rfl) ?_
    refine ds_done tabOk rfl ?_ ?_
    · exact (by simp only [andP, and_true, true_and, Int.toNat_natCast, List.length_map, List.length_append, List.length_cons, List.length_nil, List.length_replicate]; omega)
    refine sat_neqAnd (p := a.g.getD i (0, 0)) (q := a.g.getD i (0, 0)) rfl rfl rfl rfl rfl rfl ?_
    refine sat_branch tabOk Tryz.func15 rfl trivial (fun h => ?_) (fun h => ?_)
    · simp at h
    refine sat_stop tabOk Tryz.func15 rfl trivial ?_
    exact sat_le (ih (i + 1) (by omega) (by omega)) hC hCl ⟨⟨_, rfl, .refl _⟩, ⟨_, rfl, .refl _⟩, ⟨_, rfl, .of (by rw [wrap_id (by omega) (by omega)]; rfl)⟩, trivial⟩ ⟨.refl _, .refl _, trivial⟩ rfl rfl (Nat.zero_le _)
  clear ih hb
  refine sat_stop tabOk Tryz.func15 rfl trivial ?_
  refine sat_while (α := Nat) (fun i => [(2, .ptr 0 0), (3, .ptr 1 0), (10, vI .i64 (i : Int))]) (fun _ => [some (bAg a), some (bAg a)]) (fun i => i ≤ a.names.length) (fun i => a.names.length - i) 0 (Nat.zero_le _) ?_ ?_
  · exact fun h => sat_le h hC hCl ⟨⟨_, rfl, .refl _⟩, ⟨_, rfl, .refl _⟩, ⟨_, rfl, .refl _⟩, trivial⟩ ⟨.refl _, .refl _, trivial⟩ rfl rfl (Nat.zero_le _)
  rintro i hi ih
  refine sat_branch tabOk Tryz.func15 rfl trivial (fun hb => ?_) (fun hb => ?_)
  · have hb : decide ((i : Int) < (((a.names.map eNm).length : Nat) : Int)) = true := hb
    rw [decide_eq_true_eq, List.length_map] at hb
    refine sat_drawT 10 tabOk Tryz.func15 rfl rfl trivial (by kernel_rfl) ?_
    refine ds_done tabOk rfl ?_ ?_
    · exact (by simp only [andP, and_true, true_and, Int.toNat_natCast, List.length_map, List.length_append, List.length_cons, List.length_nil, List.length_replicate]; omega)
    refine sat_sameNm (p := a.names.getD i (0, 0, [])) rfl rfl rfl rfl rfl rfl ?_
    refine sat_branch tabOk Tryz.func15 rfl trivial (fun h => by cases h) (fun _ => ?_)
    refine sat_stop tabOk Tryz.func15 rfl trivial ?_
    exact sat_le (ih (i + 1) (by omega) (by omega)) hC hCl ⟨⟨_, rfl, .refl _⟩, ⟨_, rfl, .refl _⟩, ⟨_, rfl, .of (by rw [wrap_id (by omega) (by omega)]; rfl)⟩, trivial⟩ ⟨.refl _, .refl _, trivial⟩ rfl rfl (Nat.zero_le _)
  exact sat_ret tabOk Tryz.func15 rfl trivial rfl
end Go.Proofs.YtkemmijjpclckaaGreatDoor
namespace Go.Proofs.YtkemmijjpclckaaGreatDoor
open Go Ab Go.RowKit Go.Lib
set_option maxRecDepth 100000
set_option linter.unusedVariables false
set_option linter.unusedSimpArgs false
set_option maxHeartbeats 8000000

@[reducible] def eIn7 (a : Ag) (c : Ct) (st inp : List Bool) (l : Int) : D := .ag [eI a.i, eP2s a.l, eP2s a.g, eIs a.outs, eIs a.bad, eIs a.con, eNms a.names, eP2s c.g, eI c.inv, eSps c.p0, eSps c.p1, eSps c.p2, eBls st, eBls inp, eI l]
theorem CertGrows_law (a : Ag) (c : Ct) (st inp : List Bool) (l : Int) (hm : AgM a) (hl : I64 l) : ACall Tryz.prog 9 [.d (eIn7 a c st inp l)] [] (fun r o => r = vB true) := by
  refine acall_enter Tryz.func9 rfl rfl (Nat.le_of_ble_eq_true rfl) fun C hC hCl hDs hGk => ?_
  refine sat_call tabOk Tryz.func9 rfl trivial cShown_call (.refl _) rfl ⟨_, rfl⟩ (by rintro r o rfl; rfl) ?_
  rintro _ o rfl
  refine sat_call tabOk Tryz.func9 rfl trivial (cMay_call a c hm) (.refl _) rfl ⟨_, rfl⟩ (by rintro r o ⟨b, rfl, -⟩; rfl) ?_
  rintro _ o ⟨m, rfl, h1⟩
  cases m with
  | false =>
    repeat refine sat_branch tabOk Tryz.func9 rfl trivial (fun _ => ?_) (fun h => by cases h)
    exact sat_ret tabOk Tryz.func9 rfl trivial rfl
  | true =>
  obtain ⟨⟨sa, ra⟩, sc⟩ := h1 rfl
  have hA : Asked a c := ⟨sa, ra, sc⟩
  have hM := hA.acM
  refine sat_branch tabOk Tryz.func9 rfl trivial (fun h => by cases h) (fun _ => ?_)
  refine sat_call tabOk Tryz.func9 rfl trivial (rRightC_call a c hM) (.refl _) rfl ⟨_, rfl⟩ (by rintro r o rfl; rfl) ?_
  rintro _ o rfl
  cases hR : rightC a c with
  | false =>
    repeat refine sat_branch tabOk Tryz.func9 rfl trivial (fun _ => ?_) (fun h => by cases h)
    exact sat_ret tabOk Tryz.func9 rfl trivial rfl
  | true =>
  refine sat_branch tabOk Tryz.func9 rfl trivial (fun h => by cases h) (fun _ => ?_)
  refine sat_branch tabOk Tryz.func9 rfl trivial (fun h2 => ?_) (fun h2 => ?_)
  · repeat refine sat_branch tabOk Tryz.func9 rfl trivial (fun _ => ?_) (fun h => by cases h)
    exact sat_ret tabOk Tryz.func9 rfl trivial rfl
  have h2 := gt_no (n := 0) (e := eBo) (l := st) h2
  refine sat_branch tabOk Tryz.func9 rfl trivial (fun h3 => ?_) (fun h3 => ?_)
  · repeat refine sat_branch tabOk Tryz.func9 rfl trivial (fun _ => ?_) (fun h => by cases h)
    exact sat_ret tabOk Tryz.func9 rfl trivial rfl
  have h3 := gt_no (n := 0) (e := eBo) (l := inp) h3
  refine sat_branch tabOk Tryz.func9 rfl trivial (fun h4 => ?_) (fun h4 => ?_)
  · repeat refine sat_branch tabOk Tryz.func9 rfl trivial (fun _ => ?_) (fun h => by cases h)
    exact sat_ret tabOk Tryz.func9 rfl trivial rfl
  have h4 : decide (l < 0) = false := h4
  rw [decide_eq_false_iff_not] at h4
  have hB := rightA_B (rightA_iff.2 ra)
  have hv := vars_bd hB
  have hv1 := ra.v1
  have e1 : IntKind.i64.wrap (2 * varsA a) = 2 * varsA a := wrap_id (by omega) (by omega)
  have e2 : IntKind.i64.wrap (2 * varsA a + 1) = 2 * varsA a + 1 := wrap_id (by omega) (by omega)
  refine sat_call tabOk Tryz.func9 rfl trivial (rVars6_call a hB) (.refl _) rfl ⟨_, rfl⟩ (by rintro r o rfl; rfl) ?_
  rintro _ o rfl
  refine sat_branch tabOk Tryz.func9 rfl trivial (fun h5 => ?_) (fun h5 => ?_)
  · exact sat_ret tabOk Tryz.func9 rfl trivial rfl
  have h5 : decide (l > IntKind.i64.wrap (IntKind.i64.wrap (2 * varsA a) + 1)) = false := h5
  rw [e1, e2, decide_eq_false_iff_not] at h5
  have hG := rightA_iff.1 (rightC_iff.1 hR).2.1
  have hRG := rRight6_call (grownA a c) ⟨hM.m.outs, hM.m.bad, hM.m.con⟩ hM.m.s
  rw [rightA_iff.2 hG] at hRG
  have hn := hA.sa.names
  have hS := rSame6_refl a (by have := hB.l; omega) (by have := hB.g; omega) (by omega)
  have hva := rValues8_call a st inp ra.W (by omega) (by omega)
  have hvg := rValues8_call (grownA a c) st inp hG.W (by omega) (by omega)
  unfold valAn at hva hvg
  have eg : (grownA a c).g = a.g ++ c.g := rfl
  have el : (grownA a c).l = a.l := rfl
  have ei : (grownA a c).i = a.i := rfl
  rw [eg, el, ei] at hvg
  have hga := hM.b.ag
  have hgc := hM.b.cg
  refine sat_call tabOk Tryz.func9 rfl trivial (Grown_call a c hM.b.ag hM.b.cg) (.refl _) rfl ⟨_, rfl⟩ (by rintro r o rfl; rfl) ?_
  rintro _ o rfl
  refine sat_call tabOk Tryz.func9 rfl trivial hRG (.refl _) rfl ⟨_, rfl⟩ (by rintro r o rfl; rfl) ?_
  rintro _ o rfl
  refine sat_branch tabOk Tryz.func9 rfl trivial (fun h => by cases h) (fun _ => ?_)
  refine sat_call tabOk Tryz.func9 rfl trivial hS (.refl _) rfl ⟨_, rfl⟩ (by rintro r o rfl; rfl) ?_
  rintro _ o rfl
  refine sat_branch tabOk Tryz.func9 rfl trivial (fun h => by cases h) (fun _ => ?_)
  refine sat_branch tabOk Tryz.func9 rfl trivial (fun h6 => ?_) (fun h6 => ?_)
  · have h6 : (((((a.g ++ c.g).map eP2).length : Nat) : Int) != IntKind.i64.wrap ((((a.g.map eP2).length : Nat) : Int) + (((c.g.map eP2).length : Nat) : Int))) = true := h6
    rw [wrap_id (by simp only [List.length_map]; omega) (by simp only [List.length_map]; omega)] at h6
    simp at h6
  have own := @own_lit a c l inp st
  by_cases c0 : (st.length : Int) ≠ a.l.length ∨ (inp.length : Int) ≠ a.i
  · rw [if_pos c0] at hva hvg
    refine sat_call tabOk Tryz.func9 rfl trivial hva (.refl _) rfl ⟨_, rfl⟩ (by rintro r o rfl; rfl) ?_
    rintro _ o rfl
    refine sat_call tabOk Tryz.func9 rfl trivial hvg (.refl _) rfl ⟨_, rfl⟩ (by rintro r o rfl; rfl) ?_
    rintro _ o rfl
    repeat refine sat_branch tabOk Tryz.func9 rfl trivial (fun _ => ?_) (fun h => by cases h)
    exact sat_ret tabOk Tryz.func9 rfl trivial rfl
  rw [if_neg c0] at hva hvg
  have own := own (by omega) (by omega) ra.i0 (by omega) ⟨by omega, by omega⟩
  refine sat_call tabOk Tryz.func9 rfl trivial hva (.refl _) rfl ⟨_, rfl⟩ (by rintro r o rfl; rfl) ?_
  rintro _ o rfl
  refine sat_call tabOk Tryz.func9 rfl trivial hvg (.refl _) rfl ⟨_, rfl⟩ (by rintro r o rfl; rfl) ?_
  rintro _ o rfl
  refine sat_branch tabOk Tryz.func9 rfl trivial (fun h => by cases h) (fun _ => ?_)
  refine sat_branch tabOk Tryz.func9 rfl trivial (fun h => by cases h) (fun _ => ?_)
  refine sat_branch tabOk Tryz.func9 rfl trivial (fun _ => ?_) (fun h => by cases h)
  refine sat_call tabOk Tryz.func9 rfl trivial (rLit8_call (valA a.g inp st) l hl) (.refl _) rfl ⟨_, rfl⟩ (by rintro r o rfl; rfl) ?_
  rintro _ o rfl
  refine sat_call tabOk Tryz.func9 rfl trivial (rLit8_call (valA (a.g ++ c.g) inp st) l hl) (.refl _) rfl ⟨_, rfl⟩ (by rintro r o rfl; rfl) ?_
  rintro _ o rfl
  refine sat_ret tabOk Tryz.func9 rfl trivial ?_
  show vB (litB _ _ == litB _ _) = _
  rw [own]
  simp
end Go.Proofs.YtkemmijjpclckaaGreatDoor
set_option linter.unusedSimpArgs false
set_option linter.unusedVariables false
set_option linter.unusedSectionVars false
namespace Ab
open Go
variable [Draws]

def reachB (l : List Nat) : Bool := l.all fun n => decide (n ≤ reachBytes)
/-- Whatever is read at a type's place, and is no greater than a machine's memory, is data of a shape. -/
structure ReadsS (P : Program) (t : TypeId) {α : Type} (enc : α → D) (Q : α → Prop) : Prop where
  len : ∀ a, (enc a).cells.length = P.cellsOf t
  rd : ∀ {H : Type} (eH : TypeId × Value → H) (w : World) (fuel : Nat) (cs : List Value) (x : DataW H × List MemPlace) (ok : Nat → Prop), (∀ b, ok b) → DataW.trod eH P w 0 (fun _ => true) true fuel t cs = some x → reachB (x.1.weights P t) = true → ∃ a, Q a ∧ RelL w ok (enc a).cells cs
theorem Reads.toS {P : Program} {t : TypeId} {α : Type} {enc : α → D} {Q : α → Prop} (R : Reads P t enc Q) : ReadsS P t enc Q where
  len := R.len
  rd eH w fuel cs x ok hok h _ := R.rd eH w fuel cs x ok hok h
/-- Data told in other words. -/
theorem Reads.via {P : Program} {t : TypeId} {α β : Type} {enc : α → D} {Q : α → Prop} {enc' : β → D} {Q' : β → Prop} (R : Reads P t enc Q) (g : α → β) (hg : ∀ a, Q a → Q' (g a)) (he : ∀ a, Q a → enc' (g a) = enc a) (hl : ∀ b, (enc' b).cells.length = P.cellsOf t) : Reads P t enc' Q' where
  len := hl
  rd eH w fuel cs x ok hok h := by
    obtain ⟨a, qa, ra⟩ := R.rd eH w fuel cs x ok hok h
    exact ⟨g a, hg a qa, by rw [he a qa]; exact ra⟩
theorem ReadsS.via {P : Program} {t : TypeId} {α β : Type} {enc : α → D} {Q : α → Prop} {enc' : β → D} {Q' : β → Prop} (R : ReadsS P t enc Q) (g : α → β) (hg : ∀ a, Q a → Q' (g a)) (he : ∀ a, Q a → enc' (g a) = enc a) (hl : ∀ b, (enc' b).cells.length = P.cellsOf t) : ReadsS P t enc' Q' where
  len := hl
  rd eH w fuel cs x ok hok h hw := by
    obtain ⟨a, qa, ra⟩ := R.rd eH w fuel cs x ok hok h hw
    exact ⟨g a, hg a qa, by rw [he a qa]; exact ra⟩
/-- Fields, one behind the other from a place on. -/
structure ReadsFS (P : Program) (fs : List Field) (o tot : Nat) {α : Type} (enc : α → List D) (Q : α → Prop) : Prop where
  len : ∀ a, (enc a).length = tot
  rd : ∀ {H : Type} (eH : TypeId × Value → H) (w : World) (fuel : Nat) (cs : List Value) (ok : Nat → Prop), (∀ b, ok b) → (∀ f ∈ fs, ∃ x, DataW.trod eH P w 0 (fun _ => true) true fuel f.type ((cs.drop f.offset).take (P.cellsOf f.type)) = some x ∧ reachB (x.1.weights P f.type) = true) → ∃ a, Q a ∧ RelL w ok (enc a) ((cs.drop o).take tot)
theorem ReadsS.argS {P : Program} {t : TypeId} {α : Type} {enc : α → D} {Q : α → Prop} (R : ReadsS P t enc Q) {H : Type} {eH : TypeId × Value → H} {W : World} {cs : Array Value} {d : DataW H} {p : List MemPlace} (h : DataW.Trod eH P W 0 (fun _ => true) true t (.agg cs) d p) (hw : reachB (d.weights P t) = true) (ok : Nat → Prop) (hok : ∀ b, ok b) :
    ∃ a, Q a ∧ RelL W ok (enc a).cells cs.toList := by
  obtain ⟨fuel, hf⟩ := h
  exact R.rd eH W fuel cs.toList _ ok hok hf hw
end Ab
