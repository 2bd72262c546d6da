/- A part of the proof: Ab74, C33, CL0, C28, CR1, C26, CL8, CL5, CR11, CR12, CR13, CR14, CR15, CL4, Ab63. -/
import Derived.Test.YtkemmijjpclckaaGreatDoorP20
import Derived.Lib.ConvBytes
import Derived.Lib.SlBytesConst
set_option linter.unusedVariables false
set_option linter.unusedSimpArgs false
set_option linter.unusedSimpArgs false
set_option linter.unusedVariables false
set_option linter.unusedSectionVars false
namespace Ab
open Go
variable [Draws]

section
variable {P : Program} [Globals P] {T : Tab} {f : FuncId} {n : Nat} {C : Cx} {R : AV → List (Option AObj) → Prop} {env : Env} {objs : List (Option AObj)} {ops : Array Oper}

/-- A string's bytes, in a slice of the call's own. -/
theorem sat_strB {i : Nat} {r : List Nat} {k : List Item} {o : Oper} {e2 : Env} {src dst e : TypeId} {rs rd re : TRow} {xo : Operand} {bs : List UInt8} (hT : TabOk P T) (ho : ops[i]? = some o) (hw : wantE ops env o = .yes) (hop : o.op = .convert src dst xo) (hx : opnd env xo = some (.d (.v (.string ⟨bs.toArray⟩))))
    (hrs : tlook T src = some rs) (hks : rs.kd = .str) (hrd : tlook T dst = some rd) (hkd : rd.kd = .slice e) (hre : tlook T e = some re) (h8 : re.kd = .int .u8) (hlen : bs.length ≤ 1000000000)
    (hput : putE n o.dst (.gs objs.length) env = some e2) (h : ASat P f n C (.inRegion ops r :: k) e2 (objs ++ [some (gL e 1 eU8 0 bs)]) R) : ASat P f n C (.inRegion ops (i :: r) :: k) env objs R := by
  refine sat_op ⟨none, false, .gs objs.length, none, objs ++ [some (gL e 1 eU8 0 bs)]⟩ ho hw (fun X π w tmps m he _ => ?_) trivial hput h
  have hax := look_ok (P := P) he hx
  have hs := str_type hT hrs hks
  have hd := slice_elem hT hrd hkd
  have heU := int_type hT hre h8
  have hrun := Go.Lib.run_convert_string_bytes (P := P) w src dst e ⟨bs.toArray⟩ hs hd heU
  have hsize : (⟨bs.toArray⟩ : ByteArray).size = bs.length := by simp [ByteArray.size]
  have hml : maxLen = 9223372036854775807 := rfl
  rw [hsize] at hrun
  have hcell := Go.Lib.bytesWorld_cell w e ⟨bs.toArray⟩
  have hold : ∀ b, b < w.heap.size → (Go.Lib.bytesWorld w e ⟨bs.toArray⟩).heap[b]? = w.heap[b]? := fun b hb => Go.Lib.bytesWorld_at_old w e _ b hb
  have hnew := Go.Lib.bytesWorld_at_new w e ⟨bs.toArray⟩
  have hhs := Go.Lib.bytesWorld_size w e ⟨bs.toArray⟩
  have hout : (Go.Lib.bytesWorld w e ⟨bs.toArray⟩).os = w.os ∧ (Go.Lib.bytesWorld w e ⟨bs.toArray⟩).tape = w.tape ∧ (Go.Lib.bytesWorld w e ⟨bs.toArray⟩).output = w.output ∧ w.drawn ≤ (Go.Lib.bytesWorld w e ⟨bs.toArray⟩).drawn := by
    unfold Go.Lib.bytesWorld World.freeze
    rw [if_neg (by decide)]
    exact ⟨rfl, rfl, rfl, Nat.le_succ _⟩
  have hc1 := grownCap_ge w bs.length 0 e
  have hc2 := grownCap_le_maxLen w bs.length 0 e (by omega)
  have hclen : (Go.Lib.bytesCells w e ⟨bs.toArray⟩).size = grownCap w bs.length 0 e := by
    simp only [Go.Lib.bytesCells, hsize, Array.size_append, Array.size_map, List.size_toArray, Array.size_replicate]
    omega
  generalize grownCap w bs.length 0 e = c at hc1 hc2 hclen hrun
  generalize Go.Lib.bytesCells w e ⟨bs.toArray⟩ = BC at hnew hclen
  generalize Go.Lib.bytesWorld w e ⟨bs.toArray⟩ = W at *
  obtain ⟨BC⟩ := BC
  simp only [List.size_toArray] at hclen hnew
  have hh' : ∀ b, blk (.slice (some ⟨w.heap.size, 0, none⟩) bs.length c) = some b → w.heap.size ≤ b := by
    intro b hb
    cases c <;> cases hb
    exact Nat.le_refl _
  refine ⟨.slice (some ⟨w.heap.size, 0, none⟩) bs.length c, W, π ++ [.slice (some ⟨w.heap.size, 0, none⟩) bs.length c], ?_, tr_newW m hout.1 hout.2.1 ⟨hout.2.2.1, dr_mono hout.2.2.2⟩ (by rw [hhs]; omega) hold _ (gL e 1 eU8 0 bs) hh' ?_, fun _ => .gs (nth_new m.len _)⟩
  · unfold execOp
    rw [hop]
    simp only [Sem.run_bind, hax, hrun, Result.andThen_ok, Sem.run_pure]
    rfl
  · cases c with
    | zero =>
      obtain rfl : bs = [] := List.eq_nil_of_length_eq_zero (by omega)
      exact .gnil
    | succ c =>
      have hls : (bs.map fun b => Value.int .u8 (b.toNat : Int)).length = bs.length := by simp
      have hk := new_keepsW (X := X) (π := π) (objs := objs) hold (.slice (some ⟨w.heap.size, 0, none⟩) bs.length (c + 1)) (gL e 1 eU8 0 bs) m.len hh'
      have := RelO.grow (w := W) (ok := okOf X (π ++ [.slice (some ⟨w.heap.size, 0, none⟩) bs.length (c + 1)]) (objs ++ [some (gL e 1 eU8 0 bs)])) (π := π ++ [.slice (some ⟨w.heap.size, 0, none⟩) bs.length (c + 1)]) (e := e) (s := 1) (b := w.heap.size) (o := 0) (c := c) (xs := bs.map eU8) (us := bs.map fun b => Value.int .u8 (b.toNat : Int))
        (vs := BC) (rd := fun i => eU8 (bs.getD i 0)) (fz := (BC.length, BC.length + 1)) hnew (fun q hq => by omega) (strEs_rel bs) (fun q hq => ?_) (by rw [List.length_map]; exact hc1) hc2 (by omega) (map_rd eU8 0 bs)
      · rw [List.length_map] at this
        exact this
      · rw [hls] at hq
        have h1 := hcell q (by rw [hsize]; exact hq)
        have h2 := cell_of_heap (i := q) hnew
        rw [h2] at h1
        rw [Nat.zero_add, h1]
        simp [hq, List.getD_eq_getElem?_getD]
end
end Ab
namespace Go.Proofs.YtkemmijjpclckaaGreatDoor
open Go Ab Go.RowKit Go.Lib
set_option maxRecDepth 100000
set_option linter.unusedVariables false
set_option linter.unusedSimpArgs false
set_option maxHeartbeats 4000000

/-! ### The document's example -/
theorem dlI (l : List Int) : DLe (.sl 1 (l.map eI) (litRd (l.map eI))) (eIs l) := DLe.slR rfl (map_rd eI 0 l)
theorem clA {cs ds : List D} (h : DLes cs ds) : CLe (.ag cs) (.ag ds) := fun _ _ _ h2 => h.rel h2
theorem dlS {s : Nat} {xs ys : List D} {rd rd' : Nat → D} (h : CLes xs ys) (hr : ∀ i, i < ys.length → ys[i]? = some (rd' i)) : DLe (.sl s xs rd) (.sl s ys rd') := by
  intro w ok v hv
  have hf : flat v = true := by cases hv <;> rfl
  have := CLe.sl h hr w ok [v] (.cons hv hf .nil)
  cases this with | cons h _ _ => exact h
def exA : Ag := ⟨0, [(2, 0)], [], [], [2], [], []⟩
def exP : List Sp := [(false, [], ())]
def exC : Ct := ⟨[], 3, exP, exP, exP⟩
def exD : Ct := ⟨[], 1, exP, exP, exP⟩
def exT20 : List UInt8 := [105, 110, 118, 32, 48, 32, 51, 10, 112, 114, 111, 111, 102, 32, 49, 10, 48, 10, 112, 114, 111, 111, 102, 32, 49, 10, 48, 10, 112, 114, 111, 111, 102, 32, 49, 10, 48, 10]
theorem exA_right : RightA exA := rightA_iff.1 (by decide)
theorem exC_right : rightC exA exC = true := by decide
theorem exD_right : rightC exA exD = true := by decide
theorem exC_text : certT exC = exT20 := by kernel_rfl
theorem exC_par : certP exA exT20 = .inr (exC, ((exT20.length : Nat) : Int)) := by
  have := cert_read (a := exA) (c := exC) (by decide) exC_right (by rw [exC_text]; decide)
  rwa [exC_text] at this
theorem one_chk {l : List (List Int)} (h : Cf l []) : (chk l 0 exP).2 = 0 := by
  have hr : refB l [] = true := refB_iff.2 h
  unfold exP
  rw [chk]
  have h1 : stepR l (false, [], ()) = some (l ++ [[]]) := by simp only [stepR, Bool.false_eq_true, if_false, hr, if_true]
  rw [h1]
  simp
theorem fo_one {l : List (List Int)} {a : List Int} {x : Int} (h : [x] ∈ l) : Fo l a x := .unit h (by simp) fun y hy hne => absurd (List.mem_singleton.1 hy) hne
theorem cf_one {l : List (List Int)} {a : List Int} {x : Int} (h : [x] ∈ l) (k : [-x] ∈ l) : Cf l a := .inl ⟨x, fo_one h, fo_one k⟩
theorem ex_a0 : (chk (ask0 (grownA exA exC) exC.inv) 0 exC.p0).2 = 0 := one_chk (cf_one (x := 2) (by decide) (by decide))
theorem ex_a1 : (chk (ask1 (grownA exA exC) exC.inv) 0 exC.p1).2 = 0 := one_chk (.inr ⟨[-4, 2], by decide, fun z hz => by
  rcases List.mem_cons.1 hz with rfl | hz
  · exact fo_one (by decide)
  · rw [List.mem_singleton.1 hz]
    exact fo_one (by decide)⟩)
theorem ex_a2 : (chk (ask2 (grownA exA exC) exC.inv (exA.bad.getD (0 : Int).toNat 0)) 0 exC.p2).2 = 0 := one_chk (cf_one (x := 2) (by decide) (by decide))
theorem ex_chk : checkR exA exC 0 = (0, 0) := by
  unfold checkR
  rw [if_neg (by rw [exC_right]; decide), if_neg (by decide), if_neg (not_not_intro ex_a0), if_neg (not_not_intro ex_a1), if_neg (not_not_intro ex_a2)]
theorem ex_d0 : (chk (ask0 (grownA exA exD) exD.inv) 0 exD.p0).2 = 0 := one_chk (cf_one (x := 1) (by decide) (by decide))
theorem ex_d1 : (chk (ask1 (grownA exA exD) exD.inv) 0 exD.p1).2 = 0 := one_chk (cf_one (x := 3) (by decide) (by decide))
theorem ex_d2 : (chk (ask2 (grownA exA exD) exD.inv (exA.bad.getD (0 : Int).toNat 0)) 0 exD.p2).2 ≠ 0 := by
  refine (chk_sound (n := 2) (m := [false, true]) rfl _ _ 0 (fun c hc => ?_) (by decide)).1
  have : ask2 (grownA exA exD) exD.inv (exA.bad.getD (0 : Int).toNat 0) = [[-1], [-1], [2]] := by decide
  rw [this] at hc
  simp only [List.mem_cons, List.not_mem_nil, or_false] at hc
  rcases hc with rfl | rfl | rfl
  · exact ⟨-1, by simp, 0, by decide, .inr ⟨rfl, rfl⟩⟩
  · exact ⟨-1, by simp, 0, by decide, .inr ⟨rfl, rfl⟩⟩
  · exact ⟨2, by simp, 1, by decide, .inl ⟨rfl, rfl⟩⟩
theorem ex_chkD : checkR exA exD 0 = (3, 6) := by
  unfold checkR
  rw [if_neg (by rw [exD_right]; decide), if_neg (by decide), if_neg (not_not_intro ex_d0), if_neg (not_not_intro ex_d1), if_pos ex_d2]
theorem exB (c : Ct) (h : c = exC ∨ c = exD) : AcB exA c := by
  rcases h with rfl | rfl <;> exact ⟨by decide, by decide, by decide, by decide, by decide, by decide, by decide⟩
theorem exA_le : VLe (.d (.ag [eI 0, .sl 2 [.ag [eI 2, eI 0]] (litRd [.ag [eI 2, eI 0]]), nilD, nilD, .sl 1 [eI 2] (litRd [eI 2]), nilD, nilD])) (.d (eAg exA)) :=
  VLe.dag ⟨.refl _, dlS (ys := [(2, 0)].map eP2) ⟨.refl _, trivial⟩ (map_rd eP2 (0, 0) [(2, 0)]), dnil2, dnil2, dlI [2], dnil2, dnil2, trivial⟩
@[reducible] def exPd : D := .sl 2 [.ag [.v (.bool false), nilD]] (litRd [.ag [.v (.bool false), nilD]])
theorem exP_le : DLe exPd (eSps exP) := dlS (ys := exP.map eSp) ⟨clA ⟨.refl _, dnil2, trivial⟩, trivial⟩ (map_rd eSp (false, [], ()) exP)
theorem exC_le (i : Int) : VLe (.d (.ag [nilD, eI i, exPd, exPd, exPd])) (.d (eCt ⟨[], i, exP, exP, exP⟩)) := VLe.dag ⟨dnil2, .refl _, exP_le, exP_le, exP_le, trivial⟩
theorem cShown_call : ACall Tryz.prog 11 [] [] (fun r o => r = vB true) := by
  refine acall_enter Tryz.func11 rfl rfl (Nat.le_of_ble_eq_true rfl) fun C hC hCl hDs hGk => ?_
  refine sat_call tabOk Tryz.func11 rfl trivial (cCheck_call exA exC 0 (exB _ (.inl rfl)) (fun _ => ⟨by decide, by decide, by decide⟩)) ⟨exA_le, .refl _, exC_le 3, trivial⟩ rfl ⟨_, rfl⟩ (by rintro r o rfl; rfl) ?_
  rintro _ o rfl
  rw [ex_chk]
  refine sat_call tabOk Tryz.func11 rfl trivial (cPrint_call exA exC (exB _ (.inl rfl)) (fun _ => ⟨by decide, by decide, by decide⟩)) ⟨exA_le, exC_le 3, trivial⟩ rfl ⟨_, rfl⟩ (by rintro r o rfl; split <;> rfl) ?_
  rintro _ o rfl
  rw [if_pos exC_right, exC_text]
  refine sat_steps 60 tabOk Tryz.func11 rfl trivial ?_
  refine sat_strB (bs := exT20) tabOk rfl rfl rfl rfl rfl rfl rfl rfl rfl rfl (by decide) rfl ?_
  refine sat_freeze 2 rfl ?_
  refine sat_call tabOk Tryz.func11 rfl trivial (cParse_call exA exT20 exA_right (by decide)) ⟨exA_le, VLe.eL rfl, trivial⟩ rfl ⟨_, rfl⟩ (by rintro r o rfl; rw [exC_par]; rfl) ?_
  rintro _ o rfl
  rw [exC_par]
  unfold cparA
  refine sat_call tabOk Tryz.func11 rfl trivial (cCheck_call exA exD 0 (exB _ (.inr rfl)) (fun _ => ⟨by decide, by decide, by decide⟩)) ⟨exA_le, .refl _, exC_le 1, trivial⟩ rfl ⟨_, rfl⟩ (by rintro r o rfl; rfl) ?_
  rintro _ o rfl
  rw [ex_chkD]
  refine sat_branch tabOk Tryz.func11 rfl trivial (fun _ => ?_) (fun h => by cases h)
  refine sat_branch tabOk Tryz.func11 rfl trivial (fun _ => ?_) (fun h => by cases h)
  refine sat_branch tabOk Tryz.func11 rfl trivial (fun _ => ?_) (fun h => by cases h)
  refine sat_branch tabOk Tryz.func11 rfl trivial (fun _ => ?_) (fun h => by cases h)
  refine sat_branch tabOk Tryz.func11 rfl trivial (fun _ => ?_) (fun h => ?_)
  rotate_left
  · have h : ((⟨exT20.toArray⟩ : ByteArray).toList == (⟨exT20.toArray⟩ : ByteArray).toList) = false := h
    rw [strBy, decide_eq_true rfl] at h
    cases h
  refine sat_branch tabOk Tryz.func11 rfl trivial (fun _ => ?_) (fun h => by cases h)
  refine sat_call tabOk Tryz.func11 rfl trivial (cSame_call exC exC (by decide)) ⟨exC_le 3, .refl _, trivial⟩ rfl ⟨_, rfl⟩ (by rintro r o rfl; rfl) ?_
  rintro _ o rfl
  have hs : (decide (exC.p0 = exC.p0) && decide (exC.p1 = exC.p1) && decide (exC.p2 = exC.p2) && (exC.inv == exC.inv && decide (exC.g = exC.g))) = true := by decide
  rw [hs]
  refine sat_branch tabOk Tryz.func11 rfl trivial (fun _ => ?_) (fun h => by cases h)
  refine sat_call tabOk Tryz.func11 rfl trivial (cRightC_call exA exC (exB _ (.inl rfl))) ⟨exA_le, exC_le 3, trivial⟩ rfl ⟨_, rfl⟩ (by rintro r o rfl; rfl) ?_
  rintro _ o rfl
  rw [exC_right]
  refine sat_branch tabOk Tryz.func11 rfl trivial (fun _ => ?_) (fun h => by cases h)
  refine sat_branch tabOk Tryz.func11 rfl trivial (fun _ => ?_) (fun h => by cases h)
  refine sat_branch tabOk Tryz.func11 rfl trivial (fun _ => ?_) (fun h => by cases h)
  refine sat_call tabOk Tryz.func11 rfl trivial (Grown_call exA exC (by decide) (by decide)) ⟨exA_le, exC_le 3, trivial⟩ rfl ⟨_, rfl⟩ (by rintro r o rfl; rfl) ?_
  rintro _ o rfl
  exact sat_ret tabOk Tryz.func11 rfl trivial rfl
end Go.Proofs.YtkemmijjpclckaaGreatDoor
namespace Go.Proofs.YtkemmijjpclckaaGreatDoor
open Go Ab Go.Lib
set_option maxRecDepth 100000
set_option linter.unusedVariables false
set_option linter.unusedSimpArgs false

/-! ### What may be asked about is small -/
theorem smallP_of {p : List Sp} {m : Int} (h : smallP p m = true) : (p.length : Int) ≤ m ∧ ∀ s ∈ p, (s.2.1.length : Int) ≤ m := by
  unfold smallP at h
  rw [Bool.and_eq_true, decide_eq_true_eq, List.all_eq_true] at h
  exact ⟨h.1, fun s hs => of_decide_eq_true (h.2 s hs)⟩
/-- All that is asked of both. -/
structure Asked (a : Ag) (c : Ct) : Prop where
  sa : SmA a 40
  ra : RightA a
  sc : SmC c 20
theorem SmA.M {a : Ag} (h : SmA a 40) : AgM a := by
  have hml : maxLen = 9223372036854775807 := rfl
  refine ⟨?_, ?_, ?_, ?_, fun x hx => ?_⟩
  · have := h.outs; omega
  · have := h.bad; omega
  · have := h.con; omega
  · have := h.names; omega
  · have := h.s x hx; omega
theorem Asked.acM {a : Ag} {c : Ct} (h : Asked a c) : AcM a c := by
  have hml : maxLen = 9223372036854775807 := rfl
  have q0 := smallP_of h.sc.p0
  have q1 := smallP_of h.sc.p1
  have q2 := smallP_of h.sc.p2
  have hg := h.sa.g
  have hcg := h.sc.g
  have hn := h.sa.names
  refine ⟨⟨by omega, by omega, by omega, fun x hx => ?_, by omega, by omega, by omega⟩, h.sa.M, fun s hs => ?_, fun s hs => ?_, fun s hs => ?_⟩
  · have := h.sa.s x hx; omega
  · have := q0.2 s hs; omega
  · have := q1.2 s hs; omega
  · have := q2.2 s hs; omega
theorem small_proofT {n : Int} {p : List Sp} (hn : 0 ≤ n ∧ n ≤ 100000) (h : rightP n p = true) (hs : smallP p 20 = true) : (prT p).length ≤ 9000 := by
  obtain ⟨q1, q2⟩ := smallP_of hs
  have hr := steps_of h
  have h2 := proofT_len (m := 20) (p := p) fun s hs' => ⟨fun l hl => by have := (hr s hs').1 l hl; unfold litOk at this; omega, by have := q2 s hs'; omega⟩
  have h3 : p.length * (20 * 22 + 4) ≤ 20 * (20 * 22 + 4) := Nat.mul_le_mul_right _ (by omega)
  have i0 := itoa_len (l := (p.length : Int)) (by omega) (by omega)
  simp only [prT, kProof, List.length_append, List.length_cons, List.length_nil]
  omega
/-- A small certificate's text. -/
theorem Asked.text {a : Ag} {c : Ct} (h : Asked a c) (hR : rightC a c = true) : (certT c).length ≤ 100000 := by
  obtain ⟨-, h2, h3, -, h5, h6, h7⟩ := rightC_iff.1 hR
  have hA := rightA_iff.1 h2
  have hv := hA.v1
  have hi0 := hA.i0
  have hv0 : 0 ≤ varsA (grownA a c) := by unfold varsA; omega
  have t0 := small_proofT ⟨by omega, by omega⟩ h5 h.sc.p0
  have t1 := small_proofT ⟨by omega, by omega⟩ h6 h.sc.p1
  have t2 := small_proofT ⟨by omega, by omega⟩ h7 h.sc.p2
  have hgo := (gatOk_iff _ _).1 (grown_gates hA)
  have hvg := varsA_grown a c
  have hav : 0 ≤ varsA a := by have := h.ra.i0; unfold varsA; omega
  have tg := gateT_len c.g fun p hp => by
    obtain ⟨j, hj, rfl⟩ := List.mem_iff_getElem.1 hp
    have := hgo j hj
    omega
  have hcg := h.sc.g
  have i0 := itoa_len (l := (c.g.length : Int)) (by omega) (by omega)
  have i1 := itoa_len (l := c.inv) (by omega) (by omega)
  simp only [certT, kInv, List.length_append, List.length_cons, List.length_nil]
  omega
end Go.Proofs.YtkemmijjpclckaaGreatDoor
namespace Go.Proofs.YtkemmijjpclckaaGreatDoor
open Go Ab
set_option maxRecDepth 100000
set_option linter.unusedVariables false
set_option linter.unusedSimpArgs false

/-! ### Runs -/
theorem nextB_len (l : List P2) (V : List Bool) : (nextB l V).length = l.length := by unfold nextB; rw [List.length_map]
/-! ### HOLDS -/
/-! ### SOUND, of two values -/
/-- Replaying, frame by frame. -/
def wholeL (a : Ag) (k : Int) : List (List Bool) → List Bool → Bool → Int
  | [], _, last => if last = true then 0 else 8
  | inp :: r, st, _ => if a.con.all (litB (valA a.g inp st)) = true then wholeL a k r (nextB a.l (valA a.g inp st)) (litB (valA a.g inp st) (a.bad.getD k.toNat 0)) else 8
/-! ### SOUND, of three values -/
def not3 (x : UInt8) : UInt8 := if x = 0 then 1 else if x = 1 then 0 else 2
def and3 (x y : UInt8) : UInt8 := if x = 0 ∨ y = 0 then 0 else if x = 1 ∧ y = 1 then 1 else 2
def lit3 (v : List UInt8) (l : Int) : UInt8 := if l < 0 ∨ (v.length : Int) ≤ l / 2 then 2 else if l % 2 = 1 then not3 (v.getD (l / 2).toNat 0) else v.getD (l / 2).toNat 0
def val3 : List P2 → List UInt8 → List UInt8
  | [], v => v
  | p :: r, v => val3 r (v ++ [and3 (lit3 v p.1) (lit3 v p.2)])
def valA3 (g : List P2) (inp st : List UInt8) : List UInt8 := val3 g (0 :: (inp ++ st))
def next3 (l : List P2) (V : List UInt8) : List UInt8 := l.map fun p => lit3 V p.1
/-- Three values that tell no more than two. -/
def Abs1 (x : UInt8) (b : Bool) : Prop := (x = 0 → b = false) ∧ (x = 1 → b = true)
structure AbsL (V : List UInt8) (W : List Bool) : Prop where
  len : V.length = W.length
  get : ∀ j, j < V.length → Abs1 (V.getD j 0) (W.getD j false)
theorem abs_not {x : UInt8} {b : Bool} (h : Abs1 x b) : Abs1 (not3 x) (!b) := by
  unfold not3
  split
  · rename_i e
    rw [h.1 e]
    exact ⟨fun h => absurd h (by decide), fun _ => rfl⟩
  · split
    · rename_i e
      rw [h.2 e]
      exact ⟨fun _ => rfl, fun h => absurd h (by decide)⟩
    · exact ⟨fun h => absurd h (by decide), fun h => absurd h (by decide)⟩
theorem abs_and {x y : UInt8} {b d : Bool} (h : Abs1 x b) (g : Abs1 y d) : Abs1 (and3 x y) (b && d) := by
  unfold and3
  split
  · rename_i e
    refine ⟨fun _ => ?_, fun h => absurd h (by decide)⟩
    rcases e with e | e
    · rw [h.1 e, Bool.false_and]
    · rw [g.1 e, Bool.and_false]
  · split
    · rename_i e
      rw [h.2 e.1, g.2 e.2]
      exact ⟨fun h => absurd h (by decide), fun _ => rfl⟩
    · exact ⟨fun h => absurd h (by decide), fun h => absurd h (by decide)⟩
theorem abs_lit {V : List UInt8} {W : List Bool} (h : AbsL V W) (l : Int) : Abs1 (lit3 V l) (litB W l) := by
  unfold lit3 litB
  rw [h.len]
  split
  · exact ⟨fun h => absurd h (by decide), fun h => absurd h (by decide)⟩
  · rename_i hc
    have hg := h.get (l / 2).toNat (by have := h.len; omega)
    split
    · exact abs_not hg
    · exact hg
theorem abs_snoc {V : List UInt8} {W : List Bool} {x : UInt8} {b : Bool} (h : AbsL V W) (hx : Abs1 x b) : AbsL (V ++ [x]) (W ++ [b]) := by
  refine ⟨by simp [h.len], fun j hj => ?_⟩
  rw [List.length_append, List.length_singleton] at hj
  rcases Nat.lt_or_ge j V.length with h2 | h2
  · rw [getD_app 0 h2, getD_app false (by rw [← h.len]; exact h2)]
    exact h.get j h2
  · obtain rfl : j = V.length := by omega
    have e := getD_last W b false
    rw [← h.len] at e
    rw [getD_last, e]
    exact hx
theorem abs_val : ∀ (g : List P2) {V : List UInt8} {W : List Bool}, AbsL V W → AbsL (val3 g V) (valG g W)
  | [], _, _, h => h
  | p :: g, V, W, h => abs_val g (abs_snoc h (abs_and (abs_lit h p.1) (abs_lit h p.2)))
theorem abs_cons {V : List UInt8} {W : List Bool} {x : UInt8} {b : Bool} (hx : Abs1 x b) (h : AbsL V W) : AbsL (x :: V) (b :: W) := by
  refine ⟨by simp [h.len], fun j hj => ?_⟩
  rcases j with _ | j
  · exact hx
  · simpa using h.get j (by simpa using hj)
theorem abs_app {V V' : List UInt8} {W W' : List Bool} (h : AbsL V W) (h' : AbsL V' W') : AbsL (V ++ V') (W ++ W') := by
  refine ⟨by simp [h.len, h'.len], fun j hj => ?_⟩
  rw [List.length_append] at hj
  rcases Nat.lt_or_ge j V.length with h2 | h2
  · rw [getD_app 0 h2, getD_app false (by rw [← h.len]; exact h2)]
    exact h.get j h2
  · have := h'.get (j - V.length) (by omega)
    simp only [List.getD_eq_getElem?_getD] at this ⊢
    rw [List.getElem?_append_right h2, List.getElem?_append_right (by rw [← h.len]; exact h2), ← h.len]
    exact this
theorem abs_map (l : List UInt8) : AbsL l (l.map fun x => x == 1) := by
  refine ⟨by simp, fun j hj => ?_⟩
  simp only [List.getD_eq_getElem?_getD, List.getElem?_map, List.getElem?_eq_getElem hj, Option.map_some, Option.getD_some]
  exact ⟨fun e => by rw [e]; decide, fun e => by rw [e]; decide⟩
theorem abs_next {V : List UInt8} {W : List Bool} (h : AbsL V W) (l : List P2) : AbsL (next3 l V) (nextB l W) := by
  unfold next3 nextB
  refine ⟨by simp, fun j hj => ?_⟩
  rw [List.length_map] at hj
  simp only [List.getD_eq_getElem?_getD, List.getElem?_map, List.getElem?_eq_getElem hj, Option.map_some, Option.getD_some]
  exact abs_lit h _
theorem abs_valA {g : List P2} {inp st : List UInt8} {I S : List Bool} (hi : AbsL inp I) (hs : AbsL st S) : AbsL (valA3 g inp st) (valA g I S) :=
  abs_val g (abs_cons ⟨fun _ => rfl, fun h => absurd h (by decide)⟩ (abs_app hi hs))
/-- Replaying with three values. -/
def ternL (a : Ag) (k : Int) : List (List UInt8) → List UInt8 → UInt8 → Int
  | [], _, last => if last = 1 then 0 else 8
  | inp :: r, st, _ => if a.con.all (fun x => lit3 (valA3 a.g inp st) x == 1) = true then ternL a k r (next3 a.l (valA3 a.g inp st)) (lit3 (valA3 a.g inp st) (a.bad.getD k.toNat 0)) else 8
theorem tern_whole {a : Ag} {k : Int} : ∀ (ins : List (List UInt8)) (st : List UInt8) (S : List Bool) (last : UInt8) (lb : Bool), AbsL st S → Abs1 last lb → ternL a k ins st last = 0 → wholeL a k (ins.map fun l => l.map fun x => x == 1) S lb = 0
  | [], st, S, last, lb, hs, hl, h => by
    unfold ternL at h
    split at h
    · rename_i e
      rw [List.map_nil]
      unfold wholeL
      rw [hl.2 e]
      rfl
    · cases h
  | inp :: r, st, S, last, lb, hs, hl, h => by
    unfold ternL at h
    split at h
    · rename_i hc
      have hV := abs_valA (g := a.g) (abs_map inp) hs
      rw [List.map_cons]
      unfold wholeL
      rw [if_pos]
      · exact tern_whole r _ _ _ _ (abs_next hV a.l) (abs_lit hV _) h
      · rw [List.all_eq_true] at hc ⊢
        intro x hx
        exact (abs_lit hV x).2 (beq_iff_eq.1 (hc x hx))
    · cases h
end Go.Proofs.YtkemmijjpclckaaGreatDoor
namespace Go.Proofs.YtkemmijjpclckaaGreatDoor
open Go Ab Go.RowKit
set_option maxRecDepth 100000
set_option linter.unusedVariables false
set_option linter.unusedSimpArgs false
set_option maxHeartbeats 4000000

/-! ### The document's answer: runs of two values -/
@[reducible] def eBls (l : List Bool) : D := eL 1 eBo false l
theorem dnil {s : Nat} {rd : Nat → D} : DLe (.v (.slice none 0 0)) (.sl s [] rd) := fun _ _ _ h => by
  cases h
  exact .nil (Nat.zero_le _)
theorem half_w {l : Int} (h0 : 0 ≤ l) (h : l ≤ 9223372036854775807) : IntKind.i64.wrap (Int.tdiv l 2) = l / 2 := by rw [Int.tdiv_eq_ediv_of_nonneg h0, wrap_id (by omega) (by omega)]
theorem odd_w {l : Int} (h0 : 0 ≤ l) : Int.tmod l 2 = l % 2 := Int.tmod_eq_emod_of_nonneg h0
/-- A number that a word can hold. -/
def I64 (l : Int) : Prop := -9223372036854775808 ≤ l ∧ l ≤ 9223372036854775807
theorem rLit8_call (v : List Bool) (l : Int) (hl : I64 l) : ACall Tryz.prog 34 [.d (eBls v), vI .i64 l] [] (fun r o => r = vB (litB v l)) := by
  refine acall_enter Tryz.func34 rfl rfl (Nat.le_of_ble_eq_true rfl) fun C hC hCl hDs hGk => ?_
  unfold litB
  unfold I64 at hl
  refine sat_branch tabOk Tryz.func34 rfl trivial (fun h => ?_) (fun h => ?_)
  · have h : decide (l < 0) = true := h
    rw [decide_eq_true_eq] at h
    rw [if_pos (.inl h)]
    refine sat_branch tabOk Tryz.func34 rfl trivial (fun _ => ?_) (fun h => by cases h)
    exact sat_ret tabOk Tryz.func34 rfl trivial rfl
  have h : decide (l < 0) = false := h
  rw [decide_eq_false_iff_not] at h
  have e1 := @half_w l (by omega) hl.2
  have e2 := @odd_w l (by omega)
  refine sat_branch tabOk Tryz.func34 rfl ⟨by decide, trivial⟩ (fun h2 => ?_) (fun h2 => ?_)
  · have h2 : decide (IntKind.i64.wrap (Int.tdiv l 2) ≥ (((v.map eBo).length : Nat) : Int)) = true := h2
    rw [e1, decide_eq_true_eq, List.length_map] at h2
    rw [if_pos (.inr (by omega))]
    exact sat_ret tabOk Tryz.func34 rfl trivial rfl
  have h2 : decide (IntKind.i64.wrap (Int.tdiv l 2) ≥ (((v.map eBo).length : Nat) : Int)) = false := h2
  rw [e1, decide_eq_false_iff_not, List.length_map] at h2
  rw [if_neg (by omega)]
  refine sat_branch tabOk Tryz.func34 rfl ⟨by decide, trivial⟩ (fun h3 => ?_) (fun h3 => ?_)
  · have h3 : (Int.tmod l 2 == 1) = true := h3
    rw [e2, beq_iff_eq] at h3
    rw [if_pos h3]
    refine sat_ret tabOk Tryz.func34 rfl ?_ ?_
    · rw [e1, List.length_map]
      exact ⟨⟨by omega, by omega⟩, by decide, trivial⟩
    · rw [e1]
      rfl
  · have h3 : (Int.tmod l 2 == 1) = false := h3
    rw [e2, beq_eq_false_iff_ne] at h3
    rw [if_neg h3]
    refine sat_ret tabOk Tryz.func34 rfl ?_ ?_
    · rw [e1, List.length_map]
      exact ⟨⟨by omega, by omega⟩, by decide, trivial⟩
    · rw [e1]
      rfl
/-- A model whose literals a word can hold. -/
structure AgW (a : Ag) : Prop where
  b : AgB a
  l : ∀ p ∈ a.l, I64 p.1
  g : ∀ p ∈ a.g, I64 p.1 ∧ I64 p.2
  outs : ∀ x ∈ a.outs, I64 x
  bad : ∀ x ∈ a.bad, I64 x
  con : ∀ x ∈ a.con, I64 x
theorem valG_snoc (g : List P2) {i : Nat} (v : List Bool) (h : i < g.length) : valG (g.take (i + 1)) v = valG (g.take i) v ++ [litB (valG (g.take i) v) (p2 g i).1 && litB (valG (g.take i) v) (p2 g i).2] := by
  have e : g[i] = p2 g i := by simp [p2, h]
  rw [List.take_succ_eq_append_getElem h, valG_app, e]
  rfl
theorem p2_mem {l : List P2} {i : Nat} (h : i < l.length) : p2 l i ∈ l := by
  have e : l[i] = p2 l i := by simp [p2, h]
  rw [← e]
  exact List.getElem_mem h
@[reducible] def valAn (a : Ag) (st inp : List Bool) : AV := if (st.length : Int) ≠ a.l.length ∨ (inp.length : Int) ≠ a.i then tupOf [.d (eBls []), vI .i64 7] else tupOf [.d (eBls (valA a.g inp st)), vI .i64 0]
theorem rValues8_call (a : Ag) (st inp : List Bool) (h : AgW a) (hs : st.length ≤ 1000000) (hi : inp.length ≤ 1000000) : ACall Tryz.prog 32 [.d (eAg a), .d (eBls st), .d (eBls inp)] [] (fun r o => r = valAn a st inp) := by
  refine acall_enter Tryz.func32 rfl rfl (Nat.le_of_ble_eq_true rfl) fun C hC hCl hDs hGk => ?_
  unfold valAn
  have hgl := h.b.g
  refine sat_branch tabOk Tryz.func32 rfl trivial (fun h1 => ?_) (fun h1 => ?_)
  · have h1 : ((((st.map eBo).length : Nat) : Int) != (((a.l.map eP2).length : Nat) : Int)) = true := h1
    rw [bne_iff_ne, List.length_map, List.length_map] at h1
    rw [if_pos (.inl h1)]
    refine sat_branch tabOk Tryz.func32 rfl trivial (fun _ => ?_) (fun h => by cases h)
    exact sat_retL tabOk Tryz.func32 rfl trivial hC hCl (r2 := tupOf [.d (eBls []), vI .i64 7]) (.tp ⟨.nil, .refl _, trivial⟩) (o2 := []) trivial rfl rfl (Nat.zero_le _) rfl
  have h1 : ((((st.map eBo).length : Nat) : Int) != (((a.l.map eP2).length : Nat) : Int)) = false := h1
  rw [bne_eq_false_iff_eq, List.length_map, List.length_map] at h1
  refine sat_branch tabOk Tryz.func32 rfl trivial (fun h2 => ?_) (fun h2 => ?_)
  · have h2 : ((((inp.map eBo).length : Nat) : Int) != a.i) = true := h2
    rw [bne_iff_ne, List.length_map] at h2
    rw [if_pos (.inr h2)]
    exact sat_retL tabOk Tryz.func32 rfl trivial hC hCl (r2 := tupOf [.d (eBls []), vI .i64 7]) (.tp ⟨.nil, .refl _, trivial⟩) (o2 := []) trivial rfl rfl (Nat.zero_le _) rfl
  have h2 : ((((inp.map eBo).length : Nat) : Int) != a.i) = false := h2
  rw [bne_eq_false_iff_eq, List.length_map] at h2
  rw [if_neg (by omega)]
  refine sat_steps 4 tabOk Tryz.func32 rfl trivial ?_
  refine sat_litG _ tabOk rfl rfl rfl rfl rfl trivial rfl ?_
  refine sat_stop tabOk Tryz.func32 rfl ?nd ?_
  case nd => exact (by simp only [andP, and_true, true_and, Int.toNat_natCast, List.length_map, List.length_append, List.length_cons, List.length_nil, List.length_replicate]; omega)
  refine sat_while (α := Nat) (fun i => [(3, .ptr 0 0), (8, .gs 1), (9, vI .i64 (i : Int))]) (fun i => [some (bAg a), some (gBo (valG (a.g.take i) (false :: (inp ++ st))))]) (fun i => i ≤ a.g.length) (fun i => a.g.length - i) 0 (Nat.zero_le _) ?_ ?_
  · refine fun h => sat_le h hC hCl ⟨⟨_, rfl, .refl _⟩, ⟨_, rfl, .refl _⟩, ⟨_, rfl, .refl _⟩, trivial⟩ ⟨.refl _, .gL ?_, trivial⟩ rfl rfl (Nat.zero_le _)
    simp [valG]
  rintro i hi2 ih
  have hvl : (valG (a.g.take i) (false :: (inp ++ st))).length = inp.length + st.length + i + 1 := by
    rw [valG_len, List.length_cons, List.length_append, List.length_take]
    omega
  refine sat_branch tabOk Tryz.func32 rfl trivial (fun hb => ?_) (fun hb => ?_)
  · have hb : decide ((i : Int) < (((a.g.map eP2).length : Nat) : Int)) = true := hb
    rw [decide_eq_true_eq, List.length_map] at hb
    have hlt : i < a.g.length := by omega
    have hst := valG_snoc a.g (false :: (inp ++ st)) hlt
    have ih := ih (i + 1) (by omega) (by omega)
    rw [hst] at ih
    have hw := h.g _ (p2_mem hlt)
    clear hst
    generalize valG (a.g.take i) (false :: (inp ++ st)) = V at *
    refine sat_callL tabOk Tryz.func32 rfl (by simp only [andP, and_true, true_and, Int.toNat_natCast, List.length_map, List.length_append, List.length_cons, List.length_nil, List.length_replicate]; omega) (rLit8_call V (p2 a.g i).1 hw.1) ⟨.inr ⟨1, 4, 1, _, _, _, rfl, rfl, rfl, map_rd eBo false _⟩, .inl (.refl _), trivial⟩ rfl ⟨_, rfl⟩ (by rintro r o rfl; rfl) ?_
    rintro _ o rfl
    refine sat_callL tabOk Tryz.func32 rfl (by simp only [andP, and_true, true_and, Int.toNat_natCast, List.length_map, List.length_append, List.length_cons, List.length_nil, List.length_replicate]; omega) (rLit8_call V (p2 a.g i).2 hw.2) ⟨.inr ⟨1, 4, 1, _, _, _, rfl, rfl, rfl, map_rd eBo false _⟩, .inl (.refl _), trivial⟩ rfl ⟨_, rfl⟩ (by rintro r o rfl; rfl) ?_
    rintro _ o rfl
    generalize litB V (p2 a.g i).1 = x at *
    generalize litB V (p2 a.g i).2 = y at *
    cases x with
    | true =>
      refine sat_branch tabOk Tryz.func32 rfl trivial (fun _ => ?_) (fun h => by cases h)
      refine sat_stop tabOk Tryz.func32 rfl (by simp only [andP, and_true, true_and, Int.toNat_natCast, List.length_map, List.length_append, List.length_cons, List.length_nil, List.length_replicate, hvl]; omega) ?_
      refine sat_le ih hC hCl ⟨⟨_, rfl, .refl _⟩, ⟨_, rfl, .refl _⟩, ⟨_, rfl, .of (by rw [wrap_id (by omega) (by omega)]; rfl)⟩, trivial⟩ ⟨.refl _, .gL ?_, trivial⟩ rfl rfl (Nat.zero_le _)
      rw [List.map_append]
      rfl
    | false =>
      refine sat_branch tabOk Tryz.func32 rfl trivial (fun h => by cases h) (fun _ => ?_)
      refine sat_stop tabOk Tryz.func32 rfl (by simp only [andP, and_true, true_and, Int.toNat_natCast, List.length_map, List.length_append, List.length_cons, List.length_nil, List.length_replicate, hvl]; omega) ?_
      refine sat_le ih hC hCl ⟨⟨_, rfl, .refl _⟩, ⟨_, rfl, .refl _⟩, ⟨_, rfl, .of (by rw [wrap_id (by omega) (by omega)]; rfl)⟩, trivial⟩ ⟨.refl _, .gL ?_, trivial⟩ rfl rfl (Nat.zero_le _)
      rw [List.map_append]
      rfl
  · have hb : decide ((i : Int) < (((a.g.map eP2).length : Nat) : Int)) = false := hb
    rw [decide_eq_false_iff_not, List.length_map] at hb
    obtain rfl : i = a.g.length := by omega
    rw [List.take_length]
    refine sat_freeze 1 rfl ?_
    exact sat_ret tabOk Tryz.func32 rfl trivial rfl
theorem rlits8_call (v : List Bool) (l : List Int) (hl : ∀ x ∈ l, I64 x) (hn : l.length ≤ 1000000) : ACall Tryz.prog 79 [.d (eBls v), .d (eIs l)] [] (fun r o => r = .d (eBls (l.map (litB v)))) := by
  refine acall_enter Tryz.func79 rfl rfl (Nat.le_of_ble_eq_true rfl) fun C hC hCl hDs hGk => ?_
  refine sat_stop tabOk Tryz.func79 rfl trivial ?_
  refine sat_own (e := 4) (s := 1) (t := 5) (.inl rfl) (fun i => eBo (([] : List Bool).getD i false)) ?_
  refine sat_while (α := Nat) (fun i => [(0, .d (eBls v)), (1, .d (eIs l)), (5, .gs 0), (6, vI .i64 (i : Int))]) (fun i => [some (gBo ((l.take i).map (litB v)))]) (fun i => i ≤ l.length) (fun i => l.length - i) 0 (Nat.zero_le _) ?_ ?_
  · exact fun h => sat_le h hC hCl ⟨⟨_, rfl, .refl _⟩, ⟨_, rfl, .refl _⟩, ⟨_, rfl, .refl _⟩, ⟨_, rfl, .refl _⟩, trivial⟩ ⟨.gL rfl, trivial⟩ rfl rfl (Nat.zero_le _)
  rintro i hi ih
  refine sat_branch tabOk Tryz.func79 rfl trivial (fun hb => ?_) (fun hb => ?_)
  · have hb : decide ((i : Int) < (((l.map eI).length : Nat) : Int)) = true := hb
    rw [decide_eq_true_eq, List.length_map] at hb
    have hlt : i < l.length := by omega
    have hm : l.getD i 0 ∈ l := by rw [getD_at (d := 0) hlt]; exact List.getElem_mem hlt
    refine sat_call tabOk Tryz.func79 rfl (by simp only [andP, and_true, true_and, Int.toNat_natCast, List.length_map, List.length_append, List.length_cons, List.length_nil, List.length_replicate]; omega) (rLit8_call v (l.getD i 0) (hl _ hm)) (.refl _) rfl ⟨_, rfl⟩ (by rintro r o rfl; rfl) ?_
    rintro _ o rfl
    refine sat_stop tabOk Tryz.func79 rfl (by simp only [andP, and_true, true_and, Int.toNat_natCast, List.length_map, List.length_append, List.length_cons, List.length_nil, List.length_replicate, List.length_take]; omega) ?_
    refine sat_le (ih (i + 1) (by omega) (by omega)) hC hCl ⟨⟨_, rfl, .refl _⟩, ⟨_, rfl, .refl _⟩, ⟨_, rfl, .refl _⟩, ⟨_, rfl, .of (by rw [wrap_id (by omega) (by omega)]; rfl)⟩, trivial⟩ ⟨.gL ?_, trivial⟩ rfl rfl (Nat.zero_le _)
    rw [List.take_succ_eq_append_getElem hlt, List.map_append, List.map_append, ← getD_at (d := 0) hlt]
    rfl
  · have hb : decide ((i : Int) < (((l.map eI).length : Nat) : Int)) = false := hb
    rw [decide_eq_false_iff_not, List.length_map] at hb
    obtain rfl : i = l.length := by omega
    rw [List.take_length]
    refine sat_freeze 0 rfl ?_
    exact sat_ret tabOk Tryz.func79 rfl trivial rfl
@[reducible] def eB3 (x y z : List Bool) : D := .ag [eBls x, eBls y, eBls z]
@[reducible] def stepAn (a : Ag) (st inp : List Bool) : AV := if (st.length : Int) ≠ a.l.length ∨ (inp.length : Int) ≠ a.i then tupOf [.d (eBls []), .d (eB3 [] [] []), vI .i64 7]
  else tupOf [.d (eBls (nextB a.l (valA a.g inp st))), .d (eB3 (a.outs.map (litB (valA a.g inp st))) (a.bad.map (litB (valA a.g inp st))) (a.con.map (litB (valA a.g inp st)))), vI .i64 0]
theorem rStep8_call (a : Ag) (st inp : List Bool) (h : AgW a) (hs : st.length ≤ 1000000) (hi : inp.length ≤ 1000000) (ho : a.outs.length ≤ 1000000 ∧ a.bad.length ≤ 1000000 ∧ a.con.length ≤ 1000000) : ACall Tryz.prog 33 [.d (eAg a), .d (eBls st), .d (eBls inp)] [] (fun r o => r = stepAn a st inp) := by
  refine acall_enter Tryz.func33 rfl rfl (Nat.le_of_ble_eq_true rfl) fun C hC hCl hDs hGk => ?_
  have hll := h.b.l
  refine sat_call tabOk Tryz.func33 rfl trivial (rValues8_call a st inp h hs hi) (.refl _) rfl ⟨_, rfl⟩ (by rintro r o rfl; unfold valAn; split <;> rfl) ?_
  rintro _ o rfl
  unfold valAn stepAn
  split
  · repeat refine sat_branch tabOk Tryz.func33 rfl trivial (fun _ => ?_) (fun h => by cases h)
    exact sat_retL tabOk Tryz.func33 rfl trivial hC hCl (r2 := tupOf [.d (eBls []), .d (eB3 [] [] []), vI .i64 7]) (.tp ⟨.nil, .dag ⟨dnil, dnil, dnil, trivial⟩, .refl _, trivial⟩) (o2 := []) trivial rfl rfl (Nat.zero_le _) rfl
  generalize valA a.g inp st = V
  refine sat_branch tabOk Tryz.func33 rfl trivial (fun h => by cases h) (fun _ => ?_)
  refine sat_stop tabOk Tryz.func33 rfl trivial ?_
  refine sat_own (e := 4) (s := 1) (t := 11) (.inl rfl) (fun i => eBo (([] : List Bool).getD i false)) ?_
  refine sat_while (α := Nat) (fun i => [(3, .ptr 0 0), (7, .ptr 1 0), (9, .d (eBls V)), (11, .gs 2), (12, vI .i64 (i : Int))]) (fun i => [some (bAg a), some (.cells 70 [.d (.v (.slice none 0 0)), .d (.v (.slice none 0 0)), .d (.v (.slice none 0 0))]), some (gBo ((a.l.take i).map fun p => litB V p.1))]) (fun i => i ≤ a.l.length) (fun i => a.l.length - i) 0 (Nat.zero_le _) ?_ ?_
  · exact fun h => sat_le h hC hCl ⟨⟨_, rfl, .refl _⟩, ⟨_, rfl, .refl _⟩, ⟨_, rfl, .refl _⟩, ⟨_, rfl, .refl _⟩, ⟨_, rfl, .refl _⟩, trivial⟩ ⟨.refl _, .refl _, .gL rfl, trivial⟩ rfl rfl (Nat.zero_le _)
  rintro i hi2 ih
  refine sat_branch tabOk Tryz.func33 rfl trivial (fun hb => ?_) (fun hb => ?_)
  · have hb : decide ((i : Int) < (((a.l.map eP2).length : Nat) : Int)) = true := hb
    rw [decide_eq_true_eq, List.length_map] at hb
    have hlt : i < a.l.length := by omega
    refine sat_call tabOk Tryz.func33 rfl (by simp only [andP, and_true, true_and, Int.toNat_natCast, List.length_map, List.length_append, List.length_cons, List.length_nil, List.length_replicate]; omega) (rLit8_call V (p2 a.l i).1 (h.l _ (p2_mem hlt))) (.refl _) rfl ⟨_, rfl⟩ (by rintro r o rfl; rfl) ?_
    rintro _ o rfl
    refine sat_stop tabOk Tryz.func33 rfl (by simp only [andP, and_true, true_and, Int.toNat_natCast, List.length_map, List.length_append, List.length_cons, List.length_nil, List.length_replicate, List.length_take]; omega) ?_
    refine sat_le (ih (i + 1) (by omega) (by omega)) hC hCl ⟨⟨_, rfl, .refl _⟩, ⟨_, rfl, .refl _⟩, ⟨_, rfl, .refl _⟩, ⟨_, rfl, .refl _⟩, ⟨_, rfl, .of (by rw [wrap_id (by omega) (by omega)]; rfl)⟩, trivial⟩ ⟨.refl _, .refl _, .gL ?_, trivial⟩ rfl rfl (Nat.zero_le _)
    rw [List.take_succ_eq_append_getElem hlt, List.map_append, List.map_append]
    simp only [List.map_cons, List.map_nil]
    rw [show a.l[i] = p2 a.l i by simp [p2, hlt]]
  · have hb : decide ((i : Int) < (((a.l.map eP2).length : Nat) : Int)) = false := hb
    rw [decide_eq_false_iff_not, List.length_map] at hb
    obtain rfl : i = a.l.length := by omega
    simp only [List.take_length]
    refine sat_freeze 2 rfl ?_
    refine sat_drawT 15 tabOk Tryz.func33 rfl rfl trivial (by kernel_rfl) ?_
    refine ds_call tabOk rfl trivial (rlits8_call V a.outs h.outs ho.1) (callFunc_run Tryz.func79 rfl rfl) (by rintro r o rfl; rfl) (.refl _) rfl rfl ⟨_, rfl⟩ ?_
    refine ds_call tabOk rfl trivial (rlits8_call V a.bad h.bad ho.2.1) (callFunc_run Tryz.func79 rfl rfl) (by rintro r o rfl; rfl) (.refl _) rfl rfl ⟨_, rfl⟩ ?_
    refine ds_call tabOk rfl trivial (rlits8_call V a.con h.con ho.2.2) (callFunc_run Tryz.func79 rfl rfl) (by rintro r o rfl; rfl) (.refl _) rfl rfl ⟨_, rfl⟩ ?_
    refine ds_done tabOk rfl trivial ?_
    exact sat_ret tabOk Tryz.func33 rfl trivial rfl
end Go.Proofs.YtkemmijjpclckaaGreatDoor
namespace Go.Proofs.YtkemmijjpclckaaGreatDoor
open Go Ab
set_option maxRecDepth 100000
set_option linter.unusedVariables false
set_option linter.unusedSimpArgs false

/-! ### Runs, and what a certificate that is checked tells of them -/
/-- A certificate that is checked. -/
structure ChkC (a : Ag) (c : Ct) (k : Int) : Prop where
  right : rightC a c = true
  k0 : 0 ≤ k
  k1 : k < a.bad.length
  c0 : (chk (ask0 (grownA a c) c.inv) 0 c.p0).2 = 0
  c1 : (chk (ask1 (grownA a c) c.inv) 0 c.p1).2 = 0
  c2 : (chk (ask2 (grownA a c) c.inv (a.bad.getD k.toNat 0)) 0 c.p2).2 = 0
theorem checkR_ok {a : Ag} {c : Ct} {k : Int} (h : (checkR a c k).2 = 0) : ChkC a c k := by
  unfold checkR at h
  split at h
  · cases h
  rename_i h1
  split at h
  · cases h
  split at h
  · cases h
  rename_i h3
  split at h
  · cases h
  rename_i h4
  split at h
  · cases h
  rename_i h5
  refine ⟨?_, by omega, by omega, Decidable.not_not.1 h3, Decidable.not_not.1 h4, Decidable.not_not.1 h5⟩
  cases hr : rightC a c with
  | true => rfl
  | false => exact absurd (.inl hr) h1
section
variable {a : Ag} {c : Ct} {k : Int}
theorem grown_n (ha : RightA (grownA a c)) {inp st : List Bool} (hi : inp.length = a.i.toNat) (hs : st.length = a.l.length) : inp.length + st.length + (a.g ++ c.g).length = (varsA (grownA a c)).toNat := by
  have := ha.i0
  have e : varsA (grownA a c) = a.i + a.l.length + ((a.g ++ c.g).length : Nat) := rfl
  have e2 : (grownA a c).i = a.i := rfl
  omega
theorem own_lit {x : Int} {inp st : List Bool} (h0 : 0 ≤ varsA a) (hi : inp.length = a.i.toNat) (hi0 : 0 ≤ a.i) (hs : st.length = a.l.length) (hx : 0 ≤ x ∧ x ≤ 2 * varsA a + 1) : litB (valA (a.g ++ c.g) inp st) x = litB (valA a.g inp st) x := by
  have e : valA (a.g ++ c.g) inp st = valG c.g (valA a.g inp st) := by
    unfold valA
    rw [valG_app]
  rw [e, litB_valG]
  rw [valA_len, hi, hs]
  unfold varsA at hx
  omega
/-- Latches, bads and constraints of a right model. -/
theorem RightA.latches (ha : RightA a) : ∀ p ∈ a.l, 0 ≤ p.1 ∧ p.1 ≤ 2 * varsA a + 1 := by
  intro p hp
  obtain ⟨j, hj, rfl⟩ := List.mem_iff_getElem.1 hp
  exact ((latOk_iff _ _ _ _).1 ha.lat j hj).1
theorem RightA.cons (ha : RightA a) : ∀ x ∈ a.con, 0 ≤ x ∧ x ≤ 2 * varsA a + 1 := by
  intro x hx
  have := ha.con
  unfold litsOk at this
  rw [Bool.and_eq_true, List.all_eq_true] at this
  exact of_decide_eq_true (this.2 x hx)
theorem RightA.bads (ha : RightA a) : ∀ x ∈ a.bad, 0 ≤ x ∧ x ≤ 2 * varsA a + 1 := by
  intro x hx
  have := ha.bad
  unfold litsOk at this
  rw [Bool.and_eq_true, List.all_eq_true] at this
  exact of_decide_eq_true (this.2 x hx)
theorem RightA.gatesF (ha : RightA a) {inp st : List Bool} (hi : inp.length = a.i.toNat) (hs : st.length = a.l.length) : GOkF (inp.length + st.length + 1) a.g := by
  have := ha.gat
  have h0 := ha.i0
  refine gatOk_F ?_
  rw [hi, hs, ← this]
  congr 1
  omega
theorem litOk_of {n m : Int} {p : List Sp} (h : rightP n p = true) (e : n = m) : ∀ s ∈ p, ∀ x ∈ s.2.1, litOk m x := by
  subst e
  exact fun s hs => (steps_of h s hs).1
/-- In a first state the invariant is true. -/
theorem ChkC.first (H : ChkC a c k) {inp st : List Bool} (hi : inp.length = a.i.toNat) (hs : StartOk a.l st) : litB (valA (a.g ++ c.g) inp st) c.inv = true := by
  obtain ⟨-, h2, h3, h4, h5, h6, h7⟩ := rightC_iff.1 H.right
  have hA := rightA_iff.1 h2
  have hn := grown_n hA hi hs.1
  have h0 := hA.i0
  have hv0 : 0 ≤ varsA (grownA a c) := by unfold varsA; omega
  have hc0 := H.c0
  unfold ask0 at hc0
  rw [← hn] at hc0
  refine starts_sound (l := a.l) (p := c.p0) (hA.gatesF hi hs.1) ⟨h3.1, by rw [hn]; omega⟩ hs (litOk_of h5 (by rw [hn]; omega)) ?_
  change (chk (startsF (inp.length + st.length + (a.g ++ c.g).length) (a.i.toNat + a.l.length) a.i.toNat a.l (a.g ++ c.g) c.inv) 0 c.p0).2 = 0 at hc0
  rw [← hi, ← hs.1] at hc0
  exact hc0
/-- It stays true, where constraints hold. -/
theorem ChkC.next (H : ChkC a c k) (ha : RightA a) {inp inp' st : List Bool} (hi : inp.length = a.i.toNat) (hi' : inp'.length = a.i.toNat) (hs : st.length = a.l.length) (hinv : litB (valA (a.g ++ c.g) inp st) c.inv = true) (hcon : ∀ x ∈ a.con, litB (valA a.g inp st) x = true) :
    litB (valA (a.g ++ c.g) inp' (nextB a.l (valA a.g inp st))) c.inv = true := by
  obtain ⟨-, h2, h3, h4, h5, h6, h7⟩ := rightC_iff.1 H.right
  have hA := rightA_iff.1 h2
  have hn := grown_n hA hi hs
  have h0 := ha.i0
  have hv0 : 0 ≤ varsA a := by unfold varsA; omega
  have hvg := varsA_grown a c
  have hc0 := H.c1
  unfold ask1 at hc0
  rw [← hn] at hc0
  have e : nextB a.l (valA a.g inp st) = nextB a.l (valA (a.g ++ c.g) inp st) := by
    unfold nextB
    refine List.map_congr_left fun p hp => ?_
    rw [own_lit hv0 hi h0 hs (ha.latches p hp)]
  rw [e]
  refine stays_sound (l := a.l) (con := a.con) (p := c.p1) (hi'.trans hi.symm) hs (hA.gatesF hi hs) ⟨h3.1, by rw [hn]; omega⟩ (fun p hp => ?_) (fun x hx => ⟨?_, ?_⟩) hinv (litOk_of h6 (by rw [hn]; omega)) ?_
  · have := ha.latches p hp
    rw [hn]
    omega
  · have := ha.cons x hx
    rw [hn]
    omega
  · rw [own_lit hv0 hi h0 hs (ha.cons x hx)]
    exact hcon x hx
  · change (chk (staysF (inp.length + st.length + (a.g ++ c.g).length) (a.i.toNat + a.l.length) a.i.toNat a.l (a.g ++ c.g) a.con c.inv) 0 c.p1).2 = 0 at hc0
    rw [← hi, ← hs] at hc0
    exact hc0
/-- Where it is true, and constraints hold, nothing is bad. -/
theorem ChkC.safe (H : ChkC a c k) (ha : RightA a) {inp st : List Bool} (hi : inp.length = a.i.toNat) (hs : st.length = a.l.length) (hinv : litB (valA (a.g ++ c.g) inp st) c.inv = true) (hcon : ∀ x ∈ a.con, litB (valA a.g inp st) x = true) :
    litB (valA a.g inp st) (a.bad.getD k.toNat 0) = false := by
  obtain ⟨-, h2, h3, h4, h5, h6, h7⟩ := rightC_iff.1 H.right
  have hA := rightA_iff.1 h2
  have hn := grown_n hA hi hs
  have h0 := ha.i0
  have hv0 : 0 ≤ varsA a := by unfold varsA; omega
  have hvg := varsA_grown a c
  have hc0 := H.c2
  unfold ask2 at hc0
  rw [← hn] at hc0
  have k0 := H.k0
  have k1 := H.k1
  have hb : 0 ≤ a.bad.getD k.toNat 0 ∧ a.bad.getD k.toNat 0 ≤ 2 * varsA a + 1 := by
    refine ha.bads _ ?_
    rw [List.getD_eq_getElem?_getD, List.getElem?_eq_getElem (by omega)]
    exact List.getElem_mem _
  rw [← own_lit (c := c) hv0 hi h0 hs hb]
  refine safe_sound (con := a.con) (inv := c.inv) (p := c.p2) (hA.gatesF hi hs) ⟨h3.1, by rw [hn]; omega⟩ (by rw [hn]; omega) (fun x hx => ⟨?_, ?_⟩) hinv (litOk_of h7 (by rw [hn]; omega)) ?_
  · have := ha.cons x hx
    rw [hn]
    omega
  · rw [own_lit hv0 hi h0 hs (ha.cons x hx)]
    exact hcon x hx
  · change (chk (safeF (inp.length + st.length + (a.g ++ c.g).length) (a.i.toNat + a.l.length) (a.g ++ c.g) a.con c.inv (a.bad.getD k.toNat 0)) 0 c.p2).2 = 0 at hc0
    rw [← hi, ← hs] at hc0
    exact hc0
end
theorem wholeL_not {a : Ag} {c : Ct} {k : Int} (ha : RightA a) (H : ChkC a c k) : ∀ (ins : List (List Bool)) (st : List Bool) (last : Bool), st.length = a.l.length → (∀ inp ∈ ins, inp.length = a.i.toNat) → (∀ inp : List Bool, inp.length = a.i.toNat → litB (valA (a.g ++ c.g) inp st) c.inv = true) → last = false → wholeL a k ins st last ≠ 0
  | [], _, _, _, _, _, hl => by rw [hl]; unfold wholeL; decide
  | inp :: r, st, last, hs, hin, hI, hl => by
    have hi := hin inp List.mem_cons_self
    unfold wholeL
    split
    · rename_i hc
      have hc : ∀ x ∈ a.con, litB (valA a.g inp st) x = true := by
        rw [List.all_eq_true] at hc
        exact hc
      exact wholeL_not ha H r _ _ (nextB_len _ _) (fun x hx => hin x (List.mem_cons_of_mem _ hx)) (fun inp' hi' => H.next ha hi hi' hs (hI inp hi) hc) (H.safe ha hi hs (hI inp hi) hc)
    · decide
theorem ternL_not {a : Ag} {c : Ct} {k : Int} (ha : RightA a) (H : ChkC a c k) {ins : List (List UInt8)} {st : List UInt8} (hin : ∀ inp ∈ ins, inp.length = a.i.toNat) (hs : StartOk a.l (st.map fun x => x == 1)) : ternL a k ins st 0 ≠ 0 := by
  intro h
  refine wholeL_not ha H (ins.map fun l => l.map fun x => x == 1) _ _ hs.1 (fun inp hi => ?_) (fun inp hi => H.first hi hs) rfl (tern_whole ins st _ 0 false (abs_map st) ⟨fun _ => rfl, fun h => absurd h (by decide)⟩ h)
  obtain ⟨l, hl, rfl⟩ := List.mem_map.1 hi
  rw [List.length_map]
  exact hin l hl
end Go.Proofs.YtkemmijjpclckaaGreatDoor
namespace Go.Proofs.YtkemmijjpclckaaGreatDoor
open Go Ab Go.RowKit Go.Lib
set_option maxRecDepth 100000
set_option linter.unusedVariables false
set_option linter.unusedSimpArgs false
set_option maxHeartbeats 8000000

theorem RightA.gates {a : Ag} (ha : RightA a) : ∀ p ∈ a.g, (0 ≤ p.1 ∧ p.1 ≤ 2 * varsA a + 1) ∧ 0 ≤ p.2 ∧ p.2 ≤ 2 * varsA a + 1 := by
  intro p hp
  obtain ⟨j, hj, rfl⟩ := List.mem_iff_getElem.1 hp
  have := (gatOk_iff _ _).1 ha.gat j hj
  unfold varsA
  omega
theorem RightA.W {a : Ag} (ha : RightA a) : AgW a := by
  have hv := ha.v1
  have lb : ∀ x ∈ a.outs, 0 ≤ x ∧ x ≤ 2 * varsA a + 1 := by
    intro x hx
    have := ha.outs
    unfold litsOk at this
    rw [Bool.and_eq_true, List.all_eq_true] at this
    exact of_decide_eq_true (this.2 x hx)
  refine ⟨rightA_B (rightA_iff.2 ha), fun p hp => ?_, fun p hp => ?_, fun x hx => ?_, fun x hx => ?_, fun x hx => ?_⟩
  · have := ha.latches p hp; unfold I64; omega
  · have := ha.gates p hp; unfold I64; omega
  · have := lb x hx; unfold I64; omega
  · have := ha.bads x hx; unfold I64; omega
  · have := ha.cons x hx; unfold I64; omega
end Go.Proofs.YtkemmijjpclckaaGreatDoor
namespace Go.Proofs.YtkemmijjpclckaaGreatDoor
open Go Ab Go.RowKit Go.Lib
set_option maxRecDepth 100000
set_option linter.unusedVariables false
set_option linter.unusedSimpArgs false
set_option maxHeartbeats 8000000

theorem Asked.asks {a : Ag} {c : Ct} (h : Asked a c) (k : Int) : (ask0 (grownA a c) c.inv).length + c.p0.length ≤ 1000 ∧ (ask1 (grownA a c) c.inv).length + c.p1.length ≤ 1000 ∧ (ask2 (grownA a c) c.inv (a.bad.getD k.toNat 0)).length + c.p2.length ≤ 1000 := by
  have q0 := smallP_of h.sc.p0
  have q1 := smallP_of h.sc.p1
  have q2 := smallP_of h.sc.p2
  have hg := h.sa.g
  have hl := h.sa.l
  have hc := h.sa.con
  have hcg := h.sc.g
  have eg : (grownA a c).g.length = a.g.length + c.g.length := by show (a.g ++ c.g).length = _; rw [List.length_append]
  have el : (grownA a c).l = a.l := rfl
  have ec : (grownA a c).con = a.con := rfl
  have ff := firstF_len (varsA (grownA a c)).toNat (grownA a c).l ((grownA a c).i.toNat + 1)
  rw [el] at ff
  unfold ask0 ask1 ask2 startsF staysF safeF
  simp only [List.length_append, frameF, List.length_cons, List.length_nil, gatesF_len, linkF_len, consF, List.length_map, el, ec]
  omega
end Go.Proofs.YtkemmijjpclckaaGreatDoor
namespace Go.Proofs.YtkemmijjpclckaaGreatDoor
open Go Ab Go.RowKit
set_option maxRecDepth 100000
set_option linter.unusedVariables false
set_option linter.unusedSimpArgs false
set_option maxHeartbeats 4000000

/-! ### The document's answer: three values -/
@[reducible] def vU (x : UInt8) : AV := vI .u8 (x.toNat : Int)
def triB (l : List UInt8) : Bool := l.all fun x => decide (x.toNat ≤ 2)
theorem triB_iff {l : List UInt8} : triB l = true ↔ ∀ x ∈ l, x.toNat ≤ 2 := by
  unfold triB
  rw [List.all_eq_true]
  exact forall_congr' fun x => forall_congr' fun _ => decide_eq_true_iff
theorem u8_eqk (x k : UInt8) : ((x.toNat : Int) == (k.toNat : Int)) = decide (x = k) := by
  rw [Bool.eq_iff_iff, beq_iff_eq, decide_eq_true_eq]
  exact ⟨fun h => UInt8.toNat_inj.1 (by omega), fun h => by rw [h]⟩
theorem rIsTri_call (l : List UInt8) (hl : l.length ≤ maxLen) : ACall Tryz.prog 126 [.d (eBy l)] [] (fun r o => r = vB (triB l)) := by
  have hml : maxLen = 9223372036854775807 := rfl
  refine acall_enter Tryz.func126 rfl rfl (Nat.le_of_ble_eq_true rfl) fun C hC hCl hDs hGk => ?_
  refine sat_stop tabOk Tryz.func126 rfl trivial ?_
  refine sat_while (α := Nat) (fun i => [(0, .d (eBy l)), (3, vI .i64 (i : Int))]) (fun _ => []) (fun i => i ≤ l.length ∧ ∀ q (h : q < l.length), q < i → l[q].toNat ≤ 2) (fun i => l.length - i) 0 ⟨Nat.zero_le _, fun q _ h => absurd h (Nat.not_lt_zero q)⟩ ?_ ?_
  · exact fun h => sat_le h hC hCl ⟨⟨_, rfl, .refl _⟩, ⟨_, rfl, .refl _⟩, trivial⟩ trivial rfl rfl (Nat.zero_le _)
  rintro i ⟨hi, hq⟩ ih
  refine sat_branch tabOk Tryz.func126 rfl trivial (fun hb => ?_) (fun hb => ?_)
  · have hb : decide ((i : Int) < (((l.map eU8).length : Nat) : Int)) = true := hb
    rw [decide_eq_true_eq, List.length_map] at hb
    have hlt : i < l.length := by omega
    refine sat_branch tabOk Tryz.func126 rfl (by simp only [andP, and_true, true_and, Int.toNat_natCast, List.length_map, List.length_append, List.length_cons, List.length_nil, List.length_replicate]; omega) (fun h2 => ?_) (fun h2 => ?_)
    · have h2 : decide (((l.getD i 0).toNat : Int) > 2) = true := h2
      rw [decide_eq_true_eq, getD_at (d := 0) hlt] at h2
      refine sat_ret tabOk Tryz.func126 rfl trivial ?_
      have : triB l = false := by
        rw [← Bool.not_eq_true, triB_iff]
        exact fun h => by have := h _ (List.getElem_mem hlt); omega
      rw [this]
      rfl
    · have h2 : decide (((l.getD i 0).toNat : Int) > 2) = false := h2
      rw [decide_eq_false_iff_not, getD_at (d := 0) hlt] at h2
      refine sat_stop tabOk Tryz.func126 rfl trivial ?_
      refine sat_le (ih (i + 1) ⟨by omega, fun q hq2 hqi => ?_⟩ (by omega)) hC hCl ⟨⟨_, rfl, .refl _⟩, ⟨_, rfl, .of (by rw [wrap_id (by omega) (by omega)]; rfl)⟩, trivial⟩ trivial rfl rfl (Nat.zero_le _)
      rcases Nat.lt_or_ge q i with h3 | h3
      · exact hq q hq2 h3
      · obtain rfl : q = i := by omega
        omega
  · have hb : decide ((i : Int) < (((l.map eU8).length : Nat) : Int)) = false := hb
    rw [decide_eq_false_iff_not, List.length_map] at hb
    obtain rfl : i = l.length := by omega
    refine sat_ret tabOk Tryz.func126 rfl trivial ?_
    rw [triB_iff.2 fun x hx => by obtain ⟨q, hq2, rfl⟩ := List.mem_iff_getElem.1 hx; exact hq q hq2 hq2]
    rfl
theorem rNot_call (x : UInt8) : ACall Tryz.prog 150 [vU x] [] (fun r o => r = vU (not3 x)) := by
  refine acall_enter Tryz.func150 rfl rfl (Nat.le_of_ble_eq_true rfl) fun C hC hCl hDs hGk => ?_
  unfold not3
  refine sat_branch tabOk Tryz.func150 rfl trivial (fun h => ?_) (fun h => ?_)
  · have h : ((x.toNat : Int) == ((0 : UInt8).toNat : Int)) = true := h
    rw [u8_eqk, decide_eq_true_eq] at h
    rw [if_pos h]
    exact sat_ret tabOk Tryz.func150 rfl trivial rfl
  have h : ((x.toNat : Int) == ((0 : UInt8).toNat : Int)) = false := h
  rw [u8_eqk, decide_eq_false_iff_not] at h
  rw [if_neg h]
  refine sat_branch tabOk Tryz.func150 rfl trivial (fun h => ?_) (fun h => ?_)
  · have h : ((x.toNat : Int) == ((1 : UInt8).toNat : Int)) = true := h
    rw [u8_eqk, decide_eq_true_eq] at h
    rw [if_pos h]
    exact sat_ret tabOk Tryz.func150 rfl trivial rfl
  have h : ((x.toNat : Int) == ((1 : UInt8).toNat : Int)) = false := h
  rw [u8_eqk, decide_eq_false_iff_not] at h
  rw [if_neg h]
  exact sat_ret tabOk Tryz.func150 rfl trivial rfl
theorem rAnd_call (x y : UInt8) : ACall Tryz.prog 149 [vU x, vU y] [] (fun r o => r = vU (and3 x y)) := by
  refine acall_enter Tryz.func149 rfl rfl (Nat.le_of_ble_eq_true rfl) fun C hC hCl hDs hGk => ?_
  unfold and3
  refine sat_branch tabOk Tryz.func149 rfl trivial (fun h => ?_) (fun h => ?_)
  · have h : ((x.toNat : Int) == ((0 : UInt8).toNat : Int)) = true := h
    rw [u8_eqk, decide_eq_true_eq] at h
    rw [if_pos (.inl h)]
    refine sat_branch tabOk Tryz.func149 rfl trivial (fun _ => ?_) (fun h => by cases h)
    exact sat_ret tabOk Tryz.func149 rfl trivial rfl
  have h : ((x.toNat : Int) == ((0 : UInt8).toNat : Int)) = false := h
  rw [u8_eqk, decide_eq_false_iff_not] at h
  refine sat_branch tabOk Tryz.func149 rfl trivial (fun h2 => ?_) (fun h2 => ?_)
  · have h2 : ((y.toNat : Int) == ((0 : UInt8).toNat : Int)) = true := h2
    rw [u8_eqk, decide_eq_true_eq] at h2
    rw [if_pos (.inr h2)]
    exact sat_ret tabOk Tryz.func149 rfl trivial rfl
  have h2 : ((y.toNat : Int) == ((0 : UInt8).toNat : Int)) = false := h2
  rw [u8_eqk, decide_eq_false_iff_not] at h2
  rw [if_neg (fun hh => hh.elim h h2)]
  refine sat_branch tabOk Tryz.func149 rfl trivial (fun h3 => ?_) (fun h3 => ?_)
  rotate_left
  · have h3 : ((x.toNat : Int) == ((1 : UInt8).toNat : Int)) = false := h3
    rw [u8_eqk, decide_eq_false_iff_not] at h3
    rw [if_neg (fun hh => h3 hh.1)]
    refine sat_branch tabOk Tryz.func149 rfl trivial (fun h => by cases h) (fun _ => ?_)
    exact sat_ret tabOk Tryz.func149 rfl trivial rfl
  have h3 : ((x.toNat : Int) == ((1 : UInt8).toNat : Int)) = true := h3
  rw [u8_eqk, decide_eq_true_eq] at h3
  refine sat_branch tabOk Tryz.func149 rfl trivial (fun h4 => ?_) (fun h4 => ?_)
  · have h4 : ((y.toNat : Int) == ((1 : UInt8).toNat : Int)) = true := h4
    rw [u8_eqk, decide_eq_true_eq] at h4
    rw [if_pos ⟨h3, h4⟩]
    exact sat_ret tabOk Tryz.func149 rfl trivial rfl
  · have h4 : ((y.toNat : Int) == ((1 : UInt8).toNat : Int)) = false := h4
    rw [u8_eqk, decide_eq_false_iff_not] at h4
    rw [if_neg (fun hh => h4 hh.2)]
    exact sat_ret tabOk Tryz.func149 rfl trivial rfl
theorem rLit9_call (v : List UInt8) (l : Int) (hl : I64 l) : ACall Tryz.prog 124 [.d (eBy v), vI .i64 l] [] (fun r o => r = vU (lit3 v l)) := by
  refine acall_enter Tryz.func124 rfl rfl (Nat.le_of_ble_eq_true rfl) fun C hC hCl hDs hGk => ?_
  unfold lit3
  unfold I64 at hl
  refine sat_branch tabOk Tryz.func124 rfl trivial (fun h => ?_) (fun h => ?_)
  · have h : decide (l < 0) = true := h
    rw [decide_eq_true_eq] at h
    rw [if_pos (.inl h)]
    refine sat_branch tabOk Tryz.func124 rfl trivial (fun _ => ?_) (fun h => by cases h)
    exact sat_ret tabOk Tryz.func124 rfl trivial rfl
  have h : decide (l < 0) = false := h
  rw [decide_eq_false_iff_not] at h
  have e1 := @half_w l (by omega) hl.2
  have e2 := @odd_w l (by omega)
  refine sat_branch tabOk Tryz.func124 rfl ⟨by decide, trivial⟩ (fun h2 => ?_) (fun h2 => ?_)
  · have h2 : decide (IntKind.i64.wrap (Int.tdiv l 2) ≥ (((v.map eU8).length : Nat) : Int)) = true := h2
    rw [e1, decide_eq_true_eq, List.length_map] at h2
    rw [if_pos (.inr (by omega))]
    exact sat_ret tabOk Tryz.func124 rfl trivial rfl
  have h2 : decide (IntKind.i64.wrap (Int.tdiv l 2) ≥ (((v.map eU8).length : Nat) : Int)) = false := h2
  rw [e1, decide_eq_false_iff_not, List.length_map] at h2
  rw [if_neg (by omega)]
  refine sat_branch tabOk Tryz.func124 rfl ⟨by decide, trivial⟩ (fun h3 => ?_) (fun h3 => ?_)
  · have h3 : (Int.tmod l 2 == 1) = true := h3
    rw [e2, beq_iff_eq] at h3
    rw [if_pos h3]
    refine sat_call tabOk Tryz.func124 rfl ?_ (rNot_call (v.getD (l / 2).toNat 0)) ⟨.of ?_, trivial⟩ rfl ⟨_, rfl⟩ (by rintro r o rfl; rfl) ?_
    · rw [e1, List.length_map]
      exact ⟨⟨by omega, by omega⟩, by decide, trivial⟩
    · show vU (v.getD (IntKind.i64.wrap (Int.tdiv l 2)).toNat 0) = _
      rw [e1]
    rintro _ o rfl
    exact sat_ret tabOk Tryz.func124 rfl trivial rfl
  · have h3 : (Int.tmod l 2 == 1) = false := h3
    rw [e2, beq_eq_false_iff_ne] at h3
    rw [if_neg h3]
    refine sat_ret tabOk Tryz.func124 rfl ?_ ?_
    · rw [e1, List.length_map]
      exact ⟨⟨by omega, by omega⟩, by decide, trivial⟩
    · rw [e1]
      rfl
end Go.Proofs.YtkemmijjpclckaaGreatDoor
namespace Go.Proofs.YtkemmijjpclckaaGreatDoor
open Go Ab Go.RowKit
set_option maxRecDepth 100000
set_option linter.unusedVariables false
set_option linter.unusedSimpArgs false
set_option maxHeartbeats 4000000

theorem val3_app : ∀ (g h : List P2) (v : List UInt8), val3 (g ++ h) v = val3 h (val3 g v)
  | [], h, v => rfl
  | p :: g, h, v => val3_app g h _
theorem val3_len : ∀ (g : List P2) (v : List UInt8), (val3 g v).length = v.length + g.length
  | [], v => rfl
  | p :: g, v => by rw [val3, val3_len g, List.length_append, List.length_cons]; simp; omega
theorem val3_snoc (g : List P2) {i : Nat} (v : List UInt8) (h : i < g.length) : val3 (g.take (i + 1)) v = val3 (g.take i) v ++ [and3 (lit3 (val3 (g.take i) v) (p2 g i).1) (lit3 (val3 (g.take i) v) (p2 g i).2)] := by
  have e : g[i] = p2 g i := by simp [p2, h]
  rw [List.take_succ_eq_append_getElem h, val3_app, e]
  rfl
theorem not3_ok (x : UInt8) : (not3 x).toNat ≤ 2 := by
  unfold not3
  split
  · decide
  · split <;> decide
theorem and3_ok (x y : UInt8) : (and3 x y).toNat ≤ 2 := by
  unfold and3
  split
  · decide
  · split <;> decide
theorem lit3_ok {v : List UInt8} (h : triB v = true) (l : Int) : (lit3 v l).toNat ≤ 2 := by
  unfold lit3
  split
  · decide
  · rename_i hc
    split
    · exact not3_ok _
    · have hl : (l / 2).toNat < v.length := by omega
      rw [getD_at (d := 0) hl]
      exact triB_iff.1 h _ (List.getElem_mem hl)
theorem val3_ok : ∀ (g : List P2) {v : List UInt8}, triB v = true → triB (val3 g v) = true
  | [], v, h => h
  | p :: g, v, h => val3_ok g (triB_iff.2 fun x hx => by
    rcases List.mem_append.1 hx with hx | hx
    · exact triB_iff.1 h x hx
    · rw [List.mem_singleton.1 hx]
      exact and3_ok _ _)
theorem valA3_ok {g : List P2} {inp st : List UInt8} (hi : triB inp = true) (hs : triB st = true) : triB (valA3 g inp st) = true := by
  refine val3_ok g (triB_iff.2 fun x hx => ?_)
  rcases List.mem_cons.1 hx with rfl | hx
  · decide
  · rcases List.mem_append.1 hx with hx | hx
    · exact triB_iff.1 hi x hx
    · exact triB_iff.1 hs x hx
theorem next3_ok {V : List UInt8} (h : triB V = true) (l : List P2) : triB (next3 l V) = true := by
  refine triB_iff.2 fun x hx => ?_
  unfold next3 at hx
  obtain ⟨p, _, rfl⟩ := List.mem_map.1 hx
  exact lit3_ok h _
theorem next3_len (l : List P2) (V : List UInt8) : (next3 l V).length = l.length := by unfold next3; rw [List.length_map]
@[reducible] def gTr (l : List UInt8) : AObj := gL 138 1 eU8 0 l
theorem rValues9_call (a : Ag) (st inp : List UInt8) (h : AgW a) (hs : st.length = a.l.length) (hi : (inp.length : Int) = a.i) (ts : triB st = true) (ti : triB inp = true) : ACall Tryz.prog 123 [.d (eAg a), .d (eBy st), .d (eBy inp)] [] (fun r o => r = tupOf [.d (eBy (valA3 a.g inp st)), vI .i64 0]) := by
  have hml : maxLen = 9223372036854775807 := rfl
  refine acall_enter Tryz.func123 rfl rfl (Nat.le_of_ble_eq_true rfl) fun C hC hCl hDs hGk => ?_
  have hgl := h.b.g
  have hll := h.b.l
  have hi1 := h.b.i1
  have c1 := rIsTri_call st (by omega)
  have c2 := rIsTri_call inp (by omega)
  rw [ts] at c1
  rw [ti] at c2
  refine sat_call tabOk Tryz.func123 rfl trivial c1 (.refl _) rfl ⟨_, rfl⟩ (by rintro r o rfl; rfl) ?_
  rintro _ o rfl
  refine sat_call tabOk Tryz.func123 rfl trivial c2 (.refl _) rfl ⟨_, rfl⟩ (by rintro r o rfl; rfl) ?_
  rintro _ o rfl
  refine sat_branch tabOk Tryz.func123 rfl trivial (fun h => by cases h) (fun _ => ?_)
  refine sat_branch tabOk Tryz.func123 rfl trivial (fun h => by cases h) (fun _ => ?_)
  refine sat_branch tabOk Tryz.func123 rfl trivial (fun h1 => ?_) (fun h1 => ?_)
  · have h1 : ((((st.map eU8).length : Nat) : Int) != (((a.l.map eP2).length : Nat) : Int)) = true := h1
    rw [bne_iff_ne, List.length_map, List.length_map] at h1
    omega
  refine sat_branch tabOk Tryz.func123 rfl trivial (fun h2 => ?_) (fun h2 => ?_)
  · have h2 : ((((inp.map eU8).length : Nat) : Int) != a.i) = true := h2
    rw [bne_iff_ne, List.length_map] at h2
    omega
  refine sat_steps 4 tabOk Tryz.func123 rfl trivial ?_
  refine sat_litG _ tabOk rfl rfl rfl rfl rfl trivial rfl ?_
  refine sat_stop tabOk Tryz.func123 rfl ?nd ?_
  case nd => exact (by simp only [andP, and_true, true_and, Int.toNat_natCast, List.length_map, List.length_append, List.length_cons, List.length_nil, List.length_replicate]; omega)
  refine sat_while (α := Nat) (fun i => [(3, .ptr 0 0), (10, .gs 1), (11, vI .i64 (i : Int))]) (fun i => [some (bAg a), some (gTr (val3 (a.g.take i) (0 :: (inp ++ st))))]) (fun i => i ≤ a.g.length) (fun i => a.g.length - i) 0 (Nat.zero_le _) ?_ ?_
  · refine fun h => sat_le h hC hCl ⟨⟨_, rfl, .refl _⟩, ⟨_, rfl, .refl _⟩, ⟨_, rfl, .refl _⟩, trivial⟩ ⟨.refl _, .gL ?_, trivial⟩ rfl rfl (Nat.zero_le _)
    simp [val3]
    rfl
  rintro i hi2 ih
  have hvl : (val3 (a.g.take i) (0 :: (inp ++ st))).length = inp.length + st.length + i + 1 := by
    rw [val3_len, List.length_cons, List.length_append, List.length_take]
    omega
  refine sat_branch tabOk Tryz.func123 rfl trivial (fun hb => ?_) (fun hb => ?_)
  · have hb : decide ((i : Int) < (((a.g.map eP2).length : Nat) : Int)) = true := hb
    rw [decide_eq_true_eq, List.length_map] at hb
    have hlt : i < a.g.length := by omega
    have hst := val3_snoc a.g (0 :: (inp ++ st)) hlt
    have ih := ih (i + 1) (by omega) (by omega)
    rw [hst] at ih
    have hw := h.g _ (p2_mem hlt)
    clear hst
    generalize val3 (a.g.take i) (0 :: (inp ++ st)) = V at *
    refine sat_drawT 19 tabOk Tryz.func123 rfl rfl trivial (by kernel_rfl) ?_
    refine ds_callL tabOk rfl (by simp only [andP, and_true, true_and, Int.toNat_natCast, List.length_map, List.length_append, List.length_cons, List.length_nil, List.length_replicate]; omega) (rLit9_call V (p2 a.g i).1 hw.1) (callFunc_run Tryz.func124 rfl rfl) (by rintro r o rfl; rfl) ⟨.inr ⟨1, 138, 1, _, _, _, rfl, rfl, rfl, map_rd eU8 0 _⟩, .inl (.refl _), trivial⟩ rfl rfl ⟨_, rfl⟩ ?_
    refine ds_callL tabOk rfl (by simp only [andP, and_true, true_and, Int.toNat_natCast, List.length_map, List.length_append, List.length_cons, List.length_nil, List.length_replicate]; omega) (rLit9_call V (p2 a.g i).2 hw.2) (callFunc_run Tryz.func124 rfl rfl) (by rintro r o rfl; rfl) ⟨.inr ⟨1, 138, 1, _, _, _, rfl, rfl, rfl, map_rd eU8 0 _⟩, .inl (.refl _), trivial⟩ rfl rfl ⟨_, rfl⟩ ?_
    refine ds_call tabOk rfl trivial (rAnd_call (lit3 V (p2 a.g i).1) (lit3 V (p2 a.g i).2)) (callFunc_run Tryz.func149 rfl rfl) (by rintro r o rfl; rfl) (.refl _) rfl rfl ⟨_, rfl⟩ ?_
    refine ds_lit tabOk rfl rfl rfl rfl rfl rfl rfl ?_
    refine ds_done tabOk rfl trivial ?_
    refine sat_stop tabOk Tryz.func123 rfl (by simp only [andP, and_true, true_and, Int.toNat_natCast, List.length_map, List.length_append, List.length_cons, List.length_nil, List.length_replicate, hvl]; omega) ?_
    refine sat_le ih hC hCl ⟨⟨_, rfl, .refl _⟩, ⟨_, rfl, .refl _⟩, ⟨_, rfl, .of (by rw [wrap_id (by omega) (by omega)]; rfl)⟩, trivial⟩ ⟨.refl _, .gL ?_, trivial⟩ rfl rfl (Nat.zero_le _)
    rw [List.map_append]
    rfl
  · have hb : decide ((i : Int) < (((a.g.map eP2).length : Nat) : Int)) = false := hb
    rw [decide_eq_false_iff_not, List.length_map] at hb
    obtain rfl : i = a.g.length := by omega
    rw [List.take_length]
    refine sat_freeze 1 rfl ?_
    exact sat_ret tabOk Tryz.func123 rfl trivial rfl
theorem rlits9_call (v : List UInt8) (l : List Int) (hl : ∀ x ∈ l, I64 x) (hn : l.length ≤ 1000000) : ACall Tryz.prog 125 [.d (eBy v), .d (eIs l)] [] (fun r o => r = .d (eBy (l.map (lit3 v)))) := by
  refine acall_enter Tryz.func125 rfl rfl (Nat.le_of_ble_eq_true rfl) fun C hC hCl hDs hGk => ?_
  refine sat_stop tabOk Tryz.func125 rfl trivial ?_
  refine sat_own (e := 138) (s := 1) (t := 5) (.inl rfl) (fun i => eU8 (([] : List UInt8).getD i 0)) ?_
  refine sat_while (α := Nat) (fun i => [(0, .d (eBy v)), (1, .d (eIs l)), (5, .gs 0), (6, vI .i64 (i : Int))]) (fun i => [some (gTr ((l.take i).map (lit3 v)))]) (fun i => i ≤ l.length) (fun i => l.length - i) 0 (Nat.zero_le _) ?_ ?_
  · exact fun h => sat_le h hC hCl ⟨⟨_, rfl, .refl _⟩, ⟨_, rfl, .refl _⟩, ⟨_, rfl, .refl _⟩, ⟨_, rfl, .refl _⟩, trivial⟩ ⟨.gL rfl, trivial⟩ rfl rfl (Nat.zero_le _)
  rintro i hi ih
  refine sat_branch tabOk Tryz.func125 rfl trivial (fun hb => ?_) (fun hb => ?_)
  · have hb : decide ((i : Int) < (((l.map eI).length : Nat) : Int)) = true := hb
    rw [decide_eq_true_eq, List.length_map] at hb
    have hlt : i < l.length := by omega
    have hm : l.getD i 0 ∈ l := by rw [getD_at (d := 0) hlt]; exact List.getElem_mem hlt
    refine sat_call tabOk Tryz.func125 rfl (by simp only [andP, and_true, true_and, Int.toNat_natCast, List.length_map, List.length_append, List.length_cons, List.length_nil, List.length_replicate]; omega) (rLit9_call v (l.getD i 0) (hl _ hm)) (.refl _) rfl ⟨_, rfl⟩ (by rintro r o rfl; rfl) ?_
    rintro _ o rfl
    refine sat_stop tabOk Tryz.func125 rfl (by simp only [andP, and_true, true_and, Int.toNat_natCast, List.length_map, List.length_append, List.length_cons, List.length_nil, List.length_replicate, List.length_take]; omega) ?_
    refine sat_le (ih (i + 1) (by omega) (by omega)) hC hCl ⟨⟨_, rfl, .refl _⟩, ⟨_, rfl, .refl _⟩, ⟨_, rfl, .refl _⟩, ⟨_, rfl, .of (by rw [wrap_id (by omega) (by omega)]; rfl)⟩, trivial⟩ ⟨.gL ?_, trivial⟩ rfl rfl (Nat.zero_le _)
    rw [List.take_succ_eq_append_getElem hlt, List.map_append, List.map_append, ← getD_at (d := 0) hlt]
    rfl
  · have hb : decide ((i : Int) < (((l.map eI).length : Nat) : Int)) = false := hb
    rw [decide_eq_false_iff_not, List.length_map] at hb
    obtain rfl : i = l.length := by omega
    rw [List.take_length]
    refine sat_freeze 0 rfl ?_
    exact sat_ret tabOk Tryz.func125 rfl trivial rfl
@[reducible] def eU3 (x y z : List UInt8) : D := .ag [eBy x, eBy y, eBy z]
@[reducible] def outs3 (a : Ag) (V : List UInt8) : D := eU3 (a.outs.map (lit3 V)) (a.bad.map (lit3 V)) (a.con.map (lit3 V))
theorem rStep9_call (a : Ag) (st inp : List UInt8) (h : AgW a) (hs : st.length = a.l.length) (hi : (inp.length : Int) = a.i) (ts : triB st = true) (ti : triB inp = true) (ho : a.outs.length ≤ 1000000 ∧ a.bad.length ≤ 1000000 ∧ a.con.length ≤ 1000000) : ACall Tryz.prog 75 [.d (eAg a), .d (eBy st), .d (eBy inp)] [] (fun r o => r = tupOf [.d (eBy (next3 a.l (valA3 a.g inp st))), .d (outs3 a (valA3 a.g inp st)), vI .i64 0]) := by
  refine acall_enter Tryz.func75 rfl rfl (Nat.le_of_ble_eq_true rfl) fun C hC hCl hDs hGk => ?_
  have hll := h.b.l
  refine sat_call tabOk Tryz.func75 rfl trivial (rValues9_call a st inp h hs hi ts ti) (.refl _) rfl ⟨_, rfl⟩ (by rintro r o rfl; rfl) ?_
  rintro _ o rfl
  generalize valA3 a.g inp st = V
  refine sat_branch tabOk Tryz.func75 rfl trivial (fun h => by cases h) (fun _ => ?_)
  refine sat_stop tabOk Tryz.func75 rfl trivial ?_
  refine sat_own (e := 138) (s := 1) (t := 11) (.inl rfl) (fun i => eU8 (([] : List UInt8).getD i 0)) ?_
  refine sat_while (α := Nat) (fun i => [(3, .ptr 0 0), (7, .ptr 1 0), (9, .d (eBy V)), (11, .gs 2), (12, vI .i64 (i : Int))]) (fun i => [some (bAg a), some (.cells 139 [.d (.v (.slice none 0 0)), .d (.v (.slice none 0 0)), .d (.v (.slice none 0 0))]), some (gTr ((a.l.take i).map fun p => lit3 V p.1))]) (fun i => i ≤ a.l.length) (fun i => a.l.length - i) 0 (Nat.zero_le _) ?_ ?_
  · exact fun h => sat_le h hC hCl ⟨⟨_, rfl, .refl _⟩, ⟨_, rfl, .refl _⟩, ⟨_, rfl, .refl _⟩, ⟨_, rfl, .refl _⟩, ⟨_, rfl, .refl _⟩, trivial⟩ ⟨.refl _, .refl _, .gL rfl, trivial⟩ rfl rfl (Nat.zero_le _)
  rintro i hi2 ih
  refine sat_branch tabOk Tryz.func75 rfl trivial (fun hb => ?_) (fun hb => ?_)
  · have hb : decide ((i : Int) < (((a.l.map eP2).length : Nat) : Int)) = true := hb
    rw [decide_eq_true_eq, List.length_map] at hb
    have hlt : i < a.l.length := by omega
    refine sat_call tabOk Tryz.func75 rfl (by simp only [andP, and_true, true_and, Int.toNat_natCast, List.length_map, List.length_append, List.length_cons, List.length_nil, List.length_replicate]; omega) (rLit9_call V (p2 a.l i).1 (h.l _ (p2_mem hlt))) (.refl _) rfl ⟨_, rfl⟩ (by rintro r o rfl; rfl) ?_
    rintro _ o rfl
    refine sat_stop tabOk Tryz.func75 rfl (by simp only [andP, and_true, true_and, Int.toNat_natCast, List.length_map, List.length_append, List.length_cons, List.length_nil, List.length_replicate, List.length_take]; omega) ?_
    refine sat_le (ih (i + 1) (by omega) (by omega)) hC hCl ⟨⟨_, rfl, .refl _⟩, ⟨_, rfl, .refl _⟩, ⟨_, rfl, .refl _⟩, ⟨_, rfl, .refl _⟩, ⟨_, rfl, .of (by rw [wrap_id (by omega) (by omega)]; rfl)⟩, trivial⟩ ⟨.refl _, .refl _, .gL ?_, trivial⟩ rfl rfl (Nat.zero_le _)
    rw [List.take_succ_eq_append_getElem hlt, List.map_append, List.map_append]
    simp only [List.map_cons, List.map_nil]
    rw [show a.l[i] = p2 a.l i by simp [p2, hlt]]
    rfl
  · have hb : decide ((i : Int) < (((a.l.map eP2).length : Nat) : Int)) = false := hb
    rw [decide_eq_false_iff_not, List.length_map] at hb
    obtain rfl : i = a.l.length := by omega
    simp only [List.take_length]
    refine sat_freeze 2 rfl ?_
    refine sat_drawT 15 tabOk Tryz.func75 rfl rfl trivial (by kernel_rfl) ?_
    refine ds_call tabOk rfl trivial (rlits9_call V a.outs h.outs ho.1) (callFunc_run Tryz.func125 rfl rfl) (by rintro r o rfl; rfl) (.refl _) rfl rfl ⟨_, rfl⟩ ?_
    refine ds_call tabOk rfl trivial (rlits9_call V a.bad h.bad ho.2.1) (callFunc_run Tryz.func125 rfl rfl) (by rintro r o rfl; rfl) (.refl _) rfl rfl ⟨_, rfl⟩ ?_
    refine ds_call tabOk rfl trivial (rlits9_call V a.con h.con ho.2.2) (callFunc_run Tryz.func125 rfl rfl) (by rintro r o rfl; rfl) (.refl _) rfl rfl ⟨_, rfl⟩ ?_
    refine ds_done tabOk rfl trivial ?_
    exact sat_ret tabOk Tryz.func75 rfl trivial rfl
end Go.Proofs.YtkemmijjpclckaaGreatDoor
namespace Go.Proofs.YtkemmijjpclckaaGreatDoor
open Go Ab Go.RowKit
set_option maxRecDepth 100000
set_option linter.unusedVariables false
set_option linter.unusedSimpArgs false
set_option maxHeartbeats 4000000

/-! ### Traces -/
structure Tc where
  bad : Int
  init : List UInt8
  ins : List (List UInt8)
  deriving Inhabited
@[reducible] def eByss (l : List (List UInt8)) : D := eL 1 eBy [] l
@[reducible] def eTc (t : Tc) : D := .ag [eI t.bad, eBy t.init, eByss t.ins]
@[reducible] def bTc (t : Tc) : AObj := .cells 58 [.d (eI t.bad), .d (eBy t.init), .d (eByss t.ins)]
/-- Sizes that are small. -/
structure TcB (t : Tc) : Prop where
  init : t.init.length ≤ 1000
  ins : t.ins.length ≤ 1000
  row : ∀ x ∈ t.ins, x.length ≤ 1000
/-- A right trace. -/
structure R10 (a : Ag) (t : Tc) : Prop where
  ti : triB t.init = true
  b0 : 0 ≤ t.bad
  b1 : t.bad < a.bad.length
  il : t.init.length = a.l.length
  rs : ∀ j (h : j < a.l.length), a.l[j].2 < 2 → ((t.init.getD j 0).toNat : Int) = a.l[j].2
  is : ∀ x ∈ t.ins, triB x = true ∧ (x.length : Int) = a.i
theorem rRight10_call (a : Ag) (t : Tc) (ht : TcB t) (hl : a.l.length ≤ 1000000) : ACall Tryz.prog 76 [.d (eAg a), .d (eTc t)] [] (fun r o => ∃ x : Bool, r = vB x ∧ (x = true → R10 a t)) := by
  have hml : maxLen = 9223372036854775807 := rfl
  refine acall_enter Tryz.func76 rfl rfl (Nat.le_of_ble_eq_true rfl) fun C hC hCl hDs hGk => ?_
  have hti := ht.init
  have htn := ht.ins
  refine sat_call tabOk Tryz.func76 rfl trivial (rIsTri_call t.init (by omega)) (.refl _) rfl ⟨_, rfl⟩ (by rintro r o rfl; rfl) ?_
  rintro _ o rfl
  cases q0 : triB t.init with
  | false =>
    repeat refine sat_branch tabOk Tryz.func76 rfl trivial (fun _ => ?_) (fun h => by cases h)
    exact sat_ret tabOk Tryz.func76 rfl trivial ⟨false, rfl, fun h => by cases h⟩
  | true =>
  refine sat_branch tabOk Tryz.func76 rfl trivial (fun h => by cases h) (fun _ => ?_)
  refine sat_branch tabOk Tryz.func76 rfl trivial (fun h1 => ?_) (fun h1 => ?_)
  · repeat refine sat_branch tabOk Tryz.func76 rfl trivial (fun _ => ?_) (fun h => by cases h)
    exact sat_ret tabOk Tryz.func76 rfl trivial ⟨false, rfl, fun h => by cases h⟩
  have h1 : decide (t.bad < 0) = false := h1
  rw [decide_eq_false_iff_not] at h1
  refine sat_branch tabOk Tryz.func76 rfl trivial (fun h2 => ?_) (fun h2 => ?_)
  · repeat refine sat_branch tabOk Tryz.func76 rfl trivial (fun _ => ?_) (fun h => by cases h)
    exact sat_ret tabOk Tryz.func76 rfl trivial ⟨false, rfl, fun h => by cases h⟩
  have h2 : decide (t.bad ≥ (((a.bad.map eI).length : Nat) : Int)) = false := h2
  rw [decide_eq_false_iff_not, List.length_map] at h2
  refine sat_branch tabOk Tryz.func76 rfl trivial (fun h3 => ?_) (fun h3 => ?_)
  · repeat refine sat_branch tabOk Tryz.func76 rfl trivial (fun _ => ?_) (fun h => by cases h)
    exact sat_ret tabOk Tryz.func76 rfl trivial ⟨false, rfl, fun h => by cases h⟩
  refine sat_branch tabOk Tryz.func76 rfl trivial (fun h4 => ?_) (fun h4 => ?_)
  · repeat refine sat_branch tabOk Tryz.func76 rfl trivial (fun _ => ?_) (fun h => by cases h)
    exact sat_ret tabOk Tryz.func76 rfl trivial ⟨false, rfl, fun h => by cases h⟩
  refine sat_branch tabOk Tryz.func76 rfl trivial (fun h5 => ?_) (fun h5 => ?_)
  · exact sat_ret tabOk Tryz.func76 rfl trivial ⟨false, rfl, fun h => by cases h⟩
  have h5 : ((((t.init.map eU8).length : Nat) : Int) != (((a.l.map eP2).length : Nat) : Int)) = false := h5
  rw [bne_eq_false_iff_eq, List.length_map, List.length_map] at h5
  refine sat_stop tabOk Tryz.func76 rfl trivial ?_
  refine sat_while (α := Nat) (fun j => [(2, .ptr 0 0), (3, .ptr 1 0), (6, vI .i64 (j : Int))]) (fun _ => [some (bAg a), some (bTc t)]) (fun j => j ≤ a.l.length ∧ ∀ q (h : q < a.l.length), q < j → a.l[q].2 < 2 → ((t.init.getD q 0).toNat : Int) = a.l[q].2) (fun j => a.l.length - j) 0 ⟨Nat.zero_le _, fun q _ h => absurd h (Nat.not_lt_zero q)⟩ ?_ ?_
  · exact fun h => sat_le h hC hCl ⟨⟨_, rfl, .refl _⟩, ⟨_, rfl, .refl _⟩, ⟨_, rfl, .refl _⟩, trivial⟩ ⟨.refl _, .refl _, trivial⟩ rfl rfl (Nat.zero_le _)
  rintro j ⟨hj, hq⟩ ih
  refine sat_branch tabOk Tryz.func76 rfl trivial (fun hb => ?_) (fun hb => ?_)
  · have hb : decide ((j : Int) < (((a.l.map eP2).length : Nat) : Int)) = true := hb
    rw [decide_eq_true_eq, List.length_map] at hb
    have hlt : j < a.l.length := by omega
    have next : (a.l[j].2 < 2 → ((t.init.getD j 0).toNat : Int) = a.l[j].2) → ∀ q (h : q < a.l.length), q < j + 1 → a.l[q].2 < 2 → ((t.init.getD q 0).toNat : Int) = a.l[q].2 := fun h q hq2 hqj => by
      rcases Nat.lt_or_ge q j with h3 | h3
      · exact hq q hq2 h3
      · obtain rfl : q = j := by omega
        exact h
    have hp : p2 a.l j = a.l[j] := by simp [p2, hlt]
    rw [← hp] at next
    refine sat_drawT 20 tabOk Tryz.func76 rfl rfl trivial (by kernel_rfl) ?_
    refine ds_branch tabOk rfl (by simp only [andP, and_true, true_and, Int.toNat_natCast, List.length_map, List.length_append, List.length_cons, List.length_nil, List.length_replicate]; omega) (fun h6 => ?_) (fun h6 => ?_)
    rotate_left
    · have h6 : decide ((p2 a.l j).2 < 2) = false := h6
      rw [decide_eq_false_iff_not] at h6
      repeat refine ds_branch tabOk rfl trivial (fun h => by cases h) (fun _ => ?_)
      refine ds_done tabOk rfl trivial ?_
      repeat refine sat_branch tabOk Tryz.func76 rfl trivial (fun h => by cases h) (fun _ => ?_)
      refine sat_stop tabOk Tryz.func76 rfl trivial ?_
      exact sat_le (ih (j + 1) ⟨by omega, next fun h => absurd h h6⟩ (by omega)) hC hCl ⟨⟨_, rfl, .refl _⟩, ⟨_, rfl, .refl _⟩, ⟨_, rfl, .of (by rw [wrap_id (by omega) (by omega)]; rfl)⟩, trivial⟩ ⟨.refl _, .refl _, trivial⟩ rfl rfl (Nat.zero_le _)
    refine ds_done tabOk rfl (by simp only [andP, and_true, true_and, Int.toNat_natCast, List.length_map, List.length_append, List.length_cons, List.length_nil, List.length_replicate]; omega) ?_
    refine sat_branch tabOk Tryz.func76 rfl trivial (fun h7 => ?_) (fun h7 => ?_)
    · exact sat_ret tabOk Tryz.func76 rfl trivial ⟨false, rfl, fun h => by cases h⟩
    · have h7 : (IntKind.i64.wrap ((t.init.getD j 0).toNat : Int) != (p2 a.l j).2) = false := h7
      have hx := (t.init.getD j 0).toNat_lt
      rw [wrap_id (by omega) (by omega), bne_eq_false_iff_eq] at h7
      refine sat_stop tabOk Tryz.func76 rfl trivial ?_
      exact sat_le (ih (j + 1) ⟨by omega, next fun h => h7⟩ (by omega)) hC hCl ⟨⟨_, rfl, .refl _⟩, ⟨_, rfl, .refl _⟩, ⟨_, rfl, .of (by rw [wrap_id (by omega) (by omega)]; rfl)⟩, trivial⟩ ⟨.refl _, .refl _, trivial⟩ rfl rfl (Nat.zero_le _)
  have hb : decide ((j : Int) < (((a.l.map eP2).length : Nat) : Int)) = false := hb
  rw [decide_eq_false_iff_not, List.length_map] at hb
  obtain rfl : j = a.l.length := by omega
  clear ih hb
  refine sat_stop tabOk Tryz.func76 rfl trivial ?_
  refine sat_while (α := Nat) (fun j => [(2, .ptr 0 0), (3, .ptr 1 0), (7, vI .i64 (j : Int))]) (fun _ => [some (bAg a), some (bTc t)]) (fun j => j ≤ t.ins.length ∧ ∀ q (h : q < t.ins.length), q < j → triB t.ins[q] = true ∧ (t.ins[q].length : Int) = a.i) (fun j => t.ins.length - j) 0 ⟨Nat.zero_le _, fun q _ h => absurd h (Nat.not_lt_zero q)⟩ ?_ ?_
  · exact fun h => sat_le h hC hCl ⟨⟨_, rfl, .refl _⟩, ⟨_, rfl, .refl _⟩, ⟨_, rfl, .refl _⟩, trivial⟩ ⟨.refl _, .refl _, trivial⟩ rfl rfl (Nat.zero_le _)
  rintro j ⟨hj2, hq2⟩ ih
  refine sat_branch tabOk Tryz.func76 rfl trivial (fun hb => ?_) (fun hb => ?_)
  · have hb : decide ((j : Int) < (((t.ins.map eBy).length : Nat) : Int)) = true := hb
    rw [decide_eq_true_eq, List.length_map] at hb
    have hlt : j < t.ins.length := by omega
    have hrow : (t.ins.getD j []).length ≤ 1000 := by rw [getD_at (d := []) hlt]; exact ht.row _ (List.getElem_mem hlt)
    refine sat_call tabOk Tryz.func76 rfl (by simp only [andP, and_true, true_and, Int.toNat_natCast, List.length_map, List.length_append, List.length_cons, List.length_nil, List.length_replicate]; omega) (rIsTri_call (t.ins.getD j []) (by omega)) (.refl _) rfl ⟨_, rfl⟩ (by rintro r o rfl; rfl) ?_
    rintro _ o rfl
    cases q1 : triB (t.ins.getD j []) with
    | false =>
      refine sat_drawT 11 tabOk Tryz.func76 rfl rfl trivial (by kernel_rfl) ?_
      repeat refine ds_branch tabOk rfl trivial (fun _ => ?_) (fun h => by cases h)
      refine ds_done tabOk rfl trivial ?_
      repeat refine sat_branch tabOk Tryz.func76 rfl trivial (fun _ => ?_) (fun h => by cases h)
      exact sat_ret tabOk Tryz.func76 rfl trivial ⟨false, rfl, fun h => by cases h⟩
    | true =>
      refine sat_drawT 11 tabOk Tryz.func76 rfl rfl trivial (by kernel_rfl) ?_
      refine ds_branch tabOk rfl trivial (fun h => by cases h) (fun _ => ?_)
      refine ds_done tabOk rfl (by simp only [andP, and_true, true_and, Int.toNat_natCast, List.length_map, List.length_append, List.length_cons, List.length_nil, List.length_replicate]; omega) ?_
      refine sat_branch tabOk Tryz.func76 rfl trivial (fun h7 => ?_) (fun h7 => ?_)
      · exact sat_ret tabOk Tryz.func76 rfl trivial ⟨false, rfl, fun h => by cases h⟩
      · have h7 : (((((t.ins.getD j []).map eU8).length : Nat) : Int) != a.i) = false := h7
        rw [bne_eq_false_iff_eq, List.length_map, getD_at (d := []) hlt] at h7
        rw [getD_at (d := []) hlt] at q1
        refine sat_stop tabOk Tryz.func76 rfl trivial ?_
        refine sat_le (ih (j + 1) ⟨by omega, fun q hq3 hqj => ?_⟩ (by omega)) hC hCl ⟨⟨_, rfl, .refl _⟩, ⟨_, rfl, .refl _⟩, ⟨_, rfl, .of (by rw [wrap_id (by omega) (by omega)]; rfl)⟩, trivial⟩ ⟨.refl _, .refl _, trivial⟩ rfl rfl (Nat.zero_le _)
        rcases Nat.lt_or_ge q j with h3 | h3
        · exact hq2 q hq3 h3
        · obtain rfl : q = j := by omega
          exact ⟨q1, h7⟩
  · have hb : decide ((j : Int) < (((t.ins.map eBy).length : Nat) : Int)) = false := hb
    rw [decide_eq_false_iff_not, List.length_map] at hb
    obtain rfl : j = t.ins.length := by omega
    refine sat_ret tabOk Tryz.func76 rfl trivial ⟨true, rfl, fun _ => ⟨q0, by omega, by omega, by omega, fun q h => hq q h h, fun x hx => ?_⟩⟩
    obtain ⟨q, hq3, rfl⟩ := List.mem_iff_getElem.1 hx
    exact hq2 q hq3 hq3
theorem rMany10_call (l : List UInt8) (hl : l.length ≤ maxLen) : ACall Tryz.prog 151 [.d (eBy l)] [] (fun r o => ∃ z : Int, r = vI .i64 z) := by
  have hml : maxLen = 9223372036854775807 := rfl
  refine acall_enter Tryz.func151 rfl rfl (Nat.le_of_ble_eq_true rfl) fun C hC hCl hDs hGk => ?_
  refine sat_stop tabOk Tryz.func151 rfl trivial ?_
  refine sat_while (α := Nat × Int) (fun s => [(0, .d (eBy l)), (3, vI .i64 s.2), (4, vI .i64 (s.1 : Int))]) (fun _ => []) (fun s => s.1 ≤ l.length) (fun s => l.length - s.1) (0, 0) (Nat.zero_le _) ?_ ?_
  · exact fun h => sat_le h hC hCl ⟨⟨_, rfl, .refl _⟩, ⟨_, rfl, .refl _⟩, ⟨_, rfl, .refl _⟩, trivial⟩ trivial rfl rfl (Nat.zero_le _)
  rintro ⟨i, z⟩ hi ih
  simp only at hi ih ⊢
  refine sat_branch tabOk Tryz.func151 rfl trivial (fun hb => ?_) (fun hb => ?_)
  · have hb : decide ((i : Int) < (((l.map eU8).length : Nat) : Int)) = true := hb
    rw [decide_eq_true_eq, List.length_map] at hb
    refine sat_branch tabOk Tryz.func151 rfl (by simp only [andP, and_true, true_and, Int.toNat_natCast, List.length_map, List.length_append, List.length_cons, List.length_nil, List.length_replicate]; omega) (fun h2 => ?_) (fun h2 => ?_)
    · refine sat_stop tabOk Tryz.func151 rfl trivial ?_
      exact sat_le (ih (i + 1, IntKind.i64.wrap (z + 1)) (by simp only; omega) (by simp only; omega)) hC hCl ⟨⟨_, rfl, .refl _⟩, ⟨_, rfl, .refl _⟩, ⟨_, rfl, .of (by rw [wrap_id (by omega) (by omega)]; rfl)⟩, trivial⟩ trivial rfl rfl (Nat.zero_le _)
    · refine sat_stop tabOk Tryz.func151 rfl trivial ?_
      exact sat_le (ih (i + 1, z) (by simp only; omega) (by simp only; omega)) hC hCl ⟨⟨_, rfl, .refl _⟩, ⟨_, rfl, .refl _⟩, ⟨_, rfl, .of (by rw [wrap_id (by omega) (by omega)]; rfl)⟩, trivial⟩ trivial rfl rfl (Nat.zero_le _)
  · exact sat_ret tabOk Tryz.func151 rfl trivial ⟨_, rfl⟩
theorem rHoles_call (t : Tc) (ht : TcB t) : ACall Tryz.prog 127 [.d (eTc t)] [] (fun r o => ∃ z : Int, r = vI .i64 z) := by
  have hml : maxLen = 9223372036854775807 := rfl
  refine acall_enter Tryz.func127 rfl rfl (Nat.le_of_ble_eq_true rfl) fun C hC hCl hDs hGk => ?_
  have hti := ht.init
  have htn := ht.ins
  refine sat_call tabOk Tryz.func127 rfl trivial (rMany10_call t.init (by omega)) (.refl _) rfl ⟨_, rfl⟩ (by rintro r o ⟨z, rfl⟩; rfl) ?_
  rintro _ o ⟨z0, rfl⟩
  refine sat_stop tabOk Tryz.func127 rfl trivial ?_
  refine sat_while (α := Nat × Int) (fun s => [(1, .ptr 0 0), (3, vI .i64 s.2), (4, vI .i64 (s.1 : Int))]) (fun _ => [some (bTc t)]) (fun s => s.1 ≤ t.ins.length) (fun s => t.ins.length - s.1) (0, z0) (Nat.zero_le _) ?_ ?_
  · exact fun h => sat_le h hC hCl ⟨⟨_, rfl, .refl _⟩, ⟨_, rfl, .refl _⟩, ⟨_, rfl, .refl _⟩, trivial⟩ ⟨.refl _, trivial⟩ rfl rfl (Nat.zero_le _)
  rintro ⟨i, z⟩ hi ih
  simp only at hi ih ⊢
  refine sat_branch tabOk Tryz.func127 rfl trivial (fun hb => ?_) (fun hb => ?_)
  · have hb : decide ((i : Int) < (((t.ins.map eBy).length : Nat) : Int)) = true := hb
    rw [decide_eq_true_eq, List.length_map] at hb
    have hlt : i < t.ins.length := by omega
    have hrow : (t.ins.getD i []).length ≤ 1000 := by rw [getD_at (d := []) hlt]; exact ht.row _ (List.getElem_mem hlt)
    refine sat_call tabOk Tryz.func127 rfl (by simp only [andP, and_true, true_and, Int.toNat_natCast, List.length_map, List.length_append, List.length_cons, List.length_nil, List.length_replicate]; omega) (rMany10_call (t.ins.getD i []) (by omega)) (.refl _) rfl ⟨_, rfl⟩ (by rintro r o ⟨z, rfl⟩; rfl) ?_
    rintro _ o ⟨y, rfl⟩
    refine sat_stop tabOk Tryz.func127 rfl trivial ?_
    exact sat_le (ih (i + 1, IntKind.i64.wrap (z + y)) (by simp only; omega) (by simp only; omega)) hC hCl ⟨⟨_, rfl, .refl _⟩, ⟨_, rfl, .refl _⟩, ⟨_, rfl, .of (by rw [wrap_id (by omega) (by omega)]; rfl)⟩, trivial⟩ ⟨.refl _, trivial⟩ rfl rfl (Nat.zero_le _)
  · exact sat_ret tabOk Tryz.func127 rfl trivial ⟨_, rfl⟩
theorem rTotal_call (t : Tc) (ht : TcB t) : ACall Tryz.prog 77 [.d (eTc t)] [] (fun r o => ∃ x : Bool, r = vB x) := by
  refine acall_enter Tryz.func77 rfl rfl (Nat.le_of_ble_eq_true rfl) fun C hC hCl hDs hGk => ?_
  refine sat_call tabOk Tryz.func77 rfl trivial (rHoles_call t ht) (.refl _) rfl ⟨_, rfl⟩ (by rintro r o ⟨z, rfl⟩; rfl) ?_
  rintro _ o ⟨z, rfl⟩
  exact sat_ret tabOk Tryz.func77 rfl trivial ⟨_, rfl⟩
theorem rSmall10_call (t : Tc) (m : Int) (hn : t.ins.length ≤ maxLen) : ACall Tryz.prog 27 [.d (eTc t), vI .i64 m] [] (fun r o => ∃ x : Bool, r = vB x ∧ (x = true → t.init.length ≤ 60 ∧ (t.ins.length : Int) ≤ m ∧ ∀ x ∈ t.ins, x.length ≤ 60)) := by
  have hml : maxLen = 9223372036854775807 := rfl
  refine acall_enter Tryz.func27 rfl rfl (Nat.le_of_ble_eq_true rfl) fun C hC hCl hDs hGk => ?_
  refine sat_branch tabOk Tryz.func27 rfl trivial (fun h1 => ?_) (fun h1 => ?_)
  · repeat refine sat_branch tabOk Tryz.func27 rfl trivial (fun _ => ?_) (fun h => by cases h)
    exact sat_ret tabOk Tryz.func27 rfl trivial ⟨false, rfl, fun h => by cases h⟩
  have h1 := gt_no (n := 0) (e := eU8) (l := t.init) h1
  refine sat_branch tabOk Tryz.func27 rfl trivial (fun h2 => ?_) (fun h2 => ?_)
  · exact sat_ret tabOk Tryz.func27 rfl trivial ⟨false, rfl, fun h => by cases h⟩
  have h2 := gt_no (n := 0) (e := eBy) (l := t.ins) h2
  refine sat_stop tabOk Tryz.func27 rfl trivial ?_
  refine sat_while (α := Nat) (fun i => [(2, .ptr 0 0), (5, vI .i64 (i : Int))]) (fun _ => [some (bTc t)]) (fun i => i ≤ t.ins.length ∧ ∀ q (h : q < t.ins.length), q < i → t.ins[q].length ≤ 60) (fun i => t.ins.length - i) 0 ⟨Nat.zero_le _, fun q _ h => absurd h (Nat.not_lt_zero q)⟩ ?_ ?_
  · exact fun h => sat_le h hC hCl ⟨⟨_, rfl, .refl _⟩, ⟨_, rfl, .refl _⟩, trivial⟩ ⟨.refl _, trivial⟩ rfl rfl (Nat.zero_le _)
  rintro i ⟨hi, hq⟩ ih
  refine sat_branch tabOk Tryz.func27 rfl trivial (fun hb => ?_) (fun hb => ?_)
  · have hb : decide ((i : Int) < (((t.ins.map eBy).length : Nat) : Int)) = true := hb
    rw [decide_eq_true_eq, List.length_map] at hb
    have hlt : i < t.ins.length := by omega
    refine sat_branch tabOk Tryz.func27 rfl (by simp only [andP, and_true, true_and, Int.toNat_natCast, List.length_map, List.length_append, List.length_cons, List.length_nil, List.length_replicate]; omega) (fun h8 => ?_) (fun h8 => ?_)
    · exact sat_ret tabOk Tryz.func27 rfl trivial ⟨false, rfl, fun h => by cases h⟩
    have h8 : decide (((((t.ins.getD i []).map eU8).length : Nat) : Int) > 60) = false := h8
    rw [decide_eq_false_iff_not, List.length_map, getD_at (d := []) hlt] at h8
    refine sat_stop tabOk Tryz.func27 rfl trivial ?_
    refine sat_le (ih (i + 1) ⟨by omega, fun q hq2 hqi => ?_⟩ (by omega)) hC hCl ⟨⟨_, rfl, .refl _⟩, ⟨_, rfl, .of (by rw [wrap_id (by omega) (by omega)]; rfl)⟩, trivial⟩ ⟨.refl _, trivial⟩ rfl rfl (Nat.zero_le _)
    rcases Nat.lt_or_ge q i with h9 | h9
    · exact hq q hq2 h9
    · obtain rfl : q = i := by omega
      omega
  · have hb : decide ((i : Int) < (((t.ins.map eBy).length : Nat) : Int)) = false := hb
    rw [decide_eq_false_iff_not, List.length_map] at hb
    obtain rfl : i = t.ins.length := by omega
    refine sat_ret tabOk Tryz.func27 rfl trivial ⟨true, rfl, fun _ => ⟨by omega, h2, fun x hx => ?_⟩⟩
    obtain ⟨q, hq2, rfl⟩ := List.mem_iff_getElem.1 hx
    exact hq q hq2 hq2
theorem rFlags_call (l : List UInt8) (hl : l.length ≤ 1000000) : ACall Tryz.prog 78 [.d (eBy l)] [] (fun r o => r = .d (eBls (l.map fun x => x == 1))) := by
  refine acall_enter Tryz.func78 rfl rfl (Nat.le_of_ble_eq_true rfl) fun C hC hCl hDs hGk => ?_
  refine sat_stop tabOk Tryz.func78 rfl trivial ?_
  refine sat_own (e := 4) (s := 1) (t := 3) (.inl rfl) (fun i => eBo (([] : List Bool).getD i false)) ?_
  refine sat_while (α := Nat) (fun i => [(0, .d (eBy l)), (3, .gs 0), (4, vI .i64 (i : Int))]) (fun i => [some (gBo ((l.take i).map fun x => x == 1))]) (fun i => i ≤ l.length) (fun i => l.length - i) 0 (Nat.zero_le _) ?_ ?_
  · exact fun h => sat_le h hC hCl ⟨⟨_, rfl, .refl _⟩, ⟨_, rfl, .refl _⟩, ⟨_, rfl, .refl _⟩, trivial⟩ ⟨.gL rfl, trivial⟩ rfl rfl (Nat.zero_le _)
  rintro i hi ih
  refine sat_branch tabOk Tryz.func78 rfl trivial (fun hb => ?_) (fun hb => ?_)
  · have hb : decide ((i : Int) < (((l.map eU8).length : Nat) : Int)) = true := hb
    rw [decide_eq_true_eq, List.length_map] at hb
    have hlt : i < l.length := by omega
    refine sat_stop tabOk Tryz.func78 rfl (by simp only [andP, and_true, true_and, Int.toNat_natCast, List.length_map, List.length_append, List.length_cons, List.length_nil, List.length_replicate, List.length_take]; omega) ?_
    refine sat_le (ih (i + 1) (by omega) (by omega)) hC hCl ⟨⟨_, rfl, .refl _⟩, ⟨_, rfl, .refl _⟩, ⟨_, rfl, .of (by rw [wrap_id (by omega) (by omega)]; rfl)⟩, trivial⟩ ⟨.gL ?_, trivial⟩ rfl rfl (Nat.zero_le _)
    rw [List.take_succ_eq_append_getElem hlt, List.map_append, List.map_append, ← getD_at (d := 0) hlt]
    show _ ++ [eBo (((l.getD i 0).toNat : Int) == ((1 : UInt8).toNat : Int))] = _
    rw [u8_eqk]
    rfl
  · have hb : decide ((i : Int) < (((l.map eU8).length : Nat) : Int)) = false := hb
    rw [decide_eq_false_iff_not, List.length_map] at hb
    obtain rfl : i = l.length := by omega
    rw [List.take_length]
    refine sat_freeze 0 rfl ?_
    exact sat_ret tabOk Tryz.func78 rfl trivial rfl
end Go.Proofs.YtkemmijjpclckaaGreatDoor
namespace Go.Proofs.YtkemmijjpclckaaGreatDoor
open Go Ab Go.RowKit
set_option maxRecDepth 100000
set_option linter.unusedVariables false
set_option linter.unusedSimpArgs false
set_option maxHeartbeats 8000000

/-! ### Replaying -/
def st3 (a : Ag) (t : Tc) : Nat → List UInt8
  | 0 => t.init
  | i + 1 => next3 a.l (valA3 a.g (t.ins.getD i []) (st3 a t i))
def sts3 (a : Ag) (t : Tc) (n : Nat) : List (List UInt8) := (List.range (n + 1)).map (st3 a t)
theorem sts3_len (a : Ag) (t : Tc) (n : Nat) : (sts3 a t n).length = n + 1 := by unfold sts3; rw [List.length_map, List.length_range]
theorem sts3_get {a : Ag} {t : Tc} {n i : Nat} (h : i ≤ n) : (sts3 a t n).getD i [] = st3 a t i := by
  unfold sts3
  rw [List.getD_eq_getElem?_getD, List.getElem?_map, List.getElem?_range (by omega)]
  rfl
theorem sts3_snoc (a : Ag) (t : Tc) (n : Nat) : sts3 a t (n + 1) = sts3 a t n ++ [st3 a t (n + 1)] := by
  unfold sts3
  rw [List.range_succ, List.map_append]
  rfl
theorem R10.row {a : Ag} {t : Tc} (h : R10 a t) {i : Nat} (hi : i < t.ins.length) : triB (t.ins.getD i []) = true ∧ ((t.ins.getD i []).length : Int) = a.i := by
  rw [getD_at (d := []) hi]
  exact h.is _ (List.getElem_mem hi)
theorem R10.st {a : Ag} {t : Tc} (h : R10 a t) : ∀ i, i ≤ t.ins.length → triB (st3 a t i) = true ∧ (st3 a t i).length = a.l.length
  | 0, _ => ⟨h.ti, h.il⟩
  | i + 1, hi => by
    have h1 := h.st i (by omega)
    have h2 := h.row (i := i) (by omega)
    exact ⟨next3_ok (valA3_ok h2.1 h1.1) _, next3_len _ _⟩
@[reducible] def gTss (l : List (List UInt8)) : AObj := gL 55 1 eBy [] l
@[reducible] def bU3 (a : Ag) (V : List UInt8) : AObj := .cells 139 [.d (eBy (a.outs.map (lit3 V))), .d (eBy (a.bad.map (lit3 V))), .d (eBy (a.con.map (lit3 V)))]
theorem rStates_call (a : Ag) (t : Tc) (ht : TcB t) (hW : AgW a) (ho : a.outs.length ≤ 1000000 ∧ a.bad.length ≤ 1000000 ∧ a.con.length ≤ 1000000) : ACall Tryz.prog 74 [.d (eAg a), .d (eTc t)] [] (fun r o => r = tupOf [.d (eByss []), vI .i64 7] ∨ (R10 a t ∧ r = tupOf [.d (eByss (sts3 a t t.ins.length)), vI .i64 0])) := by
  have hml : maxLen = 9223372036854775807 := rfl
  refine acall_enter Tryz.func74 rfl rfl (Nat.le_of_ble_eq_true rfl) fun C hC hCl hDs hGk => ?_
  have htn := ht.ins
  have hll := hW.b.l
  refine sat_call tabOk Tryz.func74 rfl trivial (rRight10_call a t ht hll) (.refl _) rfl ⟨_, rfl⟩ (by rintro r o ⟨x, rfl, -⟩; rfl) ?_
  rintro _ o ⟨x, rfl, hR⟩
  cases x with
  | false =>
    refine sat_branch tabOk Tryz.func74 rfl trivial (fun _ => ?_) (fun h => by cases h)
    exact sat_retL tabOk Tryz.func74 rfl trivial hC hCl (r2 := tupOf [.d (eByss []), vI .i64 7]) (.tp ⟨.nil, .refl _, trivial⟩) (o2 := []) trivial rfl rfl (Nat.zero_le _) (.inl rfl)
  | true =>
  have hR := hR rfl
  refine sat_branch tabOk Tryz.func74 rfl trivial (fun h => by cases h) (fun _ => ?_)
  refine sat_steps 6 tabOk Tryz.func74 rfl trivial ?_
  refine sat_litG _ tabOk rfl rfl rfl rfl rfl trivial rfl ?_
  refine sat_stop tabOk Tryz.func74 rfl trivial ?_
  refine sat_while (α := Nat) (fun i => [(2, .ptr 0 0), (3, .ptr 1 0), (7, .gs 2), (8, vI .i64 (i : Int))]) (fun i => [some (bAg a), some (bTc t), some (gTss (sts3 a t i))]) (fun i => i ≤ t.ins.length) (fun i => t.ins.length - i) 0 (Nat.zero_le _) ?_ ?_
  · exact fun h => sat_le h hC hCl ⟨⟨_, rfl, .refl _⟩, ⟨_, rfl, .refl _⟩, ⟨_, rfl, .refl _⟩, ⟨_, rfl, .refl _⟩, trivial⟩ ⟨.refl _, .refl _, .gL rfl, trivial⟩ rfl rfl (Nat.zero_le _)
  rintro i hi ih
  refine sat_branch tabOk Tryz.func74 rfl trivial (fun hb => ?_) (fun hb => ?_)
  · have hb : decide ((i : Int) < (((t.ins.map eBy).length : Nat) : Int)) = true := hb
    rw [decide_eq_true_eq, List.length_map] at hb
    have hlt : i < t.ins.length := by omega
    have ih := ih (i + 1) (by omega) (by omega)
    rw [sts3_snoc] at ih
    have hr := hR.row hlt
    have hs := hR.st i (by omega)
    have hsp := rStep9_call a (st3 a t i) (t.ins.getD i []) hW hs.2 hr.2 hs.1 hr.1 ho
    have hnx : next3 a.l (valA3 a.g (t.ins.getD i []) (st3 a t i)) = st3 a t (i + 1) := rfl
    rw [hnx] at hsp
    have hg := sts3_get (a := a) (t := t) (Nat.le_refl i)
    have hlen := sts3_len a t i
    refine sat_draw1S 18 15 17 (c := none) (a := .dead) (o2 := bU3 a (valA3 a.g (t.ins.getD i []) (st3 a t i))) tabOk Tryz.func74 rfl rfl trivial (by kernel_rfl) (by kernel_rfl) rfl rfl rfl (by kernel_rfl) (by rw [hCl, hC]; exact Nat.zero_le _) rfl rfl rfl rfl rfl rfl
      (fun _ => ds_call tabOk rfl (by simp only [andP, and_true, true_and, Int.toNat_natCast, List.length_map, hlen]; omega) hsp (callFunc_run Tryz.func75 rfl rfl) (by rintro r o rfl; rfl) ⟨.refl _, .of (by rw [← hg]; rfl), .refl _, trivial⟩ rfl rfl ⟨_, rfl⟩ (ds_done tabOk rfl trivial rfl))
      (by rfl) (by rfl) (by rfl) (by rfl) trivial ?_
    refine sat_stop tabOk Tryz.func74 rfl (by simp only [andP, and_true, true_and, Int.toNat_natCast, List.length_map, List.length_append, List.length_cons, List.length_nil, List.length_replicate, hlen]; omega) ?_
    refine sat_le ih hC hCl ⟨⟨_, rfl, .refl _⟩, ⟨_, rfl, .refl _⟩, ⟨_, rfl, .refl _⟩, ⟨_, rfl, .of (by rw [wrap_id (by omega) (by omega)]; rfl)⟩, trivial⟩ ⟨.refl _, .refl _, .gL ?_, trivial⟩ rfl rfl (Nat.zero_le _)
    rw [List.map_append]
    rfl
  · have hb : decide ((i : Int) < (((t.ins.map eBy).length : Nat) : Int)) = false := hb
    rw [decide_eq_false_iff_not, List.length_map] at hb
    obtain rfl : i = t.ins.length := by omega
    refine sat_freeze 2 rfl ?_
    exact sat_ret tabOk Tryz.func74 rfl trivial (.inr ⟨hR, rfl⟩)
theorem rTernary_call (a : Ag) (t : Tc) (ht : TcB t) (hW : AgW a) (ho : a.outs.length ≤ 1000000 ∧ a.bad.length ≤ 1000000 ∧ a.con.length ≤ 1000000) : ACall Tryz.prog 28 [.d (eAg a), .d (eTc t)] [] (fun r o => ∃ z : Int, r = vI .i64 z ∧ (z = 7 ∨ (R10 a t ∧ z = ternL a t.bad t.ins t.init 0))) := by
  have hml : maxLen = 9223372036854775807 := rfl
  refine acall_enter Tryz.func28 rfl rfl (Nat.le_of_ble_eq_true rfl) fun C hC hCl hDs hGk => ?_
  have htn := ht.ins
  refine sat_call tabOk Tryz.func28 rfl trivial (rStates_call a t ht hW ho) (.refl _) rfl ⟨_, rfl⟩ (by rintro r o (rfl | ⟨-, rfl⟩) <;> rfl) ?_
  rintro _ o (rfl | ⟨hR, rfl⟩)
  · refine sat_branch tabOk Tryz.func28 rfl trivial (fun _ => ?_) (fun h => by cases h)
    exact sat_ret tabOk Tryz.func28 rfl trivial ⟨7, rfl, .inl rfl⟩
  obtain ⟨Q, hQ⟩ : ∃ Q, ternL a t.bad t.ins t.init 0 = Q := ⟨_, rfl⟩
  rw [hQ]
  refine sat_branch tabOk Tryz.func28 rfl trivial (fun h => by cases h) (fun _ => ?_)
  refine sat_stop tabOk Tryz.func28 rfl trivial ?_
  refine sat_while (α := Nat × UInt8) (fun s => [(2, .ptr 0 0), (3, .ptr 1 0), (5, .d (eByss (sts3 a t t.ins.length))), (7, vU s.2), (8, vI .i64 (s.1 : Int))]) (fun s => [some (bAg a), some (bTc t)]) (fun s => s.1 ≤ t.ins.length ∧ ternL a t.bad (t.ins.drop s.1) (st3 a t s.1) s.2 = Q) (fun s => t.ins.length - s.1) (0, 0) ⟨Nat.zero_le _, hQ⟩ ?_ ?_
  · exact fun h => sat_le h hC hCl ⟨⟨_, rfl, .refl _⟩, ⟨_, rfl, .refl _⟩, ⟨_, rfl, .refl _⟩, ⟨_, rfl, .refl _⟩, ⟨_, rfl, .refl _⟩, trivial⟩ ⟨.refl _, .refl _, trivial⟩ rfl rfl (Nat.zero_le _)
  rintro ⟨i, last⟩ ⟨hi, hcl⟩ ih
  simp only at hi hcl ih ⊢
  refine sat_branch tabOk Tryz.func28 rfl trivial (fun hb => ?_) (fun hb => ?_)
  rotate_left
  · have hb : decide ((i : Int) < (((t.ins.map eBy).length : Nat) : Int)) = false := hb
    rw [decide_eq_false_iff_not, List.length_map] at hb
    obtain rfl : i = t.ins.length := by omega
    rw [List.drop_length] at hcl
    unfold ternL at hcl
    refine sat_branch tabOk Tryz.func28 rfl trivial (fun h1 => ?_) (fun h1 => ?_)
    · have h1 : ((last.toNat : Int) == ((1 : UInt8).toNat : Int)) = true := h1
      rw [u8_eqk, decide_eq_true_eq] at h1
      rw [if_pos h1] at hcl
      exact sat_ret tabOk Tryz.func28 rfl trivial ⟨0, rfl, .inr ⟨hR, hcl⟩⟩
    · have h1 : ((last.toNat : Int) == ((1 : UInt8).toNat : Int)) = false := h1
      rw [u8_eqk, decide_eq_false_iff_not] at h1
      rw [if_neg h1] at hcl
      exact sat_ret tabOk Tryz.func28 rfl trivial ⟨8, rfl, .inr ⟨hR, hcl⟩⟩
  have hb : decide ((i : Int) < (((t.ins.map eBy).length : Nat) : Int)) = true := hb
  rw [decide_eq_true_eq, List.length_map] at hb
  have hlt : i < t.ins.length := by omega
  have hr := hR.row hlt
  have hs := hR.st i (by omega)
  have hsp := rStep9_call a (st3 a t i) (t.ins.getD i []) hW hs.2 hr.2 hs.1 hr.1 ho
  have hnx : next3 a.l (valA3 a.g (t.ins.getD i []) (st3 a t i)) = st3 a t (i + 1) := rfl
  rw [hnx] at hsp
  have hg := sts3_get (a := a) (t := t) hi
  have hlen := sts3_len a t t.ins.length
  have hb0 := hR.b0
  have hb1 := hR.b1
  have hob := ho.2.1
  have hoc := ho.2.2
  rw [List.drop_eq_getElem_cons hlt, ← getD_at (d := []) hlt] at hcl
  unfold ternL at hcl
  rw [hnx] at hcl
  have ih := fun s => ih (i + 1, s)
  simp only at ih
  refine sat_draw1S 18 15 17 (c := none) (a := .dead) (o2 := bU3 a (valA3 a.g (t.ins.getD i []) (st3 a t i))) tabOk Tryz.func28 rfl rfl trivial (by kernel_rfl) (by kernel_rfl) rfl rfl rfl (by kernel_rfl) (by rw [hCl, hC]; exact Nat.zero_le _) rfl rfl rfl rfl rfl rfl
    (fun _ => ds_call tabOk rfl (by simp only [andP, and_true, true_and, Int.toNat_natCast, List.length_map, hlen]; omega) hsp (callFunc_run Tryz.func75 rfl rfl) (by rintro r o rfl; rfl) ⟨.refl _, .of (by rw [← hg]; rfl), .refl _, trivial⟩ rfl rfl ⟨_, rfl⟩ (ds_done tabOk rfl trivial rfl))
    (by rfl) (by rfl) (by rfl) (by rfl) trivial ?_
  generalize valA3 a.g (t.ins.getD i []) (st3 a t i) = V at *
  have hbv : (a.bad.map (lit3 V)).getD t.bad.toNat 0 = lit3 V (a.bad.getD t.bad.toNat 0) := by
    have hk2 : t.bad.toNat < a.bad.length := by omega
    simp [hk2]
  refine sat_stop tabOk Tryz.func28 rfl ⟨⟨by omega, by rw [List.length_map, List.length_map]; omega⟩, trivial⟩ ?_
  refine sat_while (α := Nat) (fun j => [(2, .ptr 0 0), (3, .ptr 1 0), (5, .d (eByss (sts3 a t t.ins.length))), (7, vU (lit3 V (a.bad.getD t.bad.toNat 0))), (8, vI .i64 (i : Int)), (10, .ptr 2 0), (12, vI .i64 (j : Int))]) (fun _ => [some (bAg a), some (bTc t), some (bU3 a V)]) (fun j => j ≤ a.con.length ∧ ∀ q (h : q < a.con.length), q < j → lit3 V a.con[q] = 1) (fun j => a.con.length - j) 0 ⟨Nat.zero_le _, fun q _ h => absurd h (Nat.not_lt_zero q)⟩ ?_ ?_
  · refine fun h => sat_le h hC hCl ⟨⟨_, rfl, .refl _⟩, ⟨_, rfl, .refl _⟩, ⟨_, rfl, .refl _⟩, ⟨_, rfl, .of ?_⟩, ⟨_, rfl, .refl _⟩, ⟨_, rfl, .refl _⟩, ⟨_, rfl, .refl _⟩, trivial⟩ ⟨.refl _, .refl _, .refl _, trivial⟩ rfl rfl (Nat.zero_le _)
    show vU ((a.bad.map (lit3 V)).getD t.bad.toNat 0) = _
    rw [hbv]
  rintro j ⟨hj, hq⟩ ihj
  refine sat_branch tabOk Tryz.func28 rfl trivial (fun hb2 => ?_) (fun hb2 => ?_)
  · have hb2 : decide ((j : Int) < ((((a.con.map (lit3 V)).map eU8).length : Nat) : Int)) = true := hb2
    rw [decide_eq_true_eq, List.length_map, List.length_map] at hb2
    have hlj : j < a.con.length := by omega
    have e6 : (a.con.map (lit3 V)).getD j 0 = lit3 V a.con[j] := by simp [hlj]
    refine sat_branch tabOk Tryz.func28 rfl (by simp only [andP, and_true, true_and, Int.toNat_natCast, List.length_map, List.length_append, List.length_cons, List.length_nil, List.length_replicate]; omega) (fun h6 => ?_) (fun h6 => ?_)
    · have h6 : ((((a.con.map (lit3 V)).getD j 0).toNat : Int) != ((1 : UInt8).toNat : Int)) = true := h6
      rw [bne, u8_eqk, e6, Bool.not_eq_true', decide_eq_false_iff_not] at h6
      rw [if_neg (by
        rw [Bool.not_eq_true, List.all_eq_false]
        exact ⟨_, List.getElem_mem hlj, by rw [beq_iff_eq]; exact h6⟩)] at hcl
      exact sat_ret tabOk Tryz.func28 rfl trivial ⟨8, rfl, .inr ⟨hR, hcl⟩⟩
    · have h6 : ((((a.con.map (lit3 V)).getD j 0).toNat : Int) != ((1 : UInt8).toNat : Int)) = false := h6
      rw [bne, u8_eqk, e6, Bool.not_eq_false', decide_eq_true_eq] at h6
      refine sat_stop tabOk Tryz.func28 rfl trivial ?_
      refine sat_le (ihj (j + 1) ⟨by omega, fun q hq2 hqj => ?_⟩ (by omega)) hC hCl ⟨⟨_, rfl, .refl _⟩, ⟨_, rfl, .refl _⟩, ⟨_, rfl, .refl _⟩, ⟨_, rfl, .refl _⟩, ⟨_, rfl, .refl _⟩, ⟨_, rfl, .refl _⟩, ⟨_, rfl, .of (by rw [wrap_id (by omega) (by omega)]; rfl)⟩, trivial⟩ ⟨.refl _, .refl _, .refl _, trivial⟩ rfl rfl (Nat.zero_le _)
      rcases Nat.lt_or_ge q j with h7 | h7
      · exact hq q hq2 h7
      · obtain rfl : q = j := by omega
        exact h6
  · have hb2 : decide ((j : Int) < ((((a.con.map (lit3 V)).map eU8).length : Nat) : Int)) = false := hb2
    rw [decide_eq_false_iff_not, List.length_map, List.length_map] at hb2
    obtain rfl : j = a.con.length := by omega
    rw [if_pos (by
      rw [List.all_eq_true]
      intro x hx
      obtain ⟨q, hq2, rfl⟩ := List.mem_iff_getElem.1 hx
      rw [beq_iff_eq]
      exact hq q hq2 hq2)] at hcl
    refine sat_stop tabOk Tryz.func28 rfl trivial ?_
    exact sat_le (ih _ ⟨by omega, hcl⟩ (by omega)) hC hCl ⟨⟨_, rfl, .refl _⟩, ⟨_, rfl, .refl _⟩, ⟨_, rfl, .refl _⟩, ⟨_, rfl, .refl _⟩, ⟨_, rfl, .of (by rw [wrap_id (by omega) (by omega)]; rfl)⟩, trivial⟩ ⟨.refl _, .refl _, trivial⟩ rfl rfl (Nat.zero_le _)
end Go.Proofs.YtkemmijjpclckaaGreatDoor
namespace Go.Proofs.YtkemmijjpclckaaGreatDoor
open Go Ab Go.RowKit
set_option maxRecDepth 100000
set_option linter.unusedVariables false
set_option linter.unusedSimpArgs false
set_option maxHeartbeats 8000000

@[reducible] def bB3 (a : Ag) (V : List Bool) : AObj := .cells 70 [.d (eBls (a.outs.map (litB V))), .d (eBls (a.bad.map (litB V))), .d (eBls (a.con.map (litB V)))]
@[reducible] def flB (l : List UInt8) : List Bool := l.map fun x => x == 1
theorem rWhole_call (a : Ag) (t : Tc) (ht : TcB t) (hW : AgW a) (ho : a.outs.length ≤ 1000000 ∧ a.bad.length ≤ 1000000 ∧ a.con.length ≤ 1000000) : ACall Tryz.prog 29 [.d (eAg a), .d (eTc t)] [] (fun r o => ∃ z : Int, r = vI .i64 z ∧ (z = 7 ∨ (R10 a t ∧ z = wholeL a t.bad (t.ins.map flB) (flB t.init) false))) := by
  have hml : maxLen = 9223372036854775807 := rfl
  refine acall_enter Tryz.func29 rfl rfl (Nat.le_of_ble_eq_true rfl) fun C hC hCl hDs hGk => ?_
  have htn := ht.ins
  have hti := ht.init
  have hll := hW.b.l
  refine sat_call tabOk Tryz.func29 rfl trivial (rRight10_call a t ht hll) (.refl _) rfl ⟨_, rfl⟩ (by rintro r o ⟨x, rfl, -⟩; rfl) ?_
  rintro _ o ⟨x, rfl, hR⟩
  refine sat_call tabOk Tryz.func29 rfl trivial (rTotal_call t ht) (.refl _) rfl ⟨_, rfl⟩ (by rintro r o ⟨x, rfl⟩; rfl) ?_
  rintro _ o ⟨y, rfl⟩
  cases x with
  | false =>
    repeat refine sat_branch tabOk Tryz.func29 rfl trivial (fun _ => ?_) (fun h => by cases h)
    exact sat_ret tabOk Tryz.func29 rfl trivial ⟨7, rfl, .inl rfl⟩
  | true =>
  have hR := hR rfl
  refine sat_branch tabOk Tryz.func29 rfl trivial (fun h => by cases h) (fun _ => ?_)
  cases y with
  | false =>
    refine sat_branch tabOk Tryz.func29 rfl trivial (fun _ => ?_) (fun h => by cases h)
    exact sat_ret tabOk Tryz.func29 rfl trivial ⟨7, rfl, .inl rfl⟩
  | true =>
  refine sat_branch tabOk Tryz.func29 rfl trivial (fun h => by cases h) (fun _ => ?_)
  obtain ⟨Q, hQ⟩ : ∃ Q, wholeL a t.bad (t.ins.map flB) (flB t.init) false = Q := ⟨_, rfl⟩
  rw [hQ]
  have hil := hR.il
  refine sat_call tabOk Tryz.func29 rfl trivial (rFlags_call t.init (by omega)) (.refl _) rfl ⟨_, rfl⟩ (by rintro r o rfl; rfl) ?_
  rintro _ o rfl
  refine sat_stop tabOk Tryz.func29 rfl trivial ?_
  refine sat_while (α := Nat × List Bool × Bool) (fun s => [(2, .ptr 0 0), (3, .ptr 1 0), (7, .d (eBls s.2.1)), (8, vB s.2.2), (9, vI .i64 (s.1 : Int))]) (fun s => [some (bAg a), some (bTc t)]) (fun s => s.1 ≤ t.ins.length ∧ s.2.1.length = a.l.length ∧ wholeL a t.bad ((t.ins.drop s.1).map flB) s.2.1 s.2.2 = Q) (fun s => t.ins.length - s.1) (0, flB t.init, false) ⟨Nat.zero_le _, by simp only [List.length_map]; omega, hQ⟩ ?_ ?_
  · exact fun h => sat_le h hC hCl ⟨⟨_, rfl, .refl _⟩, ⟨_, rfl, .refl _⟩, ⟨_, rfl, .refl _⟩, ⟨_, rfl, .refl _⟩, ⟨_, rfl, .refl _⟩, trivial⟩ ⟨.refl _, .refl _, trivial⟩ rfl rfl (Nat.zero_le _)
  rintro ⟨i, s, last⟩ ⟨hi, hsl, hcl⟩ ih
  simp only at hi hsl hcl ih ⊢
  refine sat_branch tabOk Tryz.func29 rfl trivial (fun hb => ?_) (fun hb => ?_)
  rotate_left
  · have hb : decide ((i : Int) < (((t.ins.map eBy).length : Nat) : Int)) = false := hb
    rw [decide_eq_false_iff_not, List.length_map] at hb
    obtain rfl : i = t.ins.length := by omega
    rw [List.drop_length, List.map_nil] at hcl
    unfold wholeL at hcl
    cases last with
    | true =>
      rw [if_pos rfl] at hcl
      refine sat_branch tabOk Tryz.func29 rfl trivial (fun _ => ?_) (fun h => by cases h)
      exact sat_ret tabOk Tryz.func29 rfl trivial ⟨0, rfl, .inr ⟨hR, hcl⟩⟩
    | false =>
      rw [if_neg (by decide)] at hcl
      refine sat_branch tabOk Tryz.func29 rfl trivial (fun h => by cases h) (fun _ => ?_)
      exact sat_ret tabOk Tryz.func29 rfl trivial ⟨8, rfl, .inr ⟨hR, hcl⟩⟩
  have hb : decide ((i : Int) < (((t.ins.map eBy).length : Nat) : Int)) = true := hb
  rw [decide_eq_true_eq, List.length_map] at hb
  have hlt : i < t.ins.length := by omega
  have hr := hR.row hlt
  have hrow : (t.ins.getD i []).length ≤ 1000 := by rw [getD_at (d := []) hlt]; exact ht.row _ (List.getElem_mem hlt)
  have hsp := rStep8_call a s (flB (t.ins.getD i [])) hW (by omega) (by rw [List.length_map]; omega) ho
  unfold stepAn at hsp
  rw [if_neg (by rw [List.length_map]; omega)] at hsp
  have hfl := rFlags_call (t.ins.getD i []) (by omega)
  have hb0 := hR.b0
  have hb1 := hR.b1
  have hob := ho.2.1
  have hoc := ho.2.2
  rw [List.drop_eq_getElem_cons hlt, ← getD_at (d := []) hlt, List.map_cons] at hcl
  unfold wholeL at hcl
  have ih := fun s => ih (i + 1, s)
  simp only at ih
  have hnl := nextB_len a.l (valA a.g (flB (t.ins.getD i [])) s)
  refine sat_draw1S 16 13 15 (c := none) (a := .dead) (o2 := bB3 a (valA a.g (flB (t.ins.getD i [])) s)) tabOk Tryz.func29 rfl rfl trivial (by kernel_rfl) (by kernel_rfl) rfl rfl rfl (by kernel_rfl) (by rw [hCl, hC]; exact Nat.zero_le _) rfl rfl rfl rfl rfl rfl
    (fun _ => ds_call tabOk rfl (by simp only [andP, and_true, true_and, Int.toNat_natCast, List.length_map, List.length_append, List.length_cons, List.length_nil, List.length_replicate]; omega) hfl (callFunc_run Tryz.func78 rfl rfl) (by rintro r o rfl; rfl) (.refl _) rfl rfl ⟨_, rfl⟩ (ds_call tabOk rfl trivial hsp (callFunc_run Tryz.func33 rfl rfl) (by rintro r o rfl; rfl) (.refl _) rfl rfl ⟨_, rfl⟩ (ds_done tabOk rfl trivial rfl)))
    (by rfl) (by rfl) (by rfl) (by rfl) trivial ?_
  generalize valA a.g (flB (t.ins.getD i [])) s = V at *
  have hbv : (a.bad.map (litB V)).getD t.bad.toNat false = litB V (a.bad.getD t.bad.toNat 0) := by
    have hk2 : t.bad.toNat < a.bad.length := by omega
    simp [hk2]
  refine sat_stop tabOk Tryz.func29 rfl trivial ?_
  refine sat_while (α := Nat) (fun j => [(2, .ptr 0 0), (3, .ptr 1 0), (9, vI .i64 (i : Int)), (10, .d (eBls (nextB a.l V))), (11, .ptr 2 0), (13, vI .i64 (j : Int))]) (fun _ => [some (bAg a), some (bTc t), some (bB3 a V)]) (fun j => j ≤ a.con.length ∧ ∀ q (h : q < a.con.length), q < j → litB V a.con[q] = true) (fun j => a.con.length - j) 0 ⟨Nat.zero_le _, fun q _ h => absurd h (Nat.not_lt_zero q)⟩ ?_ ?_
  · exact fun h => sat_le h hC hCl ⟨⟨_, rfl, .refl _⟩, ⟨_, rfl, .refl _⟩, ⟨_, rfl, .refl _⟩, ⟨_, rfl, .refl _⟩, ⟨_, rfl, .refl _⟩, ⟨_, rfl, .refl _⟩, trivial⟩ ⟨.refl _, .refl _, .refl _, trivial⟩ rfl rfl (Nat.zero_le _)
  rintro j ⟨hj, hq⟩ ihj
  refine sat_branch tabOk Tryz.func29 rfl trivial (fun hb2 => ?_) (fun hb2 => ?_)
  · have hb2 : decide ((j : Int) < ((((a.con.map (litB V)).map eBo).length : Nat) : Int)) = true := hb2
    rw [decide_eq_true_eq, List.length_map, List.length_map] at hb2
    have hlj : j < a.con.length := by omega
    have e6 : (a.con.map (litB V)).getD j false = litB V a.con[j] := by simp [hlj]
    refine sat_branch tabOk Tryz.func29 rfl (by simp only [andP, and_true, true_and, Int.toNat_natCast, List.length_map, List.length_append, List.length_cons, List.length_nil, List.length_replicate]; omega) (fun h6 => ?_) (fun h6 => ?_)
    · have h6 : (!((a.con.map (litB V)).getD j false)) = true := h6
      rw [e6, Bool.not_eq_true'] at h6
      rw [if_neg (by
        rw [Bool.not_eq_true, List.all_eq_false]
        exact ⟨_, List.getElem_mem hlj, by rw [h6]; decide⟩)] at hcl
      exact sat_ret tabOk Tryz.func29 rfl trivial ⟨8, rfl, .inr ⟨hR, hcl⟩⟩
    · have h6 : (!((a.con.map (litB V)).getD j false)) = false := h6
      rw [e6, Bool.not_eq_false'] at h6
      refine sat_stop tabOk Tryz.func29 rfl trivial ?_
      refine sat_le (ihj (j + 1) ⟨by omega, fun q hq2 hqj => ?_⟩ (by omega)) hC hCl ⟨⟨_, rfl, .refl _⟩, ⟨_, rfl, .refl _⟩, ⟨_, rfl, .refl _⟩, ⟨_, rfl, .refl _⟩, ⟨_, rfl, .refl _⟩, ⟨_, rfl, .of (by rw [wrap_id (by omega) (by omega)]; rfl)⟩, trivial⟩ ⟨.refl _, .refl _, .refl _, trivial⟩ rfl rfl (Nat.zero_le _)
      rcases Nat.lt_or_ge q j with h7 | h7
      · exact hq q hq2 h7
      · obtain rfl : q = j := by omega
        exact h6
  · have hb2 : decide ((j : Int) < ((((a.con.map (litB V)).map eBo).length : Nat) : Int)) = false := hb2
    rw [decide_eq_false_iff_not, List.length_map, List.length_map] at hb2
    obtain rfl : j = a.con.length := by omega
    rw [if_pos (by
      rw [List.all_eq_true]
      intro x hx
      obtain ⟨q, hq2, rfl⟩ := List.mem_iff_getElem.1 hx
      exact hq q hq2 hq2)] at hcl
    refine sat_stop tabOk Tryz.func29 rfl ⟨⟨by omega, by rw [List.length_map, List.length_map]; omega⟩, trivial⟩ ?_
    refine sat_le (ih (nextB a.l V, litB V (a.bad.getD t.bad.toNat 0)) ⟨by omega, hnl, hcl⟩ (by omega)) hC hCl ⟨⟨_, rfl, .refl _⟩, ⟨_, rfl, .refl _⟩, ⟨_, rfl, .refl _⟩, ⟨_, rfl, .of ?_⟩, ⟨_, rfl, .of (by rw [wrap_id (by omega) (by omega)]; rfl)⟩, trivial⟩ ⟨.refl _, .refl _, trivial⟩ rfl rfl (Nat.zero_le _)
    show vB ((a.bad.map (litB V)).getD t.bad.toNat false) = _
    rw [hbv]
end Go.Proofs.YtkemmijjpclckaaGreatDoor
namespace Go.Proofs.YtkemmijjpclckaaGreatDoor
open Go Ab Go.RowKit Go.Lib
set_option maxRecDepth 100000
set_option linter.unusedVariables false
set_option linter.unusedSimpArgs false
set_option maxHeartbeats 8000000

theorem R10.start {a : Ag} {t : Tc} (h : R10 a t) : StartOk a.l (flB t.init) := by
  refine ⟨by rw [List.length_map]; exact h.il, fun j hj => ?_⟩
  have hjl : j < t.init.length := by rw [h.il]; exact hj
  have hg : (flB t.init).getD j false = (t.init.getD j 0 == 1) := by simp [flB, hjl]
  have hr := h.rs j hj
  rw [hg]
  constructor
  · intro e
    have h1 := hr (by omega)
    have h2 : t.init.getD j 0 = 0 := UInt8.toNat_inj.1 (by show _ = 0; omega)
    rw [h2]
    rfl
  · intro e
    have h1 := hr (by omega)
    have h2 : t.init.getD j 0 = 1 := UInt8.toNat_inj.1 (by show _ = 1; omega)
    rw [h2]
    rfl
theorem CertSound_law (a : Ag) (c : Ct) (t : Tc) (hm : AgM a) (hil : t.ins.length ≤ maxLen) : ACall Tryz.prog 6 [.d (eAg a), .d (eCt c), .d (eTc t)] [] (fun r o => r = vB true) := by
  refine acall_enter Tryz.func6 rfl rfl (Nat.le_of_ble_eq_true rfl) fun C hC hCl hDs hGk => ?_
  refine sat_call tabOk Tryz.func6 rfl trivial cShown_call (.refl _) rfl ⟨_, rfl⟩ (by rintro r o rfl; rfl) ?_
  rintro _ o rfl
  refine sat_call tabOk Tryz.func6 rfl trivial (cMay_call a c hm) (.refl _) rfl ⟨_, rfl⟩ (by rintro r o ⟨b, rfl, -⟩; rfl) ?_
  rintro _ o ⟨m, rfl, h1⟩
  cases m with
  | false =>
    repeat refine sat_branch tabOk Tryz.func6 rfl trivial (fun _ => ?_) (fun h => by cases h)
    exact sat_ret tabOk Tryz.func6 rfl trivial rfl
  | true =>
  obtain ⟨⟨sa, ra⟩, sc⟩ := h1 rfl
  have hA : Asked a c := ⟨sa, ra, sc⟩
  have hM := hA.acM
  refine sat_branch tabOk Tryz.func6 rfl trivial (fun h => by cases h) (fun _ => ?_)
  refine sat_call tabOk Tryz.func6 rfl trivial (rSmall10_call t 20 hil) (.refl _) rfl ⟨_, rfl⟩ (by rintro r o ⟨b, rfl, -⟩; rfl) ?_
  rintro _ o ⟨f, rfl, hf⟩
  cases f with
  | false =>
    repeat refine sat_branch tabOk Tryz.func6 rfl trivial (fun _ => ?_) (fun h => by cases h)
    exact sat_ret tabOk Tryz.func6 rfl trivial rfl
  | true =>
  obtain ⟨f1, f2, f3⟩ := hf rfl
  have hT : TcB t := ⟨by omega, by omega, fun x hx => by have := f3 x hx; omega⟩
  refine sat_branch tabOk Tryz.func6 rfl trivial (fun h => by cases h) (fun _ => ?_)
  refine sat_call tabOk Tryz.func6 rfl trivial (cCheck_call a c t.bad hM.b (fun _ => hA.asks t.bad)) (.refl _) rfl ⟨_, rfl⟩ (by rintro r o rfl; rfl) ?_
  rintro _ o rfl
  have hck := @checkR_ok a c t.bad
  generalize checkR a c t.bad = q at *
  obtain ⟨n, e⟩ := q
  simp only at hck
  have so := sa.outs
  have sb := sa.bad
  have sn := sa.con
  have hW := ra.W
  have hi0 := ra.i0
  refine sat_branch tabOk Tryz.func6 rfl trivial (fun _ => ?_) (fun h => by cases h)
  refine sat_branch tabOk Tryz.func6 rfl trivial (fun h3 => ?_) (fun h3 => ?_)
  · repeat refine sat_branch tabOk Tryz.func6 rfl trivial (fun _ => ?_) (fun h => by cases h)
    exact sat_ret tabOk Tryz.func6 rfl trivial rfl
  have h3 : (e != 0) = false := h3
  rw [bne_eq_false_iff_eq] at h3
  have hH := hck h3
  refine sat_call tabOk Tryz.func6 rfl trivial (rTernary_call a t hT hW ⟨by omega, by omega, by omega⟩) (.refl _) rfl ⟨_, rfl⟩ (by rintro r o ⟨z, rfl, -⟩; rfl) ?_
  rintro _ o ⟨z, rfl, hz⟩
  have hz0 : z ≠ 0 := by
    rcases hz with rfl | ⟨hR, rfl⟩
    · decide
    · exact ternL_not ra hH (fun inp hi => by have := (hR.is inp hi).2; omega) hR.start
  refine sat_branch tabOk Tryz.func6 rfl trivial (fun h4 => ?_) (fun h4 => ?_)
  rotate_left
  · have h4 : (z != 0) = false := h4
    rw [bne_eq_false_iff_eq] at h4
    exact absurd h4 hz0
  refine sat_call tabOk Tryz.func6 rfl trivial (rWhole_call a t hT hW ⟨by omega, by omega, by omega⟩) (.refl _) rfl ⟨_, rfl⟩ (by rintro r o ⟨z, rfl, -⟩; rfl) ?_
  rintro _ o ⟨y, rfl, hy⟩
  have hy0 : y ≠ 0 := by
    rcases hy with rfl | ⟨hR, rfl⟩
    · decide
    · refine wholeL_not ra hH _ _ _ hR.start.1 (fun inp hi => ?_) (fun inp hi => hH.first hi hR.start) rfl
      obtain ⟨l, hl, rfl⟩ := List.mem_map.1 hi
      rw [List.length_map]
      have := (hR.is l hl).2
      omega
  refine sat_ret tabOk Tryz.func6 rfl trivial ?_
  show vB (y != 0) = _
  rw [show (y != 0) = true from bne_iff_ne.2 hy0]
end Go.Proofs.YtkemmijjpclckaaGreatDoor
set_option linter.unusedSimpArgs false
set_option linter.unusedVariables false
set_option linter.unusedSectionVars false
namespace Ab
open Go
variable [Draws]

def reachB (l : List Nat) : Bool := l.all fun n => decide (n ≤ reachBytes)
/-- Whatever is read at a type's place, and is no greater than a machine's memory, is data of a shape. -/
structure ReadsS (P : Program) (t : TypeId) {α : Type} (enc : α → D) (Q : α → Prop) : Prop where
  len : ∀ a, (enc a).cells.length = P.cellsOf t
  rd : ∀ {H : Type} (eH : TypeId × Value → H) (w : World) (fuel : Nat) (cs : List Value) (x : DataW H × List MemPlace) (ok : Nat → Prop), (∀ b, ok b) → DataW.trod eH P w 0 (fun _ => true) true fuel t cs = some x → reachB (x.1.weights P t) = true → ∃ a, Q a ∧ RelL w ok (enc a).cells cs
theorem Reads.toS {P : Program} {t : TypeId} {α : Type} {enc : α → D} {Q : α → Prop} (R : Reads P t enc Q) : ReadsS P t enc Q where
  len := R.len
  rd eH w fuel cs x ok hok h _ := R.rd eH w fuel cs x ok hok h
/-- Data told in other words. -/
theorem Reads.via {P : Program} {t : TypeId} {α β : Type} {enc : α → D} {Q : α → Prop} {enc' : β → D} {Q' : β → Prop} (R : Reads P t enc Q) (g : α → β) (hg : ∀ a, Q a → Q' (g a)) (he : ∀ a, Q a → enc' (g a) = enc a) (hl : ∀ b, (enc' b).cells.length = P.cellsOf t) : Reads P t enc' Q' where
  len := hl
  rd eH w fuel cs x ok hok h := by
    obtain ⟨a, qa, ra⟩ := R.rd eH w fuel cs x ok hok h
    exact ⟨g a, hg a qa, by rw [he a qa]; exact ra⟩
theorem ReadsS.via {P : Program} {t : TypeId} {α β : Type} {enc : α → D} {Q : α → Prop} {enc' : β → D} {Q' : β → Prop} (R : ReadsS P t enc Q) (g : α → β) (hg : ∀ a, Q a → Q' (g a)) (he : ∀ a, Q a → enc' (g a) = enc a) (hl : ∀ b, (enc' b).cells.length = P.cellsOf t) : ReadsS P t enc' Q' where
  len := hl
  rd eH w fuel cs x ok hok h hw := by
    obtain ⟨a, qa, ra⟩ := R.rd eH w fuel cs x ok hok h hw
    exact ⟨g a, hg a qa, by rw [he a qa]; exact ra⟩
/-- Fields, one behind the other from a place on. -/
structure ReadsFS (P : Program) (fs : List Field) (o tot : Nat) {α : Type} (enc : α → List D) (Q : α → Prop) : Prop where
  len : ∀ a, (enc a).length = tot
  rd : ∀ {H : Type} (eH : TypeId × Value → H) (w : World) (fuel : Nat) (cs : List Value) (ok : Nat → Prop), (∀ b, ok b) → (∀ f ∈ fs, ∃ x, DataW.trod eH P w 0 (fun _ => true) true fuel f.type ((cs.drop f.offset).take (P.cellsOf f.type)) = some x ∧ reachB (x.1.weights P f.type) = true) → ∃ a, Q a ∧ RelL w ok (enc a) ((cs.drop o).take tot)
theorem ReadsS.argS {P : Program} {t : TypeId} {α : Type} {enc : α → D} {Q : α → Prop} (R : ReadsS P t enc Q) {H : Type} {eH : TypeId × Value → H} {W : World} {cs : Array Value} {d : DataW H} {p : List MemPlace} (h : DataW.Trod eH P W 0 (fun _ => true) true t (.agg cs) d p) (hw : reachB (d.weights P t) = true) (ok : Nat → Prop) (hok : ∀ b, ok b) :
    ∃ a, Q a ∧ RelL W ok (enc a).cells cs.toList := by
  obtain ⟨fuel, hf⟩ := h
  exact R.rd eH W fuel cs.toList _ ok hok hf hw
end Ab
