/- A part of the proof. -/
import Derived.Test.YtkemmijjpclckaaGreatDoorP20
import Derived.Lib.ConvBytes
import Derived.Lib.SlBytesConst
set_option linter.unusedVariables false
set_option linter.unusedSimpArgs false
set_option linter.unusedSectionVars false
set_option maxRecDepth 100000
set_option maxHeartbeats 8000000
namespace Ab
open Go
variable [Draws]
section
variable {P : Program} [Globals P] {T : Tab} {f : FuncId} {n : Nat} {C : Cx} {R : AV → List (Option AObj) → Prop} {env : Env} {objs : List (Option AObj)} {ops : Array Oper}
theorem zoz {i : Nat} {r : List Nat} {k : List Item} {o : Oper} {e2 : Env} {src dst e : TypeId} {rs rd re : TRow} {xo : Operand} {bs : List UInt8} (hT : TabOk P T) (ho : ops[i]? = some o) (hw : wantE ops env o = .yes) (hop : o.op = .convert src dst xo) (hx : opnd env xo = some (.d (.v (.string ⟨bs.toArray⟩))))
  (hrs : tlook T src = some rs) (hks : rs.kd = .str) (hrd : tlook T dst = some rd) (hkd : rd.kd = .slice e) (hre : tlook T e = some re) (h8 : re.kd = .int .u8) (hlen : bs.length ≤ 1000000000)
  (hput : putE n o.dst (.gs objs.length) env = some e2) (h : ASat P f n C (.inRegion ops r :: k) e2 (objs ++ [some (gL e 1 eU8 0 bs)]) R) : ASat P f n C (.inRegion ops (i :: r) :: k) env objs R := by
 refine z5r ⟨none, false, .gs objs.length, none, objs ++ [some (gL e 1 eU8 0 bs)]⟩ ho hw (fun X π w tmps m he _ => ?_) trivial hput h
 have hax := z4r (P := P) he hx
 have hs := z4f hT hrs hks
 have hd := z1c hT hrd hkd
 have heU := za2 hT hre h8
 have hrun := Go.Lib.run_convert_string_bytes (P := P) w src dst e ⟨bs.toArray⟩ hs hd heU
 have hsize : (⟨bs.toArray⟩ : ByteArray).size = bs.length := by simp [ByteArray.size]
 have hml : maxLen = 9223372036854775807 := rfl
 rw [hsize] at hrun
 have hcell := Go.Lib.bytesWorld_cell w e ⟨bs.toArray⟩
 have hold : ∀ b, b < w.heap.size → (Go.Lib.bytesWorld w e ⟨bs.toArray⟩).heap[b]? = w.heap[b]? := fun b hb => Go.Lib.bytesWorld_at_old w e _ b hb
 have hnew := Go.Lib.bytesWorld_at_new w e ⟨bs.toArray⟩
 have hhs := Go.Lib.bytesWorld_size w e ⟨bs.toArray⟩
 have hout : (Go.Lib.bytesWorld w e ⟨bs.toArray⟩).os = w.os ∧ (Go.Lib.bytesWorld w e ⟨bs.toArray⟩).tape = w.tape ∧ (Go.Lib.bytesWorld w e ⟨bs.toArray⟩).output = w.output ∧ w.drawn ≤ (Go.Lib.bytesWorld w e ⟨bs.toArray⟩).drawn := by
  unfold Go.Lib.bytesWorld World.freeze
  rw [if_neg (by decide)]
  exact ⟨rfl, rfl, rfl, Nat.le_succ _⟩
 have hc1 := grownCap_ge w bs.length 0 e
 have hc2 := grownCap_le_maxLen w bs.length 0 e (by omega)
 have hclen : (Go.Lib.bytesCells w e ⟨bs.toArray⟩).size = grownCap w bs.length 0 e := by
  simp only [Go.Lib.bytesCells, hsize, Array.size_append, Array.size_map, List.size_toArray, Array.size_replicate]
  omega
 generalize grownCap w bs.length 0 e = c at hc1 hc2 hclen hrun
 generalize Go.Lib.bytesCells w e ⟨bs.toArray⟩ = BC at hnew hclen
 generalize Go.Lib.bytesWorld w e ⟨bs.toArray⟩ = W at *
 obtain ⟨BC⟩ := BC
 simp only [List.size_toArray] at hclen hnew
 have hh' : ∀ b, blk (.slice (some ⟨w.heap.size, 0, none⟩) bs.length c) = some b → w.heap.size ≤ b := by
  intro b hb
  cases c <;> cases hb
  exact Nat.le_refl _
 refine ⟨.slice (some ⟨w.heap.size, 0, none⟩) bs.length c, W, π ++ [.slice (some ⟨w.heap.size, 0, none⟩) bs.length c], ?_, z2o m hout.1 hout.2.1 ⟨hout.2.2.1, zx hout.2.2.2⟩ (by rw [hhs]; omega) hold _ (gL e 1 eU8 0 bs) hh' ?_, fun _ => .gs (z4p m.len _)⟩
 ·unfold execOp
  rw [hop]
  simp only [Sem.run_bind, hax, hrun, Result.andThen_ok, Sem.run_pure]
  rfl
 ·cases c with
  | zero =>
   obtain rfl : bs = [] := List.eq_nil_of_length_eq_zero (by omega)
   exact .gnil
  | succ c =>
   have hls : (bs.map fun b => Value.int .u8 (b.toNat : Int)).length = bs.length := by simp
   have hk := z4x (X := X) (π := π) (objs := objs) hold (.slice (some ⟨w.heap.size, 0, none⟩) bs.length (c + 1)) (gL e 1 eU8 0 bs) m.len hh'
   have := RelO.grow (w := W) (ok := okOf X (π ++ [.slice (some ⟨w.heap.size, 0, none⟩) bs.length (c + 1)]) (objs ++ [some (gL e 1 eU8 0 bs)])) (π := π ++ [.slice (some ⟨w.heap.size, 0, none⟩) bs.length (c + 1)]) (e := e) (s := 1) (b := w.heap.size) (o := 0) (c := c) (xs := bs.map eU8) (us := bs.map fun b => Value.int .u8 (b.toNat : Int))
    (vs := BC) (rd := fun i => eU8 (bs.getD i 0)) (fz := (BC.length, BC.length + 1)) hnew (fun q hq => by omega) (zaf bs) (fun q hq => ?_) (by rw [List.length_map]; exact hc1) hc2 (by omega) (z34 eU8 0 bs)
   ·rw [List.length_map] at this
    exact this
   ·rw [hls] at hq
    have h1 := hcell q (by rw [hsize]; exact hq)
    have h2 := z14 (i := q) hnew
    rw [h2] at h1
    rw [Nat.zero_add, h1]
    simp [hq, List.getD_eq_getElem?_getD]
end
end Ab
namespace Go.Proofs.YtkemmijjpclckaaGreatDoor
open Go Ab Go.RowKit Go.Lib
theorem dlI (l : List Int) : DLe (.sl 1 (l.map eI) (litRd (l.map eI))) (eIs l) := DLe.slR rfl (z34 eI 0 l)
theorem clA {cs ds : List D} (h : DLes cs ds) : CLe (.ag cs) (.ag ds) := fun _ _ _ h2 => h.rel h2
theorem dlS {s : Nat} {xs ys : List D} {rd rd' : Nat → D} (h : CLes xs ys) (hr : ∀ i, i < ys.length → ys[i]? = some (rd' i)) : DLe (.sl s xs rd) (.sl s ys rd') := by
 intro w ok v hv
 have hf : flat v = true := by cases hv <;> rfl
 have := CLe.sl h hr w ok [v] (.cons hv hf .nil)
 cases this with | cons h _ _ => exact h
def exA : Ag := ⟨0, [(2, 0)], [], [], [2], [], []⟩
def exP : List Sp := [(false, [], ())]
def exC : Ct := ⟨[], 3, exP, exP, exP⟩
def exD : Ct := ⟨[], 1, exP, exP, exP⟩
def exT20 : List UInt8 := [105, 110, 118, 32, 48, 32, 51, 10, 112, 114, 111, 111, 102, 32, 49, 10, 48, 10, 112, 114, 111, 111, 102, 32, 49, 10, 48, 10, 112, 114, 111, 111, 102, 32, 49, 10, 48, 10]
theorem zno : RightA exA := z10.1 (by decide)
theorem z8b : z2g exA exC = true := by decide
theorem znm : z2g exA exD = true := by decide
theorem zeb : certT exC = exT20 := by kernel_rfl
theorem znn : certP exA exT20 = .inr (exC, ((exT20.length : Nat) : Int)) := by
 have := zoa (a := exA) (c := exC) (by decide) z8b (by rw [zeb]; decide)
 rwa [zeb] at this
theorem zau {l : List (List Int)} (h : Cf l []) : (chk l 0 exP).2 = 0 := by
 have hr : refB l [] = true := zdj.2 h
 unfold exP
 rw [chk]
 have h1 : stepR l (false, [], ()) = some (l ++ [[]]) := by simp only [stepR, Bool.false_eq_true, if_false, hr, if_true]
 rw [h1]
 simp
theorem zja {l : List (List Int)} {a : List Int} {x : Int} (h : [x] ∈ l) : Fo l a x := .unit h (by simp) fun y hy hne => absurd (List.mem_singleton.1 hy) hne
theorem zjk {l : List (List Int)} {a : List Int} {x : Int} (h : [x] ∈ l) (k : [-x] ∈ l) : Cf l a := .inl ⟨x, zja h, zja k⟩
theorem ex_a0 : (chk (ask0 (zn exA exC) exC.inv) 0 exC.p0).2 = 0 := zau (zjk (x := 2) (by decide) (by decide))
theorem ex_a1 : (chk (ask1 (zn exA exC) exC.inv) 0 exC.p1).2 = 0 := zau (.inr ⟨[-4, 2], by decide, fun z hz => by
 rcases List.mem_cons.1 hz with rfl | hz
 ·exact zja (by decide)
 ·rw [List.mem_singleton.1 hz]
  exact zja (by decide)⟩)
theorem ex_a2 : (chk (ask2 (zn exA exC) exC.inv (exA.bad.getD (0 : Int).toNat 0)) 0 exC.p2).2 = 0 := zau (zjk (x := 2) (by decide) (by decide))
theorem zro : zbq exA exC 0 = (0, 0) := by
 unfold zbq
 rw [if_neg (by rw [z8b]; decide), if_neg (by decide), if_neg (not_not_intro ex_a0), if_neg (not_not_intro ex_a1), if_neg (not_not_intro ex_a2)]
theorem ex_d0 : (chk (ask0 (zn exA exD) exD.inv) 0 exD.p0).2 = 0 := zau (zjk (x := 1) (by decide) (by decide))
theorem ex_d1 : (chk (ask1 (zn exA exD) exD.inv) 0 exD.p1).2 = 0 := zau (zjk (x := 3) (by decide) (by decide))
theorem ex_d2 : (chk (ask2 (zn exA exD) exD.inv (exA.bad.getD (0 : Int).toNat 0)) 0 exD.p2).2 ≠ 0 := by
 refine (z8i (n := 2) (m := [false, true]) rfl _ _ 0 (fun c hc => ?_) (by decide)).1
 have : ask2 (zn exA exD) exD.inv (exA.bad.getD (0 : Int).toNat 0) = [[-1], [-1], [2]] := by decide
 rw [this] at hc
 simp only [List.mem_cons, List.not_mem_nil, or_false] at hc
 rcases hc with rfl | rfl | rfl
 ·exact ⟨-1, by simp, 0, by decide, .inr ⟨rfl, rfl⟩⟩
 ·exact ⟨-1, by simp, 0, by decide, .inr ⟨rfl, rfl⟩⟩
 ·exact ⟨2, by simp, 1, by decide, .inl ⟨rfl, rfl⟩⟩
theorem zr3 : zbq exA exD 0 = (3, 6) := by
 unfold zbq
 rw [if_neg (by rw [znm]; decide), if_neg (by decide), if_neg (not_not_intro ex_d0), if_neg (not_not_intro ex_d1), if_pos ex_d2]
theorem exB (c : Ct) (h : c = exC ∨ c = exD) : AcB exA c := by
 rcases h with rfl | rfl <;> exact ⟨by decide, by decide, by decide, by decide, by decide, by decide, by decide⟩
theorem zd2 : VLe (.d (.ag [eI 0, .sl 2 [.ag [eI 2, eI 0]] (litRd [.ag [eI 2, eI 0]]), nilD, nilD, .sl 1 [eI 2] (litRd [eI 2]), nilD, nilD])) (.d (eAg exA)) :=
 VLe.dag ⟨.refl _, dlS (ys := [(2, 0)].map eP2) ⟨.refl _, trivial⟩ (z34 eP2 (0, 0) [(2, 0)]), dnil2, dnil2, dlI [2], dnil2, dnil2, trivial⟩
@[reducible] def exPd : D := .sl 2 [.ag [.v (.bool false), nilD]] (litRd [.ag [.v (.bool false), nilD]])
theorem znl : DLe exPd (eSps exP) := dlS (ys := exP.map eSp) ⟨clA ⟨.refl _, dnil2, trivial⟩, trivial⟩ (z34 eSp (false, [], ()) exP)
theorem zd1 (i : Int) : VLe (.d (.ag [nilD, eI i, exPd, exPd, exPd])) (.d (eCt ⟨[], i, exP, exP, exP⟩)) := VLe.dag ⟨dnil2, .refl _, znl, znl, znl, trivial⟩
theorem zi4 : ACall Tryz.prog 11 [] [] (fun r o => r = vB true) := by
 refine za Tryz.func11 rfl rfl (Nat.le_of_ble_eq_true rfl) fun C hC hCl hDs hGk => ?_
 refine zf tabOk Tryz.func11 rfl trivial (zbt exA exC 0 (exB _ (.inl rfl)) (fun _ => ⟨by decide, by decide, by decide⟩)) ⟨zd2, .refl _, zd1 3, trivial⟩ rfl ⟨_, rfl⟩ (by rintro r o rfl; rfl) ?_
 rintro _ o rfl
 rw [zro]
 refine zf tabOk Tryz.func11 rfl trivial (zbs exA exC (exB _ (.inl rfl)) (fun _ => ⟨by decide, by decide, by decide⟩)) ⟨zd2, zd1 3, trivial⟩ rfl ⟨_, rfl⟩ (by rintro r o rfl; split <;> rfl) ?_
 rintro _ o rfl
 rw [if_pos z8b, zeb]
 refine zk 60 tabOk Tryz.func11 rfl trivial ?_
 refine zoz (bs := exT20) tabOk rfl rfl rfl rfl rfl rfl rfl rfl rfl rfl (by decide) rfl ?_
 refine z15 2 rfl ?_
 refine zf tabOk Tryz.func11 rfl trivial (zi5 exA exT20 zno (by decide)) ⟨zd2, VLe.eL rfl, trivial⟩ rfl ⟨_, rfl⟩ (by rintro r o rfl; rw [znn]; rfl) ?_
 rintro _ o rfl
 rw [znn]
 unfold cparA
 refine zf tabOk Tryz.func11 rfl trivial (zbt exA exD 0 (exB _ (.inr rfl)) (fun _ => ⟨by decide, by decide, by decide⟩)) ⟨zd2, .refl _, zd1 1, trivial⟩ rfl ⟨_, rfl⟩ (by rintro r o rfl; rfl) ?_
 rintro _ o rfl
 rw [zr3]
 refine z6 tabOk Tryz.func11 rfl trivial (fun _ => ?_) (fun h => by cases h)
 refine z6 tabOk Tryz.func11 rfl trivial (fun _ => ?_) (fun h => by cases h)
 refine z6 tabOk Tryz.func11 rfl trivial (fun _ => ?_) (fun h => by cases h)
 refine z6 tabOk Tryz.func11 rfl trivial (fun _ => ?_) (fun h => by cases h)
 refine z6 tabOk Tryz.func11 rfl trivial (fun _ => ?_) (fun h => ?_)
 rotate_left
 ·have h : ((⟨exT20.toArray⟩ : ByteArray).toList == (⟨exT20.toArray⟩ : ByteArray).toList) = false := h
  rw [strBy, decide_eq_true rfl] at h
  cases h
 refine z6 tabOk Tryz.func11 rfl trivial (fun _ => ?_) (fun h => by cases h)
 refine zf tabOk Tryz.func11 rfl trivial (zd8 exC exC (by decide)) ⟨zd1 3, .refl _, trivial⟩ rfl ⟨_, rfl⟩ (by rintro r o rfl; rfl) ?_
 rintro _ o rfl
 have hs : (decide (exC.p0 = exC.p0) && decide (exC.p1 = exC.p1) && decide (exC.p2 = exC.p2) && (exC.inv == exC.inv && decide (exC.g = exC.g))) = true := by decide
 rw [hs]
 refine z6 tabOk Tryz.func11 rfl trivial (fun _ => ?_) (fun h => by cases h)
 refine zf tabOk Tryz.func11 rfl trivial (z4n exA exC (exB _ (.inl rfl))) ⟨zd2, zd1 3, trivial⟩ rfl ⟨_, rfl⟩ (by rintro r o rfl; rfl) ?_
 rintro _ o rfl
 rw [z8b]
 refine z6 tabOk Tryz.func11 rfl trivial (fun _ => ?_) (fun h => by cases h)
 refine z6 tabOk Tryz.func11 rfl trivial (fun _ => ?_) (fun h => by cases h)
 refine z6 tabOk Tryz.func11 rfl trivial (fun _ => ?_) (fun h => by cases h)
 refine zf tabOk Tryz.func11 rfl trivial (z58 exA exC (by decide) (by decide)) ⟨zd2, zd1 3, trivial⟩ rfl ⟨_, rfl⟩ (by rintro r o rfl; rfl) ?_
 rintro _ o rfl
 exact z7 tabOk Tryz.func11 rfl trivial rfl
end Go.Proofs.YtkemmijjpclckaaGreatDoor
namespace Go.Proofs.YtkemmijjpclckaaGreatDoor
open Go Ab Go.Lib
theorem z2e {p : List Sp} {m : Int} (h : z4s p m = true) : (p.length : Int) ≤ m ∧ ∀ s ∈ p, (s.2.1.length : Int) ≤ m := by
 unfold z4s at h
 rw [Bool.and_eq_true, decide_eq_true_eq, List.all_eq_true] at h
 exact ⟨h.1, fun s hs => of_decide_eq_true (h.2 s hs)⟩
structure Asked (a : Ag) (c : Ct) : Prop where
 sa : SmA a 40
 ra : RightA a
 sc : SmC c 20
theorem SmA.M {a : Ag} (h : SmA a 40) : AgM a := by
 have hml : maxLen = 9223372036854775807 := rfl
 refine ⟨?_, ?_, ?_, ?_, fun x hx => ?_⟩
 ·have := h.outs; omega
 ·have := h.bad; omega
 ·have := h.con; omega
 ·have := h.names; omega
 ·have := h.s x hx; omega
theorem Asked.acM {a : Ag} {c : Ct} (h : Asked a c) : AcM a c := by
 have hml : maxLen = 9223372036854775807 := rfl
 have q0 := z2e h.sc.p0
 have q1 := z2e h.sc.p1
 have q2 := z2e h.sc.p2
 have hg := h.sa.g
 have hcg := h.sc.g
 have hn := h.sa.names
 refine ⟨⟨by omega, by omega, by omega, fun x hx => ?_, by omega, by omega, by omega⟩, h.sa.M, fun s hs => ?_, fun s hs => ?_, fun s hs => ?_⟩
 ·have := h.sa.s x hx; omega
 ·have := q0.2 s hs; omega
 ·have := q1.2 s hs; omega
 ·have := q2.2 s hs; omega
theorem Asked.thou {a : Ag} {c : Ct} (h : Asked a c) : c.p0.length ≤ 1000 ∧ c.p1.length ≤ 1000 ∧ c.p2.length ≤ 1000 := by
 have q0 := z2e h.sc.p0
 have q1 := z2e h.sc.p1
 have q2 := z2e h.sc.p2
 omega
theorem z5n {n : Int} {p : List Sp} (hn : 0 ≤ n ∧ n ≤ 100000) (h : z1i n p = true) (hs : z4s p 20 = true) : (prT p).length ≤ 9000 := by
 obtain ⟨q1, q2⟩ := z2e hs
 have hr := z6b h
 have h2 := z4v (m := 20) (p := p) fun s hs' => ⟨fun l hl => by have := (hr s hs').1 l hl; unfold litOk at this; omega, by have := q2 s hs'; omega⟩
 have h3 : p.length * (20 * 22 + 4) ≤ 20 * (20 * 22 + 4) := Nat.mul_le_mul_right _ (by omega)
 have i0 := z1b (l := (p.length : Int)) (by omega) (by omega)
 simp only [prT, z9g, List.length_append, List.length_cons, List.length_nil]
 omega
theorem Asked.text {a : Ag} {c : Ct} (h : Asked a c) (hR : z2g a c = true) : (certT c).length ≤ 100000 := by
 obtain ⟨-, h2, h3, -, h5, h6, h7⟩ := z3a.1 hR
 have hA := z10.1 h2
 have hv := hA.v1
 have hi0 := hA.i0
 have hv0 : 0 ≤ varsA (zn a c) := by unfold varsA; omega
 have t0 := z5n ⟨by omega, by omega⟩ h5 h.sc.p0
 have t1 := z5n ⟨by omega, by omega⟩ h6 h.sc.p1
 have t2 := z5n ⟨by omega, by omega⟩ h7 h.sc.p2
 have hgo := (z54 _ _).1 (zbd hA)
 have hvg := z36 a c
 have hav : 0 ≤ varsA a := by have := h.ra.i0; unfold varsA; omega
 have tg := z88 c.g fun p hp => by
  obtain ⟨j, hj, rfl⟩ := List.mem_iff_getElem.1 hp
  have := hgo j hj
  omega
 have hcg := h.sc.g
 have i0 := z1b (l := (c.g.length : Int)) (by omega) (by omega)
 have i1 := z1b (l := c.inv) (by omega) (by omega)
 simp only [certT, kInv, List.length_append, List.length_cons, List.length_nil]
 omega
end Go.Proofs.YtkemmijjpclckaaGreatDoor
namespace Go.Proofs.YtkemmijjpclckaaGreatDoor
open Go Ab
def Abs1 (x : UInt8) (b : Bool) : Prop := (x = 0 → b = false) ∧ (x = 1 → b = true)
structure AbsL (V : List UInt8) (W : List Bool) : Prop where
 len : V.length = W.length
 get : ∀ j, j < V.length → Abs1 (V.getD j 0) (W.getD j false)
end Go.Proofs.YtkemmijjpclckaaGreatDoor
namespace Go.Proofs.YtkemmijjpclckaaGreatDoor
open Go Ab Go.RowKit
def I64 (l : Int) : Prop := -9223372036854775808 ≤ l ∧ l ≤ 9223372036854775807
structure AgW (a : Ag) : Prop where
 b : AgB a
 l : ∀ p ∈ a.l, I64 p.1
 g : ∀ p ∈ a.g, I64 p.1 ∧ I64 p.2
 outs : ∀ x ∈ a.outs, I64 x
 bad : ∀ x ∈ a.bad, I64 x
 con : ∀ x ∈ a.con, I64 x
end Go.Proofs.YtkemmijjpclckaaGreatDoor
namespace Go.Proofs.YtkemmijjpclckaaGreatDoor
open Go Ab
structure ChkC (a : Ag) (c : Ct) (k : Int) : Prop where
 right : z2g a c = true
 k0 : 0 ≤ k
 k1 : k < a.bad.length
 c0 : (chk (ask0 (zn a c) c.inv) 0 c.p0).2 = 0
 c1 : (chk (ask1 (zn a c) c.inv) 0 c.p1).2 = 0
 c2 : (chk (ask2 (zn a c) c.inv (a.bad.getD k.toNat 0)) 0 c.p2).2 = 0
section
variable {a : Ag} {c : Ct} {k : Int}
theorem zni (ha : RightA (zn a c)) {inp st : List Bool} (hi : inp.length = a.i.toNat) (hs : st.length = a.l.length) : inp.length + st.length + (a.g ++ c.g).length = (varsA (zn a c)).toNat := by
 have := ha.i0
 have e : varsA (zn a c) = a.i + a.l.length + ((a.g ++ c.g).length : Nat) := rfl
 have e2 : (zn a c).i = a.i := rfl
 omega
theorem zmu {x : Int} {inp st : List Bool} (h0 : 0 ≤ varsA a) (hi : inp.length = a.i.toNat) (hi0 : 0 ≤ a.i) (hs : st.length = a.l.length) (hx : 0 ≤ x ∧ x ≤ 2 * varsA a + 1) : litB (valA (a.g ++ c.g) inp st) x = litB (valA a.g inp st) x := by
 have e : valA (a.g ++ c.g) inp st = valG c.g (valA a.g inp st) := by
  unfold valA
  rw [zih]
 rw [e, zb4]
 rw [z5c, hi, hs]
 unfold varsA at hx
 omega
theorem RightA.latches (ha : RightA a) : ∀ p ∈ a.l, 0 ≤ p.1 ∧ p.1 ≤ 2 * varsA a + 1 := by
 intro p hp
 obtain ⟨j, hj, rfl⟩ := List.mem_iff_getElem.1 hp
 exact ((zb5 _ _ _ _).1 ha.lat j hj).1
theorem RightA.cons (ha : RightA a) : ∀ x ∈ a.con, 0 ≤ x ∧ x ≤ 2 * varsA a + 1 := by
 intro x hx
 have := ha.con
 unfold z1l at this
 rw [Bool.and_eq_true, List.all_eq_true] at this
 exact of_decide_eq_true (this.2 x hx)
theorem RightA.bads (ha : RightA a) : ∀ x ∈ a.bad, 0 ≤ x ∧ x ≤ 2 * varsA a + 1 := by
 intro x hx
 have := ha.bad
 unfold z1l at this
 rw [Bool.and_eq_true, List.all_eq_true] at this
 exact of_decide_eq_true (this.2 x hx)
theorem RightA.gatesF (ha : RightA a) {inp st : List Bool} (hi : inp.length = a.i.toNat) (hs : st.length = a.l.length) : GOkF (inp.length + st.length + 1) a.g := by
 have := ha.gat
 have h0 := ha.i0
 refine ze6 ?_
 rw [hi, hs, ← this]
 congr 1
 omega
theorem zix {n m : Int} {p : List Sp} (h : z1i n p = true) (e : n = m) : ∀ s ∈ p, ∀ x ∈ s.2.1, litOk m x := by
 subst e
 exact fun s hs => (z6b h s hs).1
theorem ChkC.first (H : ChkC a c k) {inp st : List Bool} (hi : inp.length = a.i.toNat) (hs : zic a.l st) : litB (valA (a.g ++ c.g) inp st) c.inv = true := by
 obtain ⟨-, h2, h3, h4, h5, h6, h7⟩ := z3a.1 H.right
 have hA := z10.1 h2
 have hn := zni hA hi hs.1
 have h0 := hA.i0
 have hv0 : 0 ≤ varsA (zn a c) := by unfold varsA; omega
 have hc0 := H.c0
 unfold ask0 at hc0
 rw [← hn] at hc0
 refine zes (l := a.l) (p := c.p0) (hA.gatesF hi hs.1) ⟨h3.1, by rw [hn]; omega⟩ hs (zix h5 (by rw [hn]; omega)) ?_
 change (chk (z72 (inp.length + st.length + (a.g ++ c.g).length) (a.i.toNat + a.l.length) a.i.toNat a.l (a.g ++ c.g) c.inv) 0 c.p0).2 = 0 at hc0
 rw [← hi, ← hs.1] at hc0
 exact hc0
theorem ChkC.next (H : ChkC a c k) (ha : RightA a) {inp inp' st : List Bool} (hi : inp.length = a.i.toNat) (hi' : inp'.length = a.i.toNat) (hs : st.length = a.l.length) (hinv : litB (valA (a.g ++ c.g) inp st) c.inv = true) (hcon : ∀ x ∈ a.con, litB (valA a.g inp st) x = true) :
  litB (valA (a.g ++ c.g) inp' (nextB a.l (valA a.g inp st))) c.inv = true := by
 obtain ⟨-, h2, h3, h4, h5, h6, h7⟩ := z3a.1 H.right
 have hA := z10.1 h2
 have hn := zni hA hi hs
 have h0 := ha.i0
 have hv0 : 0 ≤ varsA a := by unfold varsA; omega
 have hvg := z36 a c
 have hc0 := H.c1
 unfold ask1 at hc0
 rw [← hn] at hc0
 have e : nextB a.l (valA a.g inp st) = nextB a.l (valA (a.g ++ c.g) inp st) := by
  unfold nextB
  refine List.map_congr_left fun p hp => ?_
  rw [zmu hv0 hi h0 hs (ha.latches p hp)]
 rw [e]
 refine zh1 (l := a.l) (con := a.con) (p := c.p1) (hi'.trans hi.symm) hs (hA.gatesF hi hs) ⟨h3.1, by rw [hn]; omega⟩ (fun p hp => ?_) (fun x hx => ⟨?_, ?_⟩) hinv (zix h6 (by rw [hn]; omega)) ?_
 ·have := ha.latches p hp
  rw [hn]
  omega
 ·have := ha.cons x hx
  rw [hn]
  omega
 ·rw [zmu hv0 hi h0 hs (ha.cons x hx)]
  exact hcon x hx
 ·change (chk (zah (inp.length + st.length + (a.g ++ c.g).length) (a.i.toNat + a.l.length) a.i.toNat a.l (a.g ++ c.g) a.con c.inv) 0 c.p1).2 = 0 at hc0
  rw [← hi, ← hs] at hc0
  exact hc0
end
end Go.Proofs.YtkemmijjpclckaaGreatDoor
namespace Go.Proofs.YtkemmijjpclckaaGreatDoor
open Go Ab Go.RowKit Go.Lib
theorem RightA.gates {a : Ag} (ha : RightA a) : ∀ p ∈ a.g, (0 ≤ p.1 ∧ p.1 ≤ 2 * varsA a + 1) ∧ 0 ≤ p.2 ∧ p.2 ≤ 2 * varsA a + 1 := by
 intro p hp
 obtain ⟨j, hj, rfl⟩ := List.mem_iff_getElem.1 hp
 have := (z54 _ _).1 ha.gat j hj
 unfold varsA
 omega
theorem RightA.W {a : Ag} (ha : RightA a) : AgW a := by
 have hv := ha.v1
 have lb : ∀ x ∈ a.outs, 0 ≤ x ∧ x ≤ 2 * varsA a + 1 := by
  intro x hx
  have := ha.outs
  unfold z1l at this
  rw [Bool.and_eq_true, List.all_eq_true] at this
  exact of_decide_eq_true (this.2 x hx)
 refine ⟨z6c (z10.2 ha), fun p hp => ?_, fun p hp => ?_, fun x hx => ?_, fun x hx => ?_, fun x hx => ?_⟩
 ·have := ha.latches p hp; unfold I64; omega
 ·have := ha.gates p hp; unfold I64; omega
 ·have := lb x hx; unfold I64; omega
 ·have := ha.bads x hx; unfold I64; omega
 ·have := ha.cons x hx; unfold I64; omega
theorem Asked.asks {a : Ag} {c : Ct} (h : Asked a c) (k : Int) : (ask0 (zn a c) c.inv).length + c.p0.length ≤ 1000 ∧ (ask1 (zn a c) c.inv).length + c.p1.length ≤ 1000 ∧ (ask2 (zn a c) c.inv (a.bad.getD k.toNat 0)).length + c.p2.length ≤ 1000 := by
 have q0 := z2e h.sc.p0
 have q1 := z2e h.sc.p1
 have q2 := z2e h.sc.p2
 have hg := h.sa.g
 have hl := h.sa.l
 have hc := h.sa.con
 have hcg := h.sc.g
 have eg : (zn a c).g.length = a.g.length + c.g.length := by show (a.g ++ c.g).length = _; rw [List.length_append]
 have el : (zn a c).l = a.l := rfl
 have ec : (zn a c).con = a.con := rfl
 have ff := z6q (varsA (zn a c)).toNat (zn a c).l ((zn a c).i.toNat + 1)
 rw [el] at ff
 unfold ask0 ask1 ask2 z72 zah safeF
 simp only [List.length_append, z1w, List.length_cons, List.length_nil, z6o, z82, consF, List.length_map, el, ec]
 omega
end Go.Proofs.YtkemmijjpclckaaGreatDoor
namespace Go.Proofs.YtkemmijjpclckaaGreatDoor
open Go Ab Go.RowKit
end Go.Proofs.YtkemmijjpclckaaGreatDoor
namespace Ab
open Go
variable [Draws]
section
variable {P : Program} [Globals P] {T : Tab} {f : FuncId} {fn : Func} {n m : Nat} {C : Cx} {R : AV → List (Option AObj) → Prop} {todo todo' k : List Item} {env env0 env' envF : Env} {objs objs' objs1 objs2 : List (Option AObj)} {nd : Prop} {ops : Array Oper}
end
end Ab
namespace Go.Proofs.YtkemmijjpclckaaGreatDoor
open Go Ab Go.RowKit
end Go.Proofs.YtkemmijjpclckaaGreatDoor
namespace Go.Proofs.YtkemmijjpclckaaGreatDoor
open Go Ab Go.RowKit
section
variable {a : Ag} {n i b : Nat} (h : EncB a n i b)
include h
end
end Go.Proofs.YtkemmijjpclckaaGreatDoor
namespace Go.Proofs.YtkemmijjpclckaaGreatDoor
open Go Ab Go.RowKit
end Go.Proofs.YtkemmijjpclckaaGreatDoor
namespace Go.Proofs.YtkemmijjpclckaaGreatDoor
open Go Ab Go.RowKit Go.Lib
@[reducible] def vSb (b : ByteArray) : AV := .d (.v (.string b))
theorem z9m (u : Nat) : (decDigits u).length ≤ u + 1 := by
 induction u using Nat.strongRecOn with
 | _ u ih =>
  rw [decDigits]
  split
  ·simp
  ·have := ih (u / 10) (by omega)
   simp only [List.length_append, List.length_cons, List.length_nil]
   omega
theorem z9o (u : Nat) (hu : u ≤ 1000000000) : ACall Tryz.prog 88 [vI .i64 (u : Int)] [] (fun r o => r = vTx (decDigits u)) := by
 induction u using Nat.strongRecOn with
 | _ u ih =>
  refine za Tryz.func88 rfl rfl (Nat.le_of_ble_eq_true rfl) fun C hC hCl hDs hGk => ?_
  refine z6 tabOk Tryz.func88 rfl trivial (fun h => ?_) (fun h => ?_)
  ·have h : decide ((u : Int) < 0) = true := h
   rw [decide_eq_true_eq] at h
   omega
  have hm : ((u : Int)).tmod 10 = ((u % 10 : Nat) : Int) := by
   rw [Int.tmod_eq_emod_of_nonneg (by omega)]
   omega
  have hq : ((u : Int)).tdiv 10 = ((u / 10 : Nat) : Int) := by
   rw [Int.tdiv_eq_ediv_of_nonneg (by omega)]
   omega
  have hw : IntKind.i64.wrap (48 + ((u : Int)).tmod 10) = ((48 + u % 10 : Nat) : Int) := by
   rw [hm, zb (by omega) (by omega)]
   omega
  have hd : IntKind.u8.wrap (IntKind.i64.wrap (48 + ((u : Int)).tmod 10)) = (((UInt8.ofNat (48 + u % 10)).toNat : Nat) : Int) := by
   rw [hw, UInt8.toNat_ofNat', Nat.mod_eq_of_lt (show 48 + u % 10 < 2 ^ 8 by omega)]
   simp [IntKind.wrap, IntKind.bits, IntKind.signed]
   omega
  have hs : strD [D.v (Value.int .u8 (IntKind.u8.wrap (IntKind.i64.wrap (48 + ((u : Int)).tmod 10))))] = ⟨[UInt8.ofNat (48 + u % 10)].toArray⟩ := by
   rw [hd]
   exact zlm [UInt8.ofNat (48 + u % 10)]
  refine z6 tabOk Tryz.func88 rfl ⟨fun x hx => by rw [List.mem_singleton.1 hx]; rfl, by decide, trivial⟩ (fun h2 => ?_) (fun h2 => ?_)
  ·have h2 : decide ((u : Int) < 10) = true := h2
   rw [decide_eq_true_eq] at h2
   refine z7 tabOk Tryz.func88 rfl trivial ?_
   rw [hs, decDigits, dif_pos (by omega), show u % 10 = u by omega]
   rfl
  ·have h2 : decide ((u : Int) < 10) = false := h2
   rw [decide_eq_false_iff_not] at h2
   refine zf tabOk Tryz.func88 rfl ⟨by decide, trivial⟩ (ih (u / 10) (by omega) (by omega)) ⟨.of ?a0, trivial⟩ rfl ⟨_, rfl⟩ (by rintro r o rfl; rfl) ?_
   case a0 =>
    rw [hq, zb (by omega) (by omega)]
   rintro _ o rfl
   have hl := z9m (u / 10)
   refine z7 tabOk Tryz.func88 rfl ?nd3 ?_
   case nd3 =>
    rw [hs, szS, szS]
    refine ⟨?_, trivial⟩
    simp only [List.length_cons, List.length_nil]
    omega
   rw [hs, z11]
   conv => rhs; rw [decDigits]
   rw [dif_neg (by omega)]
   rfl
theorem zgw (n : Int) (h0 : -1000000000 ≤ n) (h1 : n ≤ 1000000000) : ACall Tryz.prog 88 [vI .i64 n] [] (fun r o => r = vTx (tItoa n)) := by
 rcases Int.lt_or_le n 0 with h | h
 rotate_left
 ·obtain ⟨u, rfl⟩ : ∃ u : Nat, n = u := ⟨n.toNat, by omega⟩
  have h := z9o u (by omega)
  rwa [show decDigits u = tItoa (u : Int) from (itoa_nonneg u).symm] at h
 have hF := z9o n.natAbs (by omega)
 have hl := z9m n.natAbs
 refine za Tryz.func88 rfl rfl (Nat.le_of_ble_eq_true rfl) fun C hC hCl hDs hGk => ?_
 refine z6 tabOk Tryz.func88 rfl trivial (fun h2 => ?_) (fun h2 => ?_)
 rotate_left
 ·have h2 : decide (n < 0) = false := h2
  rw [decide_eq_false_iff_not] at h2
  omega
 refine zf tabOk Tryz.func88 rfl trivial hF ⟨.of ?a0, trivial⟩ rfl ⟨_, rfl⟩ (by rintro r o rfl; rfl) ?_
 case a0 => rw [zb (by omega) (by omega), show 0 - n = (n.natAbs : Int) by omega]
 rintro _ o rfl
 refine z7 tabOk Tryz.func88 rfl ?nd ?_
 case nd =>
  refine ⟨?_, trivial⟩
  show 1 + (⟨(decDigits n.natAbs).toArray⟩ : ByteArray).size ≤ _
  rw [szS]
  omega
 show vSb ((⟨[45].toArray⟩ : ByteArray) ++ ⟨(decDigits n.natAbs).toArray⟩) = _
 rw [z11, show tItoa n = 45 :: decDigits n.natAbs from if_pos h]
 rfl
theorem z49 (n : Int) (t : List UInt8) (h0 : -1000000000 ≤ n) (h1 : n ≤ 1000000000) (ht : t.length ≤ 1000) : ACall Tryz.prog 42 [vI .i64 n, vTx t] [] (fun r o => r = vTx (tItoa n ++ t)) := by
 refine za Tryz.func42 rfl rfl (Nat.le_of_ble_eq_true rfl) fun C hC hCl hDs hGk => ?_
 refine zf tabOk Tryz.func42 rfl trivial (zgw n h0 h1) (.refl _) rfl ⟨_, rfl⟩ (by rintro r o rfl; rfl) ?_
 rintro _ o rfl
 have i0 := z1b (l := n) (by omega) (by omega)
 refine z7 tabOk Tryz.func42 rfl ⟨by rw [szS, szS]; omega, trivial⟩ ?_
 show AV.d (.v (.string ((⟨(tItoa n).toArray⟩ : ByteArray) ++ ⟨t.toArray⟩))) = _
 rw [z11]
theorem z5w (p : List Sp) (hp : ∀ s ∈ p, (∀ x ∈ s.2.1, -1000000 ≤ x ∧ x ≤ 1000000) ∧ s.2.1.length ≤ 1000) (hl : p.length ≤ 1000) : ACall Tryz.prog 43 [.d (eSps p)] [] (fun r o => r = vStr (z18 p)) := by
 refine za Tryz.func43 rfl rfl (Nat.le_of_ble_eq_true rfl) fun C hC hCl hDs hGk => ?_
 have hlim : ∀ i, i ≤ p.length → (z18 (p.take i)).length ≤ 22004000 := fun i hi => by
  have := z4v (m := 1000) (p := p.take i) fun s hs => by
   obtain ⟨h1, h2⟩ := hp s (List.mem_of_mem_take hs)
   exact ⟨fun l hl => by have := h1 l hl; omega, h2⟩
  rw [List.length_take] at this
  have h2 : min i p.length * (1000 * 22 + 4) ≤ 1000 * (1000 * 22 + 4) := Nat.mul_le_mul_right _ (by omega)
  omega
 refine z8 tabOk Tryz.func43 rfl trivial ?_
 refine zh (α := Nat) (fun s => [(0, .d (eSps p)), (3, vTx (z18 (p.take s))), (4, vI .i64 (s : Int))]) (fun s => []) (fun s => s ≤ p.length) (fun s => p.length - s) 0 (Nat.zero_le _) ?_ ?_
 ·exact fun h => zg h hC hCl ⟨⟨_, rfl, .refl _⟩, ⟨_, rfl, .refl _⟩, ⟨_, rfl, .refl _⟩, trivial⟩ trivial rfl rfl (Nat.zero_le _)
 rintro i hi ih
 refine z6 tabOk Tryz.func43 rfl trivial (fun h => ?_) (fun h => ?_)
 rotate_left
 ·have h : decide ((i : Int) < (((p.map eSp).length : Nat) : Int)) = false := h
  rw [decide_eq_false_iff_not, List.length_map] at h
  obtain rfl : i = p.length := by omega
  rw [List.take_length]
  exact z7 tabOk Tryz.func43 rfl trivial rfl
 have h : decide ((i : Int) < (((p.map eSp).length : Nat) : Int)) = true := h
 rw [decide_eq_true_eq, List.length_map] at h
 have hlt : i < p.length := by omega
 have eg : p.getD i (false, [], ()) = p[i] := by simp [hlt]
 obtain ⟨hc1, hc2⟩ := hp _ (List.getElem_mem hlt)
 have hT0 := hlim i hi
 have ih := ih (i + 1) (by omega) (by omega)
 rw [List.take_succ_eq_append_getElem hlt, zas] at ih
 rw [← eg] at hc1 hc2 ih
 generalize z18 (p.take i) = T0 at *
 have hcl := fun k => z81 (c := (p.getD i (false, [], ())).2.1.take k) fun l hl => by have := hc1 l (List.mem_of_mem_take hl); omega
 generalize hsi : p.getD i (false, [], ()) = si at *
 obtain ⟨d, c, ⟨⟩⟩ := si
 simp only at hc1 hc2 ih hcl
 have hdl : (delT d).length ≤ 2 := by unfold delT; split <;> simp
 apply letK (p := ASat Tryz.prog 43 Tryz.f43.ntmps C _ [(0, .d (eSps p)), (3, vTx (T0 ++ delT d)), (4, vI .i64 (i : Int))] [] (fun r o => r = vStr (z18 p)))
 ·intro key
  refine z6 tabOk Tryz.func43 rfl (by simp only [andP, and_true, true_and, Int.toNat_natCast, List.length_map, List.length_append, List.length_cons, List.length_nil, List.length_replicate]; omega) (fun hd => ?_) (fun hd => ?_)
  ·have hd : (p.getD i (false, [], ())).1 = true := hd
   rw [hsi] at hd
   cases hd
   refine zk 6 tabOk Tryz.func43 rfl ⟨?_, trivial⟩ ?_
   ·rw [szS]
    show _ + 2 ≤ _
    omega
   refine zg key hC hCl ⟨⟨_, rfl, .refl _⟩, ⟨_, rfl, .of ?_⟩, ⟨_, rfl, .refl _⟩, trivial⟩ trivial rfl rfl (Nat.zero_le _)
   show vSb ((⟨T0.toArray⟩ : ByteArray) ++ ⟨[100, 32].toArray⟩) = _
   rw [z11]
   rfl
  ·have hd : (p.getD i (false, [], ())).1 = false := hd
   rw [hsi] at hd
   cases hd
   rw [show T0 ++ delT false = T0 by simp [delT]] at key
   refine zk 2 tabOk Tryz.func43 rfl trivial ?_
   exact zg key hC hCl ⟨⟨_, rfl, .refl _⟩, ⟨_, rfl, .refl _⟩, ⟨_, rfl, .refl _⟩, trivial⟩ trivial rfl rfl (Nat.zero_le _)
 refine z8 tabOk Tryz.func43 rfl trivial ?_
 refine zh (α := Nat) (fun s => [(0, .d (eSps p)), (3, vTx (T0 ++ delT d ++ litsT (c.take s))), (4, vI .i64 (i : Int)), (5, vI .i64 (s : Int))]) (fun s => []) (fun s => s ≤ c.length) (fun s => c.length - s) 0 (Nat.zero_le _) ?_ ?_
 ·refine fun h => zg h hC hCl ⟨⟨_, rfl, .refl _⟩, ⟨_, rfl, .of ?_⟩, ⟨_, rfl, .refl _⟩, ⟨_, rfl, .refl _⟩, trivial⟩ trivial rfl rfl (Nat.zero_le _)
  simp [litsT]
 rintro k hk ih2
 have hck := hcl k
 have hckm : (c.take k).length * 22 ≤ 1000 * 22 := Nat.mul_le_mul_right _ (by rw [List.length_take]; omega)
 have hsum : (T0 ++ delT d ++ litsT (c.take k)).length ≤ 23000000 := by simp only [List.length_append]; omega
 have hin : (0 ≤ (i : Int) ∧ (i : Int) < (((p.map eSp).length : Nat) : Int)) := by rw [List.length_map]; omega
 refine z6 tabOk Tryz.func43 rfl ⟨hin, trivial⟩ (fun h2 => ?_) (fun h2 => ?_)
 ·have h2 : decide ((k : Int) < ((((p.getD i (false, [], ())).2.1.map eI).length : Nat) : Int)) = true := h2
  rw [hsi, decide_eq_true_eq, List.length_map] at h2
  simp only at h2
  have hk2 : k < c.length := by omega
  have eg2 : c.getD k 0 = c[k] := by simp [hk2]
  have hx := hc1 _ (List.getElem_mem hk2)
  rw [← eg2] at hx
  have ih2 := ih2 (k + 1) (by omega) (by omega)
  rw [List.take_succ_eq_append_getElem hk2, zcp, ← List.append_assoc, ← eg2] at ih2
  have hl1 := z1b (l := c.getD k 0) (by omega) (by omega)
  have hgd : (p.getD i (false, [], ())).2.1.getD k 0 = c.getD k 0 := by rw [hsi]
  refine zf tabOk Tryz.func43 rfl ⟨⟨by omega, by show (k : Int) < ((((p.getD i (false, [], ())).2.1.map eI).length : Nat) : Int); rw [hsi, List.length_map]; show (k : Int) < (c.length : Int); omega⟩, hin, trivial⟩ (zgw (c.getD k 0) (by omega) (by omega)) ⟨.of (congrArg (vI .i64) hgd), trivial⟩ rfl ⟨_, rfl⟩ (by rintro r o rfl; rfl) ?_
  rintro _ o rfl
  generalize T0 ++ delT d ++ litsT (c.take k) = T1 at *
  refine z8 tabOk Tryz.func43 rfl ⟨?_, ?_, trivial⟩ ?_
  ·rw [z11, szS, List.length_append]
   show _ + 1 ≤ _
   omega
  ·rw [szS, szS]
   omega
  refine zg ih2 hC hCl ⟨⟨_, rfl, .refl _⟩, ⟨_, rfl, .of ?_⟩, ⟨_, rfl, .refl _⟩, ⟨_, rfl, .of (by rw [zb (by omega) (by omega)]; rfl)⟩, trivial⟩ trivial rfl rfl (Nat.zero_le _)
  show vSb ((⟨(T1 ++ tItoa (c.getD k 0)).toArray⟩ : ByteArray) ++ ⟨[32].toArray⟩) = _
  rw [z11, lit1, List.append_assoc]
 ·have h2 : decide ((k : Int) < ((((p.getD i (false, [], ())).2.1.map eI).length : Nat) : Int)) = false := h2
  rw [hsi, decide_eq_false_iff_not, List.length_map] at h2
  simp only at h2
  obtain rfl : k = c.length := by omega
  rw [List.take_length] at hsum ⊢
  refine z8 tabOk Tryz.func43 rfl ⟨?_, trivial⟩ ?_
  ·rw [szS]
   show _ + 2 ≤ _
   omega
  refine zg ih hC hCl ⟨⟨_, rfl, .refl _⟩, ⟨_, rfl, .of ?_⟩, ⟨_, rfl, .of (by rw [zb (by omega) (by omega)]; rfl)⟩, trivial⟩ trivial rfl rfl (Nat.zero_le _)
  show vSb ((⟨(T0 ++ delT d ++ litsT c).toArray⟩ : ByteArray) ++ ⟨[48, 10].toArray⟩) = _
  rw [z11, stepT]
  simp
theorem zf8 (a : Ag) (c : Ct) (h : AcM a c) (hp : z2g a c = true → c.p0.length ≤ 1000 ∧ c.p1.length ≤ 1000 ∧ c.p2.length ≤ 1000) :
  ACall Tryz.prog 14 [.d (eAg a), .d (eCt c)] [] (fun r o => r = if z2g a c = true then tupOf [vStr (certT c), vI .i64 0] else tupOf [vStr [], vI .i64 1]) := by
 refine za Tryz.func14 rfl rfl (Nat.le_of_ble_eq_true rfl) fun C hC hCl hDs hGk => ?_
 refine zf tabOk Tryz.func14 rfl trivial (z9c a c h) (.refl _) rfl ⟨_, rfl⟩ (by rintro r o rfl; rfl) ?_
 rintro _ o rfl
 cases hR : z2g a c with
 | false =>
  rw [if_neg (by decide)]
  refine z6 tabOk Tryz.func14 rfl trivial (fun _ => ?_) (fun h => by cases h)
  exact z7 tabOk Tryz.func14 rfl trivial rfl
 | true =>
 rw [if_pos rfl]
 refine z6 tabOk Tryz.func14 rfl trivial (fun h => by cases h) (fun _ => ?_)
 obtain ⟨l0, l1, l2⟩ := hp hR
 obtain ⟨hg, hA, hinv, -, hp0, hp1, hp2⟩ := z3a.1 hR
 have hA' := z10.1 hA
 have hv1 := hA'.v1
 have hE := zjh hA'
 have i0 := z1b (l := (c.g.length : Int)) (by omega) (by omega)
 have i1 := z1b (l := c.inv) (by omega) (by omega)
 have hlen : (((c.g.map eP2).length : Nat) : Int) = (c.g.length : Int) := by rw [List.length_map]
 refine zo 8 tabOk Tryz.func14 rfl rfl trivial (by kernel_rfl) ?_
 refine zq tabOk rfl trivial (z49 (c.g.length : Int) [32] (by omega) (by omega) (by decide)) (ze Tryz.func42 rfl rfl) (by rintro r o rfl; rfl) ⟨.of (congrArg (vI .i64) hlen), .refl _, trivial⟩ rfl rfl ⟨_, rfl⟩ ?_
 refine zq tabOk rfl ?nd (z49 c.inv [10] (by omega) (by omega) (by decide)) (ze Tryz.func42 rfl rfl) (by rintro r o rfl; rfl) (.refl _) rfl rfl ⟨_, rfl⟩ ?_
 case nd =>
  refine ⟨?_, trivial⟩
  show 4 + (⟨(tItoa (c.g.length : Int) ++ [32]).toArray⟩ : ByteArray).size ≤ _
  rw [szS, List.length_append, List.length_singleton]
  omega
 refine zp tabOk rfl trivial ?_
 refine zk 3 tabOk Tryz.func14 rfl ?nd2 ?_
 case nd2 =>
  refine ⟨?_, trivial⟩
  rw [show (⟨#[105, 110, 118, 32]⟩ : ByteArray) = ⟨[105, 110, 118, 32].toArray⟩ from rfl, z11, szS, szS]
  simp only [List.length_append, List.length_cons, List.length_nil]
  omega
 have hct : certT c = kInv ++ (tItoa (c.g.length : Int) ++ [32]) ++ (tItoa c.inv ++ [10]) ++ c.g.flatMap gateT ++ prT c.p0 ++ prT c.p1 ++ prT c.p2 := rfl
 rw [hct]
 have hH0 : (kInv ++ (tItoa (c.g.length : Int) ++ [32]) ++ (tItoa c.inv ++ [10])).length ≤ 100 := by
  simp only [List.length_append, List.length_cons, List.length_nil, kInv]
  omega
 apply letK (p := ASat Tryz.prog 14 Tryz.f14.ntmps C _ [(3, .ptr 1 0), (7, vTx (kInv ++ (tItoa (c.g.length : Int) ++ [32]) ++ (tItoa c.inv ++ [10])))] [none, some (bCt c)] _)
 ·intro key
  refine zg key hC hCl ⟨⟨_, rfl, .refl _⟩, ⟨_, rfl, .of ?_⟩, trivial⟩ ⟨.refl _, trivial⟩ rfl rfl (Nat.zero_le _)
  show vSb ((⟨[105, 110, 118, 32].toArray⟩ : ByteArray) ++ ⟨(tItoa (c.g.length : Int) ++ [32]).toArray⟩ ++ ⟨(tItoa c.inv ++ [10]).toArray⟩) = _
  rw [z11, z11]
  rfl
 generalize kInv ++ (tItoa (c.g.length : Int) ++ [32]) ++ (tItoa c.inv ++ [10]) = H0 at *
 have hgat := hA'.gat
 have hgi : ∀ p ∈ c.g, (0 ≤ p.1 ∧ p.1 ≤ 1000000000) ∧ 0 ≤ p.2 ∧ p.2 ≤ 1000000000 := fun p hp => (zjh hA').g p (List.mem_append_right _ hp)
 have hgl : ∀ i, ((c.g.take i).flatMap gateT).length ≤ 20000 * 50 := fun i => by
  have := z88 (c.g.take i) fun p hp => hgi p (List.mem_of_mem_take hp)
  rw [List.length_take] at this
  omega
 refine z8 tabOk Tryz.func14 rfl trivial ?_
 refine zh (α := Nat) (fun i => [(3, .ptr 1 0), (7, vTx (H0 ++ (c.g.take i).flatMap gateT)), (8, vI .i64 (i : Int))]) (fun i => [none, some (bCt c)]) (fun i => i ≤ c.g.length) (fun i => c.g.length - i) 0 (Nat.zero_le _) ?_ ?_
 ·refine fun h => zg h hC hCl ⟨⟨_, rfl, .refl _⟩, ⟨_, rfl, .of ?_⟩, ⟨_, rfl, .refl _⟩, trivial⟩ ⟨.refl _, trivial⟩ rfl rfl (Nat.zero_le _)
  rw [List.take_zero, List.flatMap_nil, List.append_nil]
 rintro i hi ih
 have hgl0 := hgl i
 refine z6 tabOk Tryz.func14 rfl trivial (fun hb => ?_) (fun hb => ?_)
 ·have hb : decide ((i : Int) < (((c.g.map eP2).length : Nat) : Int)) = true := hb
  rw [decide_eq_true_eq, hlen] at hb
  have hlt : i < c.g.length := by omega
  have ih := ih (i + 1) (by omega) (by omega)
  have hx := hgi c.g[i] (List.getElem_mem hlt)
  have hgd : c.g.getD i (0, 0) = c.g[i] := by rw [List.getD_eq_getElem?_getD, List.getElem?_eq_getElem hlt]; rfl
  rw [List.take_succ_eq_append_getElem hlt, zcx, ← List.append_assoc] at ih
  generalize c.g[i] = x at *
  have j0 := z1b (l := x.1) (by omega) (by omega)
  have j1 := z1b (l := x.2) (by omega) (by omega)
  have hT : (H0 ++ (c.g.take i).flatMap gateT).length ≤ 1000100 := by rw [List.length_append]; omega
  generalize H0 ++ (c.g.take i).flatMap gateT = T at *
  have hin : (0 ≤ (i : Int) ∧ (i : Int) < (((c.g.map eP2).length : Nat) : Int)) := by rw [hlen]; omega
  refine zo 16 tabOk Tryz.func14 rfl rfl trivial (by kernel_rfl) ?_
  refine zq tabOk rfl ⟨hin, trivial⟩ (z49 x.1 [32] (by omega) (by omega) (by decide)) (ze Tryz.func42 rfl rfl) (by rintro r o rfl; rfl) ⟨.of (congrArg (fun z : P2 => vI .i64 z.1) hgd), .refl _, trivial⟩ rfl rfl ⟨_, rfl⟩ ?_
  refine zq tabOk rfl ?nd3 (z49 x.2 [10] (by omega) (by omega) (by decide)) (ze Tryz.func42 rfl rfl) (by rintro r o rfl; rfl) ⟨.of (congrArg (fun z : P2 => vI .i64 z.2) hgd), .refl _, trivial⟩ rfl rfl ⟨_, rfl⟩ ?_
  case nd3 =>
   refine ⟨hin, ?_, trivial⟩
   rw [szS, szS, List.length_append, List.length_singleton]
   omega
  refine zp tabOk rfl trivial ?_
  refine z8 tabOk Tryz.func14 rfl ?nd4 ?_
  case nd4 =>
   refine ⟨?_, trivial⟩
   rw [z11, szS, szS]
   simp only [List.length_append, List.length_cons, List.length_nil]
   omega
  refine zg ih hC hCl ⟨⟨_, rfl, .refl _⟩, ⟨_, rfl, .of ?_⟩, ⟨_, rfl, .of (by rw [zb (by omega) (by omega)]; rfl)⟩, trivial⟩ ⟨.refl _, trivial⟩ rfl rfl (Nat.zero_le _)
  show vSb ((⟨T.toArray⟩ : ByteArray) ++ ⟨(tItoa x.1 ++ [32]).toArray⟩ ++ ⟨(tItoa x.2 ++ [10]).toArray⟩) = _
  rw [z11, z11, List.append_assoc]
  rfl
 have hb : decide ((i : Int) < (((c.g.map eP2).length : Nat) : Int)) = false := hb
 rw [decide_eq_false_iff_not, hlen] at hb
 obtain rfl : i = c.g.length := by omega
 rw [List.take_length] at hgl0 ⊢
 obtain ⟨x0, y0, z0⟩ := zch (by omega) hp0 l0
 obtain ⟨x1, y1, z1⟩ := zch (by omega) hp1 l1
 obtain ⟨x2, y2, z2⟩ := zch (by omega) hp2 l2
 generalize hT : H0 ++ c.g.flatMap gateT = T at *
 have hTl : T.length ≤ 1000100 := by rw [← hT, List.length_append]; omega
 have q0 := z1b (l := (c.p0.length : Int)) (by omega) (by omega)
 have q1 := z1b (l := (c.p1.length : Int)) (by omega) (by omega)
 have q2 := z1b (l := (c.p2.length : Int)) (by omega) (by omega)
 clear hgl hct
 refine z8 tabOk Tryz.func14 rfl trivial ?_
 refine z2q ?_
 apply letK (p := ASat Tryz.prog 14 Tryz.f14.ntmps C _ [(3, .ptr 1 0), (7, vTx T), (9, vI .i64 0)] [none, some (bCt c)] _)
 ·intro key
  exact zg key hC hCl ⟨⟨_, rfl, .refl _⟩, ⟨_, rfl, .refl _⟩, ⟨_, rfl, .refl _⟩, trivial⟩ ⟨.refl _, trivial⟩ rfl rfl (Nat.zero_le _)
 refine z6 tabOk Tryz.func14 rfl trivial (fun _ => ?_) (fun h => by cases h)
 refine zo 14 tabOk Tryz.func14 rfl rfl trivial (by kernel_rfl) ?_
 refine zq tabOk rfl ⟨?nda0, trivial⟩ (z49 (c.p0.length : Int) [10] (by omega) (by omega) (by decide)) (ze Tryz.func42 rfl rfl) (by rintro r o rfl; rfl) ⟨.of (congrArg (vI .i64) zcq), .refl _, trivial⟩ rfl rfl ⟨_, rfl⟩ ?_
 case nda0 =>
  rw [szS]
  show _ + 6 ≤ _
  omega
 refine zq tabOk rfl ⟨?ndb0, trivial⟩ (z5w c.p0 z0 l0) (ze Tryz.func43 rfl rfl) (by rintro r o rfl; rfl) (.refl _) rfl rfl ⟨_, rfl⟩ ?_
 case ndb0 =>
  rw [show (⟨#[112, 114, 111, 111, 102, 32]⟩ : ByteArray) = ⟨[112, 114, 111, 111, 102, 32].toArray⟩ from rfl, z11, szS, szS]
  simp only [List.length_append, List.length_cons, List.length_nil]
  omega
 refine zp tabOk rfl trivial ?_
 refine z8 tabOk Tryz.func14 rfl ⟨?ndc0, trivial⟩ ?_
 case ndc0 =>
  rw [show (⟨#[112, 114, 111, 111, 102, 32]⟩ : ByteArray) = ⟨[112, 114, 111, 111, 102, 32].toArray⟩ from rfl, z11, z11, szS, szS]
  simp only [List.length_append, List.length_cons, List.length_nil]
  omega
 refine z1j ?_
 apply letK (p := ASat Tryz.prog 14 Tryz.f14.ntmps C _ [(3, .ptr 1 0), (7, vTx (T ++ prT c.p0)), (9, vI .i64 1)] [none, some (bCt c)] _)
 ·intro key
  refine zg key hC hCl ⟨⟨_, rfl, .refl _⟩, ⟨_, rfl, .of ?_⟩, ⟨_, rfl, .refl _⟩, trivial⟩ ⟨.refl _, trivial⟩ rfl rfl (Nat.zero_le _)
  show vSb ((⟨(T).toArray⟩ : ByteArray) ++ ⟨[112, 114, 111, 111, 102, 32].toArray⟩ ++ ⟨(tItoa (c.p0.length : Int) ++ [10]).toArray⟩ ++ ⟨(z18 c.p0).toArray⟩) = _
  rw [z11, z11, z11, show prT c.p0 = [112, 114, 111, 111, 102, 32] ++ (tItoa (c.p0.length : Int) ++ [10]) ++ z18 c.p0 from rfl]
  simp only [List.append_assoc]
 refine z6 tabOk Tryz.func14 rfl trivial (fun _ => ?_) (fun h => by cases h)
 refine zo 14 tabOk Tryz.func14 rfl rfl trivial (by kernel_rfl) ?_
 refine zq tabOk rfl ⟨?nda1, trivial⟩ (z49 (c.p1.length : Int) [10] (by omega) (by omega) (by decide)) (ze Tryz.func42 rfl rfl) (by rintro r o rfl; rfl) ⟨.of (congrArg (vI .i64) zcq), .refl _, trivial⟩ rfl rfl ⟨_, rfl⟩ ?_
 case nda1 =>
  rw [szS]
  show _ + 6 ≤ _
  simp only [List.length_append]
  omega
 refine zq tabOk rfl ⟨?ndb1, trivial⟩ (z5w c.p1 z1 l1) (ze Tryz.func43 rfl rfl) (by rintro r o rfl; rfl) (.refl _) rfl rfl ⟨_, rfl⟩ ?_
 case ndb1 =>
  rw [show (⟨#[112, 114, 111, 111, 102, 32]⟩ : ByteArray) = ⟨[112, 114, 111, 111, 102, 32].toArray⟩ from rfl, z11, szS, szS]
  simp only [List.length_append, List.length_cons, List.length_nil]
  omega
 refine zp tabOk rfl trivial ?_
 refine z8 tabOk Tryz.func14 rfl ⟨?ndc1, trivial⟩ ?_
 case ndc1 =>
  rw [show (⟨#[112, 114, 111, 111, 102, 32]⟩ : ByteArray) = ⟨[112, 114, 111, 111, 102, 32].toArray⟩ from rfl, z11, z11, szS, szS]
  simp only [List.length_append, List.length_cons, List.length_nil]
  omega
 refine z1j ?_
 apply letK (p := ASat Tryz.prog 14 Tryz.f14.ntmps C _ [(3, .ptr 1 0), (7, vTx (T ++ prT c.p0 ++ prT c.p1)), (9, vI .i64 2)] [none, some (bCt c)] _)
 ·intro key
  refine zg key hC hCl ⟨⟨_, rfl, .refl _⟩, ⟨_, rfl, .of ?_⟩, ⟨_, rfl, .refl _⟩, trivial⟩ ⟨.refl _, trivial⟩ rfl rfl (Nat.zero_le _)
  show vSb ((⟨(T ++ prT c.p0).toArray⟩ : ByteArray) ++ ⟨[112, 114, 111, 111, 102, 32].toArray⟩ ++ ⟨(tItoa (c.p1.length : Int) ++ [10]).toArray⟩ ++ ⟨(z18 c.p1).toArray⟩) = _
  rw [z11, z11, z11, show prT c.p1 = [112, 114, 111, 111, 102, 32] ++ (tItoa (c.p1.length : Int) ++ [10]) ++ z18 c.p1 from rfl]
  simp only [List.append_assoc]
 refine z6 tabOk Tryz.func14 rfl trivial (fun _ => ?_) (fun h => by cases h)
 refine zo 14 tabOk Tryz.func14 rfl rfl trivial (by kernel_rfl) ?_
 refine zq tabOk rfl ⟨?nda2, trivial⟩ (z49 (c.p2.length : Int) [10] (by omega) (by omega) (by decide)) (ze Tryz.func42 rfl rfl) (by rintro r o rfl; rfl) ⟨.of (congrArg (vI .i64) zcq), .refl _, trivial⟩ rfl rfl ⟨_, rfl⟩ ?_
 case nda2 =>
  rw [szS]
  show _ + 6 ≤ _
  simp only [List.length_append]
  omega
 refine zq tabOk rfl ⟨?ndb2, trivial⟩ (z5w c.p2 z2 l2) (ze Tryz.func43 rfl rfl) (by rintro r o rfl; rfl) (.refl _) rfl rfl ⟨_, rfl⟩ ?_
 case ndb2 =>
  rw [show (⟨#[112, 114, 111, 111, 102, 32]⟩ : ByteArray) = ⟨[112, 114, 111, 111, 102, 32].toArray⟩ from rfl, z11, szS, szS]
  simp only [List.length_append, List.length_cons, List.length_nil]
  omega
 refine zp tabOk rfl trivial ?_
 refine z8 tabOk Tryz.func14 rfl ⟨?ndc2, trivial⟩ ?_
 case ndc2 =>
  rw [show (⟨#[112, 114, 111, 111, 102, 32]⟩ : ByteArray) = ⟨[112, 114, 111, 111, 102, 32].toArray⟩ from rfl, z11, z11, szS, szS]
  simp only [List.length_append, List.length_cons, List.length_nil]
  omega
 refine z1j ?_
 apply letK (p := ASat Tryz.prog 14 Tryz.f14.ntmps C _ [(3, .ptr 1 0), (7, vTx (T ++ prT c.p0 ++ prT c.p1 ++ prT c.p2)), (9, vI .i64 3)] [none, some (bCt c)] _)
 ·intro key
  refine zg key hC hCl ⟨⟨_, rfl, .refl _⟩, ⟨_, rfl, .of ?_⟩, ⟨_, rfl, .refl _⟩, trivial⟩ ⟨.refl _, trivial⟩ rfl rfl (Nat.zero_le _)
  show vSb ((⟨(T ++ prT c.p0 ++ prT c.p1).toArray⟩ : ByteArray) ++ ⟨[112, 114, 111, 111, 102, 32].toArray⟩ ++ ⟨(tItoa (c.p2.length : Int) ++ [10]).toArray⟩ ++ ⟨(z18 c.p2).toArray⟩) = _
  rw [z11, z11, z11, show prT c.p2 = [112, 114, 111, 111, 102, 32] ++ (tItoa (c.p2.length : Int) ++ [10]) ++ z18 c.p2 from rfl]
  simp only [List.append_assoc]
 refine z6 tabOk Tryz.func14 rfl trivial (fun h => by cases h) (fun _ => ?_)
 exact z7 tabOk Tryz.func14 rfl trivial rfl
end Go.Proofs.YtkemmijjpclckaaGreatDoor
namespace Go.Proofs.YtkemmijjpclckaaGreatDoor
open Go Ab Go.RowKit
theorem zkj : ∃ f g : Field, Tryz.prog.underlying 85 = some (.struct ⟨[f, g]⟩) ∧ f.type = 3 ∧ g.type = 3 ∧ f.offset = 0 ∧ g.offset = 1 ∧ f.name ≠ "_" ∧ g.name ≠ "_" := by
 have h : pairB (Tryz.prog.underlying 85) = true := by kernel_rfl
 unfold pairB at h
 split at h
 ·rename_i f g hfg
  simp only [Bool.and_eq_true, beq_iff_eq, bne_iff_ne] at h
  obtain ⟨⟨⟨⟨⟨h1, h2⟩, h3⟩, h4⟩, h5⟩, h6⟩ := h
  exact ⟨f, g, hfg, h1, h2, h3, h4, h5, h6⟩
 ·cases h
theorem zrr (w : World) (a b : Int) : (Op.equal 85 (.agg #[.int .i64 a, .int .i64 b]) (.agg #[.int .i64 a, .int .i64 b])).run Tryz.prog w = .ok true w := by
 obtain ⟨f, g, h0, h1, h2, h3, h4, h5, h6⟩ := zkj
 have hs : Tryz.prog.stoodInHeld 85 = false := by kernel_rfl
 have key : ∀ D : Nat, (Op.equalIn (D + 1 + 1) 85 (.agg #[.int .i64 a, .int .i64 b]) (.agg #[.int .i64 a, .int .i64 b])).run Tryz.prog w = .ok true w := fun D => by
  have q := fun x => znr w D x x
  simp only [BEq.rfl] at q
  have p0 := fun x y => zfd w 3 x y rfl
  have p1 := fun x y => zfc w 3 x y rfl
  rw [Op.equalIn]
  generalize Op.equalIn (D + 1) = E at *
  simp [run_underlying h0, hs, h1, h2, h3, h4, h5, h6, p0, p1, q]
 exact key 9998
theorem zng (w : World) (x y : Operand) (u v : Value) (hu : ∃ us, u = .agg us) (hv : ∃ vs, v = .agg vs) : (eqGuard .neq 85 x y u v).run Tryz.prog w = .ok () w := by
 obtain ⟨us, rfl⟩ := hu
 obtain ⟨vs, rfl⟩ := hv
 have h : Tryz.prog.eqGuardType Tryz.prog.depth 85 = false := by kernel_rfl
 simp [eqGuard, h]
def tripB : Option TypeDesc → Bool
 | some (.struct ⟨[f, g, k]⟩) => f.type == 5 && g.type == 3 && k.type == 9 && f.offset == 0 && g.offset == 1 && k.offset == 2 && f.name != "_" && g.name != "_" && k.name != "_"
 | _ => false
theorem zmw : ∃ f g k : Field, Tryz.prog.underlying 104 = some (.struct ⟨[f, g, k]⟩) ∧ f.type = 5 ∧ g.type = 3 ∧ k.type = 9 ∧ f.offset = 0 ∧ g.offset = 1 ∧ k.offset = 2 ∧ f.name ≠ "_" ∧ g.name ≠ "_" ∧ k.name ≠ "_" := by
 have h : tripB (Tryz.prog.underlying 104) = true := by kernel_rfl
 unfold tripB at h
 split at h
 ·rename_i f g k hfg
  simp only [Bool.and_eq_true, beq_iff_eq, bne_iff_ne] at h
  obtain ⟨⟨⟨⟨⟨⟨⟨⟨h1, h2⟩, h3⟩, h4⟩, h5⟩, h6⟩, h7⟩, h8⟩, h9⟩ := h
  exact ⟨f, g, k, hfg, h1, h2, h3, h4, h5, h6, h7, h8, h9⟩
 ·cases h
theorem eq_u8 (w : World) (d : Nat) (a : Int) : (Op.equalIn (d + 1) 5 (.int .u8 a) (.int .u8 a)).run Tryz.prog w = .ok true w := by
 have ht : Tryz.prog.underlying 5 = some (.int .u8) := by kernel_rfl
 simp [Op.equalIn, run_underlying ht]
theorem zrp (w : World) (d : Nat) (a : ByteArray) : (Op.equalIn (d + 1) 9 (.string a) (.string a)).run Tryz.prog w = .ok true w := by
 have ht : Tryz.prog.underlying 9 = some .string := by kernel_rfl
 have hb : (a == a) = true := by
  first
  |exact beq_self_eq_true a
  |exact decide_eq_true rfl
  |(show (a.toList == a.toList) = true; simp)
  |(show (a.data == a.data) = true; simp)
 simp [Op.equalIn, run_underlying ht, hb]
theorem zhb (w : World) (t : TypeId) (x y z : Value) (i : Nat) (v : Value) (hi : #[x, y, z][i]? = some v) (ht : Tryz.prog.underlying t = some (.int .u8) ∨ Tryz.prog.underlying t = some (.int .i64) ∨ Tryz.prog.underlying t = some .string) : (part t #[x, y, z] i).run Tryz.prog w = .ok v w := by
 rcases ht with ht | ht | ht <;> simp [part, z4t ht, Pagg, ht, hi]
theorem eq_nm (w : World) (a b : Int) (s : ByteArray) : (Op.equal 104 (.agg #[.int .u8 a, .int .i64 b, .string s]) (.agg #[.int .u8 a, .int .i64 b, .string s])).run Tryz.prog w = .ok true w := by
 obtain ⟨f, g, k, h0, h1, h2, h3, h4, h5, h6, h7, h8, h9⟩ := zmw
 have hs : Tryz.prog.stoodInHeld 104 = false := by kernel_rfl
 have t0 : Tryz.prog.underlying 5 = some (.int .u8) := by kernel_rfl
 have t1 : Tryz.prog.underlying 3 = some (.int .i64) := by kernel_rfl
 have t2 : Tryz.prog.underlying 9 = some .string := by kernel_rfl
 have key : ∀ D : Nat, (Op.equalIn (D + 1 + 1) 104 (.agg #[.int .u8 a, .int .i64 b, .string s]) (.agg #[.int .u8 a, .int .i64 b, .string s])).run Tryz.prog w = .ok true w := fun D => by
  have q0 := eq_u8 w D a
  have q1 := znr w D b b
  have q2 := zrp w D s
  simp only [BEq.rfl] at q1
  have p0 := zhb w 5 (.int .u8 a) (.int .i64 b) (.string s) 0 _ rfl (.inl t0)
  have p1 := zhb w 3 (.int .u8 a) (.int .i64 b) (.string s) 1 _ rfl (.inr (.inl t1))
  have p2 := zhb w 9 (.int .u8 a) (.int .i64 b) (.string s) 2 _ rfl (.inr (.inr t2))
  rw [Op.equalIn]
  generalize Op.equalIn (D + 1) = E at *
  simp [run_underlying h0, hs, h1, h2, h3, h4, h5, h6, h7, h8, h9, p0, p1, p2, q0, q1, q2]
 exact key 9998
theorem zpl (w : World) (x y : Operand) (u v : Value) (hu : ∃ us, u = .agg us) (hv : ∃ vs, v = .agg vs) : (eqGuard .neq 104 x y u v).run Tryz.prog w = .ok () w := by
 obtain ⟨us, rfl⟩ := hu
 obtain ⟨vs, rfl⟩ := hv
 have h : Tryz.prog.eqGuardType Tryz.prog.depth 104 = false := by kernel_rfl
 simp [eqGuard, h]
theorem zq4 {w : World} {ok : Nat → Prop} {π : List Value} {p : Nm} {v : Value} (h : RelV w ok π (.d (eNm p)) v) : v = .agg #[.int .u8 (p.1.toNat : Int), .int .i64 p.2.1, .string ⟨p.2.2.toArray⟩] := by
 cases h with | d h => cases h with | ag h =>
 cases h with | cons h1 _ h => cases h with | cons h2 _ h => cases h with | cons h3 _ h => cases h with | nil =>
 cases h1 with | v _ => cases h2 with | v _ => cases h3 with | v _ => rfl
section
variable {f : FuncId} {fn : Func} {n : Nat} {C : Cx} {R : AV → List (Option AObj) → Prop} {k : List Item} {env : Env} {objs : List (Option AObj)} {ops : Array Oper}
theorem zh2 {i : Nat} {r : List Nat} {o : Oper} {e : Env} {x y : Operand} {t2 : TypeId} {p : P2} (ho : ops[i]? = some o) (hw : wantE ops env o = .yes) (hop : o.op = .binOp .neq 85 x y t2)
  (hx : opnd env x = some (.d (eP2 p))) (hy : opnd env y = some (.d (eP2 p))) (hput : putE n o.dst (vB false) env = some e)
  (h : ASat Tryz.prog f n C (.inRegion ops r :: k) e objs R) : ASat Tryz.prog f n C (.inRegion ops (i :: r) :: k) env objs R := by
 refine z1y _ ho hw (fun X π w tmps m he => ?_) hput h
 have hv := zdi (zj (ds := []) he hx)
 have hu := zdi (zj (ds := []) he hy)
 refine ⟨.bool false, ?_, .d (.v rfl)⟩
 have hg := zng w x y (.agg #[.int .i64 p.1, .int .i64 p.2]) (.agg #[.int .i64 p.1, .int .i64 p.2]) ⟨_, rfl⟩ ⟨_, rfl⟩
 have hq := zrr w p.1 p.2
 unfold execOp
 simp [hop, hv, hu, hg, binOp, hq]
theorem zjy {i : Nat} {r : List Nat} {o : Oper} {e : Env} {x y : Operand} {t2 : TypeId} {p : Nm} (ho : ops[i]? = some o) (hw : wantE ops env o = .yes) (hop : o.op = .binOp .neq 104 x y t2)
  (hx : opnd env x = some (.d (eNm p))) (hy : opnd env y = some (.d (eNm p))) (hput : putE n o.dst (vB false) env = some e)
  (h : ASat Tryz.prog f n C (.inRegion ops r :: k) e objs R) : ASat Tryz.prog f n C (.inRegion ops (i :: r) :: k) env objs R := by
 refine z1y _ ho hw (fun X π w tmps m he => ?_) hput h
 have hv := zq4 (zj (ds := []) he hx)
 have hu := zq4 (zj (ds := []) he hy)
 refine ⟨.bool false, ?_, .d (.v rfl)⟩
 have hg := zpl w x y (.agg #[.int .u8 (p.1.toNat : Int), .int .i64 p.2.1, .string ⟨p.2.2.toArray⟩]) (.agg #[.int .u8 (p.1.toNat : Int), .int .i64 p.2.1, .string ⟨p.2.2.toArray⟩]) ⟨_, rfl⟩ ⟨_, rfl⟩
 have hq := eq_nm w (p.1.toNat : Int) p.2.1 ⟨p.2.2.toArray⟩
 unfold execOp
 simp [hop, hv, hu, hg, binOp, hq]
end
end Go.Proofs.YtkemmijjpclckaaGreatDoor
namespace Go.Proofs.YtkemmijjpclckaaGreatDoor
open Go Ab Go.RowKit
theorem zh8 (a : Ag) (h1 : a.l.length ≤ 1000000) (h2 : a.g.length ≤ 1000000) (h3 : a.names.length ≤ 1000000) : ACall Tryz.prog 15 [.d (eAg a), .d (eAg a)] [] (fun r o => r = vB true) := by
 refine za Tryz.func15 rfl rfl (Nat.le_of_ble_eq_true rfl) fun C hC hCl hDs hGk => ?_
 have ho := z8k a.outs a.outs
 have hd := z8k a.bad a.bad
 have hc := z8k a.con a.con
 rw [decide_eq_true rfl] at ho hd hc
 refine zf tabOk Tryz.func15 rfl trivial ho (.refl _) rfl ⟨_, rfl⟩ (by rintro r o rfl; rfl) ?_
 rintro _ o rfl
 refine zf tabOk Tryz.func15 rfl trivial hd (.refl _) rfl ⟨_, rfl⟩ (by rintro r o rfl; rfl) ?_
 rintro _ o rfl
 refine zf tabOk Tryz.func15 rfl trivial hc (.refl _) rfl ⟨_, rfl⟩ (by rintro r o rfl; rfl) ?_
 rintro _ o rfl
 refine z6 tabOk Tryz.func15 rfl trivial (fun h => by cases h) (fun _ => ?_)
 refine z6 tabOk Tryz.func15 rfl trivial (fun h => by cases h) (fun _ => ?_)
 refine z6 tabOk Tryz.func15 rfl trivial (fun h => by cases h) (fun _ => ?_)
 refine z6 tabOk Tryz.func15 rfl trivial (fun h => ?_) (fun h => ?_)
 ·have h : (a.i != a.i) = true := h
  simp at h
 refine z6 tabOk Tryz.func15 rfl trivial (fun h => ?_) (fun h => ?_)
 ·have h : ((((a.l.map eP2).length : Nat) : Int) != (((a.l.map eP2).length : Nat) : Int)) = true := h
  simp at h
 refine z6 tabOk Tryz.func15 rfl trivial (fun h => ?_) (fun h => ?_)
 ·have h : ((((a.g.map eP2).length : Nat) : Int) != (((a.g.map eP2).length : Nat) : Int)) = true := h
  simp at h
 refine z6 tabOk Tryz.func15 rfl trivial (fun h => ?_) (fun h => ?_)
 ·have h : ((((a.names.map eNm).length : Nat) : Int) != (((a.names.map eNm).length : Nat) : Int)) = true := h
  simp at h
 refine z8 tabOk Tryz.func15 rfl trivial ?_
 refine zh (α := Nat) (fun i => [(2, .ptr 0 0), (3, .ptr 1 0), (8, vI .i64 (i : Int))]) (fun _ => [some (bAg a), some (bAg a)]) (fun i => i ≤ a.l.length) (fun i => a.l.length - i) 0 (Nat.zero_le _) ?_ ?_
 ·exact fun h => zg h hC hCl ⟨⟨_, rfl, .refl _⟩, ⟨_, rfl, .refl _⟩, ⟨_, rfl, .refl _⟩, trivial⟩ ⟨.refl _, .refl _, trivial⟩ rfl rfl (Nat.zero_le _)
 rintro i hi ih
 refine z6 tabOk Tryz.func15 rfl trivial (fun hb => ?_) (fun hb => ?_)
 ·have hb : decide ((i : Int) < (((a.l.map eP2).length : Nat) : Int)) = true := hb
  rw [decide_eq_true_eq, List.length_map] at hb
  refine zo 10 tabOk Tryz.func15 rfl rfl trivial (by kernel_rfl) ?_
  refine zp tabOk rfl ?_ ?_
  ·exact (by simp only [andP, and_true, true_and, Int.toNat_natCast, List.length_map, List.length_append, List.length_cons, List.length_nil, List.length_replicate]; omega)
  refine zh2 (p := a.l.getD i (0, 0)) rfl rfl rfl rfl rfl rfl ?_
  refine z6 tabOk Tryz.func15 rfl trivial (fun h => by cases h) (fun _ => ?_)
  refine z8 tabOk Tryz.func15 rfl trivial ?_
  exact zg (ih (i + 1) (by omega) (by omega)) hC hCl ⟨⟨_, rfl, .refl _⟩, ⟨_, rfl, .refl _⟩, ⟨_, rfl, .of (by rw [zb (by omega) (by omega)]; rfl)⟩, trivial⟩ ⟨.refl _, .refl _, trivial⟩ rfl rfl (Nat.zero_le _)
 clear ih hb
 refine z8 tabOk Tryz.func15 rfl trivial ?_
 refine zh (α := Nat) (fun i => [(2, .ptr 0 0), (3, .ptr 1 0), (9, vI .i64 (i : Int))]) (fun _ => [some (bAg a), some (bAg a)]) (fun i => i ≤ a.g.length) (fun i => a.g.length - i) 0 (Nat.zero_le _) ?_ ?_
 ·exact fun h => zg h hC hCl ⟨⟨_, rfl, .refl _⟩, ⟨_, rfl, .refl _⟩, ⟨_, rfl, .refl _⟩, trivial⟩ ⟨.refl _, .refl _, trivial⟩ rfl rfl (Nat.zero_le _)
 rintro i hi ih
 refine z6 tabOk Tryz.func15 rfl trivial (fun hb => ?_) (fun hb => ?_)
 ·have hb : decide ((i : Int) < (((a.g.map eP2).length : Nat) : Int)) = true := hb
  rw [decide_eq_true_eq, List.length_map] at hb
  refine zo 10 tabOk Tryz.func15 rfl rfl trivial (by kernel_rfl) ?_
  refine zp tabOk rfl ?_ ?_
  ·exact (by simp only [andP, and_true, true_and, Int.toNat_natCast, List.length_map, List.length_append, List.length_cons, List.length_nil, List.length_replicate]; omega)
  refine z8n (p := a.g.getD i (0, 0)) (q := a.g.getD i (0, 0)) rfl rfl rfl rfl rfl rfl ?_
  refine z6 tabOk Tryz.func15 rfl trivial (fun h => ?_) (fun h => ?_)
  ·simp at h
  refine z8 tabOk Tryz.func15 rfl trivial ?_
  exact zg (ih (i + 1) (by omega) (by omega)) hC hCl ⟨⟨_, rfl, .refl _⟩, ⟨_, rfl, .refl _⟩, ⟨_, rfl, .of (by rw [zb (by omega) (by omega)]; rfl)⟩, trivial⟩ ⟨.refl _, .refl _, trivial⟩ rfl rfl (Nat.zero_le _)
 clear ih hb
 refine z8 tabOk Tryz.func15 rfl trivial ?_
 refine zh (α := Nat) (fun i => [(2, .ptr 0 0), (3, .ptr 1 0), (10, vI .i64 (i : Int))]) (fun _ => [some (bAg a), some (bAg a)]) (fun i => i ≤ a.names.length) (fun i => a.names.length - i) 0 (Nat.zero_le _) ?_ ?_
 ·exact fun h => zg h hC hCl ⟨⟨_, rfl, .refl _⟩, ⟨_, rfl, .refl _⟩, ⟨_, rfl, .refl _⟩, trivial⟩ ⟨.refl _, .refl _, trivial⟩ rfl rfl (Nat.zero_le _)
 rintro i hi ih
 refine z6 tabOk Tryz.func15 rfl trivial (fun hb => ?_) (fun hb => ?_)
 ·have hb : decide ((i : Int) < (((a.names.map eNm).length : Nat) : Int)) = true := hb
  rw [decide_eq_true_eq, List.length_map] at hb
  refine zo 10 tabOk Tryz.func15 rfl rfl trivial (by kernel_rfl) ?_
  refine zp tabOk rfl ?_ ?_
  ·exact (by simp only [andP, and_true, true_and, Int.toNat_natCast, List.length_map, List.length_append, List.length_cons, List.length_nil, List.length_replicate]; omega)
  refine zjy (p := a.names.getD i (0, 0, [])) rfl rfl rfl rfl rfl rfl ?_
  refine z6 tabOk Tryz.func15 rfl trivial (fun h => by cases h) (fun _ => ?_)
  refine z8 tabOk Tryz.func15 rfl trivial ?_
  exact zg (ih (i + 1) (by omega) (by omega)) hC hCl ⟨⟨_, rfl, .refl _⟩, ⟨_, rfl, .refl _⟩, ⟨_, rfl, .of (by rw [zb (by omega) (by omega)]; rfl)⟩, trivial⟩ ⟨.refl _, .refl _, trivial⟩ rfl rfl (Nat.zero_le _)
 exact z7 tabOk Tryz.func15 rfl trivial rfl
end Go.Proofs.YtkemmijjpclckaaGreatDoor
namespace Go.Proofs.YtkemmijjpclckaaGreatDoor
open Go Ab Go.RowKit Go.Lib
theorem zrg (X : List UInt8) : ((⟨X.toArray⟩ : ByteArray).toList == (⟨X.toArray⟩ : ByteArray).toList) = true := beq_self_eq_true _
theorem eqT1 (b : Bool) : (b == b) = true := by cases b <;> rfl
theorem CertTells_law (a : Ag) (c d : Ct) (hm : AgM a) : ACall Tryz.prog 3 [.d (eAg a), .d (eCt c), .d (eCt d)] [] (fun r o => r = vB true) := by
 refine za Tryz.func3 rfl rfl (Nat.le_of_ble_eq_true rfl) fun C hC hCl hDs hGk => ?_
 refine zf tabOk Tryz.func3 rfl trivial zi4 (.refl _) rfl ⟨_, rfl⟩ (by rintro r o rfl; rfl) ?_
 rintro _ o rfl
 refine zf tabOk Tryz.func3 rfl trivial (zgk a c hm) (.refl _) rfl ⟨_, rfl⟩ (by rintro r o ⟨b, rfl, -⟩; rfl) ?_
 rintro _ o ⟨m, rfl, h1⟩
 cases m with
 | false =>
  repeat refine z6 tabOk Tryz.func3 rfl trivial (fun _ => ?_) (fun h => by cases h)
  exact z7 tabOk Tryz.func3 rfl trivial rfl
 | true =>
 obtain ⟨⟨sa, ra⟩, sc⟩ := h1 rfl
 have hA : Asked a c := ⟨sa, ra, sc⟩
 have hM := hA.acM
 refine z6 tabOk Tryz.func3 rfl trivial (fun h => by cases h) (fun _ => ?_)
 refine zf tabOk Tryz.func3 rfl trivial (zgk a d hm) (.refl _) rfl ⟨_, rfl⟩ (by rintro r o ⟨b, rfl, -⟩; rfl) ?_
 rintro _ o ⟨m, rfl, h2⟩
 cases m with
 | false =>
  repeat refine z6 tabOk Tryz.func3 rfl trivial (fun _ => ?_) (fun h => by cases h)
  exact z7 tabOk Tryz.func3 rfl trivial rfl
 | true =>
 refine z6 tabOk Tryz.func3 rfl trivial (fun h => by cases h) (fun _ => ?_)
 have hgl : c.g.length ≤ 1000000 := by have := hM.b.cg; omega
 refine zf tabOk Tryz.func3 rfl trivial (zbs a c hM.b (fun _ => hA.thou)) (.refl _) rfl ⟨_, rfl⟩ (by rintro r o rfl; split <;> rfl) ?_
 rintro _ o rfl
 have hP := zf8 a c hM (fun _ => hA.thou)
 have c1 := z58 a c hM.b.ag hM.b.cg
 have c2 := zaq a c hM.b.ag hM.b.cg
 have c3 := zh8 (zn a c) (by have := sa.l; show a.l.length ≤ _; omega) (by have := hM.b.ag; have := hM.b.cg; show (a.g ++ c.g).length ≤ _; rw [List.length_append]; omega) (by have := sa.names; show a.names.length ≤ _; omega)
 have c4 := z4n a c hM.b
 have c5 := z9c a c hM
 have c6 := zd8 c d hgl
 have c7 := zh7 c d hgl
 change ACall _ _ _ _ (fun r o => r = vB (sameC c d)) at c6
 generalize sameC c d = S at *
 generalize zn a c = G at *
 generalize z2g a c = R at *
 obtain ⟨X, E, hXE⟩ : ∃ (X : List UInt8) (E : Int), (if R = true then tupOf [vStr (certT c), vI .i64 0] else tupOf [vStr [], vI .i64 1]) = tupOf [vStr X, vI .i64 E] := by
  cases R
  ·exact ⟨_, _, rfl⟩
  ·exact ⟨_, _, rfl⟩
 rw [hXE] at hP ⊢
 refine zf tabOk Tryz.func3 rfl trivial hP (.refl _) rfl ⟨_, rfl⟩ (by rintro r o rfl; rfl) ?_
 rintro _ o rfl
 refine zo 36 tabOk Tryz.func3 rfl rfl trivial (by kernel_rfl) ?_
 refine zw tabOk rfl trivial (fun _ => ?_) (fun h => by cases h)
 refine zq tabOk rfl trivial c1 (ze Tryz.func16 rfl rfl) (by rintro r o rfl; rfl) (.refl _) rfl rfl ⟨_, rfl⟩ ?_
 refine zq tabOk rfl trivial c2 (ze Tryz.func17 rfl rfl) (by rintro r o rfl; rfl) (.refl _) rfl rfl ⟨_, rfl⟩ ?_
 refine zq tabOk rfl trivial c3 (ze Tryz.func15 rfl rfl) (by rintro r o rfl; rfl) (.refl _) rfl rfl ⟨_, rfl⟩ ?_
 refine zw tabOk rfl trivial (fun _ => ?_) (fun h => by cases h)
 refine zq tabOk rfl trivial c4 (ze Tryz.func18 rfl rfl) (by rintro r o rfl; rfl) (.refl _) rfl rfl ⟨_, rfl⟩ ?_
 refine zq tabOk rfl trivial c5 (ze Tryz.func19 rfl rfl) (by rintro r o rfl; rfl) (.refl _) rfl rfl ⟨_, rfl⟩ ?_
 refine zw tabOk rfl trivial (fun _ => ?_) (fun h => absurd ((eqT1 R).symm.trans h) (by decide))
 refine zq tabOk rfl trivial c6 (ze Tryz.func20 rfl rfl) (by rintro r o rfl; rfl) (.refl _) rfl rfl ⟨_, rfl⟩ ?_
 refine zq tabOk rfl trivial c7 (ze Tryz.func21 rfl rfl) (by rintro r o rfl; rfl) (.refl _) rfl rfl ⟨_, rfl⟩ ?_
 refine zw tabOk rfl trivial (fun _ => ?_) (fun h => absurd ((eqT1 S).symm.trans h) (by decide))
 refine zw tabOk rfl trivial (fun _ => ?_) (fun h => absurd ((zrg X).symm.trans h) (by decide))
 refine zp tabOk rfl trivial ?_
 refine z7 tabOk Tryz.func3 rfl trivial ?_
 show vB (E == E) = _
 rw [beq_self_eq_true]
end Go.Proofs.YtkemmijjpclckaaGreatDoor
namespace Ab
open Go
variable [Draws]
def zmc (l : List Nat) : Bool := l.all fun n => decide (n ≤ reachBytes)
structure ReadsS (P : Program) (t : TypeId) {α : Type} (enc : α → D) (Q : α → Prop) : Prop where
 len : ∀ a, (enc a).cells.length = P.cellsOf t
 rd : ∀ {H : Type} (eH : TypeId × Value → H) (w : World) (fuel : Nat) (cs : List Value) (x : DataW H × List MemPlace) (ok : Nat → Prop), (∀ b, ok b) → DataW.trod eH P w 0 (fun _ => true) true fuel t cs = some x → zmc (x.1.weights P t) = true → ∃ a, Q a ∧ RelL w ok (enc a).cells cs
theorem Reads.toS {P : Program} {t : TypeId} {α : Type} {enc : α → D} {Q : α → Prop} (R : Reads P t enc Q) : ReadsS P t enc Q where
 len := R.len
 rd eH w fuel cs x ok hok h _ := R.rd eH w fuel cs x ok hok h
theorem Reads.via {P : Program} {t : TypeId} {α β : Type} {enc : α → D} {Q : α → Prop} {enc' : β → D} {Q' : β → Prop} (R : Reads P t enc Q) (g : α → β) (hg : ∀ a, Q a → Q' (g a)) (he : ∀ a, Q a → enc' (g a) = enc a) (hl : ∀ b, (enc' b).cells.length = P.cellsOf t) : Reads P t enc' Q' where
 len := hl
 rd eH w fuel cs x ok hok h := by
  obtain ⟨a, qa, ra⟩ := R.rd eH w fuel cs x ok hok h
  exact ⟨g a, hg a qa, by rw [he a qa]; exact ra⟩
theorem ReadsS.via {P : Program} {t : TypeId} {α β : Type} {enc : α → D} {Q : α → Prop} {enc' : β → D} {Q' : β → Prop} (R : ReadsS P t enc Q) (g : α → β) (hg : ∀ a, Q a → Q' (g a)) (he : ∀ a, Q a → enc' (g a) = enc a) (hl : ∀ b, (enc' b).cells.length = P.cellsOf t) : ReadsS P t enc' Q' where
 len := hl
 rd eH w fuel cs x ok hok h hw := by
  obtain ⟨a, qa, ra⟩ := R.rd eH w fuel cs x ok hok h hw
  exact ⟨g a, hg a qa, by rw [he a qa]; exact ra⟩
structure ReadsFS (P : Program) (fs : List Field) (o tot : Nat) {α : Type} (enc : α → List D) (Q : α → Prop) : Prop where
 len : ∀ a, (enc a).length = tot
 rd : ∀ {H : Type} (eH : TypeId × Value → H) (w : World) (fuel : Nat) (cs : List Value) (ok : Nat → Prop), (∀ b, ok b) → (∀ f ∈ fs, ∃ x, DataW.trod eH P w 0 (fun _ => true) true fuel f.type ((cs.drop f.offset).take (P.cellsOf f.type)) = some x ∧ zmc (x.1.weights P f.type) = true) → ∃ a, Q a ∧ RelL w ok (enc a) ((cs.drop o).take tot)
theorem ReadsS.argS {P : Program} {t : TypeId} {α : Type} {enc : α → D} {Q : α → Prop} (R : ReadsS P t enc Q) {H : Type} {eH : TypeId × Value → H} {W : World} {cs : Array Value} {d : DataW H} {p : List MemPlace} (h : DataW.Trod eH P W 0 (fun _ => true) true t (.agg cs) d p) (hw : zmc (d.weights P t) = true) (ok : Nat → Prop) (hok : ∀ b, ok b) :
  ∃ a, Q a ∧ RelL W ok (enc a).cells cs.toList := by
 obtain ⟨fuel, hf⟩ := h
 exact R.rd eH W fuel cs.toList _ ok hok hf hw
end Ab
