/- A part of the proof. -/
import Derived.Test.YtkemmijjpclckaaGreatDoorP22
import Derived.Lib.ConvBytes
import Derived.Lib.SlBytesConst
set_option linter.unusedVariables false
set_option linter.unusedSimpArgs false
set_option linter.unusedSectionVars false
set_option maxRecDepth 100000
set_option maxHeartbeats 8000000
namespace Ab
open Go
variable [Draws]
section
variable {P : Program} [Globals P] {T : Tab} {f : FuncId} {n : Nat} {C : Cx} {R : AV → List (Option AObj) → Prop} {env : Env} {objs : List (Option AObj)} {ops : Array Oper}
theorem zqc {i : Nat} {r : List Nat} {k : List Item} {o : Oper} {e2 : Env} {src dst e : TypeId} {rs rd re : TRow} {xo : Operand} {bs : List UInt8} (hT : TabOk P T) (ho : ops[i]? = some o) (hw : wantE ops env o = .yes) (hop : o.op = .convert src dst xo) (hx : opnd env xo = some (.d (.v (.string ⟨bs.toArray⟩))))
  (hrs : tlook T src = some rs) (hks : rs.kd = .str) (hrd : tlook T dst = some rd) (hkd : rd.kd = .slice e) (hre : tlook T e = some re) (h8 : re.kd = .int .u8) (hlen : bs.length ≤ 1000000000)
  (hput : putE n o.dst (.gs objs.length) env = some e2) (h : ASat P f n C (.inRegion ops r :: k) e2 (objs ++ [some (gL e 1 eU8 0 bs)]) R) : ASat P f n C (.inRegion ops (i :: r) :: k) env objs R := by
 refine z63 ⟨none, false, .gs objs.length, none, objs ++ [some (gL e 1 eU8 0 bs)]⟩ ho hw (fun X π w tmps m he _ => ?_) trivial hput h
 have hax := z52 (P := P) he hx
 have hs := z4q hT hrs hks
 have hd := z1b hT hrd hkd
 have heU := zao hT hre h8
 have hrun := Go.Lib.run_convert_string_bytes (P := P) w src dst e ⟨bs.toArray⟩ hs hd heU
 have hsize : (⟨bs.toArray⟩ : ByteArray).size = bs.length := by simp [ByteArray.size]
 have hml : maxLen = 9223372036854775807 := rfl
 rw [hsize] at hrun
 have hcell := Go.Lib.bytesWorld_cell w e ⟨bs.toArray⟩
 have hold : ∀ b, b < w.heap.size → (Go.Lib.bytesWorld w e ⟨bs.toArray⟩).heap[b]? = w.heap[b]? := fun b hb => Go.Lib.bytesWorld_at_old w e _ b hb
 have hnew := Go.Lib.bytesWorld_at_new w e ⟨bs.toArray⟩
 have hhs := Go.Lib.bytesWorld_size w e ⟨bs.toArray⟩
 have hout : (Go.Lib.bytesWorld w e ⟨bs.toArray⟩).os = w.os ∧ (Go.Lib.bytesWorld w e ⟨bs.toArray⟩).tape = w.tape ∧ (Go.Lib.bytesWorld w e ⟨bs.toArray⟩).output = w.output ∧ w.drawn ≤ (Go.Lib.bytesWorld w e ⟨bs.toArray⟩).drawn := by
  unfold Go.Lib.bytesWorld World.freeze
  rw [if_neg (by decide)]
  exact ⟨rfl, rfl, rfl, Nat.le_succ _⟩
 have hc1 := grownCap_ge w bs.length 0 e
 have hc2 := grownCap_le_maxLen w bs.length 0 e (by omega)
 have hclen : (Go.Lib.bytesCells w e ⟨bs.toArray⟩).size = grownCap w bs.length 0 e := by
  simp only [Go.Lib.bytesCells, hsize, Array.size_append, Array.size_map, List.size_toArray, Array.size_replicate]
  omega
 generalize grownCap w bs.length 0 e = c at hc1 hc2 hclen hrun
 generalize Go.Lib.bytesCells w e ⟨bs.toArray⟩ = BC at hnew hclen
 generalize Go.Lib.bytesWorld w e ⟨bs.toArray⟩ = W at *
 obtain ⟨BC⟩ := BC
 simp only [List.size_toArray] at hclen hnew
 have hh' : ∀ b, blk (.slice (some ⟨w.heap.size, 0, none⟩) bs.length c) = some b → w.heap.size ≤ b := by
  intro b hb
  cases c <;> cases hb
  exact Nat.le_refl _
 refine ⟨.slice (some ⟨w.heap.size, 0, none⟩) bs.length c, W, π ++ [.slice (some ⟨w.heap.size, 0, none⟩) bs.length c], ?_, z2n m hout.1 hout.2.1 ⟨hout.2.2.1, zy hout.2.2.2⟩ (by rw [hhs]; omega) hold _ (gL e 1 eU8 0 bs) hh' ?_, fun _ => .gs (z4y m.len _)⟩
 ·unfold execOp
  rw [hop]
  simp only [Sem.run_bind, hax, hrun, Result.andThen_ok, Sem.run_pure]
  rfl
 ·cases c with
  | zero =>
   obtain rfl : bs = [] := List.eq_nil_of_length_eq_zero (by omega)
   exact .gnil
  | succ c =>
   have hls : (bs.map fun b => Value.int .u8 (b.toNat : Int)).length = bs.length := by simp
   have hk := z4b (X := X) (π := π) (objs := objs) hold (.slice (some ⟨w.heap.size, 0, none⟩) bs.length (c + 1)) (gL e 1 eU8 0 bs) m.len hh'
   have := RelO.grow (w := W) (ok := okOf X (π ++ [.slice (some ⟨w.heap.size, 0, none⟩) bs.length (c + 1)]) (objs ++ [some (gL e 1 eU8 0 bs)])) (π := π ++ [.slice (some ⟨w.heap.size, 0, none⟩) bs.length (c + 1)]) (e := e) (s := 1) (b := w.heap.size) (o := 0) (c := c) (xs := bs.map eU8) (us := bs.map fun b => Value.int .u8 (b.toNat : Int))
    (vs := BC) (rd := fun i => eU8 (bs.getD i 0)) (fz := (BC.length, BC.length + 1)) hnew (fun q hq => by omega) (zb1 bs) (fun q hq => ?_) (by rw [List.length_map]; exact hc1) hc2 (by omega) (z2r eU8 0 bs)
   ·rw [List.length_map] at this
    exact this
   ·rw [hls] at hq
    have h1 := hcell q (by rw [hsize]; exact hq)
    have h2 := z15 (i := q) hnew
    rw [h2] at h1
    rw [Nat.zero_add, h1]
    simp [hq, List.getD_eq_getElem?_getD]
end
end Ab
namespace Go.Proofs.YtkemmijjpclckaaGreatDoor
open Go Ab Go.RowKit Go.Lib
theorem dlI (l : List Int) : DLe (.sl 1 (l.map eI) (litRd (l.map eI))) (eIs l) := DLe.slR rfl (z2r eI 0 l)
theorem clA {cs ds : List D} (h : DLes cs ds) : CLe (.ag cs) (.ag ds) := fun _ _ _ h2 => h.rel h2
theorem dlS {s : Nat} {xs ys : List D} {rd rd' : Nat → D} (h : CLes xs ys) (hr : ∀ i, i < ys.length → ys[i]? = some (rd' i)) : DLe (.sl s xs rd) (.sl s ys rd') := by
 intro w ok v hv
 have hf : flat v = true := by cases hv <;> rfl
 have := CLe.sl h hr w ok [v] (.cons hv hf .nil)
 cases this with | cons h _ _ => exact h
def exA : Ag := ⟨0, [(2, 0)], [], [], [2], [], []⟩
def exP : List Sp := [(false, [], ())]
def exC : Ct := ⟨[], 3, exP, exP, exP⟩
def exD : Ct := ⟨[], 1, exP, exP, exP⟩
def exT20 : List UInt8 := [105, 110, 118, 32, 48, 32, 51, 10, 112, 114, 111, 111, 102, 32, 49, 10, 48, 10, 112, 114, 111, 111, 102, 32, 49, 10, 48, 10, 112, 114, 111, 111, 102, 32, 49, 10, 48, 10]
theorem zox : RightA exA := z13.1 (by decide)
theorem z8z : z2z exA exC = true := by decide
theorem zov : z2z exA exD = true := by decide
theorem zey : certT exC = exT20 := by kernel_rfl
theorem zow : certP exA exT20 = .inr (exC, ((exT20.length : Nat) : Int)) := by
 have := zpj (a := exA) (c := exC) (by decide) z8z (by rw [zey]; decide)
 rwa [zey] at this
theorem zbg {l : List (List Int)} (h : Cf l []) : (chk l 0 exP).2 = 0 := by
 have hr : refB l [] = true := zai.2 h
 unfold exP
 rw [chk]
 have h1 : stepR l (false, [], ()) = some (l ++ [[]]) := by simp only [stepR, Bool.false_eq_true, if_false, hr, if_true]
 rw [h1]
 simp
theorem zkc {l : List (List Int)} {a : List Int} {x : Int} (h : [x] ∈ l) : Fo l a x := .unit h (by simp) fun y hy hne => absurd (List.mem_singleton.1 hy) hne
theorem zkl {l : List (List Int)} {a : List Int} {x : Int} (h : [x] ∈ l) (k : [-x] ∈ l) : Cf l a := .inl ⟨x, zkc h, zkc k⟩
theorem ex_a0 : (chk (ask0 (zk exA exC) exC.inv) 0 exC.p0).2 = 0 := zbg (zkl (x := 2) (by decide) (by decide))
theorem ex_a1 : (chk (ask1 (zk exA exC) exC.inv) 0 exC.p1).2 = 0 := zbg (.inr ⟨[-4, 2], by decide, fun z hz => by
 rcases List.mem_cons.1 hz with rfl | hz
 ·exact zkc (by decide)
 ·rw [List.mem_singleton.1 hz]
  exact zkc (by decide)⟩)
theorem ex_a2 : (chk (ask2 (zk exA exC) exC.inv (exA.bad.getD (0 : Int).toNat 0)) 0 exC.p2).2 = 0 := zbg (zkl (x := 2) (by decide) (by decide))
theorem zta : z6q exA exC 0 = (0, 0) := by
 unfold z6q
 rw [if_neg (by rw [z8z]; decide), if_neg (by decide), if_neg (not_not_intro ex_a0), if_neg (not_not_intro ex_a1), if_neg (not_not_intro ex_a2)]
theorem ex_d0 : (chk (ask0 (zk exA exD) exD.inv) 0 exD.p0).2 = 0 := zbg (zkl (x := 1) (by decide) (by decide))
theorem ex_d1 : (chk (ask1 (zk exA exD) exD.inv) 0 exD.p1).2 = 0 := zbg (zkl (x := 3) (by decide) (by decide))
theorem ex_d2 : (chk (ask2 (zk exA exD) exD.inv (exA.bad.getD (0 : Int).toNat 0)) 0 exD.p2).2 ≠ 0 := by
 refine (z95 (n := 2) (m := [false, true]) rfl _ _ 0 (fun c hc => ?_) (by decide)).1
 have : ask2 (zk exA exD) exD.inv (exA.bad.getD (0 : Int).toNat 0) = [[-1], [-1], [2]] := by decide
 rw [this] at hc
 simp only [List.mem_cons, List.not_mem_nil, or_false] at hc
 rcases hc with rfl | rfl | rfl
 ·exact ⟨-1, by simp, 0, by decide, .inr ⟨rfl, rfl⟩⟩
 ·exact ⟨-1, by simp, 0, by decide, .inr ⟨rfl, rfl⟩⟩
 ·exact ⟨2, by simp, 1, by decide, .inl ⟨rfl, rfl⟩⟩
theorem zsp : z6q exA exD 0 = (3, 6) := by
 unfold z6q
 rw [if_neg (by rw [zov]; decide), if_neg (by decide), if_neg (not_not_intro ex_d0), if_neg (not_not_intro ex_d1), if_pos ex_d2]
theorem exB (c : Ct) (h : c = exC ∨ c = exD) : AcB exA c := by
 rcases h with rfl | rfl <;> exact ⟨by decide, by decide, by decide, by decide, by decide, by decide, by decide⟩
theorem zdp : VLe (.d (.ag [eI 0, .sl 2 [.ag [eI 2, eI 0]] (litRd [.ag [eI 2, eI 0]]), nilD, nilD, .sl 1 [eI 2] (litRd [eI 2]), nilD, nilD])) (.d (eAg exA)) :=
 VLe.dag ⟨.refl _, dlS (ys := [(2, 0)].map eP2) ⟨.refl _, trivial⟩ (z2r eP2 (0, 0) [(2, 0)]), dnil2, dnil2, dlI [2], dnil2, dnil2, trivial⟩
@[reducible] def exPd : D := .sl 2 [.ag [.v (.bool false), nilD]] (litRd [.ag [.v (.bool false), nilD]])
theorem zou : DLe exPd (eSps exP) := dlS (ys := exP.map eSp) ⟨clA ⟨.refl _, dnil2, trivial⟩, trivial⟩ (z2r eSp (false, [], ()) exP)
theorem zdo (i : Int) : VLe (.d (.ag [nilD, eI i, exPd, exPd, exPd])) (.d (eCt ⟨[], i, exP, exP, exP⟩)) := VLe.dag ⟨dnil2, .refl _, zou, zou, zou, trivial⟩
theorem ziy : ACall Tryz.prog 11 [] [] (fun r o => r = vB true) := by
 refine za Tryz.func11 rfl rfl (Nat.le_of_ble_eq_true rfl) fun C hC hCl hDs hGk => ?_
 refine ze tabOk Tryz.func11 rfl trivial (z8c exA exC 0 (exB _ (.inl rfl)) (fun _ => ⟨by decide, by decide, by decide⟩)) ⟨zdp, .refl _, zdo 3, trivial⟩ rfl ⟨_, rfl⟩ (by rintro r o rfl; rfl) ?_
 rintro _ o rfl
 rw [zta]
 refine ze tabOk Tryz.func11 rfl trivial (ziz exA exC (exB _ (.inl rfl)) (fun _ => ⟨by decide, by decide, by decide⟩)) ⟨zdp, zdo 3, trivial⟩ rfl ⟨_, rfl⟩ (by rintro r o rfl; split <;> rfl) ?_
 rintro _ o rfl
 rw [if_pos z8z, zey]
 refine zj 60 tabOk Tryz.func11 rfl trivial ?_
 refine zqc (bs := exT20) tabOk rfl rfl rfl rfl rfl rfl rfl rfl rfl rfl (by decide) rfl ?_
 refine zw 2 rfl ?_
 refine ze tabOk Tryz.func11 rfl trivial (zj0 exA exT20 zox (by decide)) ⟨zdp, VLe.eL rfl, trivial⟩ rfl ⟨_, rfl⟩ (by rintro r o rfl; rw [zow]; rfl) ?_
 rintro _ o rfl
 rw [zow]
 unfold cparA
 refine ze tabOk Tryz.func11 rfl trivial (z8c exA exD 0 (exB _ (.inr rfl)) (fun _ => ⟨by decide, by decide, by decide⟩)) ⟨zdp, .refl _, zdo 1, trivial⟩ rfl ⟨_, rfl⟩ (by rintro r o rfl; rfl) ?_
 rintro _ o rfl
 rw [zsp]
 refine z6 tabOk Tryz.func11 rfl trivial (fun _ => ?_) (fun h => by cases h)
 refine z6 tabOk Tryz.func11 rfl trivial (fun _ => ?_) (fun h => by cases h)
 refine z6 tabOk Tryz.func11 rfl trivial (fun _ => ?_) (fun h => by cases h)
 refine z6 tabOk Tryz.func11 rfl trivial (fun _ => ?_) (fun h => by cases h)
 refine z6 tabOk Tryz.func11 rfl trivial (fun _ => ?_) (fun h => ?_)
 rotate_left
 ·have h : ((⟨exT20.toArray⟩ : ByteArray).toList == (⟨exT20.toArray⟩ : ByteArray).toList) = false := h
  rw [strBy, decide_eq_true rfl] at h
  cases h
 refine z6 tabOk Tryz.func11 rfl trivial (fun _ => ?_) (fun h => by cases h)
 refine ze tabOk Tryz.func11 rfl trivial (zm9 exC exC (by decide)) ⟨zdo 3, .refl _, trivial⟩ rfl ⟨_, rfl⟩ (by rintro r o rfl; rfl) ?_
 rintro _ o rfl
 have hs : (decide (exC.p0 = exC.p0) && decide (exC.p1 = exC.p1) && decide (exC.p2 = exC.p2) && (exC.inv == exC.inv && decide (exC.g = exC.g))) = true := by decide
 rw [hs]
 refine z6 tabOk Tryz.func11 rfl trivial (fun _ => ?_) (fun h => by cases h)
 refine ze tabOk Tryz.func11 rfl trivial (z6r exA exC (exB _ (.inl rfl))) ⟨zdp, zdo 3, trivial⟩ rfl ⟨_, rfl⟩ (by rintro r o rfl; rfl) ?_
 rintro _ o rfl
 rw [z8z]
 refine z6 tabOk Tryz.func11 rfl trivial (fun _ => ?_) (fun h => by cases h)
 refine z6 tabOk Tryz.func11 rfl trivial (fun _ => ?_) (fun h => by cases h)
 refine z6 tabOk Tryz.func11 rfl trivial (fun _ => ?_) (fun h => by cases h)
 refine ze tabOk Tryz.func11 rfl trivial (z7g exA exC (by decide) (by decide)) ⟨zdp, zdo 3, trivial⟩ rfl ⟨_, rfl⟩ (by rintro r o rfl; rfl) ?_
 rintro _ o rfl
 exact z7 tabOk Tryz.func11 rfl trivial rfl
end Go.Proofs.YtkemmijjpclckaaGreatDoor
namespace Go.Proofs.YtkemmijjpclckaaGreatDoor
open Go Ab Go.Lib
theorem z4h {p : List Sp} {m : Int} (h : z56 p m = true) : (p.length : Int) ≤ m ∧ ∀ s ∈ p, (s.2.1.length : Int) ≤ m := by
 unfold z56 at h
 rw [Bool.and_eq_true, decide_eq_true_eq, List.all_eq_true] at h
 exact ⟨h.1, fun s hs => of_decide_eq_true (h.2 s hs)⟩
structure Asked (a : Ag) (c : Ct) : Prop where
 sa : SmA a 40
 ra : RightA a
 sc : SmC c 20
theorem SmA.M {a : Ag} (h : SmA a 40) : AgM a := by
 have hml : maxLen = 9223372036854775807 := rfl
 refine ⟨?_, ?_, ?_, ?_, fun x hx => ?_⟩
 ·have := h.outs; omega
 ·have := h.bad; omega
 ·have := h.con; omega
 ·have := h.names; omega
 ·have := h.s x hx; omega
theorem Asked.acM {a : Ag} {c : Ct} (h : Asked a c) : AcM a c := by
 have hml : maxLen = 9223372036854775807 := rfl
 have q0 := z4h h.sc.p0
 have q1 := z4h h.sc.p1
 have q2 := z4h h.sc.p2
 have hg := h.sa.g
 have hcg := h.sc.g
 have hn := h.sa.names
 refine ⟨⟨by omega, by omega, by omega, fun x hx => ?_, by omega, by omega, by omega⟩, h.sa.M, fun s hs => ?_, fun s hs => ?_, fun s hs => ?_⟩
 ·have := h.sa.s x hx; omega
 ·have := q0.2 s hs; omega
 ·have := q1.2 s hs; omega
 ·have := q2.2 s hs; omega
theorem z5z {n : Int} {p : List Sp} (hn : 0 ≤ n ∧ n ≤ 100000) (h : z1l n p = true) (hs : z56 p 20 = true) : (prT p).length ≤ 9000 := by
 obtain ⟨q1, q2⟩ := z4h hs
 have hr := z3z h
 have h2 := z6w (m := 20) (p := p) fun s hs' => ⟨fun l hl => by have := (hr s hs').1 l hl; unfold litOk at this; omega, by have := q2 s hs'; omega⟩
 have h3 : p.length * (20 * 22 + 4) ≤ 20 * (20 * 22 + 4) := Nat.mul_le_mul_right _ (by omega)
 have i0 := z2c (l := (p.length : Int)) (by omega) (by omega)
 simp only [prT, za5, List.length_append, List.length_cons, List.length_nil]
 omega
theorem Asked.text {a : Ag} {c : Ct} (h : Asked a c) (hR : z2z a c = true) : (certT c).length ≤ 100000 := by
 obtain ⟨-, h2, h3, -, h5, h6, h7⟩ := z3i.1 hR
 have hA := z13.1 h2
 have hv := hA.v1
 have hi0 := hA.i0
 have hv0 : 0 ≤ varsA (zk a c) := by unfold varsA; omega
 have t0 := z5z ⟨by omega, by omega⟩ h5 h.sc.p0
 have t1 := z5z ⟨by omega, by omega⟩ h6 h.sc.p1
 have t2 := z5z ⟨by omega, by omega⟩ h7 h.sc.p2
 have hgo := (z5h _ _).1 (zc4 hA)
 have hvg := z3g a c
 have hav : 0 ≤ varsA a := by have := h.ra.i0; unfold varsA; omega
 have tg := zc5 c.g fun p hp => by
  obtain ⟨j, hj, rfl⟩ := List.mem_iff_getElem.1 hp
  have := hgo j hj
  omega
 have hcg := h.sc.g
 have i0 := z2c (l := (c.g.length : Int)) (by omega) (by omega)
 have i1 := z2c (l := c.inv) (by omega) (by omega)
 simp only [certT, kInv, List.length_append, List.length_cons, List.length_nil]
 omega
end Go.Proofs.YtkemmijjpclckaaGreatDoor
namespace Go.Proofs.YtkemmijjpclckaaGreatDoor
open Go Ab
def Abs1 (x : UInt8) (b : Bool) : Prop := (x = 0 → b = false) ∧ (x = 1 → b = true)
structure AbsL (V : List UInt8) (W : List Bool) : Prop where
 len : V.length = W.length
 get : ∀ j, j < V.length → Abs1 (V.getD j 0) (W.getD j false)
end Go.Proofs.YtkemmijjpclckaaGreatDoor
namespace Go.Proofs.YtkemmijjpclckaaGreatDoor
open Go Ab Go.RowKit
def I64 (l : Int) : Prop := -9223372036854775808 ≤ l ∧ l ≤ 9223372036854775807
structure AgW (a : Ag) : Prop where
 b : AgB a
 l : ∀ p ∈ a.l, I64 p.1
 g : ∀ p ∈ a.g, I64 p.1 ∧ I64 p.2
 outs : ∀ x ∈ a.outs, I64 x
 bad : ∀ x ∈ a.bad, I64 x
 con : ∀ x ∈ a.con, I64 x
end Go.Proofs.YtkemmijjpclckaaGreatDoor
namespace Go.Proofs.YtkemmijjpclckaaGreatDoor
open Go Ab
structure ChkC (a : Ag) (c : Ct) (k : Int) : Prop where
 right : z2z a c = true
 k0 : 0 ≤ k
 k1 : k < a.bad.length
 c0 : (chk (ask0 (zk a c) c.inv) 0 c.p0).2 = 0
 c1 : (chk (ask1 (zk a c) c.inv) 0 c.p1).2 = 0
 c2 : (chk (ask2 (zk a c) c.inv (a.bad.getD k.toNat 0)) 0 c.p2).2 = 0
section
variable {a : Ag} {c : Ct} {k : Int}
theorem zor (ha : RightA (zk a c)) {inp st : List Bool} (hi : inp.length = a.i.toNat) (hs : st.length = a.l.length) : inp.length + st.length + (a.g ++ c.g).length = (varsA (zk a c)).toNat := by
 have := ha.i0
 have e : varsA (zk a c) = a.i + a.l.length + ((a.g ++ c.g).length : Nat) := rfl
 have e2 : (zk a c).i = a.i := rfl
 omega
theorem znz {x : Int} {inp st : List Bool} (h0 : 0 ≤ varsA a) (hi : inp.length = a.i.toNat) (hi0 : 0 ≤ a.i) (hs : st.length = a.l.length) (hx : 0 ≤ x ∧ x ≤ 2 * varsA a + 1) : litB (valA (a.g ++ c.g) inp st) x = litB (valA a.g inp st) x := by
 have e : valA (a.g ++ c.g) inp st = valG c.g (valA a.g inp st) := by
  unfold valA
  rw [zje]
 rw [e, zbt]
 rw [z5o, hi, hs]
 unfold varsA at hx
 omega
theorem RightA.latches (ha : RightA a) : ∀ p ∈ a.l, 0 ≤ p.1 ∧ p.1 ≤ 2 * varsA a + 1 := by
 intro p hp
 obtain ⟨j, hj, rfl⟩ := List.mem_iff_getElem.1 hp
 exact ((zbw _ _ _ _).1 ha.lat j hj).1
theorem RightA.cons (ha : RightA a) : ∀ x ∈ a.con, 0 ≤ x ∧ x ≤ 2 * varsA a + 1 := by
 intro x hx
 have := ha.con
 unfold z1m at this
 rw [Bool.and_eq_true, List.all_eq_true] at this
 exact of_decide_eq_true (this.2 x hx)
theorem RightA.bads (ha : RightA a) : ∀ x ∈ a.bad, 0 ≤ x ∧ x ≤ 2 * varsA a + 1 := by
 intro x hx
 have := ha.bad
 unfold z1m at this
 rw [Bool.and_eq_true, List.all_eq_true] at this
 exact of_decide_eq_true (this.2 x hx)
theorem RightA.gatesF (ha : RightA a) {inp st : List Bool} (hi : inp.length = a.i.toNat) (hs : st.length = a.l.length) : GOkF (inp.length + st.length + 1) a.g := by
 have := ha.gat
 have h0 := ha.i0
 refine zet ?_
 rw [hi, hs, ← this]
 congr 1
 omega
theorem zjx {n m : Int} {p : List Sp} (h : z1l n p = true) (e : n = m) : ∀ s ∈ p, ∀ x ∈ s.2.1, litOk m x := by
 subst e
 exact fun s hs => (z3z h s hs).1
theorem ChkC.first (H : ChkC a c k) {inp st : List Bool} (hi : inp.length = a.i.toNat) (hs : zj7 a.l st) : litB (valA (a.g ++ c.g) inp st) c.inv = true := by
 obtain ⟨-, h2, h3, h4, h5, h6, h7⟩ := z3i.1 H.right
 have hA := z13.1 h2
 have hn := zor hA hi hs.1
 have h0 := hA.i0
 have hv0 : 0 ≤ varsA (zk a c) := by unfold varsA; omega
 have hc0 := H.c0
 unfold ask0 at hc0
 rw [← hn] at hc0
 refine zfj (l := a.l) (p := c.p0) (hA.gatesF hi hs.1) ⟨h3.1, by rw [hn]; omega⟩ hs (zjx h5 (by rw [hn]; omega)) ?_
 change (chk (z5q (inp.length + st.length + (a.g ++ c.g).length) (a.i.toNat + a.l.length) a.i.toNat a.l (a.g ++ c.g) c.inv) 0 c.p0).2 = 0 at hc0
 rw [← hi, ← hs.1] at hc0
 exact hc0
theorem ChkC.next (H : ChkC a c k) (ha : RightA a) {inp inp' st : List Bool} (hi : inp.length = a.i.toNat) (hi' : inp'.length = a.i.toNat) (hs : st.length = a.l.length) (hinv : litB (valA (a.g ++ c.g) inp st) c.inv = true) (hcon : ∀ x ∈ a.con, litB (valA a.g inp st) x = true) :
  litB (valA (a.g ++ c.g) inp' (nextB a.l (valA a.g inp st))) c.inv = true := by
 obtain ⟨-, h2, h3, h4, h5, h6, h7⟩ := z3i.1 H.right
 have hA := z13.1 h2
 have hn := zor hA hi hs
 have h0 := ha.i0
 have hv0 : 0 ≤ varsA a := by unfold varsA; omega
 have hvg := z3g a c
 have hc0 := H.c1
 unfold ask1 at hc0
 rw [← hn] at hc0
 have e : nextB a.l (valA a.g inp st) = nextB a.l (valA (a.g ++ c.g) inp st) := by
  unfold nextB
  refine List.map_congr_left fun p hp => ?_
  rw [znz hv0 hi h0 hs (ha.latches p hp)]
 rw [e]
 refine zht (l := a.l) (con := a.con) (p := c.p1) (hi'.trans hi.symm) hs (hA.gatesF hi hs) ⟨h3.1, by rw [hn]; omega⟩ (fun p hp => ?_) (fun x hx => ⟨?_, ?_⟩) hinv (zjx h6 (by rw [hn]; omega)) ?_
 ·have := ha.latches p hp
  rw [hn]
  omega
 ·have := ha.cons x hx
  rw [hn]
  omega
 ·rw [znz hv0 hi h0 hs (ha.cons x hx)]
  exact hcon x hx
 ·change (chk (z8f (inp.length + st.length + (a.g ++ c.g).length) (a.i.toNat + a.l.length) a.i.toNat a.l (a.g ++ c.g) a.con c.inv) 0 c.p1).2 = 0 at hc0
  rw [← hi, ← hs] at hc0
  exact hc0
end
end Go.Proofs.YtkemmijjpclckaaGreatDoor
namespace Go.Proofs.YtkemmijjpclckaaGreatDoor
open Go Ab Go.RowKit Go.Lib
theorem RightA.gates {a : Ag} (ha : RightA a) : ∀ p ∈ a.g, (0 ≤ p.1 ∧ p.1 ≤ 2 * varsA a + 1) ∧ 0 ≤ p.2 ∧ p.2 ≤ 2 * varsA a + 1 := by
 intro p hp
 obtain ⟨j, hj, rfl⟩ := List.mem_iff_getElem.1 hp
 have := (z5h _ _).1 ha.gat j hj
 unfold varsA
 omega
theorem RightA.W {a : Ag} (ha : RightA a) : AgW a := by
 have hv := ha.v1
 have lb : ∀ x ∈ a.outs, 0 ≤ x ∧ x ≤ 2 * varsA a + 1 := by
  intro x hx
  have := ha.outs
  unfold z1m at this
  rw [Bool.and_eq_true, List.all_eq_true] at this
  exact of_decide_eq_true (this.2 x hx)
 refine ⟨z6t (z13.2 ha), fun p hp => ?_, fun p hp => ?_, fun x hx => ?_, fun x hx => ?_, fun x hx => ?_⟩
 ·have := ha.latches p hp; unfold I64; omega
 ·have := ha.gates p hp; unfold I64; omega
 ·have := lb x hx; unfold I64; omega
 ·have := ha.bads x hx; unfold I64; omega
 ·have := ha.cons x hx; unfold I64; omega
theorem Asked.asks {a : Ag} {c : Ct} (h : Asked a c) (k : Int) : (ask0 (zk a c) c.inv).length + c.p0.length ≤ 1000 ∧ (ask1 (zk a c) c.inv).length + c.p1.length ≤ 1000 ∧ (ask2 (zk a c) c.inv (a.bad.getD k.toNat 0)).length + c.p2.length ≤ 1000 := by
 have q0 := z4h h.sc.p0
 have q1 := z4h h.sc.p1
 have q2 := z4h h.sc.p2
 have hg := h.sa.g
 have hl := h.sa.l
 have hc := h.sa.con
 have hcg := h.sc.g
 have eg : (zk a c).g.length = a.g.length + c.g.length := by show (a.g ++ c.g).length = _; rw [List.length_append]
 have el : (zk a c).l = a.l := rfl
 have ec : (zk a c).con = a.con := rfl
 have ff := z5k (varsA (zk a c)).toNat (zk a c).l ((zk a c).i.toNat + 1)
 rw [el] at ff
 unfold ask0 ask1 ask2 z5q z8f safeF
 simp only [List.length_append, zz, List.length_cons, List.length_nil, z4c, z6i, consF, List.length_map, el, ec]
 omega
end Go.Proofs.YtkemmijjpclckaaGreatDoor
namespace Go.Proofs.YtkemmijjpclckaaGreatDoor
open Go Ab Go.RowKit
theorem neg_w {x : Int} (h : -1000000000000000 ≤ x ∧ x ≤ 1000000000000000) : IntKind.i64.wrap (0 - x) = -x := by
 rw [Int.zero_sub]
 exact zb (by omega) (by omega)
theorem z1d (a : Ag) (n k : Nat) (l : Int) (h : AgB a) (hn : varsA a = (n : Int)) (hk : k ≤ 1000) (hl : 0 ≤ l ∧ l ≤ 1000000000000) : ACall Tryz.prog 119 [.d (eAg a), vI .i64 (k : Int), vI .i64 l] [] (fun r o => r = vI .i64 (litF n k l)) := by
 refine za Tryz.func119 rfl rfl (Nat.le_of_ble_eq_true rfl) fun C hC hCl hDs hGk => ?_
 have hv := z1z h
 have hp : 0 ≤ (k : Int) * ((n : Int) + 1) ∧ (k : Int) * ((n : Int) + 1) ≤ 1000 * 3000001 := ⟨Int.mul_nonneg (by omega) (by omega), Int.mul_le_mul (by omega) (by omega) (by omega) (by decide)⟩
 have hq : Int.tdiv l 2 = l / 2 := Int.tdiv_eq_ediv_of_nonneg hl.1
 have hr : Int.tmod l 2 = l % 2 := Int.tmod_eq_emod_of_nonneg hl.1
 unfold litF
 refine ze tabOk Tryz.func119 rfl trivial (z3j a h) (.refl _) rfl ⟨_, rfl⟩ (by rintro r o rfl; rfl) ?_
 rintro _ o rfl
 rw [hn]
 have e0 : IntKind.i64.wrap ((n : Int) + 1) = (n : Int) + 1 := zb (by omega) (by omega)
 have em : IntKind.i64.wrap ((k : Int) * ((n : Int) + 1)) = (k : Int) * ((n : Int) + 1) := zb (by omega) (by omega)
 have e1 : IntKind.i64.wrap (Int.tdiv l 2) = l / 2 := by rw [hq, zb (by omega) (by omega)]
 have e2 : IntKind.i64.wrap ((k : Int) * ((n : Int) + 1) + l / 2) = (k : Int) * ((n : Int) + 1) + l / 2 := zb (by omega) (by omega)
 have e3 : IntKind.i64.wrap ((k : Int) * ((n : Int) + 1) + l / 2 + 1) = (k : Int) * ((n : Int) + 1) + l / 2 + 1 := zb (by omega) (by omega)
 have e5 : IntKind.i64.wrap (0 - ((k : Int) * ((n : Int) + 1) + l / 2 + 1)) = -((k : Int) * ((n : Int) + 1) + l / 2 + 1) := by
  rw [Int.zero_sub]
  exact zb (by omega) (by omega)
 refine z6 tabOk Tryz.func119 rfl ⟨by decide, by decide, trivial⟩ (fun hb => ?_) (fun hb => ?_)
 ·have hb : (Int.tmod l 2 == 1) = true := hb
  rw [hr, beq_iff_eq] at hb
  rw [if_pos hb]
  refine z7 tabOk Tryz.func119 rfl trivial ?_
  show vI .i64 (IntKind.i64.wrap (0 - (IntKind.i64.wrap (IntKind.i64.wrap (IntKind.i64.wrap ((k : Int) * IntKind.i64.wrap ((n : Int) + 1)) + IntKind.i64.wrap (Int.tdiv l 2)) + 1)))) = _
  rw [e0, em, e1, e2, e3, e5]
 ·have hb : (Int.tmod l 2 == 1) = false := hb
  rw [hr, beq_eq_false_iff_ne] at hb
  rw [if_neg hb]
  refine z7 tabOk Tryz.func119 rfl trivial ?_
  show vI .i64 (IntKind.i64.wrap (IntKind.i64.wrap (IntKind.i64.wrap ((k : Int) * IntKind.i64.wrap ((n : Int) + 1)) + IntKind.i64.wrap (Int.tdiv l 2)) + 1)) = _
  rw [e0, em, e1, e2, e3]
theorem zlf (a : Ag) (n b : Nat) (h : AgB a) (hn : varsA a = (n : Int)) (hb : a.i = (b : Int)) (hl : ∀ p ∈ a.l, 0 ≤ p.1 ∧ p.1 ≤ 1000000000000) : ACall Tryz.prog 121 [.d (eAg a)] [] (fun r o => r = .d (eIss (linkF n (b + 1) a.l))) := by
 refine za Tryz.func121 rfl rfl (Nat.le_of_ble_eq_true rfl) fun C hC hCl hDs hGk => ?_
 have hi1 := h.i1
 have hll := h.l
 have hnb := z1z h
 have hn3 : n ≤ 3000000 := by omega
 refine z8 tabOk Tryz.func121 rfl trivial ?_
 refine z2w (e := 24) (s := 1) (t := 3) (.inl rfl) (fun i => eIs (([] : List (List Int)).getD i [])) ?_
 refine zh (α := Nat) (fun i => [(1, .ptr 0 0), (3, .gs 1), (4, vI .i64 (i : Int))]) (fun i => [some (bAg a), some (gIcs (linkF n (b + 1) (a.l.take i)))]) (fun i => i ≤ a.l.length) (fun i => a.l.length - i) 0 (Nat.zero_le _) ?_ ?_
 ·exact fun h => zg h hC hCl ⟨⟨_, rfl, .refl _⟩, ⟨_, rfl, .refl _⟩, ⟨_, rfl, .refl _⟩, trivial⟩ ⟨.refl _, .gL rfl, trivial⟩ rfl rfl (Nat.zero_le _)
 rintro i hi ih
 have hcl : (linkF n (b + 1) (a.l.take i)).length = 2 * i := by rw [z6i, List.length_take]; omega
 refine z6 tabOk Tryz.func121 rfl trivial (fun hb2 => ?_) (fun hb2 => ?_)
 rotate_left
 ·have hb2 : decide ((i : Int) < (((a.l.map eP2).length : Nat) : Int)) = false := hb2
  rw [decide_eq_false_iff_not, List.length_map] at hb2
  obtain rfl : i = a.l.length := by omega
  rw [List.take_of_length_le (Nat.le_refl _)]
  refine zw 1 rfl ?_
  exact z7 tabOk Tryz.func121 rfl trivial rfl
 have hb2 : decide ((i : Int) < (((a.l.map eP2).length : Nat) : Int)) = true := hb2
 rw [decide_eq_true_eq, List.length_map] at hb2
 have hlt : i < a.l.length := by omega
 have ih := ih (i + 1) (by omega) (by omega)
 rw [zdd hlt] at ih
 have hx0 := hl a.l[i] (List.getElem_mem hlt)
 have hgd : a.l.getD i (0, 0) = a.l[i] := by rw [List.getD_eq_getElem?_getD, List.getElem?_eq_getElem hlt]; rfl
 generalize a.l[i] = x at *
 have e1 : IntKind.i64.wrap (a.i + 1) = a.i + 1 := zb (by omega) (by omega)
 have e2 : IntKind.i64.wrap (a.i + 1 + (i : Int)) = a.i + 1 + (i : Int) := zb (by omega) (by omega)
 have e3 : IntKind.i64.wrap (2 * (a.i + 1 + (i : Int))) = 2 * ((b + 1 + i : Nat) : Int) := by rw [zb (by omega) (by omega)]; omega
 have eJ : IntKind.i64.wrap (2 * IntKind.i64.wrap (IntKind.i64.wrap (a.i + 1) + (i : Int))) = 2 * ((b + 1 + i : Nat) : Int) := by rw [e1, e2, e3]
 have b1 := z36 (N := 0) (k := 1) hn3 (by omega) (l := 2 * ((b + 1 + i : Nat) : Int)) (by omega)
 have b2 := z36 (N := 0) (k := 0) hn3 (by omega) hx0
 have hc1 := z1d a n 1 (2 * ((b + 1 + i : Nat) : Int)) h hn (by omega) (by omega)
 have hc2 := z1d a n 0 x.1 h hn (by omega) hx0
 have hlk : linkF n (b + 1 + i) [x] = [[-litF n 1 (2 * ((b + 1 + i : Nat) : Int)), litF n 0 x.1], [litF n 1 (2 * ((b + 1 + i : Nat) : Int)), -litF n 0 x.1]] := rfl
 rw [hlk] at ih
 generalize litF n 1 (2 * ((b + 1 + i : Nat) : Int)) = y1 at *
 generalize litF n 0 x.1 = y2 at *
 have w1 := neg_w b1
 have w2 := neg_w b2
 refine ze tabOk Tryz.func121 rfl trivial hc1 ⟨.refl _, .refl _, .of (congrArg (vI .i64) eJ), trivial⟩ rfl ⟨_, rfl⟩ (by rintro r o rfl; rfl) ?_
 rintro _ o rfl
 refine zp 7 tabOk Tryz.func121 rfl rfl trivial (by kernel_rfl) ?_
 refine zo tabOk rfl (by simp only [andP, and_true, true_and, Int.toNat_natCast, List.length_map, List.length_append, List.length_cons, List.length_nil, List.length_replicate]; omega) ?_
 refine ze tabOk Tryz.func121 rfl trivial hc2 ⟨.refl _, .refl _, .of (congrArg (fun z : P2 => vI .i64 z.1) hgd), trivial⟩ rfl ⟨_, rfl⟩ (by rintro r o rfl; rfl) ?_
 rintro _ o rfl
 refine z8 tabOk Tryz.func121 rfl ?_ ?_
 ·exact (by simp only [andP, and_true, true_and, Int.toNat_natCast, List.length_map, List.length_append, List.length_cons, List.length_nil, List.length_replicate, hcl]; omega)
 refine zg ih hC hCl ⟨⟨_, rfl, .refl _⟩, ⟨_, rfl, .refl _⟩, ⟨_, rfl, .of (by rw [zb (by omega) (by omega)]; rfl)⟩, trivial⟩ ⟨.refl _, .gL_c ?_, trivial⟩ rfl rfl (Nat.zero_le _)
 rw [List.map_append]
 rw [← w1, ← w2]
 exact CLes.append (.refl _) ⟨CLe.lit eI 0 [_, _] rfl, CLe.lit eI 0 [_, _] rfl, trivial⟩
theorem zi2 (a : Ag) (n b : Nat) (h : AgB a) (hn : varsA a = (n : Int)) (hb : a.i = (b : Int)) : ACall Tryz.prog 118 [.d (eAg a)] [] (fun r o => r = .d (eIss (z1g n (b + 1) a.l))) := by
 refine za Tryz.func118 rfl rfl (Nat.le_of_ble_eq_true rfl) fun C hC hCl hDs hGk => ?_
 have hi1 := h.i1
 have hll := h.l
 have hnb := z1z h
 have hn3 : n ≤ 3000000 := by omega
 refine z8 tabOk Tryz.func118 rfl trivial ?_
 refine z2w (e := 24) (s := 1) (t := 3) (.inl rfl) (fun i => eIs (([] : List (List Int)).getD i [])) ?_
 refine zh (α := Nat) (fun i => [(1, .ptr 0 0), (3, .gs 1), (4, vI .i64 (i : Int))]) (fun i => [some (bAg a), some (gIcs (z1g n (b + 1) (a.l.take i)))]) (fun i => i ≤ a.l.length) (fun i => a.l.length - i) 0 (Nat.zero_le _) ?_ ?_
 ·exact fun h => zg h hC hCl ⟨⟨_, rfl, .refl _⟩, ⟨_, rfl, .refl _⟩, ⟨_, rfl, .refl _⟩, trivial⟩ ⟨.refl _, .gL rfl, trivial⟩ rfl rfl (Nat.zero_le _)
 rintro i hi ih
 have hcl : (z1g n (b + 1) (a.l.take i)).length ≤ i := Nat.le_trans (z5k _ _ _) (by rw [List.length_take]; omega)
 refine z6 tabOk Tryz.func118 rfl trivial (fun hb2 => ?_) (fun hb2 => ?_)
 rotate_left
 ·have hb2 : decide ((i : Int) < (((a.l.map eP2).length : Nat) : Int)) = false := hb2
  rw [decide_eq_false_iff_not, List.length_map] at hb2
  obtain rfl : i = a.l.length := by omega
  rw [List.take_of_length_le (Nat.le_refl _)]
  refine zw 1 rfl ?_
  exact z7 tabOk Tryz.func118 rfl trivial rfl
 have hb2 : decide ((i : Int) < (((a.l.map eP2).length : Nat) : Int)) = true := hb2
 rw [decide_eq_true_eq, List.length_map] at hb2
 have hlt : i < a.l.length := by omega
 have ih := ih (i + 1) (by omega) (by omega)
 rw [zc9 hlt] at ih
 have hgd : a.l.getD i (0, 0) = a.l[i] := by rw [List.getD_eq_getElem?_getD, List.getElem?_eq_getElem hlt]; rfl
 generalize a.l[i] = x at *
 have e1 : IntKind.i64.wrap (a.i + 1) = a.i + 1 := zb (by omega) (by omega)
 have e2 : IntKind.i64.wrap (a.i + 1 + (i : Int)) = a.i + 1 + (i : Int) := zb (by omega) (by omega)
 have e3 : IntKind.i64.wrap (2 * (a.i + 1 + (i : Int))) = 2 * ((b + 1 + i : Nat) : Int) := by rw [zb (by omega) (by omega)]; omega
 have eJ : IntKind.i64.wrap (2 * IntKind.i64.wrap (IntKind.i64.wrap (a.i + 1) + (i : Int))) = 2 * ((b + 1 + i : Nat) : Int) := by rw [e1, e2, e3]
 have b1 := z36 (N := 0) (k := 0) hn3 (by omega) (l := 2 * ((b + 1 + i : Nat) : Int)) (by omega)
 have hc1 := z1d a n 0 (2 * ((b + 1 + i : Nat) : Int)) h hn (by omega) (by omega)
 have hfs : z1g n (b + 1 + i) [x] = if x.2 = 0 then [[-litF n 0 (2 * ((b + 1 + i : Nat) : Int))]] else if x.2 = 1 then [[litF n 0 (2 * ((b + 1 + i : Nat) : Int))]] else [] := by
  rw [z1g, z1g, List.append_nil]
 rw [hfs] at ih
 generalize litF n 0 (2 * ((b + 1 + i : Nat) : Int)) = y1 at *
 have w1 := neg_w b1
 refine ze tabOk Tryz.func118 rfl trivial hc1 ⟨.refl _, .refl _, .of (congrArg (vI .i64) eJ), trivial⟩ rfl ⟨_, rfl⟩ (by rintro r o rfl; rfl) ?_
 rintro _ o rfl
 refine z6 tabOk Tryz.func118 rfl (by simp only [andP, and_true, true_and, Int.toNat_natCast, List.length_map, List.length_append, List.length_cons, List.length_nil, List.length_replicate]; omega) (fun h2 => ?_) (fun h2 => ?_)
 ·have h2 : ((a.l.getD i (0, 0)).2 == 0) = true := h2
  rw [hgd, beq_iff_eq] at h2
  rw [if_pos h2] at ih
  refine z8 tabOk Tryz.func118 rfl ?_ ?_
  ·exact (by simp only [andP, and_true, true_and, Int.toNat_natCast, List.length_map, List.length_append, List.length_cons, List.length_nil, List.length_replicate]; omega)
  refine zg ih hC hCl ⟨⟨_, rfl, .refl _⟩, ⟨_, rfl, .refl _⟩, ⟨_, rfl, .of (by rw [zb (by omega) (by omega)]; rfl)⟩, trivial⟩ ⟨.refl _, .gL_c ?_, trivial⟩ rfl rfl (Nat.zero_le _)
  rw [List.map_append, ← w1]
  exact CLes.append (.refl _) ⟨CLe.lit eI 0 [_] rfl, trivial⟩
 have h2 : ((a.l.getD i (0, 0)).2 == 0) = false := h2
 rw [hgd, beq_eq_false_iff_ne] at h2
 rw [if_neg h2] at ih
 refine z6 tabOk Tryz.func118 rfl (by simp only [andP, and_true, true_and, Int.toNat_natCast, List.length_map, List.length_append, List.length_cons, List.length_nil, List.length_replicate]; omega) (fun h3 => ?_) (fun h3 => ?_)
 ·have h3 : ((a.l.getD i (0, 0)).2 == 1) = true := h3
  rw [hgd, beq_iff_eq] at h3
  rw [if_pos h3] at ih
  refine z8 tabOk Tryz.func118 rfl ?_ ?_
  ·exact (by simp only [andP, and_true, true_and, Int.toNat_natCast, List.length_map, List.length_append, List.length_cons, List.length_nil, List.length_replicate]; omega)
  refine zg ih hC hCl ⟨⟨_, rfl, .refl _⟩, ⟨_, rfl, .refl _⟩, ⟨_, rfl, .of (by rw [zb (by omega) (by omega)]; rfl)⟩, trivial⟩ ⟨.refl _, .gL_c ?_, trivial⟩ rfl rfl (Nat.zero_le _)
  rw [List.map_append]
  exact CLes.append (.refl _) ⟨CLe.lit eI 0 [_] rfl, trivial⟩
 ·have h3 : ((a.l.getD i (0, 0)).2 == 1) = false := h3
  rw [hgd, beq_eq_false_iff_ne] at h3
  rw [if_neg h3, List.append_nil] at ih
  refine z8 tabOk Tryz.func118 rfl trivial ?_
  exact zg ih hC hCl ⟨⟨_, rfl, .refl _⟩, ⟨_, rfl, .refl _⟩, ⟨_, rfl, .of (by rw [zb (by omega) (by omega)]; rfl)⟩, trivial⟩ ⟨.refl _, .refl _, trivial⟩ rfl rfl (Nat.zero_le _)
theorem zi1 (a : Ag) (n k b : Nat) (h : AgB a) (hn : varsA a = (n : Int)) (hk : k ≤ 1000) (hb : a.i + (a.l.length : Int) = (b : Int)) (hl : ∀ p ∈ a.g, (0 ≤ p.1 ∧ p.1 ≤ 1000000000) ∧ 0 ≤ p.2 ∧ p.2 ≤ 1000000000) :
  ACall Tryz.prog 117 [.d (eAg a), vI .i64 (k : Int)] [] (fun r o => r = .d (eIss (zz n k b a.g))) := by
 refine za Tryz.func117 rfl rfl (Nat.le_of_ble_eq_true rfl) fun C hC hCl hDs hGk => ?_
 have hi1 := h.i1
 have hi0 := h.i0
 have hll := h.l
 have hgl := h.g
 have hnb := z1z h
 have hn3 : n ≤ 3000000 := by omega
 have b0 := z36 (N := 0) (k := k) hn3 (by omega) (l := 0) (by omega)
 have w0 := neg_w b0
 refine ze tabOk Tryz.func117 rfl trivial (z1d a n k 0 h hn hk (by omega)) (.refl _) rfl ⟨_, rfl⟩ (by rintro r o rfl; rfl) ?_
 rintro _ o rfl
 refine zj 2 tabOk Tryz.func117 rfl trivial ?_
 refine ze0 _ tabOk rfl rfl rfl rfl rfl trivial rfl ?_
 refine z8 tabOk Tryz.func117 rfl trivial ?_
 refine zh (α := Nat) (fun i => [(1, vI .i64 (k : Int)), (2, .ptr 0 0), (5, .gs 1), (6, vI .i64 (i : Int))]) (fun i => [some (bAg a), some (gIcs (zz n k b (a.g.take i)))]) (fun i => i ≤ a.g.length) (fun i => a.g.length - i) 0 (Nat.zero_le _) ?_ ?_
 ·refine fun h => zg h hC hCl ⟨⟨_, rfl, .refl _⟩, ⟨_, rfl, .refl _⟩, ⟨_, rfl, .refl _⟩, ⟨_, rfl, .refl _⟩, trivial⟩ ⟨.refl _, .gL_c ?_, trivial⟩ rfl rfl (Nat.zero_le _)
  rw [List.take_zero, zz, gatesF, ← w0]
  exact ⟨CLe.lit eI 0 [_] rfl, trivial⟩
 rintro i hi ih
 have hcl : (zz n k b (a.g.take i)).length = 3 * i + 1 := by rw [zz, List.length_cons, z4c, List.length_take]; omega
 refine z6 tabOk Tryz.func117 rfl trivial (fun hb2 => ?_) (fun hb2 => ?_)
 rotate_left
 ·have hb2 : decide ((i : Int) < (((a.g.map eP2).length : Nat) : Int)) = false := hb2
  rw [decide_eq_false_iff_not, List.length_map] at hb2
  obtain rfl : i = a.g.length := by omega
  rw [List.take_of_length_le (Nat.le_refl _)]
  refine zw 1 rfl ?_
  exact z7 tabOk Tryz.func117 rfl trivial rfl
 have hb2 : decide ((i : Int) < (((a.g.map eP2).length : Nat) : Int)) = true := hb2
 rw [decide_eq_true_eq, List.length_map] at hb2
 have hlt : i < a.g.length := by omega
 have ih := ih (i + 1) (by omega) (by omega)
 have hft : zz n k b (a.g.take (i + 1)) = zz n k b (a.g.take i) ++ gatesF n k (b + 1 + i) [a.g[i]] := by
  rw [zz, z84 hlt]
  rfl
 rw [hft] at ih
 have hx0 := hl a.g[i] (List.getElem_mem hlt)
 have hgd : a.g.getD i (0, 0) = a.g[i] := by rw [List.getD_eq_getElem?_getD, List.getElem?_eq_getElem hlt]; rfl
 generalize a.g[i] = x at *
 have e0 : IntKind.i64.wrap (a.i + (((a.l.map eP2).length : Nat) : Int)) = (b : Int) := by rw [List.length_map, zb (by omega) (by omega)]; exact hb
 have e1 : IntKind.i64.wrap ((b : Int) + 1) = (b : Int) + 1 := zb (by omega) (by omega)
 have e2 : IntKind.i64.wrap ((b : Int) + 1 + (i : Int)) = (b : Int) + 1 + (i : Int) := zb (by omega) (by omega)
 have e3 : IntKind.i64.wrap (2 * ((b : Int) + 1 + (i : Int))) = 2 * ((b + 1 + i : Nat) : Int) := by rw [zb (by omega) (by omega)]; omega
 have eJ : IntKind.i64.wrap (2 * IntKind.i64.wrap (IntKind.i64.wrap (IntKind.i64.wrap (a.i + (((a.l.map eP2).length : Nat) : Int)) + 1) + (i : Int))) = 2 * ((b + 1 + i : Nat) : Int) := by rw [e0, e1, e2, e3]
 have b1 := z36 (N := 0) (k := k) hn3 (by omega) (l := 2 * ((b + 1 + i : Nat) : Int)) (by omega)
 have b2 := z36 (N := 0) (k := k) hn3 (by omega) (l := x.1) (by omega)
 have b3 := z36 (N := 0) (k := k) hn3 (by omega) (l := x.2) (by omega)
 have hc1 := z1d a n k (2 * ((b + 1 + i : Nat) : Int)) h hn (by omega) (by omega)
 have hc2 := z1d a n k x.1 h hn (by omega) (by omega)
 have hc3 := z1d a n k x.2 h hn (by omega) (by omega)
 have hgt : gatesF n k (b + 1 + i) [x] = [[-litF n k (2 * ((b + 1 + i : Nat) : Int)), litF n k x.1], [-litF n k (2 * ((b + 1 + i : Nat) : Int)), litF n k x.2], [litF n k (2 * ((b + 1 + i : Nat) : Int)), -litF n k x.1, -litF n k x.2]] := rfl
 rw [hgt] at ih
 generalize litF n k (2 * ((b + 1 + i : Nat) : Int)) = y1 at *
 generalize litF n k x.1 = y2 at *
 generalize litF n k x.2 = y3 at *
 have w1 := neg_w b1
 have w2 := neg_w b2
 have w3 := neg_w b3
 refine ze tabOk Tryz.func117 rfl trivial hc1 ⟨.refl _, .refl _, .of (congrArg (vI .i64) eJ), trivial⟩ rfl ⟨_, rfl⟩ (by rintro r o rfl; rfl) ?_
 rintro _ o rfl
 refine zp 8 tabOk Tryz.func117 rfl rfl trivial (by kernel_rfl) ?_
 refine zo tabOk rfl (by simp only [andP, and_true, true_and, Int.toNat_natCast, List.length_map, List.length_append, List.length_cons, List.length_nil, List.length_replicate]; omega) ?_
 refine ze tabOk Tryz.func117 rfl trivial hc2 ⟨.refl _, .refl _, .of (congrArg (fun z : P2 => vI .i64 z.1) hgd), trivial⟩ rfl ⟨_, rfl⟩ (by rintro r o rfl; rfl) ?_
 rintro _ o rfl
 refine zp 8 tabOk Tryz.func117 rfl rfl trivial (by kernel_rfl) ?_
 refine zo tabOk rfl (by simp only [andP, and_true, true_and, Int.toNat_natCast, List.length_map, List.length_append, List.length_cons, List.length_nil, List.length_replicate]; omega) ?_
 refine ze tabOk Tryz.func117 rfl trivial hc3 ⟨.refl _, .refl _, .of (congrArg (fun z : P2 => vI .i64 z.2) hgd), trivial⟩ rfl ⟨_, rfl⟩ (by rintro r o rfl; rfl) ?_
 rintro _ o rfl
 refine z8 tabOk Tryz.func117 rfl ?_ ?_
 ·exact (by simp only [andP, and_true, true_and, Int.toNat_natCast, List.length_map, List.length_append, List.length_cons, List.length_nil, List.length_replicate, hcl]; omega)
 refine zg ih hC hCl ⟨⟨_, rfl, .refl _⟩, ⟨_, rfl, .refl _⟩, ⟨_, rfl, .refl _⟩, ⟨_, rfl, .of (by rw [zb (by omega) (by omega)]; rfl)⟩, trivial⟩ ⟨.refl _, .gL_c ?_, trivial⟩ rfl rfl (Nat.zero_le _)
 rw [List.map_append]
 rw [← w1, ← w2, ← w3]
 exact CLes.append (.refl _) ⟨CLe.lit eI 0 [_, _] rfl, CLe.lit eI 0 [_, _] rfl, CLe.lit eI 0 [_, _, _] rfl, trivial⟩
end Go.Proofs.YtkemmijjpclckaaGreatDoor
namespace Ab
open Go
variable [Draws]
section
variable {P : Program} [Globals P] {T : Tab} {f : FuncId} {fn : Func} {n m : Nat} {C : Cx} {R : AV → List (Option AObj) → Prop} {todo todo' k : List Item} {env env0 env' envF : Env} {objs objs' objs1 objs2 : List (Option AObj)} {nd : Prop} {ops : Array Oper}
theorem zn1 (t p : Nat) {i : Nat} {vh : Value} (hh : nth objs p = some (some (.hold (.gs i) vh))) (hfl : flat vh = true) (hl : look env t = some (.gs i)) (h : ASat P f n C todo ((t, .d (.v vh)) :: env) objs R) : ASat P f n C todo env objs R := by
 intro π w tmps hn hm hist he
 refine h π w tmps hn hm hist fun u a hu => ?_
 rw [z27] at hu
 split at hu
 ·rename_i e
  subst e
  cases hu
  have := he _ _ hl
  rw [zoq this (zon hm hh)]
  exact .d (.v hfl)
 ·exact he u a hu
theorem zl2 (m j : Nat) {p i late tv : Nat} {vh : Value} {E E' : Env} {o : Oper} {c : Option Prop} {id : Nat} (hT : TabOk P T) (hf : P.funcs[f]? = some fn) (hmx : P.follows .mixedOrders = true) (h : srun T n fn.results.toList 2000 True todo env objs = .draw nd id ops k env' objs') (hn : nd)
  (hB : drawB ops m = true) (hsee : seeB ops m [(j, some (late, .gs i))] = true) (hjm : Nat.blt j m = true)
  (hD0 : DSat P n C.X objs' ops (fun x => x = E) (z1i ops m [(j, some (late, .gs i))]) env') (hD1 : DSat P n C.X objs1 ops (fun x => x = E) (z1i ops m [(j, some (late, .gs i))]) env')
  (hoj : ops[j]? = some o) (hdst : o.dst = some late) (hdn : Nat.blt late n = true)
  (hw : wantE ops E' o = .yes) (hE : ∀ t b, look E' t = some b → t ∈ o.looksAt ops ∧ ((t = tv ∧ b = .gs i) ∨ look ((late, AV.gs i) :: E) t = some b)) (htv : look ((late, AV.gs i) :: E) tv = some (.d (.v vh)))
  (hdr : z6o i E = E) (honly : ((List.range ops.size).all fun q => q == j || !dstIs ops q late) = true) (hh : nth objs' p = some (some (.hold (.gs i) vh)))
  (hs : estep T o E' objs' = some ⟨c, false, .gs i, some i, objs1⟩) (hc : cond c)
  (hk : ASat P f n C (.inRegion ops (List.range' m (ops.size - m)) :: k) ((late, .gs i) :: E) objs1 R) (hGk : GOk P C.π C.objs C.w := by with_reducible assumption) : ASat P f n C todo env objs R := by
 refine zfq m [(j, some (late, .gs i))] (oneO j objs' objs1) E (objsF := objs1) hT hf hmx h hn hB hsee (by simp [oneO]) (fun L hL => by rw [oneO, if_pos (hL j (by simpa [Nat.blt_eq] using hjm))]) (fun q L hq => ?_) ?_ (fun L => ?_) ?_ hk
 ·refine zi5 ?_
  rintro rfl
  simp [actB] at hq
 ·simp [hjm]
 ·exact zrq (p := fun ob => DSat P n C.X ob ops (fun x => x = E) (z1i ops m [(j, some (late, .gs i))]) env') hD0 hD1
 ·refine List.forall_mem_cons.2 ⟨⟨o, hoj, by simpa using hdst, ?_⟩, fun x h => by cases h⟩
  exact zoo (objs1 := objs') (objs2 := objs1) (envR := E) hT hw hE htv rfl hdr (by simpa [Nat.blt_eq] using hjm) hoj honly (fun L h1 _ _ => by rw [oneO, if_neg h1]) (fun L => by rw [oneO, if_pos (List.mem_cons_self ..)]) hh hs hc hdst hdn
end
end Ab
namespace Go.Proofs.YtkemmijjpclckaaGreatDoor
open Go Ab Go.RowKit
theorem zg3 (a : Ag) (n k b : Nat) (h : AgB a) (hn : varsA a = (n : Int)) (hk : k ≤ 1000) (hb : a.i + (a.l.length : Int) = (b : Int)) (hl : ∀ p ∈ a.g, (0 ≤ p.1 ∧ p.1 ≤ 1000000000) ∧ 0 ≤ p.2 ∧ p.2 ≤ 1000000000) :
  ACall Tryz.prog 117 [.d (eAg a), vI .i64 (k : Int)] [] (fun r o => r = .gs 1 ∧ o = [none, some (gIcs (zz n k b a.g))]) := by
 refine za Tryz.func117 rfl rfl (Nat.le_of_ble_eq_true rfl) fun C hC hCl hDs hGk => ?_
 have hi1 := h.i1
 have hi0 := h.i0
 have hll := h.l
 have hgl := h.g
 have hnb := z1z h
 have hn3 : n ≤ 3000000 := by omega
 have b0 := z36 (N := 0) (k := k) hn3 (by omega) (l := 0) (by omega)
 have w0 := neg_w b0
 refine ze tabOk Tryz.func117 rfl trivial (z1d a n k 0 h hn hk (by omega)) (.refl _) rfl ⟨_, rfl⟩ (by rintro r o rfl; rfl) ?_
 rintro _ o rfl
 refine zj 2 tabOk Tryz.func117 rfl trivial ?_
 refine ze0 _ tabOk rfl rfl rfl rfl rfl trivial rfl ?_
 refine z8 tabOk Tryz.func117 rfl trivial ?_
 refine zh (α := Nat) (fun i => [(1, vI .i64 (k : Int)), (2, .ptr 0 0), (5, .gs 1), (6, vI .i64 (i : Int))]) (fun i => [some (bAg a), some (gIcs (zz n k b (a.g.take i)))]) (fun i => i ≤ a.g.length) (fun i => a.g.length - i) 0 (Nat.zero_le _) ?_ ?_
 ·refine fun h => zg h hC hCl ⟨⟨_, rfl, .refl _⟩, ⟨_, rfl, .refl _⟩, ⟨_, rfl, .refl _⟩, ⟨_, rfl, .refl _⟩, trivial⟩ ⟨.refl _, .gL_c ?_, trivial⟩ rfl rfl (Nat.zero_le _)
  rw [List.take_zero, zz, gatesF, ← w0]
  exact ⟨CLe.lit eI 0 [_] rfl, trivial⟩
 rintro i hi ih
 have hcl : (zz n k b (a.g.take i)).length = 3 * i + 1 := by rw [zz, List.length_cons, z4c, List.length_take]; omega
 refine z6 tabOk Tryz.func117 rfl trivial (fun hb2 => ?_) (fun hb2 => ?_)
 rotate_left
 ·have hb2 : decide ((i : Int) < (((a.g.map eP2).length : Nat) : Int)) = false := hb2
  rw [decide_eq_false_iff_not, List.length_map] at hb2
  obtain rfl : i = a.g.length := by omega
  rw [List.take_of_length_le (Nat.le_refl _)]
  exact zq tabOk Tryz.func117 rfl trivial hC hCl (.refl _) (o2 := [none, some (gIcs (zz n k b a.g))]) ⟨.refl _, trivial⟩ rfl rfl (Nat.zero_le _) ⟨rfl, rfl⟩
 have hb2 : decide ((i : Int) < (((a.g.map eP2).length : Nat) : Int)) = true := hb2
 rw [decide_eq_true_eq, List.length_map] at hb2
 have hlt : i < a.g.length := by omega
 have ih := ih (i + 1) (by omega) (by omega)
 have hft : zz n k b (a.g.take (i + 1)) = zz n k b (a.g.take i) ++ gatesF n k (b + 1 + i) [a.g[i]] := by
  rw [zz, z84 hlt]
  rfl
 rw [hft] at ih
 have hx0 := hl a.g[i] (List.getElem_mem hlt)
 have hgd : a.g.getD i (0, 0) = a.g[i] := by rw [List.getD_eq_getElem?_getD, List.getElem?_eq_getElem hlt]; rfl
 generalize a.g[i] = x at *
 have e0 : IntKind.i64.wrap (a.i + (((a.l.map eP2).length : Nat) : Int)) = (b : Int) := by rw [List.length_map, zb (by omega) (by omega)]; exact hb
 have e1 : IntKind.i64.wrap ((b : Int) + 1) = (b : Int) + 1 := zb (by omega) (by omega)
 have e2 : IntKind.i64.wrap ((b : Int) + 1 + (i : Int)) = (b : Int) + 1 + (i : Int) := zb (by omega) (by omega)
 have e3 : IntKind.i64.wrap (2 * ((b : Int) + 1 + (i : Int))) = 2 * ((b + 1 + i : Nat) : Int) := by rw [zb (by omega) (by omega)]; omega
 have eJ : IntKind.i64.wrap (2 * IntKind.i64.wrap (IntKind.i64.wrap (IntKind.i64.wrap (a.i + (((a.l.map eP2).length : Nat) : Int)) + 1) + (i : Int))) = 2 * ((b + 1 + i : Nat) : Int) := by rw [e0, e1, e2, e3]
 have b1 := z36 (N := 0) (k := k) hn3 (by omega) (l := 2 * ((b + 1 + i : Nat) : Int)) (by omega)
 have b2 := z36 (N := 0) (k := k) hn3 (by omega) (l := x.1) (by omega)
 have b3 := z36 (N := 0) (k := k) hn3 (by omega) (l := x.2) (by omega)
 have hc1 := z1d a n k (2 * ((b + 1 + i : Nat) : Int)) h hn (by omega) (by omega)
 have hc2 := z1d a n k x.1 h hn (by omega) (by omega)
 have hc3 := z1d a n k x.2 h hn (by omega) (by omega)
 have hgt : gatesF n k (b + 1 + i) [x] = [[-litF n k (2 * ((b + 1 + i : Nat) : Int)), litF n k x.1], [-litF n k (2 * ((b + 1 + i : Nat) : Int)), litF n k x.2], [litF n k (2 * ((b + 1 + i : Nat) : Int)), -litF n k x.1, -litF n k x.2]] := rfl
 rw [hgt] at ih
 generalize litF n k (2 * ((b + 1 + i : Nat) : Int)) = y1 at *
 generalize litF n k x.1 = y2 at *
 generalize litF n k x.2 = y3 at *
 have w1 := neg_w b1
 have w2 := neg_w b2
 have w3 := neg_w b3
 refine ze tabOk Tryz.func117 rfl trivial hc1 ⟨.refl _, .refl _, .of (congrArg (vI .i64) eJ), trivial⟩ rfl ⟨_, rfl⟩ (by rintro r o rfl; rfl) ?_
 rintro _ o rfl
 refine zp 8 tabOk Tryz.func117 rfl rfl trivial (by kernel_rfl) ?_
 refine zo tabOk rfl (by simp only [andP, and_true, true_and, Int.toNat_natCast, List.length_map, List.length_append, List.length_cons, List.length_nil, List.length_replicate]; omega) ?_
 refine ze tabOk Tryz.func117 rfl trivial hc2 ⟨.refl _, .refl _, .of (congrArg (fun z : P2 => vI .i64 z.1) hgd), trivial⟩ rfl ⟨_, rfl⟩ (by rintro r o rfl; rfl) ?_
 rintro _ o rfl
 refine zp 8 tabOk Tryz.func117 rfl rfl trivial (by kernel_rfl) ?_
 refine zo tabOk rfl (by simp only [andP, and_true, true_and, Int.toNat_natCast, List.length_map, List.length_append, List.length_cons, List.length_nil, List.length_replicate]; omega) ?_
 refine ze tabOk Tryz.func117 rfl trivial hc3 ⟨.refl _, .refl _, .of (congrArg (fun z : P2 => vI .i64 z.2) hgd), trivial⟩ rfl ⟨_, rfl⟩ (by rintro r o rfl; rfl) ?_
 rintro _ o rfl
 refine z8 tabOk Tryz.func117 rfl ?_ ?_
 ·exact (by simp only [andP, and_true, true_and, Int.toNat_natCast, List.length_map, List.length_append, List.length_cons, List.length_nil, List.length_replicate, hcl]; omega)
 refine zg ih hC hCl ⟨⟨_, rfl, .refl _⟩, ⟨_, rfl, .refl _⟩, ⟨_, rfl, .refl _⟩, ⟨_, rfl, .of (by rw [zb (by omega) (by omega)]; rfl)⟩, trivial⟩ ⟨.refl _, .gL_c ?_, trivial⟩ rfl rfl (Nat.zero_le _)
 rw [List.map_append]
 rw [← w1, ← w2, ← w3]
 exact CLes.append (.refl _) ⟨CLe.lit eI 0 [_, _] rfl, CLe.lit eI 0 [_, _] rfl, CLe.lit eI 0 [_, _, _] rfl, trivial⟩
theorem zlg (out : List (List Int)) (a : Ag) (n : Nat) (h : AgB a) (hn : varsA a = (n : Int)) (hl : ∀ x ∈ a.con, 0 ≤ x ∧ x ≤ 1000000000000) (hc : a.con.length ≤ 1000000) (ho : out.length ≤ 100000000) :
  ACall Tryz.prog 120 [.gs 0, .d (eAg a)] [some (gIcs out)] (fun r o => r = .gs 0 ∧ o = [some (gIcs (out ++ consF n a.con))]) := by
 refine za Tryz.func120 rfl rfl (Nat.le_of_ble_eq_true rfl) fun C hC hCl hDs hGk => ?_
 refine z8 tabOk Tryz.func120 rfl trivial ?_
 refine zh (α := Nat) (fun i => [(0, .gs 0), (3, .ptr 1 0), (5, vI .i64 (i : Int))]) (fun i => [some (gIcs (out ++ consF n (a.con.take i))), some (bAg a)]) (fun i => i ≤ a.con.length) (fun i => a.con.length - i) 0 (Nat.zero_le _) ?_ ?_
 ·refine fun h => zg h hC hCl ⟨⟨_, rfl, .refl _⟩, ⟨_, rfl, .refl _⟩, ⟨_, rfl, .refl _⟩, trivial⟩ ⟨.gL ?_, .refl _, trivial⟩ rfl rfl (Nat.le_of_ble_eq_true rfl)
  simp [consF]
 rintro i hi ih
 have hcl : (consF n (a.con.take i)).length = i := by unfold consF; rw [List.length_map, List.length_take]; omega
 refine z6 tabOk Tryz.func120 rfl trivial (fun hb2 => ?_) (fun hb2 => ?_)
 rotate_left
 ·have hb2 : decide ((i : Int) < (((a.con.map eI).length : Nat) : Int)) = false := hb2
  rw [decide_eq_false_iff_not, List.length_map] at hb2
  obtain rfl : i = a.con.length := by omega
  rw [List.take_length]
  exact zq tabOk Tryz.func120 rfl trivial hC hCl (.refl _) (o2 := [some (gIcs (out ++ consF n a.con))]) ⟨.refl _, trivial⟩ rfl rfl (Nat.le_refl _) ⟨rfl, rfl⟩
 have hb2 : decide ((i : Int) < (((a.con.map eI).length : Nat) : Int)) = true := hb2
 rw [decide_eq_true_eq, List.length_map] at hb2
 have hlt : i < a.con.length := by omega
 have ih := ih (i + 1) (by omega) (by omega)
 have hx := hl (a.con.getD i 0) (by rw [z9m (d := 0) hlt]; exact List.getElem_mem hlt)
 have hst : consF n (a.con.take (i + 1)) = consF n (a.con.take i) ++ [[litF n 0 (a.con.getD i 0)]] := by
  unfold consF
  rw [List.take_succ_eq_append_getElem hlt, List.map_append, ← z9m (d := 0) hlt]
  rfl
 rw [hst, ← List.append_assoc] at ih
 refine zp 10 tabOk Tryz.func120 rfl rfl trivial (by kernel_rfl) ?_
 refine zv tabOk rfl (by simp only [andP, and_true, true_and, Int.toNat_natCast, List.length_map, List.length_append, List.length_cons, List.length_nil, List.length_replicate]; omega) (z1d a n 0 (a.con.getD i 0) h hn (by omega) hx) (zf Tryz.func119 rfl rfl) (by rintro r o rfl; rfl) (.refl _) rfl rfl ⟨_, rfl⟩ ?_
 refine z2l tabOk rfl rfl rfl rfl rfl rfl rfl ?_
 refine z2l tabOk rfl rfl rfl rfl rfl rfl rfl ?_
 refine zo tabOk rfl trivial ?_
 refine z8 tabOk Tryz.func120 rfl (by simp only [andP, and_true, true_and, Int.toNat_natCast, List.length_map, List.length_append, List.length_cons, List.length_nil, List.length_replicate, hcl]; omega) ?_
 refine zg ih hC hCl ⟨⟨_, rfl, .refl _⟩, ⟨_, rfl, .refl _⟩, ⟨_, rfl, .of (by rw [zb (by omega) (by omega)]; rfl)⟩, trivial⟩ ⟨.gL_c ?_, .refl _, trivial⟩ rfl rfl (Nat.le_of_ble_eq_true rfl)
 rw [List.map_append (l₁ := out ++ consF n (a.con.take i))]
 exact CLes.append (.refl _) ⟨CLe.lit eI 0 [_] rfl, trivial⟩
end Go.Proofs.YtkemmijjpclckaaGreatDoor
namespace Go.Proofs.YtkemmijjpclckaaGreatDoor
open Go Ab Go.RowKit
@[reducible] def zCnf : AObj := .cells 129 [.d (eI 0), .d nilD]
section
variable {a : Ag} {n i b : Nat} (h : EncB a n i b)
include h
theorem EncB.rframe (k : Nat) (hk : k ≤ 1000) : ACall Tryz.prog 117 [.d (eAg a), vI .i64 (k : Int)] [] (fun r o => r = .d (eIss (zz n k b a.g))) :=
 zi1 a n k b h.h h.hn hk (by have := h.hi; have := h.hb; omega) h.g
theorem EncB.rframeG (k : Nat) (hk : k ≤ 1000) : ACall Tryz.prog 117 [.d (eAg a), vI .i64 (k : Int)] [] (fun r o => r = .gs 1 ∧ o = [none, some (gIcs (zz n k b a.g))]) :=
 zg3 a n k b h.h h.hn hk (by have := h.hi; have := h.hb; omega) h.g
theorem EncB.rfirst : ACall Tryz.prog 118 [.d (eAg a)] [] (fun r o => r = .d (eIss (z1g n (i + 1) a.l))) := zi2 a n i h.h h.hn h.hi
theorem EncB.rlink : ACall Tryz.prog 121 [.d (eAg a)] [] (fun r o => r = .d (eIss (linkF n (i + 1) a.l))) := zlf a n i h.h h.hn h.hi fun p hp => ⟨(h.l p hp).1.1, by have := (h.l p hp).1.2; omega⟩
theorem EncB.rvars (k : Int) (hk : 0 ≤ k ∧ k ≤ 1000) : ACall Tryz.prog 51 [.d (eAg a), vI .i64 k] [] (fun r o => r = vI .i64 (k * ((n : Int) + 1))) := by
 have := za2 a k h.h hk
 rwa [h.hn] at this
theorem EncB.rlit (k : Nat) (x : Int) (hk : k ≤ 1000) (hx : 0 ≤ x ∧ x ≤ 1000000000) : ACall Tryz.prog 119 [.d (eAg a), vI .i64 (k : Int), vI .i64 x] [] (fun r o => r = vI .i64 (litF n k x)) := z1d a n k x h.h h.hn hk (by omega)
theorem EncB.rcons (out : List (List Int)) (ho : out.length ≤ 100000000) : ACall Tryz.prog 120 [.gs 0, .d (eAg a)] [some (gIcs out)] (fun r o => r = .gs 0 ∧ o = [some (gIcs (out ++ consF n a.con))]) :=
 zlg out a n h.h h.hn (fun x hx => by have := h.c x hx; omega) (by have := h.cl; omega) ho
theorem EncB.wlit (k : Nat) (x : Int) (hk : k ≤ 1000) (hx : 0 ≤ x ∧ x ≤ 1000000000) : IntKind.i64.wrap (0 - litF n k x) = -litF n k x := by
 have hn := z1z h.h
 have := h.hn
 exact neg_w (z36 (N := 0) (by omega) hk (by omega))
end
theorem zoj {xs : List D} {rd : Nat → D} {l : List (List Int)} (h : CLes xs (l.map eIs)) : DLe (.sl 1 xs rd) (eIss l) := dlS h (z2r eIs [] l)
theorem zfz (a : Ag) (n i b : Nat) (inv : Int) (h : EncB a n i b) (hv : 0 ≤ inv ∧ inv ≤ 1000000000) : ACall Tryz.prog 69 [.d (eAg a), vI .i64 inv] [] (fun r o => r = .d (eCnf ((n : Int) + 1) (z5q n b i a.l a.g inv))) := by
 refine za Tryz.func69 rfl rfl (Nat.le_of_ble_eq_true rfl) fun C hC hCl hDs hGk => ?_
 have hf := h.frl 0
 have hg := h.fil
 have w := h.wlit 0 inv (by omega) hv
 have hvv := h.rvars 1 (by decide)
 rw [Int.one_mul] at hvv
 unfold z5q
 refine z99 3 1 [(1, some (7, .gs 3))] [some (bAg a), some zCnf, none, some (gIcs (zz n 0 b a.g))] _ tabOk Tryz.func69 rfl rfl trivial (by kernel_rfl) (by kernel_rfl) rfl rfl rfl (zo tabOk rfl trivial rfl) (zo tabOk rfl trivial rfl) ?_ ?_
 ·refine List.forall_mem_cons.2 ⟨⟨_, rfl, rfl, ?_⟩, fun x h => by cases h⟩
  refine z83 [] (fun _ _ _ h => h) rfl rfl rfl rfl rfl rfl (zf Tryz.func117 rfl rfl) (h.rframeG 0 (by omega)) trivial (.refl _) rfl rfl rfl ?_
  rintro r o ⟨rfl, rfl⟩
  exact ⟨rfl, rfl⟩
 refine ze tabOk Tryz.func69 rfl trivial h.rfirst (.refl _) rfl ⟨_, rfl⟩ (by rintro r o rfl; rfl) ?_
 rintro _ o rfl
 have hl := h.rlit 0 inv (by omega) hv
 generalize litF n 0 inv = y at *
 generalize zz n 0 b a.g = F at *
 generalize z1g n (i + 1) a.l = G at *
 refine zp 9 tabOk Tryz.func69 rfl rfl (by simp only [andP, and_true, true_and, Int.toNat_natCast, List.length_map, List.length_append, List.length_cons, List.length_nil, List.length_replicate]; omega) (by kernel_rfl) ?_
 refine zv tabOk rfl trivial (hvv) (zf Tryz.func51 rfl rfl) (by rintro r o rfl; rfl) (.refl _) rfl rfl ⟨_, rfl⟩ ?_
 refine zv tabOk rfl trivial (hl) (zf Tryz.func119 rfl rfl) (by rintro r o rfl; rfl) (.refl _) rfl rfl ⟨_, rfl⟩ ?_
 refine z3b 1 tabOk rfl trivial ?_
 refine z2l tabOk rfl rfl rfl rfl rfl rfl rfl ?_
 refine z2l tabOk rfl rfl rfl rfl rfl rfl rfl ?_
 refine zo tabOk rfl trivial ?_
 refine zj 3 tabOk Tryz.func69 rfl (by simp only [andP, and_true, true_and, Int.toNat_natCast, List.length_map, List.length_append, List.length_cons, List.length_nil, List.length_replicate]; omega) ?_
 refine zw 3 rfl ?_
 refine zq tabOk Tryz.func69 rfl trivial hC hCl (r2 := .d (eCnf ((n : Int) + 1) (F ++ G ++ [[-y]]))) (VLe.dag ⟨.refl _, zoj ?_, trivial⟩) (o2 := []) trivial rfl rfl (Nat.zero_le _) rfl
 rw [List.map_append (l₁ := F ++ G), List.map_append (l₁ := F), ← w]
 exact CLes.append (.refl _) ⟨CLe.lit eI 0 [_] rfl, trivial⟩
end Go.Proofs.YtkemmijjpclckaaGreatDoor
namespace Go.Proofs.YtkemmijjpclckaaGreatDoor
open Go Ab Go.RowKit
theorem zld (a : Ag) (n i b : Nat) (inv bad : Int) (h : EncB a n i b) (hv : 0 ≤ inv ∧ inv ≤ 1000000000) (hb : 0 ≤ bad ∧ bad ≤ 1000000000) : ACall Tryz.prog 71 [.d (eAg a), vI .i64 inv, vI .i64 bad] [] (fun r o => r = .d (eCnf ((n : Int) + 1) (safeF n b a.g a.con inv bad))) := by
 refine za Tryz.func71 rfl rfl (Nat.le_of_ble_eq_true rfl) fun C hC hCl hDs hGk => ?_
 have hf := h.frl 0
 have hcl := h.cl
 have hvv := h.rvars 1 (by decide)
 rw [Int.one_mul] at hvv
 unfold safeF
 refine z99 3 1 [(1, some (9, .gs 3))] [some (bAg a), some zCnf, none, some (gIcs (zz n 0 b a.g))] _ tabOk Tryz.func71 rfl rfl trivial (by kernel_rfl) (by kernel_rfl) rfl rfl rfl (zo tabOk rfl trivial rfl) (zo tabOk rfl trivial rfl) ?_ ?_
 ·refine List.forall_mem_cons.2 ⟨⟨_, rfl, rfl, ?_⟩, fun x h => by cases h⟩
  refine z83 [] (fun _ _ _ h => h) rfl rfl rfl rfl rfl rfl (zf Tryz.func117 rfl rfl) (h.rframeG 0 (by omega)) trivial (.refl _) rfl rfl rfl ?_
  rintro r o ⟨rfl, rfl⟩
  exact ⟨rfl, rfl⟩
 refine zn [3] tabOk Tryz.func71 rfl trivial (h.rcons (zz n 0 b a.g) (by omega)) ⟨⟨_, rfl, .refl _⟩, trivial⟩ (.refl _) rfl rfl rfl ⟨_, rfl⟩ ?_
 rintro r o ⟨rfl, rfl⟩
 have hl := h.rlit 0 inv (by omega) hv
 have hl2 := h.rlit 0 bad (by omega) hb
 have hFl : (zz n 0 b a.g ++ consF n a.con).length ≤ 200000 := by
  rw [List.length_append]
  unfold consF
  rw [List.length_map]
  omega
 generalize litF n 0 inv = y at *
 generalize litF n 0 bad = z at *
 generalize zz n 0 b a.g ++ consF n a.con = F at *
 refine zp 12 tabOk Tryz.func71 rfl rfl trivial (by kernel_rfl) ?_
 refine zv tabOk rfl trivial (hvv) (zf Tryz.func51 rfl rfl) (by rintro r o rfl; rfl) (.refl _) rfl rfl ⟨_, rfl⟩ ?_
 refine zv tabOk rfl trivial (hl) (zf Tryz.func119 rfl rfl) (by rintro r o rfl; rfl) (.refl _) rfl rfl ⟨_, rfl⟩ ?_
 refine z2l tabOk rfl rfl rfl rfl rfl rfl rfl ?_
 refine zv tabOk rfl trivial (hl2) (zf Tryz.func119 rfl rfl) (by rintro r o rfl; rfl) (.refl _) rfl rfl ⟨_, rfl⟩ ?_
 refine z2l tabOk rfl rfl rfl rfl rfl rfl rfl ?_
 refine z2l tabOk rfl rfl rfl rfl rfl rfl rfl ?_
 refine zo tabOk rfl trivial ?_
 refine zj 3 tabOk Tryz.func71 rfl (by simp only [andP, and_true, true_and, Int.toNat_natCast, List.length_map, List.length_append, List.length_cons, List.length_nil, List.length_replicate]; omega) ?_
 refine zw 3 rfl ?_
 refine zq tabOk Tryz.func71 rfl trivial hC hCl (r2 := .d (eCnf ((n : Int) + 1) (F ++ [[y]] ++ [[z]]))) (VLe.dag ⟨.refl _, zoj ?_, trivial⟩) (o2 := []) trivial rfl rfl (Nat.zero_le _) rfl
 rw [List.append_assoc, List.map_append]
 exact CLes.append (.refl _) ⟨CLe.lit eI 0 [_] rfl, CLe.lit eI 0 [_] rfl, trivial⟩
theorem zhy (a : Ag) (n i b : Nat) (inv : Int) (h : EncB a n i b) (hv : 0 ≤ inv ∧ inv ≤ 1000000000) : ACall Tryz.prog 70 [.d (eAg a), vI .i64 inv] [] (fun r o => r = .d (eCnf (2 * ((n : Int) + 1)) (z8f n b i a.l a.g a.con inv))) := by
 refine za Tryz.func70 rfl rfl (Nat.le_of_ble_eq_true rfl) fun C hC hCl hDs hGk => ?_
 have hf := h.frl 0
 have hf1 := h.frl 1
 have hll := h.lil
 have hcl := h.cl
 have hvv := h.rvars 2 (by decide)
 have w := h.wlit 1 inv (by omega) hv
 unfold z8f
 refine z99 3 1 [(1, some (8, .gs 3))] [some (bAg a), some zCnf, none, some (gIcs (zz n 0 b a.g))] _ tabOk Tryz.func70 rfl rfl trivial (by kernel_rfl) (by kernel_rfl) rfl rfl rfl (zo tabOk rfl trivial rfl) (zo tabOk rfl trivial rfl) ?_ ?_
 ·refine List.forall_mem_cons.2 ⟨⟨_, rfl, rfl, ?_⟩, fun x h => by cases h⟩
  refine z83 [] (fun _ _ _ h => h) rfl rfl rfl rfl rfl rfl (zf Tryz.func117 rfl rfl) (h.rframeG 0 (by omega)) trivial (.refl _) rfl rfl rfl ?_
  rintro r o ⟨rfl, rfl⟩
  exact ⟨rfl, rfl⟩
 refine ze tabOk Tryz.func70 rfl trivial (h.rframe 1 (by omega)) (.refl _) rfl ⟨_, rfl⟩ (by rintro r o rfl; rfl) ?_
 rintro _ o rfl
 have hlk := h.rlink
 have hl := h.rlit 0 inv (by omega) hv
 have hl2 := h.rlit 1 inv (by omega) hv
 have hrc := fun out ho => h.rcons out ho
 generalize litF n 0 inv = y at *
 generalize litF n 1 inv = z at *
 generalize zz n 0 b a.g = F at *
 generalize zz n 1 b a.g = G at *
 generalize linkF n (i + 1) a.l = K at *
 refine zj 2 tabOk Tryz.func70 rfl (by simp only [andP, and_true, true_and, Int.toNat_natCast, List.length_map, List.length_append, List.length_cons, List.length_nil, List.length_replicate]; omega) ?_
 refine zg (env' := [(1, vI .i64 inv), (2, .ptr 0 0), (4, .ptr 1 0), (5, .gs 3)]) (objs' := [some (bAg a), some zCnf, none, some (gIcs (F ++ G))]) ?_ hC hCl ⟨⟨_, rfl, .refl _⟩, ⟨_, rfl, .refl _⟩, ⟨_, rfl, .refl _⟩, ⟨_, rfl, .refl _⟩, trivial⟩ ⟨.refl _, .refl _, .gL (by rw [List.map_append]), trivial⟩ rfl rfl (Nat.zero_le _)
 refine zn0 3 rfl (fun vh hfl => ?_)
 refine zn1 5 4 rfl hfl rfl ?_
 refine zg (env' := [(1, vI .i64 inv), (2, .ptr 0 0), (4, .ptr 1 0), (5, .d (.v vh))]) (objs' := [some (bAg a), some zCnf, none, some (gIcs (F ++ G)), some (.hold (.gs 3) vh)]) ?_ hC hCl ⟨⟨_, rfl, .refl _⟩, ⟨_, rfl, .refl _⟩, ⟨_, rfl, .refl _⟩, ⟨_, rfl, .refl _⟩, trivial⟩ ⟨.refl _, .refl _, .refl _, .refl _, trivial⟩ rfl rfl (Nat.zero_le _)
 have hFG : (F ++ G).length ≤ 200000 := by rw [List.length_append]; omega
 refine zl2 5 3 (p := 4) (i := 3) (late := 15) (tv := 12) (vh := vh) (E' := [(12, .gs 3), (14, .d (eIss K))]) tabOk Tryz.func70 rfl rfl trivial (by kernel_rfl) (by kernel_rfl) (by kernel_rfl) (zv tabOk rfl trivial hlk (zf Tryz.func121 rfl rfl) (by rintro r o rfl; rfl) (.refl _) rfl rfl ⟨_, rfl⟩ (zo tabOk rfl trivial rfl)) ?d1 rfl rfl rfl rfl ?hE rfl rfl (by kernel_rfl) rfl rfl ?hc ?hk
 case d1 => exact zv tabOk rfl trivial hlk (zf Tryz.func121 rfl rfl) (by rintro r o rfl; rfl) (.refl _) rfl rfl ⟨_, rfl⟩ (zo tabOk rfl trivial rfl)
 case hE =>
  intro t b ht
  rw [z27] at ht
  split at ht
  ·rename_i e
   subst e
   cases ht
   exact ⟨List.mem_of_elem_eq_true (by kernel_rfl), .inl ⟨rfl, rfl⟩⟩
  ·rw [z27] at ht
   split at ht
   ·rename_i e
    subst e
    cases ht
    exact ⟨List.mem_of_elem_eq_true (by kernel_rfl), .inr rfl⟩
   ·cases ht
 case hc =>
  show (((F ++ G).map eIs).length + (K.map eIs).length) * 24 ≤ 140737488355328
  rw [List.length_map, List.length_map]
  omega
 case hk =>
 have hFK : (F ++ G ++ K).length ≤ 400000 := by rw [List.length_append]; omega
 refine zn [3] tabOk Tryz.func70 rfl trivial (hrc (F ++ G ++ K) (by omega)) ⟨⟨_, rfl, .gL (by rw [List.map_append (l₁ := F ++ G)])⟩, trivial⟩ (.refl _) rfl rfl rfl ⟨_, rfl⟩ ?_
 rintro r o ⟨rfl, rfl⟩
 have hF2 : (F ++ G ++ K ++ consF n a.con).length ≤ 500000 := by
  rw [List.length_append]
  unfold consF
  rw [List.length_map]
  omega
 generalize F ++ G ++ K ++ consF n a.con = H at *
 refine zp 13 tabOk Tryz.func70 rfl rfl trivial (by kernel_rfl) ?_
 refine zv tabOk rfl trivial (hvv) (zf Tryz.func51 rfl rfl) (by rintro r o rfl; rfl) (.refl _) rfl rfl ⟨_, rfl⟩ ?_
 refine zv tabOk rfl trivial (hl) (zf Tryz.func119 rfl rfl) (by rintro r o rfl; rfl) (.refl _) rfl rfl ⟨_, rfl⟩ ?_
 refine z2l tabOk rfl rfl rfl rfl rfl rfl rfl ?_
 refine zv tabOk rfl trivial (hl2) (zf Tryz.func119 rfl rfl) (by rintro r o rfl; rfl) (.refl _) rfl rfl ⟨_, rfl⟩ ?_
 refine z3b 1 tabOk rfl trivial ?_
 refine z2l tabOk rfl rfl rfl rfl rfl rfl rfl ?_
 refine z2l tabOk rfl rfl rfl rfl rfl rfl rfl ?_
 refine zo tabOk rfl trivial ?_
 refine zj 3 tabOk Tryz.func70 rfl (by simp only [andP, and_true, true_and, Int.toNat_natCast, List.length_map, List.length_append, List.length_cons, List.length_nil, List.length_replicate]; omega) ?_
 refine zw 3 rfl ?_
 refine zq tabOk Tryz.func70 rfl trivial hC hCl (r2 := .d (eCnf (2 * ((n : Int) + 1)) (H ++ [[y]] ++ [[-z]]))) (VLe.dag ⟨.refl _, zoj ?_, trivial⟩) (o2 := []) trivial rfl rfl (Nat.zero_le _) rfl
 rw [List.append_assoc, List.map_append, ← w]
 exact CLes.append (.refl _) ⟨CLe.lit eI 0 [_] rfl, CLe.lit eI 0 [_] rfl, trivial⟩
@[reducible] def bCn (n : Int) (l : List (List Int)) : AObj := .cells 129 [.d (eI n), .d (eIss l)]
theorem z7v {n : Int} {l0 : List (List Int)} {p : List Sp} (hn : 0 ≤ n ∧ n ≤ 100000) (hc : Cls n l0) (hp : ∀ s ∈ p, (∀ x ∈ s.2.1, litOk n x) ∧ s.2.1.length ≤ 1000) (hs : l0.length + p.length ≤ 1000) :
  ACall Tryz.prog 73 [.d (eCnf n l0), .d (eSps p)] [] (fun r o => r = vB ((chk l0 0 p).2 == 0)) := by
 refine za Tryz.func73 rfl rfl (Nat.le_of_ble_eq_true rfl) fun C hC hCl hDs hGk => ?_
 refine ze tabOk Tryz.func73 rfl trivial (zja hn hc hp hs) (.refl _) rfl ⟨_, rfl⟩ (by rintro r o rfl; rfl) ?_
 rintro _ o rfl
 exact z7 tabOk Tryz.func73 rfl trivial rfl
theorem zd4 {n : Int} {l : List (List Int)} (hn : 0 ≤ n ∧ n ≤ 100000) (hl : l.length ≤ 20000) : z4t n l = l.all (clOk n) := by
 unfold z4t
 simp [hn.1, hn.2, hl]
def Le3 (l : List (List Int)) : Prop := ∀ c ∈ l, c.length ≤ 3
theorem Le3.app {l m : List (List Int)} (h : Le3 l) (k : Le3 m) : Le3 (l ++ m) := fun c hc => (List.mem_append.1 hc).elim (h c) (k c)
theorem zgj (n k : Nat) : ∀ (g : List P2) (v : Nat), Le3 (gatesF n k v g)
 | [], v => fun c hc => by cases hc
 | p :: g, v => fun c hc => by
  rw [gatesF, List.mem_cons, List.mem_cons, List.mem_cons] at hc
  rcases hc with rfl | rfl | rfl | hc
  ·exact Nat.le_of_ble_eq_true rfl
  ·exact Nat.le_of_ble_eq_true rfl
  ·exact Nat.le_of_ble_eq_true rfl
  ·exact zgj n k g _ c hc
theorem z8r (n k b : Nat) (g : List P2) : Le3 (zz n k b g) := fun c hc => by
 rw [zz, List.mem_cons] at hc
 rcases hc with rfl | hc
 ·exact Nat.le_of_ble_eq_true rfl
 ·exact zgj n k g _ c hc
theorem zoe (n : Nat) (l : List P2) (v : Nat) : Le3 (z1g n v l) := fun c hc => by
 obtain ⟨j, hj, (⟨_, rfl⟩ | ⟨_, rfl⟩)⟩ := z9g hc <;> exact Nat.le_of_ble_eq_true rfl
theorem zqt (n : Nat) (l : List P2) (v : Nat) : Le3 (linkF n v l) := fun c hc => by
 obtain ⟨j, hj, (rfl | rfl)⟩ := zbp hc <;> exact Nat.le_of_ble_eq_true rfl
theorem zk0 (n : Nat) (l : List Int) : Le3 (consF n l) := fun c hc => by
 obtain ⟨x, _, rfl⟩ := List.mem_map.1 hc
 exact Nat.le_of_ble_eq_true rfl
theorem zbu (x : Int) : Le3 [[x]] := fun c hc => by
 rw [List.mem_singleton.1 hc]
 exact Nat.le_of_ble_eq_true rfl
theorem zqw (g : Ag) (inv : Int) : Le3 (ask0 g inv) := ((z8r _ _ _ _).app (zoe _ _ _)).app (zbu _)
theorem zqv (g : Ag) (inv : Int) : Le3 (ask1 g inv) := ((((((z8r _ _ _ _).app (z8r _ _ _ _)).app (zqt _ _ _)).app (zk0 _ _)).app (zbu _)).app (zbu _))
theorem zqu (g : Ag) (inv bad : Int) : Le3 (ask2 g inv bad) := (((z8r _ _ _ _).app (zk0 _ _)).app (zbu _)).app (zbu _)
theorem zia {l : List (List Int)} (h : Le3 l) : ∀ c ∈ l, c.length ≤ maxLen := fun c hc => Nat.le_trans (h c hc) (by decide)
theorem zg4 (a : Ag) (c : Ct) (k : Int) (h : AcM a c)
  (hs : z2z a c = true → (ask0 (zk a c) c.inv).length + c.p0.length ≤ 1000 ∧ (ask1 (zk a c) c.inv).length + c.p1.length ≤ 1000 ∧ (ask2 (zk a c) c.inv (a.bad.getD k.toNat 0)).length + c.p2.length ≤ 1000) :
  ACall Tryz.prog 26 [.d (eAg a), vI .i64 k, .d (eCt c)] [] (fun r o => r = tupOf [vI .i64 (z6q a c k).1, vI .i64 (z6q a c k).2]) := by
 refine za Tryz.func26 rfl rfl (Nat.le_of_ble_eq_true rfl) fun C hC hCl hDs hGk => ?_
 have hG := zbc a c h.b.ag h.b.cg
 refine ze tabOk Tryz.func26 rfl trivial (zg1 a c h) (.refl _) rfl ⟨_, rfl⟩ (by rintro r o rfl; rfl) ?_
 rintro _ o rfl
 unfold z6q
 cases hR : z2z a c with
 | false =>
  rw [if_pos (.inl rfl)]
  repeat refine z6 tabOk Tryz.func26 rfl trivial (fun _ => ?_) (fun h => by cases h)
  exact z7 tabOk Tryz.func26 rfl trivial rfl
 | true =>
 refine z6 tabOk Tryz.func26 rfl trivial (fun h => by cases h) (fun _ => ?_)
 refine z6 tabOk Tryz.func26 rfl trivial (fun h1 => ?_) (fun h1 => ?_)
 ·have h1 : decide (k < 0) = true := h1
  rw [decide_eq_true_eq] at h1
  rw [if_pos (.inr (.inl h1))]
  repeat refine z6 tabOk Tryz.func26 rfl trivial (fun _ => ?_) (fun h => by cases h)
  exact z7 tabOk Tryz.func26 rfl trivial rfl
 have h1 : decide (k < 0) = false := h1
 rw [decide_eq_false_iff_not] at h1
 refine z6 tabOk Tryz.func26 rfl trivial (fun h2 => ?_) (fun h2 => ?_)
 ·have h2 : decide (k ≥ (((a.bad.map eI).length : Nat) : Int)) = true := h2
  rw [decide_eq_true_eq, List.length_map] at h2
  rw [if_pos (.inr (.inr h2))]
  exact z7 tabOk Tryz.func26 rfl trivial rfl
 have h2 : decide (k ≥ (((a.bad.map eI).length : Nat) : Int)) = false := h2
 rw [decide_eq_false_iff_not, List.length_map] at h2
 rw [if_neg (by rintro (h3 | h3 | h3) <;> first | cases h3 | omega)]
 obtain ⟨s0, s1, s2⟩ := hs hR
 obtain ⟨-, hA, hinv, -, hp0, hp1, hp2⟩ := z3i.1 hR
 have hA' := z13.1 hA
 have hbad := hA'.bad
 unfold z1m at hbad
 rw [Bool.and_eq_true, decide_eq_true_eq, List.all_eq_true] at hbad
 have hE := zp1 hA'
 have hv := hE.hn
 have hv1 := hA'.v1
 have hbr := hbad.2 (a.bad.getD k.toNat 0) (by
  rw [List.getD_eq_getElem?_getD, List.getElem?_eq_getElem (show k.toNat < a.bad.length by omega)]
  exact List.getElem_mem _)
 rw [decide_eq_true_eq] at hbr
 refine ze tabOk Tryz.func26 rfl trivial hG (.refl _) rfl ⟨_, rfl⟩ (by rintro r o rfl; rfl) ?_
 rintro _ o rfl
 have hc0 := zfz _ _ _ _ c.inv hE (by omega)
 have hc1 := zhy _ _ _ _ c.inv hE (by omega)
 have hc2 := zld _ _ _ _ c.inv (a.bad.getD k.toNat 0) hE (by omega) (by omega)
 rw [← hv] at hc0 hc1 hc2
 change ACall _ _ _ _ (fun r o => r = .d (eCnf _ (ask0 (zk a c) c.inv))) at hc0
 change ACall _ _ _ _ (fun r o => r = .d (eCnf _ (ask1 (zk a c) c.inv))) at hc1
 change ACall _ _ _ _ (fun r o => r = .d (eCnf _ (ask2 (zk a c) c.inv (a.bad.getD k.toNat 0)))) at hc2
 have hV : 0 ≤ varsA (zk a c) + 1 ∧ 2 * (varsA (zk a c) + 1) ≤ 100000 := by omega
 have m0 := zia (zqw (zk a c) c.inv)
 have m1 := zia (zqv (zk a c) c.inv)
 have m2 := zia (zqu (zk a c) c.inv (a.bad.getD k.toNat 0))
 generalize ask0 (zk a c) c.inv = l0 at *
 generalize ask1 (zk a c) c.inv = l1 at *
 generalize ask2 (zk a c) c.inv (a.bad.getD k.toNat 0) = l2 at *
 generalize zk a c = g at *
 generalize varsA g + 1 = N at *
 have hki : ((k.toNat : Nat) : Int) = k := by omega
 have hN0 : 0 ≤ N ∧ N ≤ 100000 := by omega
 have hN1 : 0 ≤ 2 * N ∧ 2 * N ≤ 100000 := by omega
 refine ze tabOk Tryz.func26 rfl trivial hc0 (.refl _) rfl ⟨_, rfl⟩ (by rintro r o rfl; rfl) ?_
 rintro _ o rfl
 refine ze tabOk Tryz.func26 rfl trivial hc1 (.refl _) rfl ⟨_, rfl⟩ (by rintro r o rfl; rfl) ?_
 rintro _ o rfl
 refine zd2 11 9 10 (c := none) (a := .dead) (o2 := bCn N l2) tabOk Tryz.func26 rfl rfl trivial (by kernel_rfl) (by kernel_rfl) rfl rfl rfl (by kernel_rfl) (by rw [hCl, hC]; exact Nat.zero_le _) rfl rfl rfl rfl rfl rfl
  (fun _ => zv tabOk rfl (by rw [List.length_map]; exact ⟨⟨by omega, by omega⟩, trivial⟩) hc2 (zf Tryz.func71 rfl rfl) (by rintro r o rfl; rfl) (.refl _) rfl rfl ⟨_, rfl⟩ (zo tabOk rfl trivial rfl))
  (by rfl) (by rfl) (by rfl) (by rfl) trivial ?_
 refine zg (env' := [(5, .ptr 1 0), (10, .ptr 3 0), (11, .ptr 4 0), (12, .ptr 5 0)]) (objs' := [none, some (bCt c), none, some (bCn N l0), some (bCn (2 * N) l1), some (bCn N l2)]) ?_ hC hCl ⟨⟨_, rfl, .refl _⟩, ⟨_, rfl, .refl _⟩, ⟨_, rfl, .refl _⟩, ⟨_, rfl, .refl _⟩, trivial⟩ ⟨.refl _, .refl _, .refl _, .refl _, trivial⟩ rfl rfl (Nat.zero_le _)
 have hml : maxLen = 9223372036854775807 := rfl
 have r0 := z7e N l0 (by omega) m0
 have r1 := z7e (2 * N) l1 (by omega) m1
 have r2 := z7e N l2 (by omega) m2
 rw [zd4 hN0 (by omega)] at r0 r2
 rw [zd4 hN1 (by omega)] at r1
 refine ze tabOk Tryz.func26 rfl trivial r0 (.refl _) rfl ⟨_, rfl⟩ (by rintro r o rfl; rfl) ?_
 rintro _ o rfl
 refine ze tabOk Tryz.func26 rfl trivial r1 (.refl _) rfl ⟨_, rfl⟩ (by rintro r o rfl; rfl) ?_
 rintro _ o rfl
 refine ze tabOk Tryz.func26 rfl trivial r2 (.refl _) rfl ⟨_, rfl⟩ (by rintro r o rfl; rfl) ?_
 rintro _ o rfl
 cases hq0 : l0.all (clOk N) with
 | false =>
  rw [if_pos (.inl rfl)]
  repeat refine z6 tabOk Tryz.func26 rfl trivial (fun _ => ?_) (fun h => by cases h)
  exact z7 tabOk Tryz.func26 rfl trivial rfl
 | true =>
 refine z6 tabOk Tryz.func26 rfl trivial (fun h => by cases h) (fun _ => ?_)
 cases hq1 : l1.all (clOk (2 * N)) with
 | false =>
  rw [if_pos (.inr (.inl rfl))]
  repeat refine z6 tabOk Tryz.func26 rfl trivial (fun _ => ?_) (fun h => by cases h)
  exact z7 tabOk Tryz.func26 rfl trivial rfl
 | true =>
 refine z6 tabOk Tryz.func26 rfl trivial (fun h => by cases h) (fun _ => ?_)
 cases hq2 : l2.all (clOk N) with
 | false =>
  rw [if_pos (.inr (.inr rfl))]
  repeat refine z6 tabOk Tryz.func26 rfl trivial (fun _ => ?_) (fun h => by cases h)
  exact z7 tabOk Tryz.func26 rfl trivial rfl
 | true =>
 refine z6 tabOk Tryz.func26 rfl trivial (fun h => by cases h) (fun _ => ?_)
 rw [if_neg (by rintro (h3 | h3 | h3) <;> cases h3)]
 have p0 := z7v (n := N) (l0 := l0) (p := c.p0) hN0 (zds hq0) (z3z hp0) s0
 have p1 := z7v (n := 2 * N) (l0 := l1) (p := c.p1) hN1 (zds hq1) (z3z hp1) s1
 have p2 := z7v (n := N) (l0 := l2) (p := c.p2) hN0 (zds hq2) (z3z hp2) s2
 generalize (chk l0 0 c.p0).2 = x0 at *
 generalize (chk l1 0 c.p1).2 = x1 at *
 generalize (chk l2 0 c.p2).2 = x2 at *
 refine ze tabOk Tryz.func26 rfl trivial p0 (.refl _) rfl ⟨_, rfl⟩ (by rintro r o rfl; rfl) ?_
 rintro _ o rfl
 by_cases h3 : x0 = 0
 rotate_left
 ·rw [if_pos h3, show (x0 == 0) = false from beq_eq_false_iff_ne.2 h3]
  refine z6 tabOk Tryz.func26 rfl trivial (fun _ => ?_) (fun h => by cases h)
  exact z7 tabOk Tryz.func26 rfl trivial rfl
 rw [if_neg (not_not_intro h3), show (x0 == 0) = true from beq_iff_eq.2 h3]
 refine z6 tabOk Tryz.func26 rfl trivial (fun h => by cases h) (fun _ => ?_)
 refine ze tabOk Tryz.func26 rfl trivial p1 (.refl _) rfl ⟨_, rfl⟩ (by rintro r o rfl; rfl) ?_
 rintro _ o rfl
 by_cases h4 : x1 = 0
 rotate_left
 ·rw [if_pos h4, show (x1 == 0) = false from beq_eq_false_iff_ne.2 h4]
  refine z6 tabOk Tryz.func26 rfl trivial (fun _ => ?_) (fun h => by cases h)
  exact z7 tabOk Tryz.func26 rfl trivial rfl
 rw [if_neg (not_not_intro h4), show (x1 == 0) = true from beq_iff_eq.2 h4]
 refine z6 tabOk Tryz.func26 rfl trivial (fun h => by cases h) (fun _ => ?_)
 refine ze tabOk Tryz.func26 rfl trivial p2 (.refl _) rfl ⟨_, rfl⟩ (by rintro r o rfl; rfl) ?_
 rintro _ o rfl
 by_cases h5 : x2 = 0
 rotate_left
 ·rw [if_pos h5, show (x2 == 0) = false from beq_eq_false_iff_ne.2 h5]
  refine z6 tabOk Tryz.func26 rfl trivial (fun _ => ?_) (fun h => by cases h)
  exact z7 tabOk Tryz.func26 rfl trivial rfl
 rw [if_neg (not_not_intro h5), show (x2 == 0) = true from beq_iff_eq.2 h5]
 refine z6 tabOk Tryz.func26 rfl trivial (fun h => by cases h) (fun _ => ?_)
 exact z7 tabOk Tryz.func26 rfl trivial rfl
end Go.Proofs.YtkemmijjpclckaaGreatDoor
namespace Go.Proofs.YtkemmijjpclckaaGreatDoor
open Go Ab Go.RowKit Go.Lib
theorem CertChecks_law (a : Ag) (k : Int) (c : Ct) (hm : AgM a) : ACall Tryz.prog 5 [.d (eAg a), vI .i64 k, .d (eCt c)] [] (fun r o => r = vB true) := by
 refine za Tryz.func5 rfl rfl (Nat.le_of_ble_eq_true rfl) fun C hC hCl hDs hGk => ?_
 refine ze tabOk Tryz.func5 rfl trivial ziy (.refl _) rfl ⟨_, rfl⟩ (by rintro r o rfl; rfl) ?_
 rintro _ o rfl
 refine ze tabOk Tryz.func5 rfl trivial (zpk a c hm) (.refl _) rfl ⟨_, rfl⟩ (by rintro r o ⟨b, rfl, -⟩; rfl) ?_
 rintro _ o ⟨m, rfl, h1⟩
 cases m with
 | false =>
  repeat refine z6 tabOk Tryz.func5 rfl trivial (fun _ => ?_) (fun h => by cases h)
  exact z7 tabOk Tryz.func5 rfl trivial rfl
 | true =>
 obtain ⟨⟨sa, ra⟩, sc⟩ := h1 rfl
 have hA : Asked a c := ⟨sa, ra, sc⟩
 have hM := hA.acM
 refine z6 tabOk Tryz.func5 rfl trivial (fun h => by cases h) (fun _ => ?_)
 refine ze tabOk Tryz.func5 rfl trivial (z8c a c k hM.b (fun _ => hA.asks k)) (.refl _) rfl ⟨_, rfl⟩ (by rintro r o rfl; rfl) ?_
 rintro _ o rfl
 have hr := zg4 a c k hM (fun _ => hA.asks k)
 generalize z6q a c k = q at *
 obtain ⟨n, e⟩ := q
 refine ze tabOk Tryz.func5 rfl trivial hr (.refl _) rfl ⟨_, rfl⟩ (by rintro r o rfl; rfl) ?_
 rintro _ o rfl
 refine z6 tabOk Tryz.func5 rfl trivial (fun _ => ?_) (fun h => by cases h)
 refine z6 tabOk Tryz.func5 rfl trivial (fun h1 => ?_) (fun h1 => ?_)
 ·refine z7 tabOk Tryz.func5 rfl trivial ?_
  show vB (e == e) = _
  rw [beq_self_eq_true]
 ·have h1 : (n == n) = false := h1
  rw [beq_self_eq_true] at h1
  cases h1
end Go.Proofs.YtkemmijjpclckaaGreatDoor
namespace Ab
open Go
variable [Draws]
def zjl (l : List Nat) : Bool := l.all fun n => decide (n ≤ reachBytes)
structure ReadsS (P : Program) (t : TypeId) {α : Type} (enc : α → D) (Q : α → Prop) : Prop where
 len : ∀ a, (enc a).cells.length = P.cellsOf t
 rd : ∀ {H : Type} (eH : TypeId × Value → H) (w : World) (fuel : Nat) (cs : List Value) (x : DataW H × List MemPlace) (ok : Nat → Prop), (∀ b, ok b) → DataW.trod eH P w 0 (fun _ => true) true fuel t cs = some x → zjl (x.1.weights P t) = true → ∃ a, Q a ∧ RelL w ok (enc a).cells cs
theorem Reads.toS {P : Program} {t : TypeId} {α : Type} {enc : α → D} {Q : α → Prop} (R : Reads P t enc Q) : ReadsS P t enc Q where
 len := R.len
 rd eH w fuel cs x ok hok h _ := R.rd eH w fuel cs x ok hok h
theorem Reads.via {P : Program} {t : TypeId} {α β : Type} {enc : α → D} {Q : α → Prop} {enc' : β → D} {Q' : β → Prop} (R : Reads P t enc Q) (g : α → β) (hg : ∀ a, Q a → Q' (g a)) (he : ∀ a, Q a → enc' (g a) = enc a) (hl : ∀ b, (enc' b).cells.length = P.cellsOf t) : Reads P t enc' Q' where
 len := hl
 rd eH w fuel cs x ok hok h := by
  obtain ⟨a, qa, ra⟩ := R.rd eH w fuel cs x ok hok h
  exact ⟨g a, hg a qa, by rw [he a qa]; exact ra⟩
theorem ReadsS.via {P : Program} {t : TypeId} {α β : Type} {enc : α → D} {Q : α → Prop} {enc' : β → D} {Q' : β → Prop} (R : ReadsS P t enc Q) (g : α → β) (hg : ∀ a, Q a → Q' (g a)) (he : ∀ a, Q a → enc' (g a) = enc a) (hl : ∀ b, (enc' b).cells.length = P.cellsOf t) : ReadsS P t enc' Q' where
 len := hl
 rd eH w fuel cs x ok hok h hw := by
  obtain ⟨a, qa, ra⟩ := R.rd eH w fuel cs x ok hok h hw
  exact ⟨g a, hg a qa, by rw [he a qa]; exact ra⟩
structure ReadsFS (P : Program) (fs : List Field) (o tot : Nat) {α : Type} (enc : α → List D) (Q : α → Prop) : Prop where
 len : ∀ a, (enc a).length = tot
 rd : ∀ {H : Type} (eH : TypeId × Value → H) (w : World) (fuel : Nat) (cs : List Value) (ok : Nat → Prop), (∀ b, ok b) → (∀ f ∈ fs, ∃ x, DataW.trod eH P w 0 (fun _ => true) true fuel f.type ((cs.drop f.offset).take (P.cellsOf f.type)) = some x ∧ zjl (x.1.weights P f.type) = true) → ∃ a, Q a ∧ RelL w ok (enc a) ((cs.drop o).take tot)
theorem ReadsS.argS {P : Program} {t : TypeId} {α : Type} {enc : α → D} {Q : α → Prop} (R : ReadsS P t enc Q) {H : Type} {eH : TypeId × Value → H} {W : World} {cs : Array Value} {d : DataW H} {p : List MemPlace} (h : DataW.Trod eH P W 0 (fun _ => true) true t (.agg cs) d p) (hw : zjl (d.weights P t) = true) (ok : Nat → Prop) (hok : ∀ b, ok b) :
  ∃ a, Q a ∧ RelL W ok (enc a).cells cs.toList := by
 obtain ⟨fuel, hf⟩ := h
 exact R.rd eH W fuel cs.toList _ ok hok hf hw
theorem ReadsS.arg {P : Program} {t : TypeId} {α : Type} {enc : α → D} {Q : α → Prop} (R : ReadsS P t enc Q) {H : Type} {eH : TypeId × Value → H} {W : World} {v : Value} {d : DataW H} {p : List MemPlace} (h : DataW.Trod eH P W 0 (fun _ => true) true t v d p) (hw : zjl (d.weights P t) = true) (hna : ∀ cs, v ≠ .agg cs) (ok : Nat → Prop) (hok : ∀ b, ok b) :
  ∃ a, Q a ∧ RelL W ok (enc a).cells [v] := by
 obtain ⟨fuel, hf⟩ := h
 have : v.cells.toList = [v] := by
  cases v <;> first | rfl | exact absurd rfl (hna _)
 rw [this] at hf
 exact R.rd eH W fuel [v] _ ok hok hf hw
end Ab
