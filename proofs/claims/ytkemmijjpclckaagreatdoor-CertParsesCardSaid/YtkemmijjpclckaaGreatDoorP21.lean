/- A part of the proof. -/
import Derived.Test.YtkemmijjpclckaaGreatDoorP20
import Derived.Lib.ConvBytes
import Derived.Lib.SlBytesConst
set_option linter.unusedVariables false
set_option linter.unusedSimpArgs false
set_option linter.unusedSectionVars false
set_option maxRecDepth 100000
set_option maxHeartbeats 8000000
namespace Ab
open Go
variable [Draws]
section
variable {P : Program} [Globals P] {T : Tab} {f : FuncId} {n : Nat} {C : Cx} {R : AV → List (Option AObj) → Prop} {env : Env} {objs : List (Option AObj)} {ops : Array Oper}
theorem zoi {i : Nat} {r : List Nat} {k : List Item} {o : Oper} {e2 : Env} {src dst e : TypeId} {rs rd re : TRow} {xo : Operand} {bs : List UInt8} (hT : TabOk P T) (ho : ops[i]? = some o) (hw : wantE ops env o = .yes) (hop : o.op = .convert src dst xo) (hx : opnd env xo = some (.d (.v (.string ⟨bs.toArray⟩))))
  (hrs : tlook T src = some rs) (hks : rs.kd = .str) (hrd : tlook T dst = some rd) (hkd : rd.kd = .slice e) (hre : tlook T e = some re) (h8 : re.kd = .int .u8) (hlen : bs.length ≤ 1000000000)
  (hput : putE n o.dst (.gs objs.length) env = some e2) (h : ASat P f n C (.inRegion ops r :: k) e2 (objs ++ [some (gL e 1 eU8 0 bs)]) R) : ASat P f n C (.inRegion ops (i :: r) :: k) env objs R := by
 refine z5r ⟨none, false, .gs objs.length, none, objs ++ [some (gL e 1 eU8 0 bs)]⟩ ho hw (fun X π w tmps m he _ => ?_) trivial hput h
 have hax := z4u (P := P) he hx
 have hs := z4j hT hrs hks
 have hd := z1a hT hrd hkd
 have heU := z9u hT hre h8
 have hrun := Go.Lib.run_convert_string_bytes (P := P) w src dst e ⟨bs.toArray⟩ hs hd heU
 have hsize : (⟨bs.toArray⟩ : ByteArray).size = bs.length := by simp [ByteArray.size]
 have hml : maxLen = 9223372036854775807 := rfl
 rw [hsize] at hrun
 have hcell := Go.Lib.bytesWorld_cell w e ⟨bs.toArray⟩
 have hold : ∀ b, b < w.heap.size → (Go.Lib.bytesWorld w e ⟨bs.toArray⟩).heap[b]? = w.heap[b]? := fun b hb => Go.Lib.bytesWorld_at_old w e _ b hb
 have hnew := Go.Lib.bytesWorld_at_new w e ⟨bs.toArray⟩
 have hhs := Go.Lib.bytesWorld_size w e ⟨bs.toArray⟩
 have hout : (Go.Lib.bytesWorld w e ⟨bs.toArray⟩).os = w.os ∧ (Go.Lib.bytesWorld w e ⟨bs.toArray⟩).tape = w.tape ∧ (Go.Lib.bytesWorld w e ⟨bs.toArray⟩).output = w.output ∧ w.drawn ≤ (Go.Lib.bytesWorld w e ⟨bs.toArray⟩).drawn := by
  unfold Go.Lib.bytesWorld World.freeze
  rw [if_neg (by decide)]
  exact ⟨rfl, rfl, rfl, Nat.le_succ _⟩
 have hc1 := grownCap_ge w bs.length 0 e
 have hc2 := grownCap_le_maxLen w bs.length 0 e (by omega)
 have hclen : (Go.Lib.bytesCells w e ⟨bs.toArray⟩).size = grownCap w bs.length 0 e := by
  simp only [Go.Lib.bytesCells, hsize, Array.size_append, Array.size_map, List.size_toArray, Array.size_replicate]
  omega
 generalize grownCap w bs.length 0 e = c at hc1 hc2 hclen hrun
 generalize Go.Lib.bytesCells w e ⟨bs.toArray⟩ = BC at hnew hclen
 generalize Go.Lib.bytesWorld w e ⟨bs.toArray⟩ = W at *
 obtain ⟨BC⟩ := BC
 simp only [List.size_toArray] at hclen hnew
 have hh' : ∀ b, blk (.slice (some ⟨w.heap.size, 0, none⟩) bs.length c) = some b → w.heap.size ≤ b := by
  intro b hb
  cases c <;> cases hb
  exact Nat.le_refl _
 refine ⟨.slice (some ⟨w.heap.size, 0, none⟩) bs.length c, W, π ++ [.slice (some ⟨w.heap.size, 0, none⟩) bs.length c], ?_, z2m m hout.1 hout.2.1 ⟨hout.2.2.1, zv hout.2.2.2⟩ (by rw [hhs]; omega) hold _ (gL e 1 eU8 0 bs) hh' ?_, fun _ => .gs (z4s m.len _)⟩
 ·unfold execOp
  rw [hop]
  simp only [Sem.run_bind, hax, hrun, Result.andThen_ok, Sem.run_pure]
  rfl
 ·cases c with
  | zero =>
   obtain rfl : bs = [] := List.eq_nil_of_length_eq_zero (by omega)
   exact .gnil
  | succ c =>
   have hls : (bs.map fun b => Value.int .u8 (b.toNat : Int)).length = bs.length := by simp
   have hk := z4z (X := X) (π := π) (objs := objs) hold (.slice (some ⟨w.heap.size, 0, none⟩) bs.length (c + 1)) (gL e 1 eU8 0 bs) m.len hh'
   have := RelO.grow (w := W) (ok := okOf X (π ++ [.slice (some ⟨w.heap.size, 0, none⟩) bs.length (c + 1)]) (objs ++ [some (gL e 1 eU8 0 bs)])) (π := π ++ [.slice (some ⟨w.heap.size, 0, none⟩) bs.length (c + 1)]) (e := e) (s := 1) (b := w.heap.size) (o := 0) (c := c) (xs := bs.map eU8) (us := bs.map fun b => Value.int .u8 (b.toNat : Int))
    (vs := BC) (rd := fun i => eU8 (bs.getD i 0)) (fz := (BC.length, BC.length + 1)) hnew (fun q hq => by omega) (za9 bs) (fun q hq => ?_) (by rw [List.length_map]; exact hc1) hc2 (by omega) (z2v eU8 0 bs)
   ·rw [List.length_map] at this
    exact this
   ·rw [hls] at hq
    have h1 := hcell q (by rw [hsize]; exact hq)
    have h2 := z12 (i := q) hnew
    rw [h2] at h1
    rw [Nat.zero_add, h1]
    simp [hq, List.getD_eq_getElem?_getD]
end
end Ab
namespace Go.Proofs.YtkemmijjpclckaaGreatDoor
open Go Ab Go.RowKit Go.Lib
theorem dlI (l : List Int) : DLe (.sl 1 (l.map eI) (litRd (l.map eI))) (eIs l) := DLe.slR rfl (z2v eI 0 l)
theorem clA {cs ds : List D} (h : DLes cs ds) : CLe (.ag cs) (.ag ds) := fun _ _ _ h2 => h.rel h2
theorem dlS {s : Nat} {xs ys : List D} {rd rd' : Nat → D} (h : CLes xs ys) (hr : ∀ i, i < ys.length → ys[i]? = some (rd' i)) : DLe (.sl s xs rd) (.sl s ys rd') := by
 intro w ok v hv
 have hf : flat v = true := by cases hv <;> rfl
 have := CLe.sl h hr w ok [v] (.cons hv hf .nil)
 cases this with | cons h _ _ => exact h
def exA : Ag := ⟨0, [(2, 0)], [], [], [2], [], []⟩
def exP : List Sp := [(false, [], ())]
def exC : Ct := ⟨[], 3, exP, exP, exP⟩
def exD : Ct := ⟨[], 1, exP, exP, exP⟩
def exT20 : List UInt8 := [105, 110, 118, 32, 48, 32, 51, 10, 112, 114, 111, 111, 102, 32, 49, 10, 48, 10, 112, 114, 111, 111, 102, 32, 49, 10, 48, 10, 112, 114, 111, 111, 102, 32, 49, 10, 48, 10]
theorem zn6 : RightA exA := z13.1 (by decide)
theorem z89 : z3s exA exC = true := by decide
theorem zn4 : z3s exA exD = true := by decide
theorem zdv : certT exC = exT20 := by kernel_rfl
theorem zn5 : certP exA exT20 = .inr (exC, ((exT20.length : Nat) : Int)) := by
 have := znr (a := exA) (c := exC) (by decide) z89 (by rw [zdv]; decide)
 rwa [zdv] at this
theorem zan {l : List (List Int)} (h : Cf l []) : (chk l 0 exP).2 = 0 := by
 have hr : refB l [] = true := zd5.2 h
 unfold exP
 rw [chk]
 have h1 : stepR l (false, [], ()) = some (l ++ [[]]) := by simp only [stepR, Bool.false_eq_true, if_false, hr, if_true]
 rw [h1]
 simp
theorem zit {l : List (List Int)} {a : List Int} {x : Int} (h : [x] ∈ l) : Fo l a x := .unit h (by simp) fun y hy hne => absurd (List.mem_singleton.1 hy) hne
theorem zj2 {l : List (List Int)} {a : List Int} {x : Int} (h : [x] ∈ l) (k : [-x] ∈ l) : Cf l a := .inl ⟨x, zit h, zit k⟩
theorem ex_a0 : (chk (ask0 (zu exA exC) exC.inv) 0 exC.p0).2 = 0 := zan (zj2 (x := 2) (by decide) (by decide))
theorem ex_a1 : (chk (ask1 (zu exA exC) exC.inv) 0 exC.p1).2 = 0 := zan (.inr ⟨[-4, 2], by decide, fun z hz => by
 rcases List.mem_cons.1 hz with rfl | hz
 ·exact zit (by decide)
 ·rw [List.mem_singleton.1 hz]
  exact zit (by decide)⟩)
theorem ex_a2 : (chk (ask2 (zu exA exC) exC.inv (exA.bad.getD (0 : Int).toNat 0)) 0 exC.p2).2 = 0 := zan (zj2 (x := 2) (by decide) (by decide))
theorem zr9 : zbk exA exC 0 = (0, 0) := by
 unfold zbk
 rw [if_neg (by rw [z89]; decide), if_neg (by decide), if_neg (not_not_intro ex_a0), if_neg (not_not_intro ex_a1), if_neg (not_not_intro ex_a2)]
theorem ex_d0 : (chk (ask0 (zu exA exD) exD.inv) 0 exD.p0).2 = 0 := zan (zj2 (x := 1) (by decide) (by decide))
theorem ex_d1 : (chk (ask1 (zu exA exD) exD.inv) 0 exD.p1).2 = 0 := zan (zj2 (x := 3) (by decide) (by decide))
theorem ex_d2 : (chk (ask2 (zu exA exD) exD.inv (exA.bad.getD (0 : Int).toNat 0)) 0 exD.p2).2 ≠ 0 := by
 refine (zfy (n := 2) (m := [false, true]) rfl _ _ 0 (fun c hc => ?_) (by decide)).1
 have : ask2 (zu exA exD) exD.inv (exA.bad.getD (0 : Int).toNat 0) = [[-1], [-1], [2]] := by decide
 rw [this] at hc
 simp only [List.mem_cons, List.not_mem_nil, or_false] at hc
 rcases hc with rfl | rfl | rfl
 ·exact ⟨-1, by simp, 0, by decide, .inr ⟨rfl, rfl⟩⟩
 ·exact ⟨-1, by simp, 0, by decide, .inr ⟨rfl, rfl⟩⟩
 ·exact ⟨2, by simp, 1, by decide, .inl ⟨rfl, rfl⟩⟩
theorem zqo : zbk exA exD 0 = (3, 6) := by
 unfold zbk
 rw [if_neg (by rw [zn4]; decide), if_neg (by decide), if_neg (not_not_intro ex_d0), if_neg (not_not_intro ex_d1), if_pos ex_d2]
theorem exB (c : Ct) (h : c = exC ∨ c = exD) : AcB exA c := by
 rcases h with rfl | rfl <;> exact ⟨by decide, by decide, by decide, by decide, by decide, by decide, by decide⟩
theorem zcr : VLe (.d (.ag [eI 0, .sl 2 [.ag [eI 2, eI 0]] (litRd [.ag [eI 2, eI 0]]), nilD, nilD, .sl 1 [eI 2] (litRd [eI 2]), nilD, nilD])) (.d (eAg exA)) :=
 VLe.dag ⟨.refl _, dlS (ys := [(2, 0)].map eP2) ⟨.refl _, trivial⟩ (z2v eP2 (0, 0) [(2, 0)]), dnil2, dnil2, dlI [2], dnil2, dnil2, trivial⟩
@[reducible] def exPd : D := .sl 2 [.ag [.v (.bool false), nilD]] (litRd [.ag [.v (.bool false), nilD]])
theorem zn3 : DLe exPd (eSps exP) := dlS (ys := exP.map eSp) ⟨clA ⟨.refl _, dnil2, trivial⟩, trivial⟩ (z2v eSp (false, [], ()) exP)
theorem zcq (i : Int) : VLe (.d (.ag [nilD, eI i, exPd, exPd, exPd])) (.d (eCt ⟨[], i, exP, exP, exP⟩)) := VLe.dag ⟨dnil2, .refl _, zn3, zn3, zn3, trivial⟩
theorem zhn : ACall Tryz.prog 11 [] [] (fun r o => r = vB true) := by
 refine z8 Tryz.func11 rfl rfl (Nat.le_of_ble_eq_true rfl) fun C hC hCl hDs hGk => ?_
 refine ze tabOk Tryz.func11 rfl trivial (zbn exA exC 0 (exB _ (.inl rfl)) (fun _ => ⟨by decide, by decide, by decide⟩)) ⟨zcr, .refl _, zcq 3, trivial⟩ rfl ⟨_, rfl⟩ (by rintro r o rfl; rfl) ?_
 rintro _ o rfl
 rw [zr9]
 refine ze tabOk Tryz.func11 rfl trivial (zho exA exC (exB _ (.inl rfl)) (fun _ => ⟨by decide, by decide, by decide⟩)) ⟨zcr, zcq 3, trivial⟩ rfl ⟨_, rfl⟩ (by rintro r o rfl; split <;> rfl) ?_
 rintro _ o rfl
 rw [if_pos z89, zdv]
 refine zh 60 tabOk Tryz.func11 rfl trivial ?_
 refine zoi (bs := exT20) tabOk rfl rfl rfl rfl rfl rfl rfl rfl rfl rfl (by decide) rfl ?_
 refine zy 2 rfl ?_
 refine ze tabOk Tryz.func11 rfl trivial (zbm exA exT20 zn6 (by decide)) ⟨zcr, VLe.eL rfl, trivial⟩ rfl ⟨_, rfl⟩ (by rintro r o rfl; rw [zn5]; rfl) ?_
 rintro _ o rfl
 rw [zn5]
 unfold cparA
 refine ze tabOk Tryz.func11 rfl trivial (zbn exA exD 0 (exB _ (.inr rfl)) (fun _ => ⟨by decide, by decide, by decide⟩)) ⟨zcr, .refl _, zcq 1, trivial⟩ rfl ⟨_, rfl⟩ (by rintro r o rfl; rfl) ?_
 rintro _ o rfl
 rw [zqo]
 refine z6 tabOk Tryz.func11 rfl trivial (fun _ => ?_) (fun h => by cases h)
 refine z6 tabOk Tryz.func11 rfl trivial (fun _ => ?_) (fun h => by cases h)
 refine z6 tabOk Tryz.func11 rfl trivial (fun _ => ?_) (fun h => by cases h)
 refine z6 tabOk Tryz.func11 rfl trivial (fun _ => ?_) (fun h => by cases h)
 refine z6 tabOk Tryz.func11 rfl trivial (fun _ => ?_) (fun h => ?_)
 rotate_left
 ·have h : ((⟨exT20.toArray⟩ : ByteArray).toList == (⟨exT20.toArray⟩ : ByteArray).toList) = false := h
  rw [strBy, decide_eq_true rfl] at h
  cases h
 refine z6 tabOk Tryz.func11 rfl trivial (fun _ => ?_) (fun h => by cases h)
 refine ze tabOk Tryz.func11 rfl trivial (zkl exC exC (by decide)) ⟨zcq 3, .refl _, trivial⟩ rfl ⟨_, rfl⟩ (by rintro r o rfl; rfl) ?_
 rintro _ o rfl
 have hs : (decide (exC.p0 = exC.p0) && decide (exC.p1 = exC.p1) && decide (exC.p2 = exC.p2) && (exC.inv == exC.inv && decide (exC.g = exC.g))) = true := by decide
 rw [hs]
 refine z6 tabOk Tryz.func11 rfl trivial (fun _ => ?_) (fun h => by cases h)
 refine ze tabOk Tryz.func11 rfl trivial (z6d exA exC (exB _ (.inl rfl))) ⟨zcr, zcq 3, trivial⟩ rfl ⟨_, rfl⟩ (by rintro r o rfl; rfl) ?_
 rintro _ o rfl
 rw [z89]
 refine z6 tabOk Tryz.func11 rfl trivial (fun _ => ?_) (fun h => by cases h)
 refine z6 tabOk Tryz.func11 rfl trivial (fun _ => ?_) (fun h => by cases h)
 refine z6 tabOk Tryz.func11 rfl trivial (fun _ => ?_) (fun h => by cases h)
 refine ze tabOk Tryz.func11 rfl trivial (z6y exA exC (by decide) (by decide)) ⟨zcr, zcq 3, trivial⟩ rfl ⟨_, rfl⟩ (by rintro r o rfl; rfl) ?_
 rintro _ o rfl
 exact z7 tabOk Tryz.func11 rfl trivial rfl
end Go.Proofs.YtkemmijjpclckaaGreatDoor
namespace Go.Proofs.YtkemmijjpclckaaGreatDoor
open Go Ab Go.Lib
theorem zl3 {p : List Sp} {m : Int} (h : zc2 p m = true) : (p.length : Int) ≤ m ∧ ∀ s ∈ p, (s.2.1.length : Int) ≤ m := by
 unfold zc2 at h
 rw [Bool.and_eq_true, decide_eq_true_eq, List.all_eq_true] at h
 exact ⟨h.1, fun s hs => of_decide_eq_true (h.2 s hs)⟩
structure Asked (a : Ag) (c : Ct) : Prop where
 sa : SmA a 40
 ra : RightA a
 sc : SmC c 20
theorem z5n {n : Int} {p : List Sp} (hn : 0 ≤ n ∧ n ≤ 100000) (h : z34 n p = true) (hs : zc2 p 20 = true) : (prT p).length ≤ 9000 := by
 obtain ⟨q1, q2⟩ := zl3 hs
 have hr := z7q h
 have h2 := z6k (m := 20) (p := p) fun s hs' => ⟨fun l hl => by have := (hr s hs').1 l hl; unfold litOk at this; omega, by have := q2 s hs'; omega⟩
 have h3 : p.length * (20 * 22 + 4) ≤ 20 * (20 * 22 + 4) := Nat.mul_le_mul_right _ (by omega)
 have i0 := z29 (l := (p.length : Int)) (by omega) (by omega)
 simp only [prT, z2k, List.length_append, List.length_cons, List.length_nil]
 omega
theorem Asked.text {a : Ag} {c : Ct} (h : Asked a c) (hR : z3s a c = true) : (certT c).length ≤ 100000 := by
 obtain ⟨-, h2, h3, -, h5, h6, h7⟩ := z40.1 hR
 have hA := z13.1 h2
 have hv := hA.v1
 have hi0 := hA.i0
 have hv0 : 0 ≤ varsA (zu a c) := by unfold varsA; omega
 have t0 := z5n ⟨by omega, by omega⟩ h5 h.sc.p0
 have t1 := z5n ⟨by omega, by omega⟩ h6 h.sc.p1
 have t2 := z5n ⟨by omega, by omega⟩ h7 h.sc.p2
 have hgo := (z67 _ _).1 (zb4 hA)
 have hvg := z2i a c
 have hav : 0 ≤ varsA a := by have := h.ra.i0; unfold varsA; omega
 have tg := zb6 c.g fun p hp => by
  obtain ⟨j, hj, rfl⟩ := List.mem_iff_getElem.1 hp
  have := hgo j hj
  omega
 have hcg := h.sc.g
 have i0 := z29 (l := (c.g.length : Int)) (by omega) (by omega)
 have i1 := z29 (l := c.inv) (by omega) (by omega)
 simp only [certT, kInv, List.length_append, List.length_cons, List.length_nil]
 omega
end Go.Proofs.YtkemmijjpclckaaGreatDoor
namespace Go.Proofs.YtkemmijjpclckaaGreatDoor
open Go Ab Go.RowKit
end Go.Proofs.YtkemmijjpclckaaGreatDoor
namespace Ab
open Go
variable [Draws]
section
variable {P : Program} [Globals P] {T : Tab} {f : FuncId} {fn : Func} {n m : Nat} {C : Cx} {R : AV → List (Option AObj) → Prop} {todo todo' k : List Item} {env env0 env' envF : Env} {objs objs' objs1 objs2 : List (Option AObj)} {nd : Prop} {ops : Array Oper}
end
end Ab
namespace Go.Proofs.YtkemmijjpclckaaGreatDoor
open Go Ab Go.RowKit
end Go.Proofs.YtkemmijjpclckaaGreatDoor
namespace Go.Proofs.YtkemmijjpclckaaGreatDoor
open Go Ab Go.RowKit
section
variable {a : Ag} {n i b : Nat} (h : EncB a n i b)
include h
end
end Go.Proofs.YtkemmijjpclckaaGreatDoor
namespace Go.Proofs.YtkemmijjpclckaaGreatDoor
open Go Ab Go.RowKit
end Go.Proofs.YtkemmijjpclckaaGreatDoor
namespace Go.Proofs.YtkemmijjpclckaaGreatDoor
open Go Ab Go.RowKit Go.Lib
end Go.Proofs.YtkemmijjpclckaaGreatDoor
namespace Go.Proofs.YtkemmijjpclckaaGreatDoor
open Go Ab Go.RowKit
theorem zf7 : ∀ {s l : List UInt8}, s.isPrefixOf l = true ↔ ∀ q (h : q < s.length), l[q]? = some s[q]
 | [], l => by simp
 | c :: r, [] => by
  constructor
  ·intro h; cases h
  ·intro h; have := h 0 (by simp); simp at this
 | c :: r, d :: l => by
  rw [List.isPrefixOf, Bool.and_eq_true, beq_iff_eq, @zf7 r l]
  constructor
  ·rintro ⟨rfl, h⟩ q hq
   cases q with
   | zero => rfl
   | succ q => simpa using h q (by simpa using hq)
  ·intro h
   refine ⟨by have := h 0 (by simp); simpa using this.symm, fun q hq => ?_⟩
   have := h (q + 1) (by simpa using hq)
   simpa using this
theorem zbf {b : List UInt8} {j q : Nat} (h : j + q < b.length) : (b.drop j)[q]? = some (b.getD (j + q) 0) := by
 rw [List.getElem?_drop, List.getElem?_eq_getElem h, List.getD_eq_getElem?_getD, List.getElem?_eq_getElem h]
 rfl
theorem ne_u8 {x y : UInt8} (h : ((x.toNat : Int) != (y.toNat : Int)) = true) : x ≠ y := by
 rintro rfl
 simp at h
theorem eq_u8 {x y : UInt8} (h : ((x.toNat : Int) != (y.toNat : Int)) = false) : x = y := by
 rw [bne_eq_false_iff_eq] at h
 exact UInt8.toNat_inj.1 (by omega)
theorem zi7 (b : List UInt8) (at_ : Int) (s : List UInt8) (hb : b.length ≤ 1000000) (hs : s.length ≤ 1000000) (ha : -1000000000 ≤ at_ ∧ at_ ≤ 1000000000) : ACall Tryz.prog 104 [.d (eBy b), vI .i64 at_, vTx s] [] (fun r o => r = tupOf [vI .i64 (isTo b at_ s), vB (isAt b at_ s)]) := by
 refine z8 Tryz.func104 rfl rfl (Nat.le_of_ble_eq_true rfl) fun C hC hCl hDs hGk => ?_
 have out : ¬ (0 ≤ at_ ∧ at_ ≤ b.length) → isTo b at_ s = 0 ∧ isAt b at_ s = false := fun h => by
  rw [isTo, isAt, if_pos h, decide_eq_false h]
  exact ⟨rfl, rfl⟩
 refine z6 tabOk Tryz.func104 rfl trivial (fun h1 => ?_) (fun h1 => ?_)
 ·have h1 : decide (at_ < 0) = true := h1
  rw [decide_eq_true_eq] at h1
  obtain ⟨o1, o2⟩ := out (by omega)
  rw [o1, o2]
  refine z6 tabOk Tryz.func104 rfl trivial (fun _ => ?_) (fun h => by cases h)
  exact z7 tabOk Tryz.func104 rfl trivial rfl
 have h1 : decide (at_ < 0) = false := h1
 rw [decide_eq_false_iff_not] at h1
 refine z6 tabOk Tryz.func104 rfl trivial (fun h2 => ?_) (fun h2 => ?_)
 ·have h2 : decide (at_ > (((b.map eU8).length : Nat) : Int)) = true := h2
  rw [decide_eq_true_eq, List.length_map] at h2
  obtain ⟨o1, o2⟩ := out (by omega)
  rw [o1, o2]
  exact z7 tabOk Tryz.func104 rfl trivial rfl
 have h2 : decide (at_ > (((b.map eU8).length : Nat) : Int)) = false := h2
 rw [decide_eq_false_iff_not, List.length_map] at h2
 obtain ⟨j, rfl⟩ : ∃ j : Nat, at_ = j := ⟨at_.toNat, by omega⟩
 have hj : j ≤ b.length := by omega
 have hT : isTo b j s = if s.isPrefixOf (b.drop j) = true then (j : Int) + s.length else j := by
  rw [isTo, if_neg (by omega)]
  rfl
 have hA : isAt b j s = s.isPrefixOf (b.drop j) := by
  rw [isAt, decide_eq_true (show 0 ≤ (j : Int) ∧ (j : Int) ≤ b.length by omega), Bool.true_and]
  rfl
 rw [hT, hA]
 clear hT hA out
 have hiff := @zf7 s (b.drop j)
 generalize hX : s.isPrefixOf (b.drop j) = X at *
 refine z6 tabOk Tryz.func104 rfl trivial (fun h3 => ?_) (fun h3 => ?_)
 ·have h3 : decide ((((⟨s.toArray⟩ : ByteArray).size : Nat) : Int) > IntKind.i64.wrap ((((b.map eU8).length : Nat) : Int) - (j : Int))) = true := h3
  rw [List.length_map, zb (by omega) (by omega), decide_eq_true_eq, szS] at h3
  have : X = false := by
   cases X with
   | false => rfl
   | true =>
    have h4 := hiff.1 rfl (s.length - 1) (by omega)
    have h5 := (List.getElem?_eq_some_iff.1 h4).1
    rw [List.length_drop] at h5
    omega
  rw [this]
  exact z7 tabOk Tryz.func104 rfl trivial rfl
 have h3 : decide ((((⟨s.toArray⟩ : ByteArray).size : Nat) : Int) > IntKind.i64.wrap ((((b.map eU8).length : Nat) : Int) - (j : Int))) = false := h3
 rw [List.length_map, zb (by omega) (by omega), decide_eq_false_iff_not, szS] at h3
 refine za tabOk Tryz.func104 rfl trivial ?_
 refine zj (α := Nat) (fun i => [(0, .d (eBy b)), (1, vI .i64 (j : Int)), (2, vTx s), (8, vI .i64 (i : Int))]) (fun i => []) (fun i => i ≤ s.length ∧ ∀ q (h : q < s.length), q < i → b.getD (j + q) 0 = s[q]) (fun i => s.length - i) 0 ⟨Nat.zero_le _, fun q _ h => absurd h (Nat.not_lt_zero q)⟩ ?_ ?_
 ·exact fun h => zg h hC hCl ⟨⟨_, rfl, .refl _⟩, ⟨_, rfl, .refl _⟩, ⟨_, rfl, .refl _⟩, ⟨_, rfl, .refl _⟩, trivial⟩ trivial rfl rfl (Nat.zero_le _)
 rintro i ⟨hi, hq⟩ ih
 refine z6 tabOk Tryz.func104 rfl trivial (fun h4 => ?_) (fun h4 => ?_)
 ·have h4 : decide ((i : Int) < (((⟨s.toArray⟩ : ByteArray).size : Nat) : Int)) = true := h4
  rw [decide_eq_true_eq, szS] at h4
  have hlt : i < s.length := by omega
  have ew : IntKind.i64.wrap ((j : Int) + (i : Int)) = ((j + i : Nat) : Int) := by rw [zb (by omega) (by omega)]; omega
  refine zn 9 tabOk Tryz.func104 rfl rfl ?nd (by kernel_rfl) ?_
  case nd => trivial
  refine zo tabOk rfl ?nd2 ?_
  case nd2 =>
   rw [ew, List.length_map, szS]
   exact ⟨⟨by omega, by omega⟩, ⟨by omega, by omega⟩, trivial⟩
  refine z6 tabOk Tryz.func104 rfl trivial (fun h5 => ?_) (fun h5 => ?_)
  ·have h5 : (((b.getD (IntKind.i64.wrap ((j : Int) + (i : Int))).toNat 0).toNat : Int) != bt ⟨s.toArray⟩ (i : Int).toNat) = true := h5
   rw [ew, Int.toNat_natCast, z11, Int.toNat_natCast, z8t (d := 0) (l := s) hlt] at h5
   have h5 := ne_u8 h5
   have : X = false := by
    cases X with
    | false => rfl
    | true =>
     have h6 := hiff.1 rfl i hlt
     rw [zbf (by omega)] at h6
     exact absurd (Option.some.inj h6) h5
   rw [this]
   exact z7 tabOk Tryz.func104 rfl trivial rfl
  ·have h5 : (((b.getD (IntKind.i64.wrap ((j : Int) + (i : Int))).toNat 0).toNat : Int) != bt ⟨s.toArray⟩ (i : Int).toNat) = false := h5
   rw [ew, Int.toNat_natCast, z11, Int.toNat_natCast, z8t (d := 0) (l := s) hlt] at h5
   have h5 := eq_u8 h5
   refine za tabOk Tryz.func104 rfl trivial ?_
   refine zg (ih (i + 1) ⟨by omega, fun q hql hqi => ?_⟩ (by omega)) hC hCl ⟨⟨_, rfl, .refl _⟩, ⟨_, rfl, .refl _⟩, ⟨_, rfl, .refl _⟩, ⟨_, rfl, .of (by rw [zb (by omega) (by omega)]; rfl)⟩, trivial⟩ trivial rfl rfl (Nat.zero_le _)
   rcases Nat.lt_or_ge q i with h7 | h7
   ·exact hq q hql h7
   ·obtain rfl : q = i := by omega
    exact h5
 ·have h4 : decide ((i : Int) < (((⟨s.toArray⟩ : ByteArray).size : Nat) : Int)) = false := h4
  rw [decide_eq_false_iff_not, szS] at h4
  obtain rfl : i = s.length := by omega
  have : X = true := hiff.2 fun q hql => by rw [zbf (by omega), hq q hql hql]
  refine z7 tabOk Tryz.func104 rfl trivial ?_
  rw [this, if_pos rfl, szS, zb (by omega) (by omega)]
theorem zes (c : UInt8) : ACall Tryz.prog 162 [.d (eU8 c)] [] (fun r o => r = vB (isDig c)) := by
 refine z8 Tryz.func162 rfl rfl (Nat.le_of_ble_eq_true rfl) fun C hC hCl hDs hGk => ?_
 refine z6 tabOk Tryz.func162 rfl trivial (fun h1 => ?_) (fun h1 => ?_)
 ·have h1 : decide ((c.toNat : Int) ≥ 48) = true := h1
  rw [decide_eq_true_eq] at h1
  refine z7 tabOk Tryz.func162 rfl trivial ?_
  show vB (decide ((c.toNat : Int) ≤ 57)) = vB (decide (48 ≤ c.toNat ∧ c.toNat ≤ 57))
  rw [show decide ((c.toNat : Int) ≤ 57) = decide (48 ≤ c.toNat ∧ c.toNat ≤ 57) from decide_eq_decide.2 (by omega)]
 ·have h1 : decide ((c.toNat : Int) ≥ 48) = false := h1
  rw [decide_eq_false_iff_not] at h1
  refine z7 tabOk Tryz.func162 rfl trivial ?_
  rw [isDig, decide_eq_false (by omega)]
  rfl
theorem zi4 : ∀ {l : List UInt8} {c : UInt8}, l[runN isDig l]? = some c → isDig c = false
 | [], c, h => by simp at h
 | d :: r, c, h => by
  rw [z4x] at h
  split at h
  ·simp only [List.getElem?_cons_succ] at h
   exact zi4 h
  ·rename_i hn
   simp only [List.getElem?_cons_zero, Option.some.injEq] at h
   subst h
   cases hd : isDig d with
   | false => rfl
   | true =>
    refine absurd ⟨?_, hd⟩ hn
    have := of_decide_eq_true hd
    omega
theorem zev (l : List UInt8) (k : Nat) : numN (l.take k) ≤ numN l := by
 have := zdf (l.take k) (l.drop k)
 rwa [List.take_append_drop] at this
theorem z9a (b : List UInt8) (i most : Int) (hb : b.length ≤ 1000000) (hm : -1000000000 ≤ most ∧ most ≤ 1000000000) : ACall Tryz.prog 141 [.d (eBy b), vI .i64 i, vI .i64 most] [] (fun r o => r = numA (numR b i most)) := by
 refine z8 Tryz.func141 rfl rfl (Nat.le_of_ble_eq_true rfl) fun C hC hCl hDs hGk => ?_
 refine z6 tabOk Tryz.func141 rfl trivial (fun h1 => ?_) (fun h1 => ?_)
 ·have h1 : decide (i < 0) = true := h1
  rw [decide_eq_true_eq] at h1
  refine z6 tabOk Tryz.func141 rfl trivial (fun _ => ?_) (fun h => by cases h)
  refine z7 tabOk Tryz.func141 rfl trivial ?_
  rw [numR, if_pos (by omega)]
 have h1 : decide (i < 0) = false := h1
 rw [decide_eq_false_iff_not] at h1
 refine z6 tabOk Tryz.func141 rfl trivial (fun h2 => ?_) (fun h2 => ?_)
 ·have h2 : decide (i > (((b.map eU8).length : Nat) : Int)) = true := h2
  rw [decide_eq_true_eq, List.length_map] at h2
  refine z7 tabOk Tryz.func141 rfl trivial ?_
  rw [numR, if_pos (by omega)]
 have h2 : decide (i > (((b.map eU8).length : Nat) : Int)) = false := h2
 rw [decide_eq_false_iff_not, List.length_map] at h2
 obtain ⟨j, rfl⟩ : ∃ j : Nat, i = j := ⟨i.toNat, by omega⟩
 have hj : j ≤ b.length := by omega
 have hR : numR b j most = if runN isDig (b.drop j) = 0 ∨ (b.getD j 0 = 48 ∧ 1 < runN isDig (b.drop j)) then (0, (j : Int), 2) else if min most 2147483647 < numN ((b.drop j).take (runN isDig (b.drop j))) then (0, (j : Int), 3) else ((numN ((b.drop j).take (runN isDig (b.drop j))) : Int), (j : Int) + runN isDig (b.drop j), 0) := by
  rw [numR, if_neg (fun hh => hh (by omega))]
  rfl
 rw [hR]
 have hkl := zaj isDig (b.drop j)
 rw [List.length_drop] at hkl
 have htk := @takeW (b.drop j)
 have hst := @zi4 (b.drop j)
 clear hR
 generalize runN isDig (b.drop j) = k at *
 have hdl : ∀ q, q ≤ k → ((b.drop j).take q).length = q := fun q hq => by rw [List.length_take, List.length_drop]; omega
 refine za tabOk Tryz.func141 rfl trivial ?_
 refine zj (α := Nat × Int × Bool) (fun s => [(0, .d (eBy b)), (1, vI .i64 (j : Int)), (2, vI .i64 most), (9, vI .i64 ((j + s.1 : Nat) : Int)), (10, vI .i64 s.2.1), (11, vB s.2.2)]) (fun s => []) (fun s => s.1 ≤ k ∧ (0 ≤ s.2.1 ∧ s.2.1 ≤ 2147483647) ∧ (s.2.2 = true → 1 ≤ s.1 ∧ min most 2147483647 < numN ((b.drop j).take s.1)) ∧ (s.2.2 = false → s.2.1 = numN ((b.drop j).take s.1) ∧ (1 ≤ s.1 → s.2.1 ≤ min most 2147483647))) (fun s => k - s.1) (0, 0, false) ⟨Nat.zero_le _, ⟨by decide, by decide⟩, (fun h => by cases h), fun _ => ⟨by simp [numN], fun h => absurd h (by decide)⟩⟩ ?_ ?_
 ·exact fun h => zg h hC hCl ⟨⟨_, rfl, .refl _⟩, ⟨_, rfl, .refl _⟩, ⟨_, rfl, .refl _⟩, ⟨_, rfl, .refl _⟩, ⟨_, rfl, .refl _⟩, ⟨_, rfl, .refl _⟩, trivial⟩ trivial rfl rfl (Nat.zero_le _)
 rintro ⟨q, v, g⟩ ⟨hq, hv, hg1, hg2⟩ ih
 simp only at hq hv hg1 hg2 ih ⊢
 -- the loop's condition
 apply letK (p := q = k → ASat Tryz.prog 141 Tryz.f141.ntmps C _ [(0, .d (eBy b)), (1, vI .i64 (j : Int)), (2, vI .i64 most), (9, vI .i64 ((j + q : Nat) : Int)), (10, vI .i64 v), (11, vB g)] [] _)
 ·intro key
  refine z6 tabOk Tryz.func141 rfl trivial (fun h4 => ?_) (fun h4 => ?_)
  rotate_left
  ·have h4 : decide (((j + q : Nat) : Int) < (((b.map eU8).length : Nat) : Int)) = false := h4
   rw [decide_eq_false_iff_not, List.length_map] at h4
   refine z6 tabOk Tryz.func141 rfl trivial (fun h => by cases h) (fun _ => ?_)
   refine zh 1 tabOk Tryz.func141 rfl trivial ?_
   exact zg (key (by omega)) hC hCl ⟨⟨_, rfl, .refl _⟩, ⟨_, rfl, .refl _⟩, ⟨_, rfl, .refl _⟩, ⟨_, rfl, .refl _⟩, ⟨_, rfl, .refl _⟩, ⟨_, rfl, .refl _⟩, trivial⟩ trivial rfl rfl (Nat.zero_le _)
  have h4 : decide (((j + q : Nat) : Int) < (((b.map eU8).length : Nat) : Int)) = true := h4
  rw [decide_eq_true_eq, List.length_map] at h4
  have hjq : j + q < b.length := by omega
  refine ze tabOk Tryz.func141 rfl ⟨⟨by omega, by rw [List.length_map]; omega⟩, trivial⟩ (zes (b.getD (j + q) 0)) (.refl _) rfl ⟨_, rfl⟩ (by rintro r o rfl; rfl) ?_
  rintro _ o rfl
  rcases Nat.lt_or_ge q k with hlt | hge
  rotate_left
  ·obtain rfl : q = k := by omega
   rw [hst (zbf hjq)]
   refine z6 tabOk Tryz.func141 rfl trivial (fun h => by cases h) (fun _ => ?_)
   refine zh 1 tabOk Tryz.func141 rfl trivial ?_
   exact zg (key rfl) hC hCl ⟨⟨_, rfl, .refl _⟩, ⟨_, rfl, .refl _⟩, ⟨_, rfl, .refl _⟩, ⟨_, rfl, .refl _⟩, ⟨_, rfl, .refl _⟩, ⟨_, rfl, .refl _⟩, trivial⟩ trivial rfl rfl (Nat.zero_le _)
  obtain ⟨c, hc1, hc2⟩ := htk hlt
  rw [zbf hjq, Option.some.injEq] at hc1
  have hsn : numN ((b.drop j).take (q + 1)) = numN ((b.drop j).take q) * 10 + ((b.getD (j + q) 0).toNat - 48) := by
   rw [List.take_succ_eq_append_getElem (by rw [List.length_drop]; omega), z7y]
   have : (b.drop j)[q]'(by rw [List.length_drop]; omega) = b.getD (j + q) 0 := by
    have := @zbf b j q hjq
    rw [List.getElem?_eq_getElem (by rw [List.length_drop]; omega)] at this
    exact Option.some.inj this
   rw [this]
  rw [hc1, hc2]
  rw [hc1] at hsn
  have hcd := of_decide_eq_true hc2
  have ih := fun v g => ih (q + 1, v, g)
  simp only at ih
  have eN : IntKind.i64.wrap (IntKind.i64.wrap (IntKind.i64.wrap (v * 10) + (c.toNat : Int)) - 48) = v * 10 + ((c.toNat - 48 : Nat) : Int) := by
   rw [zb (n := v * 10) (by omega) (by omega), zb (n := v * 10 + (c.toNat : Int)) (by omega) (by omega), zb (by omega) (by omega)]
   omega
  have en : ((j + (q + 1) : Nat) : Int) = IntKind.i64.wrap (((j + q : Nat) : Int) + 1) := by rw [zb (by omega) (by omega)]; omega
  have hin : (0 ≤ ((j + q : Nat) : Int) ∧ ((j + q : Nat) : Int) < (((b.map eU8).length : Nat) : Int)) := by rw [List.length_map]; omega
  have hvc : IntKind.i64.wrap (IntKind.i64.wrap (IntKind.i64.wrap (v * 10) + IntKind.i64.wrap ((b.getD (((j + q : Nat) : Int)).toNat 0).toNat : Int)) - 48) = v * 10 + ((c.toNat - 48 : Nat) : Int) := by
   rw [Int.toNat_natCast, hc1, zb (n := (c.toNat : Int)) (by omega) (by omega)]
   exact eN
  refine z6 tabOk Tryz.func141 rfl trivial (fun _ => ?_) (fun h => by cases h)
  have hmono := zev ((b.drop j).take (q + 1)) q
  rw [List.take_take, Nat.min_eq_left (by omega)] at hmono
  have big : min most 2147483647 < v * 10 + ((c.toNat - 48 : Nat) : Int) → min most 2147483647 < numN ((b.drop j).take (q + 1)) := fun hb => by
   cases g with
   | true => have := (hg1 rfl).2; omega
   | false => have := (hg2 rfl).1; omega
  apply letK (p := min most 2147483647 < v * 10 + ((c.toNat - 48 : Nat) : Int) → ASat Tryz.prog 141 Tryz.f141.ntmps C _ [(0, .d (eBy b)), (1, vI .i64 (j : Int)), (2, vI .i64 most), (9, vI .i64 ((j + q : Nat) : Int))] [] _)
  ·intro keyB
   refine z6 tabOk Tryz.func141 rfl ⟨hin, trivial⟩ (fun h5 => ?_) (fun h5 => ?_)
   ·have h5 : decide (IntKind.i64.wrap (IntKind.i64.wrap (IntKind.i64.wrap (v * 10) + IntKind.i64.wrap ((b.getD (((j + q : Nat) : Int)).toNat 0).toNat : Int)) - 48) > most) = true := h5
    rw [hvc, decide_eq_true_eq] at h5
    refine z6 tabOk Tryz.func141 rfl trivial (fun _ => ?_) (fun h => by cases h)
    refine zh 1 tabOk Tryz.func141 rfl trivial ?_
    exact zg (keyB (by omega)) hC hCl ⟨⟨_, rfl, .refl _⟩, ⟨_, rfl, .refl _⟩, ⟨_, rfl, .refl _⟩, ⟨_, rfl, .refl _⟩, trivial⟩ trivial rfl rfl (Nat.zero_le _)
   have h5 : decide (IntKind.i64.wrap (IntKind.i64.wrap (IntKind.i64.wrap (v * 10) + IntKind.i64.wrap ((b.getD (((j + q : Nat) : Int)).toNat 0).toNat : Int)) - 48) > most) = false := h5
   rw [hvc, decide_eq_false_iff_not] at h5
   refine z6 tabOk Tryz.func141 rfl trivial (fun h6 => ?_) (fun h6 => ?_)
   ·have h6 : decide (IntKind.i64.wrap (IntKind.i64.wrap (IntKind.i64.wrap (v * 10) + IntKind.i64.wrap ((b.getD (((j + q : Nat) : Int)).toNat 0).toNat : Int)) - 48) > 2147483647) = true := h6
    rw [hvc, decide_eq_true_eq] at h6
    refine zh 1 tabOk Tryz.func141 rfl trivial ?_
    exact zg (keyB (by omega)) hC hCl ⟨⟨_, rfl, .refl _⟩, ⟨_, rfl, .refl _⟩, ⟨_, rfl, .refl _⟩, ⟨_, rfl, .refl _⟩, trivial⟩ trivial rfl rfl (Nat.zero_le _)
   ·have h6 : decide (IntKind.i64.wrap (IntKind.i64.wrap (IntKind.i64.wrap (v * 10) + IntKind.i64.wrap ((b.getD (((j + q : Nat) : Int)).toNat 0).toNat : Int)) - 48) > 2147483647) = false := h6
    rw [hvc, decide_eq_false_iff_not] at h6
    refine za tabOk Tryz.func141 rfl trivial ?_
    refine zg (ih (v * 10 + ((c.toNat - 48 : Nat) : Int)) g ⟨by omega, by omega, fun hg => ⟨by omega, by have := (hg1 hg).2; omega⟩, fun hg => ⟨by have := (hg2 hg).1; omega, fun _ => by omega⟩⟩ (by omega)) hC hCl ⟨⟨_, rfl, .refl _⟩, ⟨_, rfl, .refl _⟩, ⟨_, rfl, .refl _⟩, ⟨_, rfl, .of (by rw [en])⟩, ⟨_, rfl, .of (congrArg (vI .i64) hvc)⟩, ⟨_, rfl, .refl _⟩, trivial⟩ trivial rfl rfl (Nat.zero_le _)
  ·intro hB
   refine za tabOk Tryz.func141 rfl trivial ?_
   refine zg (ih 0 true ⟨by omega, by omega, fun _ => ⟨by omega, big hB⟩, fun hg => by cases hg⟩ (by omega)) hC hCl ⟨⟨_, rfl, .refl _⟩, ⟨_, rfl, .refl _⟩, ⟨_, rfl, .refl _⟩, ⟨_, rfl, .of (by rw [en])⟩, ⟨_, rfl, .refl _⟩, ⟨_, rfl, .refl _⟩, trivial⟩ trivial rfl rfl (Nat.zero_le _)
 rintro rfl
 clear ih
 refine z6 tabOk Tryz.func141 rfl trivial (fun h5 => ?_) (fun h5 => ?_)
 ·have h5 : (((j + q : Nat) : Int) == (j : Int)) = true := h5
  rw [beq_iff_eq] at h5
  refine z6 tabOk Tryz.func141 rfl trivial (fun _ => ?_) (fun h => by cases h)
  refine z7 tabOk Tryz.func141 rfl trivial ?_
  rw [if_pos (.inl (by omega))]
 have h5 : (((j + q : Nat) : Int) == (j : Int)) = false := h5
 rw [beq_eq_false_iff_ne] at h5
 have hjb : j < b.length := by
  obtain ⟨c, hc1, -⟩ := htk (j := 0) (by omega)
  have := (List.getElem?_eq_some_iff.1 hc1).1
  rw [List.length_drop] at this
  omega
 have eS : IntKind.i64.wrap (((j + q : Nat) : Int) - (j : Int)) = (q : Int) := by rw [zb (by omega) (by omega)]; omega
 apply letK (p := ¬ (q = 0 ∨ (b.getD j 0 = 48 ∧ 1 < q)) → ASat Tryz.prog 141 Tryz.f141.ntmps C _ [(1, vI .i64 (j : Int)), (9, vI .i64 ((j + q : Nat) : Int)), (10, vI .i64 v), (11, vB g)] [] _)
 ·intro key
  refine z6 tabOk Tryz.func141 rfl ⟨⟨by omega, by rw [List.length_map]; omega⟩, trivial⟩ (fun h6 => ?_) (fun h6 => ?_)
  ·have h6 : (((b.getD (j : Int).toNat 0).toNat : Int) == 48) = true := h6
   rw [Int.toNat_natCast, beq_iff_eq] at h6
   have h6 : b.getD j 0 = 48 := UInt8.toNat_inj.1 (by show (b.getD j 0).toNat = 48; omega)
   refine z6 tabOk Tryz.func141 rfl trivial (fun h7 => ?_) (fun h7 => ?_)
   ·have h7 : decide (IntKind.i64.wrap (((j + q : Nat) : Int) - (j : Int)) > 1) = true := h7
    rw [eS, decide_eq_true_eq] at h7
    refine z7 tabOk Tryz.func141 rfl trivial ?_
    rw [if_pos (.inr ⟨h6, by omega⟩)]
   ·have h7 : decide (IntKind.i64.wrap (((j + q : Nat) : Int) - (j : Int)) > 1) = false := h7
    rw [eS, decide_eq_false_iff_not] at h7
    refine zh 1 tabOk Tryz.func141 rfl trivial ?_
    exact zg (key (by rintro (h | ⟨h, h'⟩) <;> omega)) hC hCl ⟨⟨_, rfl, .refl _⟩, ⟨_, rfl, .refl _⟩, ⟨_, rfl, .refl _⟩, ⟨_, rfl, .refl _⟩, trivial⟩ trivial rfl rfl (Nat.zero_le _)
  ·have h6 : (((b.getD (j : Int).toNat 0).toNat : Int) == 48) = false := h6
   rw [Int.toNat_natCast] at h6
   have h6 : b.getD j 0 ≠ 48 := fun e => by rw [e] at h6; exact absurd h6 (by decide)
   refine z6 tabOk Tryz.func141 rfl trivial (fun h => by cases h) (fun _ => ?_)
   refine zh 1 tabOk Tryz.func141 rfl trivial ?_
   exact zg (key (by rintro (h | ⟨h, h'⟩) <;> first | omega | exact h6 h)) hC hCl ⟨⟨_, rfl, .refl _⟩, ⟨_, rfl, .refl _⟩, ⟨_, rfl, .refl _⟩, ⟨_, rfl, .refl _⟩, trivial⟩ trivial rfl rfl (Nat.zero_le _)
 intro hno
 rw [if_neg hno]
 refine z6 tabOk Tryz.func141 rfl trivial (fun hg => ?_) (fun hg => ?_)
 ·have hg : g = true := hg
  refine z7 tabOk Tryz.func141 rfl trivial ?_
  rw [if_pos (hg1 hg).2]
 ·have hg : g = false := hg
  obtain ⟨e1, e2⟩ := hg2 hg
  have e2 := e2 (by omega)
  refine z7 tabOk Tryz.func141 rfl trivial ?_
  rw [if_neg (by omega), e1, Int.natCast_add]
theorem zeo (b : List UInt8) (i most : Int) (hb : b.length ≤ 1000000) (hm : -1000000000 ≤ most ∧ most ≤ 1000000000) : ACall Tryz.prog 163 [.d (eBy b), vI .i64 i, vI .i64 most] [] (fun r o => r = numA (signR b i most)) := by
 refine z8 Tryz.func163 rfl rfl (Nat.le_of_ble_eq_true rfl) fun C hC hCl hDs hGk => ?_
 refine z6 tabOk Tryz.func163 rfl trivial (fun h1 => ?_) (fun h1 => ?_)
 ·have h1 : decide (i < 0) = true := h1
  rw [decide_eq_true_eq] at h1
  refine z6 tabOk Tryz.func163 rfl trivial (fun _ => ?_) (fun h => by cases h)
  refine z7 tabOk Tryz.func163 rfl trivial ?_
  rw [signR, if_pos (by omega)]
 have h1 : decide (i < 0) = false := h1
 rw [decide_eq_false_iff_not] at h1
 refine z6 tabOk Tryz.func163 rfl trivial (fun h2 => ?_) (fun h2 => ?_)
 ·have h2 : decide (i > (((b.map eU8).length : Nat) : Int)) = true := h2
  rw [decide_eq_true_eq, List.length_map] at h2
  refine z7 tabOk Tryz.func163 rfl trivial ?_
  rw [signR, if_pos (by omega)]
 have h2 : decide (i > (((b.map eU8).length : Nat) : Int)) = false := h2
 rw [decide_eq_false_iff_not, List.length_map] at h2
 rw [signR, if_neg (fun hh => hh (by omega))]
 refine ze tabOk Tryz.func163 rfl trivial (zi7 b i z19 hb (by decide) (by omega)) (.refl _) rfl ⟨_, rfl⟩ (by rintro r o rfl; rfl) ?_
 rintro _ o rfl
 refine ze tabOk Tryz.func163 rfl trivial (z9a b (isTo b i z19) most hb hm) (.refl _) rfl ⟨_, rfl⟩ (by rintro r o rfl; rfl) ?_
 rintro _ o rfl
 have hbd := zgv b (isTo b i z19) most
 generalize numR b (isTo b i z19) most = q at *
 obtain ⟨n, e, x⟩ := q
 simp only at hbd ⊢
 cases isAt b i z19 with
 | false =>
  rw [if_pos rfl]
  refine z6 tabOk Tryz.func163 rfl trivial (fun _ => ?_) (fun h => by cases h)
  exact z7 tabOk Tryz.func163 rfl trivial rfl
 | true =>
  rw [if_neg (by decide)]
  refine z6 tabOk Tryz.func163 rfl trivial (fun h => by cases h) (fun _ => ?_)
  refine z6 tabOk Tryz.func163 rfl trivial (fun h3 => ?_) (fun h3 => ?_)
  ·have h3 : (x != 0) = true := h3
   rw [bne_iff_ne] at h3
   rw [if_neg (fun hh => h3 hh.1), if_pos h3]
   exact z7 tabOk Tryz.func163 rfl trivial rfl
  have h3 : (x != 0) = false := h3
  rw [bne_eq_false_iff_eq] at h3
  subst h3
  refine z6 tabOk Tryz.func163 rfl trivial (fun h4 => ?_) (fun h4 => ?_)
  ·have h4 : (n == 0) = true := h4
   rw [beq_iff_eq] at h4
   rw [if_pos ⟨rfl, h4⟩]
   exact z7 tabOk Tryz.func163 rfl trivial rfl
  have h4 : (n == 0) = false := h4
  rw [beq_eq_false_iff_ne] at h4
  rw [if_neg (fun hh => h4 hh.2), if_neg (fun hh => hh rfl)]
  refine z7 tabOk Tryz.func163 rfl trivial ?_
  show tupOf [vI .i64 (IntKind.i64.wrap (0 - n)), _, _] = _
  rw [zb (by omega) (by omega), Int.zero_sub]
def stP {α : Type} (q : PR α) : Int × Int := match q with
 | .inl e => e
 | .inr (_, p) => (p, 0)
@[reducible] def eAt (b : List UInt8) (s : Int × Int) : D := .ag [eBy b, eI s.1, eI s.2]
def OkS {α : Type} (b : List UInt8) (q : PR α) : Prop := match q with
 | .inl e => e.2 ≠ 0
 | .inr (_, p) => 0 ≤ p ∧ p ≤ b.length
theorem OkS.bnd {α β : Type} {b : List UInt8} {q : PR α} {f : α → Int → PR β} (h : OkS b q) (hf : ∀ a p, q = .inr (a, p) → 0 ≤ p → p ≤ b.length → OkS b (f a p)) : OkS b (bnd q f) := by
 cases q with
 | inl e => exact h
 | inr x => exact hf x.1 x.2 rfl h.1 h.2
theorem OkS.word {b s : List UInt8} {p : Int} (h0 : 0 ≤ p) (h1 : p ≤ b.length) : OkS b (wordP b s p) := by
 unfold wordP
 split
 ·exact z8s h0 h1 |>.imp (by omega) id
 ·show (2 : Int) ≠ 0
  decide
theorem OkS.num {b : List UInt8} {m p : Int} (h0 : 0 ≤ p) (h1 : p ≤ b.length) : OkS b (numP b m p) := by
 unfold numP
 split
 ·assumption
 ·rename_i h
  obtain ⟨h2, h3, h4⟩ := zdc (Decidable.not_not.1 h)
  exact ⟨by show 0 ≤ (numR b p m).2.1; omega, h4⟩
theorem zh0 {b s : List UInt8} {p : Int} (h0 : 0 ≤ p) (h1 : p ≤ b.length) (h : isAt b p s = false) : isTo b p s = p := by
 unfold isAt at h
 rw [decide_eq_true (show 0 ≤ p ∧ p ≤ b.length from ⟨h0, h1⟩), Bool.true_and] at h
 rw [isTo, if_neg (not_not_intro ⟨h0, h1⟩), if_neg (by rw [h]; decide)]
theorem z41 {α : Type} (b s : List UInt8) (q : PR α) (hb : b.length ≤ 1000000) (hs : s.length ≤ 1000000) (hq : OkS b q) : ACall Tryz.prog 61 [.d (eAt b (stP q)), vTx s] [] (fun r o => r = .d (eAt b (stP (bnd q fun _ p => wordP b s p)))) := by
 refine z8 Tryz.func61 rfl rfl (Nat.le_of_ble_eq_true rfl) fun C hC hCl hDs hGk => ?_
 rcases q with ⟨a, e⟩ | ⟨x, p⟩
 ·have he : e ≠ 0 := hq
  refine z6 tabOk Tryz.func61 rfl trivial (fun h => ?_) (fun h => ?_)
  ·exact z7 tabOk Tryz.func61 rfl trivial rfl
  ·have h : (e != 0) = false := h
   rw [bne_eq_false_iff_eq] at h
   exact absurd h he
 obtain ⟨p0, p1⟩ : 0 ≤ p ∧ p ≤ b.length := hq
 refine z6 tabOk Tryz.func61 rfl trivial (fun h => by cases h) (fun _ => ?_)
 refine ze tabOk Tryz.func61 rfl trivial (zi7 b p s hb hs (by omega)) (.refl _) rfl ⟨_, rfl⟩ (by rintro r o rfl; rfl) ?_
 rintro _ o rfl
 show ASat _ _ _ _ _ _ _ (fun r o => r = .d (eAt b (stP (wordP b s p))))
 unfold wordP
 obtain ⟨t0, t1⟩ := z8s (s := s) p0 p1
 cases hi : isAt b p s with
 | true =>
  rw [if_pos rfl]
  refine z6 tabOk Tryz.func61 rfl trivial (fun h => by cases h) (fun _ => ?_)
  exact z7 tabOk Tryz.func61 rfl trivial rfl
 | false =>
  rw [if_neg (by decide)]
  refine z6 tabOk Tryz.func61 rfl trivial (fun _ => ?_) (fun h => by cases h)
  refine z7 tabOk Tryz.func61 rfl trivial ?_
  rw [zh0 p0 p1 hi]
  rfl
theorem zmc {b : List UInt8} {m p : Int} (h0 : 0 ≤ p) (h1 : p ≤ b.length) (h : (numR b p m).2.2 ≠ 0) : (numR b p m).1 = 0 ∧ (numR b p m).2.1 = p := by
 unfold numR at h ⊢
 rw [if_neg (not_not_intro ⟨h0, h1⟩)] at h ⊢
 split at h
 ·rename_i h2
  rw [if_pos h2]
  exact ⟨rfl, rfl⟩
 ·rename_i h2
  rw [if_neg h2]
  split at h
  ·rename_i h3
   rw [if_pos h3]
   exact ⟨rfl, rfl⟩
  ·exact absurd rfl h
theorem zog {b : List UInt8} {m p : Int} (h0 : 0 ≤ p) (h1 : p ≤ b.length) (h : (signR b p m).2.2 ≠ 0) : (signR b p m).1 = 0 ∧ (signR b p m).2.1 = p := by
 unfold signR at h ⊢
 rw [if_neg (not_not_intro ⟨h0, h1⟩)] at h ⊢
 split at h
 ·rename_i h2
  rw [if_pos h2]
  rw [zh0 h0 h1 h2] at h ⊢
  exact zmc h0 h1 h
 ·rename_i h2
  rw [if_neg h2]
  split at h
  ·rename_i h3
   rw [if_pos h3]
   exact ⟨rfl, rfl⟩
  ·rename_i h3
   rw [if_neg h3]
   split at h
   ·rename_i h4
    rw [if_pos h4]
    exact ⟨rfl, rfl⟩
   ·exact absurd rfl h
def valP (q : PR Int) : Int := match q with
 | .inl _ => 0
 | .inr (x, _) => x
theorem zjo {α : Type} (b : List UInt8) (m : Int) (q : PR α) (hb : b.length ≤ 1000000) (hm : -1000000000 ≤ m ∧ m ≤ 1000000000) (hq : OkS b q) : ACall Tryz.prog 103 [.d (eAt b (stP q)), vI .i64 m] [] (fun r o => r = tupOf [vI .i64 (valP (bnd q fun _ p => numP b m p)), .d (eAt b (stP (bnd q fun _ p => numP b m p)))]) := by
 refine z8 Tryz.func103 rfl rfl (Nat.le_of_ble_eq_true rfl) fun C hC hCl hDs hGk => ?_
 rcases q with ⟨a, e⟩ | ⟨x, p⟩
 ·have he : e ≠ 0 := hq
  refine z6 tabOk Tryz.func103 rfl trivial (fun h => ?_) (fun h => ?_)
  ·refine zn 2 tabOk Tryz.func103 rfl rfl trivial (by kernel_rfl) ?_
   refine zo tabOk rfl trivial ?_
   exact z7 tabOk Tryz.func103 rfl trivial rfl
  ·have h : (e != 0) = false := h
   rw [bne_eq_false_iff_eq] at h
   exact absurd h he
 obtain ⟨p0, p1⟩ : 0 ≤ p ∧ p ≤ b.length := hq
 refine z6 tabOk Tryz.func103 rfl trivial (fun h => by cases h) (fun _ => ?_)
 refine ze tabOk Tryz.func103 rfl trivial (z9a b p m hb hm) (.refl _) rfl ⟨_, rfl⟩ (by rintro r o rfl; rfl) ?_
 rintro _ o rfl
 refine zn 3 tabOk Tryz.func103 rfl rfl trivial (by kernel_rfl) ?_
 refine zo tabOk rfl trivial ?_
 refine z7 tabOk Tryz.func103 rfl trivial ?_
 show _ = tupOf [vI .i64 (valP (numP b m p)), .d (eAt b (stP (numP b m p)))]
 have hno := @zmc b m p p0 p1
 unfold numP
 by_cases h : (numR b p m).2.2 = 0
 ·rw [if_neg (not_not_intro h)]
  show _ = tupOf [vI .i64 (numR b p m).1, .d (eAt b ((numR b p m).2.1, 0))]
  rw [← h]
  rfl
 ·rw [if_pos h]
  obtain ⟨n1, n2⟩ := hno h
  show tupOf [vI .i64 (numR b p m).1, .d (eAt b ((numR b p m).2.1, (numR b p m).2.2))] = tupOf [vI .i64 0, .d (eAt b (p, (numR b p m).2.2))]
  rw [n1, n2]
def signQ (b : List UInt8) (most at_ : Int) : PR Int := if (signR b at_ most).2.2 ≠ 0 then .inl (at_, (signR b at_ most).2.2) else .inr ((signR b at_ most).1, (signR b at_ most).2.1)
theorem zgm {α : Type} (b : List UInt8) (m : Int) (q : PR α) (hb : b.length ≤ 1000000) (hm : -1000000000 ≤ m ∧ m ≤ 1000000000) (hq : OkS b q) : ACall Tryz.prog 142 [.d (eAt b (stP q)), vI .i64 m] [] (fun r o => r = tupOf [vI .i64 (valP (bnd q fun _ p => signQ b m p)), .d (eAt b (stP (bnd q fun _ p => signQ b m p)))]) := by
 refine z8 Tryz.func142 rfl rfl (Nat.le_of_ble_eq_true rfl) fun C hC hCl hDs hGk => ?_
 rcases q with ⟨a, e⟩ | ⟨x, p⟩
 ·have he : e ≠ 0 := hq
  refine z6 tabOk Tryz.func142 rfl trivial (fun h => ?_) (fun h => ?_)
  ·refine zn 2 tabOk Tryz.func142 rfl rfl trivial (by kernel_rfl) ?_
   refine zo tabOk rfl trivial ?_
   exact z7 tabOk Tryz.func142 rfl trivial rfl
  ·have h : (e != 0) = false := h
   rw [bne_eq_false_iff_eq] at h
   exact absurd h he
 obtain ⟨p0, p1⟩ : 0 ≤ p ∧ p ≤ b.length := hq
 refine z6 tabOk Tryz.func142 rfl trivial (fun h => by cases h) (fun _ => ?_)
 refine ze tabOk Tryz.func142 rfl trivial (zeo b p m hb hm) (.refl _) rfl ⟨_, rfl⟩ (by rintro r o rfl; rfl) ?_
 rintro _ o rfl
 refine zn 3 tabOk Tryz.func142 rfl rfl trivial (by kernel_rfl) ?_
 refine zo tabOk rfl trivial ?_
 refine z7 tabOk Tryz.func142 rfl trivial ?_
 show _ = tupOf [vI .i64 (valP (signQ b m p)), .d (eAt b (stP (signQ b m p)))]
 have hno := @zog b m p p0 p1
 unfold signQ
 by_cases h : (signR b p m).2.2 = 0
 ·rw [if_neg (not_not_intro h)]
  show _ = tupOf [vI .i64 (signR b p m).1, .d (eAt b ((signR b p m).2.1, 0))]
  rw [← h]
  rfl
 ·rw [if_pos h]
  obtain ⟨n1, n2⟩ := hno h
  show tupOf [vI .i64 (signR b p m).1, .d (eAt b ((signR b p m).2.1, (signR b p m).2.2))] = tupOf [vI .i64 0, .d (eAt b (p, (signR b p m).2.2))]
  rw [n1, n2]
theorem z4e {α : Type} (b t : List UInt8) (m : Int) (q : PR α) (hb : b.length ≤ 1000000) (ht : t.length ≤ 1000000) (hm : -1000000000 ≤ m ∧ m ≤ 1000000000) (hq : OkS b q) : ACall Tryz.prog 60 [.d (eAt b (stP q)), vI .i64 m, vTx t] [] (fun r o => r = tupOf [vI .i64 (valP (bnd q fun _ p => numP b m p)), .d (eAt b (stP (bnd (bnd q fun _ p => numP b m p) fun _ p => wordP b t p)))]) := by
 refine z8 Tryz.func60 rfl rfl (Nat.le_of_ble_eq_true rfl) fun C hC hCl hDs hGk => ?_
 have hq2 : OkS b (bnd q fun _ p => numP b m p) := hq.bnd fun _ p _ h0 h1 => .num h0 h1
 refine ze tabOk Tryz.func60 rfl trivial (zjo b m q hb hm hq) (.refl _) rfl ⟨_, rfl⟩ (by rintro r o rfl; rfl) ?_
 rintro _ o rfl
 refine ze tabOk Tryz.func60 rfl trivial (z41 b t _ hb ht hq2) (.refl _) rfl ⟨_, rfl⟩ (by rintro r o rfl; rfl) ?_
 rintro _ o rfl
 exact z7 tabOk Tryz.func60 rfl trivial rfl
theorem zlr {α : Type} (b : List UInt8) (q : PR α) (hb : b.length ≤ 1000000) (hq : OkS b q) : ACall Tryz.prog 63 [.d (eAt b (stP q))] [] (fun r o => r = .d (eAt b (stP (bnd q fun x p => (if p < b.length then .inl (p, 2) else .inr (x, p) : PR α))))) := by
 refine z8 Tryz.func63 rfl rfl (Nat.le_of_ble_eq_true rfl) fun C hC hCl hDs hGk => ?_
 rcases q with ⟨a, e⟩ | ⟨x, p⟩
 ·have he : e ≠ 0 := hq
  refine z6 tabOk Tryz.func63 rfl trivial (fun h => ?_) (fun h => ?_)
  ·have h : (e == 0) = true := h
   rw [beq_iff_eq] at h
   exact absurd h he
  ·refine z6 tabOk Tryz.func63 rfl trivial (fun h => by cases h) (fun _ => ?_)
   exact z7 tabOk Tryz.func63 rfl trivial rfl
 obtain ⟨p0, p1⟩ : 0 ≤ p ∧ p ≤ b.length := hq
 refine z6 tabOk Tryz.func63 rfl trivial (fun _ => ?_) (fun h => by cases h)
 show ASat _ _ _ _ _ _ _ (fun r o => r = .d (eAt b (stP (if p < b.length then .inl (p, 2) else .inr (x, p) : PR α))))
 refine z6 tabOk Tryz.func63 rfl trivial (fun h => ?_) (fun h => ?_)
 ·have h : decide (p < (((b.map eU8).length : Nat) : Int)) = true := h
  rw [decide_eq_true_eq, List.length_map] at h
  rw [if_pos h]
  exact z7 tabOk Tryz.func63 rfl trivial rfl
 ·have h : decide (p < (((b.map eU8).length : Nat) : Int)) = false := h
  rw [decide_eq_false_iff_not, List.length_map] at h
  rw [if_neg h]
  exact z7 tabOk Tryz.func63 rfl trivial rfl
@[reducible] def bAt (b : List UInt8) (s : Int × Int) : AObj := .cells 120 [.d (eBy b), .d (eI s.1), .d (eI s.2)]
@[reducible] def zAt : AObj := .cells 120 [.d nilD, .d (eI 0), .d (eI 0)]
def LitsV (b : List UInt8) (q : PR (List Int)) (r : AV) : Prop := ∃ l : List Int, r = tupOf [.d (eIs l), .d (eAt b (stP q))] ∧ ∀ l' p, q = .inr (l', p) → l = l'
theorem OkS.sign {b : List UInt8} {m p : Int} (h0 : 0 ≤ p) (h1 : p ≤ b.length) : OkS b (signQ b m p) := by
 unfold signQ
 split
 ·assumption
 ·rename_i h
  obtain ⟨h2, h3, h4⟩ := z6f (Decidable.not_not.1 h)
  exact ⟨by show 0 ≤ (signR b p m).2.1; omega, h4⟩
theorem zpq {α : Type} (b : List UInt8) (q : PR α) : ∃ st : PR Unit, stP st = stP q ∧ (OkS b q → OkS b st) ∧ (∀ e, st = .inl e → q = .inl e) ∧ ∀ u p, st = .inr (u, p) → ∃ a, q = .inr (a, p) := by
 rcases q with e | ⟨a, p⟩
 ·exact ⟨.inl e, rfl, fun h => h, (fun e2 h => by cases h; rfl), (fun u p h => by cases h)⟩
 ·exact ⟨.inr ((), p), rfl, fun h => h, (fun e2 h => by cases h), (fun u p2 h => by cases h; exact ⟨a, rfl⟩)⟩
def InvL (b : List UInt8) (n : Int) (q' : PR (List Int)) (s : Nat × PR Unit × List Int) : Prop :=
 OkS b s.2.1 ∧ s.2.2.length ≤ 1000 ∧ (∀ e, s.2.1 = .inl e → q' = .inl e) ∧ ∀ u p, s.2.1 = .inr (u, p) → b.length - p < s.1 ∧ clR b n s.1 p s.2.2 = q'
theorem zgq {α : Type} (b : List UInt8) (n : Int) (q : PR α) (hb : b.length ≤ 1000000) (hn : -1000000000 ≤ n ∧ n ≤ 1000000000) (hq : OkS b q) : ACall Tryz.prog 105 [.d (eAt b (stP q)), vI .i64 n] [] (fun r o => LitsV b (bnd q fun _ p => clR b n (b.length + 1) p []) r) := by
 refine z8 Tryz.func105 rfl rfl (Nat.le_of_ble_eq_true rfl) fun C hC hCl hDs hGk => ?_
 obtain ⟨st, e1, e2, e3, e4⟩ := zpq b q
 rw [← e1]
 have hst := e2 hq
 have hinv : InvL b n (bnd q fun _ p => clR b n (b.length + 1) p []) (b.length + 1, st, []) := by
  refine ⟨hst, Nat.zero_le _, fun e h => by rw [e3 e h]; rfl, fun u p h => ?_⟩
  obtain ⟨a, rfl⟩ := e4 u p h
  obtain ⟨h0, h1⟩ : 0 ≤ p ∧ p ≤ b.length := hq
  exact ⟨by simp only; omega, rfl⟩
 generalize (bnd q fun _ p => clR b n (b.length + 1) p []) = q' at *
 clear e1 e2 e3 e4 hq hst
 refine za tabOk Tryz.func105 rfl trivial ?_
 refine z3r (e := 3) (s := 1) (t := 6) (.inl rfl) (fun i => eI (([] : List Int).getD i 0)) ?_
 refine zj (α := Nat × PR Unit × List Int) (fun s => [(1, vI .i64 n), (2, .ptr 0 0), (5, .ptr 1 0), (6, .gs 2)]) (fun s => [some (bAt b (stP s.2.1)), some zAt, some (gIn s.2.2)]) (InvL b n q') (fun s => s.1) (b.length + 1, st, []) hinv ?_ ?_
 ·exact fun h => zg h hC hCl ⟨⟨_, rfl, .refl _⟩, ⟨_, rfl, .refl _⟩, ⟨_, rfl, .refl _⟩, ⟨_, rfl, .refl _⟩, trivial⟩ ⟨.refl _, .refl _, .refl _, trivial⟩ rfl rfl (Nat.zero_le _)
 rintro ⟨f, st, out⟩ ⟨hok, hout, hl, hr⟩ ih
 simp only at hok hout hl hr ih ⊢
 rcases st with ⟨a, e⟩ | ⟨⟨⟩, at_⟩
 ·obtain rfl := hl _ rfl
  have he : e ≠ 0 := hok
  refine z6 tabOk Tryz.func105 rfl trivial (fun h => ?_) (fun h => ?_)
  ·have h : (e == 0) = true := h
   rw [beq_iff_eq] at h
   exact absurd h he
  refine zn 2 tabOk Tryz.func105 rfl rfl trivial (by kernel_rfl) ?_
  refine zo tabOk rfl trivial ?_
  exact zp tabOk Tryz.func105 rfl trivial hC hCl (r2 := tupOf [.d (eIs []), .d (eAt b (a, e))]) (.tp ⟨.nil, .refl _, trivial⟩) (o2 := []) trivial rfl rfl (Nat.zero_le _) ⟨[], rfl, fun l' p h => by cases h⟩
 obtain ⟨p0, p1⟩ : 0 ≤ at_ ∧ at_ ≤ b.length := hok
 obtain ⟨hf, hcl⟩ := hr _ _ rfl
 clear hl hr
 obtain ⟨f, rfl⟩ : ∃ k, f = k + 1 := ⟨f - 1, by omega⟩
 rw [clR] at hcl
 refine z6 tabOk Tryz.func105 rfl trivial (fun _ => ?_) (fun h => by cases h)
 refine ze tabOk Tryz.func105 rfl trivial (zgm b n (.inr ((), at_) : PR Unit) hb hn ⟨p0, p1⟩) (.refl _) rfl ⟨_, rfl⟩ (by rintro r o rfl; rfl) ?_
 rintro _ o rfl
 show ASat _ _ _ _ _ _ _ _
 have hok2 := @OkS.sign b n at_ p0 p1
 change ASat _ _ _ _ _ ((_, tupOf [vI .i64 (valP (signQ b n at_)), .d (eAt b (stP (signQ b n at_)))]) :: _) _ _
 have hsg : (signQ b n at_ = .inl (at_, (signR b at_ n).2.2) ∧ (signR b at_ n).2.2 ≠ 0) ∨ (signQ b n at_ = .inr ((signR b at_ n).1, (signR b at_ n).2.1) ∧ (signR b at_ n).2.2 = 0) := by
  unfold signQ
  by_cases h : (signR b at_ n).2.2 = 0
  ·exact .inr ⟨if_neg (not_not_intro h), h⟩
  ·exact .inl ⟨if_pos h, h⟩
 rcases hsg with ⟨h1, he⟩ | ⟨h1, he⟩
 ·rw [h1]
  rw [if_pos he] at hcl
  generalize (signR b at_ n).2.2 = e at *
  subst hcl
  refine z6 tabOk Tryz.func105 rfl trivial (fun h => ?_) (fun h => ?_)
  rotate_left
  ·have h : (e != 0) = false := h
   rw [bne_eq_false_iff_eq] at h
   exact absurd h he
  refine zn 2 tabOk Tryz.func105 rfl rfl trivial (by kernel_rfl) ?_
  refine zo tabOk rfl trivial ?_
  exact zp tabOk Tryz.func105 rfl trivial hC hCl (r2 := tupOf [.d (eIs []), .d (eAt b (at_, e))]) (.tp ⟨.nil, .refl _, trivial⟩) (o2 := []) trivial rfl rfl (Nat.zero_le _) ⟨[], rfl, fun l' p h => by cases h⟩
 have hpl := z6f he
 rw [h1] at hok2 ⊢
 rw [if_neg (not_not_intro he)] at hcl
 generalize (signR b at_ n).2.2 = e at *
 generalize (signR b at_ n).2.1 = nx at *
 generalize (signR b at_ n).1 = l at *
 subst he
 refine z6 tabOk Tryz.func105 rfl trivial (fun h => by cases h) (fun _ => ?_)
 refine z6 tabOk Tryz.func105 rfl trivial (fun h => ?_) (fun h => ?_)
 ·have h : (l == 0) = true := h
  rw [beq_iff_eq] at h
  rw [if_pos h] at hcl
  refine ze tabOk Tryz.func105 rfl trivial (z41 b sNl (.inr (l, nx) : PR Int) hb (by decide) hok2) (.refl _) rfl ⟨_, rfl⟩ (by rintro r o rfl; rfl) ?_
  rintro _ o rfl
  change ASat _ _ _ _ _ ((_, .d (eAt b (stP (wordP b sNl nx)))) :: _) _ _
  have hq : stP (wordP b sNl nx) = stP q' := by
   rw [← hcl]
   unfold wordP
   split <;> rfl
  rw [hq]
  refine zy 2 rfl ?_
  refine zp tabOk Tryz.func105 rfl trivial hC hCl (r2 := tupOf [.d (eIs out), .d (eAt b (stP q'))]) (.refl _) (o2 := []) trivial rfl rfl (Nat.zero_le _) ⟨out, rfl, fun l' p h => ?_⟩
  rw [h] at hcl
  split at hcl
  ·cases hcl
   rfl
  ·cases hcl
 have h : (l == 0) = false := h
 rw [beq_eq_false_iff_ne] at h
 rw [if_neg h] at hcl
 refine z6 tabOk Tryz.func105 rfl trivial (fun h2 => ?_) (fun h2 => ?_)
 ·have h2 : ((((out.map eI).length : Nat) : Int) == 1000) = true := h2
  rw [List.length_map, beq_iff_eq] at h2
  rw [if_pos (by omega)] at hcl
  subst hcl
  refine zh 5 tabOk Tryz.func105 rfl trivial ?_
  refine zn 2 tabOk Tryz.func105 rfl rfl trivial (by kernel_rfl) ?_
  refine zo tabOk rfl trivial ?_
  exact zp tabOk Tryz.func105 rfl trivial hC hCl (r2 := tupOf [.d (eIs []), .d (eAt b (at_, 3))]) (.tp ⟨.nil, .refl _, trivial⟩) (o2 := []) trivial rfl rfl (Nat.zero_le _) ⟨[], rfl, fun l' p h => by cases h⟩
 have h2 : ((((out.map eI).length : Nat) : Int) == 1000) = false := h2
 rw [List.length_map, beq_eq_false_iff_ne] at h2
 rw [if_neg (by omega)] at hcl
 refine ze tabOk Tryz.func105 rfl ?nd (z41 b sSp (.inr (l, nx) : PR Int) hb (by decide) hok2) (.refl _) rfl ⟨_, rfl⟩ (by rintro r o rfl; rfl) ?_
 case nd =>
  show ((out.map eI).length + 1) * 8 ≤ 140737488355328 ∧ True
  rw [List.length_map]
  exact ⟨by omega, trivial⟩
 rintro _ o rfl
 change ASat _ _ _ _ _ ((_, .d (eAt b (stP (wordP b sSp nx)))) :: _) _ _
 refine za tabOk Tryz.func105 rfl trivial ?_
 refine zg (ih (f, wordP b sSp nx, out ++ [l]) ⟨.word hok2.1 hok2.2, by simp only [List.length_append, List.length_singleton]; omega, fun e h => ?_, fun u p h => ?_⟩ (by simp only; omega)) hC hCl ⟨⟨_, rfl, .refl _⟩, ⟨_, rfl, .refl _⟩, ⟨_, rfl, .refl _⟩, ⟨_, rfl, .refl _⟩, trivial⟩ ⟨.refl _, .refl _, .grow ?_ (z2v eI 0 _), trivial⟩ rfl rfl (Nat.zero_le _)
 ·rw [← hcl]
  unfold wordP at h
  split at h
  ·cases h
  ·rename_i hi
   rw [if_neg hi]
   cases h
   rfl
 ·unfold wordP at h
  split at h
  ·rename_i hi
   rw [if_pos hi] at hcl
   cases h
   have ht := z63 hi
   have hs1 : sSp.length = 1 := rfl
   exact ⟨by simp only; omega, hcl⟩
  ·cases h
 ·rw [List.map_append]
  rfl
theorem GoodP.okS {α : Type} {b : List UInt8} {p : Nat} {x : PR α} {R : α → List UInt8 → Prop} (h : GoodP b p x R) : OkS b x := by
 rcases x with ⟨a, e⟩ | ⟨a, e⟩
 ·have := h.er a e rfl
  unfold ErP at this
  show e ≠ 0
  omega
 ·obtain ⟨q, t, rfl, h1, -⟩ := h.ok a e rfl
  exact ⟨by omega, by have := h1.1; omega⟩
theorem OkS.step {b : List UInt8} {n p : Int} (hn : 0 ≤ n) (h0 : 0 ≤ p) (h1 : p ≤ b.length) : OkS b (stepP b n p) := by
 obtain ⟨q, rfl⟩ : ∃ q : Nat, p = q := ⟨p.toNat, by omega⟩
 exact (zaa hn (by omega)).okS
theorem OkS.steps {b : List UInt8} {n : Int} {k : Nat} {p : Int} {out : List Sp} (hn : 0 ≤ n) (h0 : 0 ≤ p) (h1 : p ≤ b.length) : OkS b (z4v b n k p out) := by
 obtain ⟨q, rfl⟩ : ∃ q : Nat, p = q := ⟨p.toNat, by omega⟩
 exact (z8j hn k out q (by omega)).okS
theorem OkS.proof {b : List UInt8} {n p : Int} (hn : 0 ≤ n ∧ n ≤ 100000) (h0 : 0 ≤ p) (h1 : p ≤ b.length) : OkS b (z1v b n p) := by
 obtain ⟨q, rfl⟩ : ∃ q : Nat, p = q := ⟨p.toNat, by omega⟩
 exact (z36 hn (by omega)).okS
theorem OkS.cl {b : List UInt8} {n p : Int} (hn : 0 ≤ n) (h0 : 0 ≤ p) (h1 : p ≤ b.length) : OkS b (clR b n (b.length + 1) (isTo b p sDel) []) := by
 have h := OkS.step (b := b) (n := n) hn h0 h1
 unfold stepP at h
 generalize clR b n (b.length + 1) (isTo b p sDel) [] = q at *
 rcases q with e | ⟨a, e⟩
 ·exact h
 ·exact h
theorem za4 {α : Type} (b : List UInt8) (m : Int) (q : PR α) : 0 ≤ valP (bnd q fun _ p => numP b m p) ∧ valP (bnd q fun _ p => numP b m p) ≤ 2147483647 := by
 rcases q with e | ⟨a, p⟩
 ·exact ⟨Int.le_refl _, by show (0 : Int) ≤ 2147483647; decide⟩
 ·show 0 ≤ valP (numP b m p) ∧ valP (numP b m p) ≤ 2147483647
  have := zgv b p m
  unfold numP
  split
  ·exact ⟨Int.le_refl _, by show (0 : Int) ≤ 2147483647; decide⟩
  ·exact this
theorem zme {b : List UInt8} {m p x e : Int} (h0 : 0 ≤ p) (h1 : p ≤ b.length) (h : numP b m p = .inr (x, e)) : 0 ≤ x ∧ x ≤ m := by
 obtain ⟨q, rfl⟩ : ∃ q : Nat, p = q := ⟨p.toNat, by omega⟩
 obtain ⟨_, _, _, _, _, h2, h3⟩ := (z2r (b := b) (p := q) (most := m) (by omega)).ok _ _ h
 exact ⟨h2, h3⟩
def zo1 (b : List UInt8) (q : PR (List Sp)) (r : AV) : Prop := ∃ l : List Sp, r = tupOf [.d (eSps l), .d (eAt b (stP q))] ∧ ∀ l' p, q = .inr (l', p) → l = l'
def InvS (b : List UInt8) (n m : Int) (q' : PR (List Sp)) (s : Nat × PR Unit × List Sp) : Prop :=
 OkS b s.2.1 ∧ (∀ e, s.2.1 = .inl e → q' = .inl e) ∧ ∀ u p, s.2.1 = .inr (u, p) → s.1 ≤ m.toNat ∧ m ≤ 20000 ∧ s.2.2.length = s.1 ∧ z4v b n (m.toNat - s.1) p s.2.2 = q'
theorem z7e {α : Type} (b : List UInt8) (n : Int) (q : PR α) (hb : b.length ≤ 1000000) (hn : 0 ≤ n ∧ n ≤ 100000) (hq : OkS b q) : ACall Tryz.prog 62 [.d (eAt b (stP q)), vI .i64 n] [] (fun r o => zo1 b (bnd q fun _ p => z1v b n p) r) := by
 refine z8 Tryz.func62 rfl rfl (Nat.le_of_ble_eq_true rfl) fun C hC hCl hDs hGk => ?_
 refine ze tabOk Tryz.func62 rfl trivial (z41 b z2k q hb (by decide) hq) (.refl _) rfl ⟨_, rfl⟩ (by rintro r o rfl; rfl) ?_
 rintro _ o rfl
 have hq1 : OkS b (bnd q fun _ p => wordP b z2k p) := hq.bnd fun _ p _ h0 h1 => .word h0 h1
 refine ze tabOk Tryz.func62 rfl trivial (z4e b [10] 20000 _ hb (by decide) (by decide) hq1) (.refl _) rfl ⟨_, rfl⟩ (by rintro r o rfl; rfl) ?_
 rintro _ o rfl
 have hq2 : OkS b (bnd (bnd q fun _ p => wordP b z2k p) fun _ p => numP b 20000 p) := hq1.bnd fun _ p _ h0 h1 => .num h0 h1
 have hq3 : OkS b (bnd (bnd (bnd q fun _ p => wordP b z2k p) fun _ p => numP b 20000 p) fun _ p => wordP b [10] p) := hq2.bnd fun _ p _ h0 h1 => .word h0 h1
 obtain ⟨hv0, hv1⟩ := za4 b 20000 (bnd q fun _ p => wordP b z2k p)
 have hrel : InvS b n (valP (bnd (bnd q fun _ p => wordP b z2k p) fun _ p => numP b 20000 p)) (bnd q fun _ p => z1v b n p) (0, (bnd (bnd (bnd q fun _ p => wordP b z2k p) fun _ p => numP b 20000 p) fun _ p => wordP b [10] p), []) := by
  refine ⟨hq3, fun e h => ?_, fun u p h => ?_⟩
  ·rcases q with e0 | ⟨a, p0⟩
   ·cases (show (Sum.inl e0 : PR Unit) = .inl e from h)
    rfl
   ·simp only [bnd] at h ⊢
    unfold z1v
    cases h1 : wordP b z2k p0 with
    | inl e1 => rw [h1] at h; simp only [bnd] at h ⊢; cases h; rfl
    | inr x1 =>
     rw [h1] at h
     simp only [bnd] at h ⊢
     cases h2 : numP b 20000 x1.2 with
     | inl e2 => rw [h2] at h; simp only at h ⊢; cases h; rfl
     | inr x2 =>
      rw [h2] at h
      simp only at h ⊢
      rw [h]
  ·rcases q with e0 | ⟨a, p0⟩
   ·cases h
   ·obtain ⟨h0, h1⟩ : 0 ≤ p0 ∧ p0 ≤ b.length := hq
    have ow := OkS.word (s := z2k) h0 h1
    simp only [bnd] at h ⊢
    unfold z1v
    cases h1 : wordP b z2k p0 with
    | inl e1 => rw [h1] at h; cases h
    | inr x1 =>
     rw [h1] at h ow
     obtain ⟨o0, o1⟩ : 0 ≤ x1.2 ∧ x1.2 ≤ b.length := ow
     simp only [bnd] at h ⊢
     cases h2 : numP b 20000 x1.2 with
     | inl e2 => rw [h2] at h; cases h
     | inr x2 =>
      rw [h2] at h
      have hle := zme o0 o1 h2
      simp only at h ⊢
      rw [h]
      exact ⟨Nat.zero_le _, hle.2, rfl, rfl⟩
 generalize (bnd q fun _ p => z1v b n p) = q' at *
 generalize valP (bnd (bnd q fun _ p => wordP b z2k p) fun _ p => numP b 20000 p) = m at *
 generalize (bnd (bnd (bnd q fun _ p => wordP b z2k p) fun _ p => numP b 20000 p) fun _ p => wordP b [10] p) = st at *
 clear hq hq1 hq2 hq3
 refine za tabOk Tryz.func62 rfl trivial ?_
 refine z3r (e := 87) (s := 2) (t := 8) (.inl rfl) (fun i => eSp (([] : List Sp).getD i (false, [], ()))) ?_
 refine zj (α := Nat × PR Unit × List Sp) (fun s => [(1, vI .i64 n), (5, .ptr 1 0), (6, vI .i64 m), (7, .ptr 2 0), (8, .gs 3), (9, vI .i64 (s.1 : Int))]) (fun s => [none, some zAt, some (bAt b (stP s.2.1)), some (gSps s.2.2)]) (InvS b n m q') (fun s => m.toNat - s.1) (0, st, []) hrel ?_ ?_
 ·exact fun h => zg h hC hCl ⟨⟨_, rfl, .refl _⟩, ⟨_, rfl, .refl _⟩, ⟨_, rfl, .refl _⟩, ⟨_, rfl, .refl _⟩, ⟨_, rfl, .refl _⟩, ⟨_, rfl, .refl _⟩, trivial⟩ ⟨.refl _, .refl _, .gL rfl, trivial⟩ rfl rfl (Nat.zero_le _)
 rintro ⟨i, st, out⟩ ⟨hok, hl, hr⟩ ih
 simp only at hok hl hr ih ⊢
 apply letK (p := (stP st = stP q' ∧ ∀ l' p, q' = .inr (l', p) → out = l') → ASat Tryz.prog 62 Tryz.f62.ntmps C _ [(5, .ptr 1 0), (7, .ptr 2 0), (8, .gs 3)] [none, some zAt, some (bAt b (stP st)), some (gSps out)] (fun r o => zo1 b q' r))
 ·intro key
  rcases st with e | ⟨⟨⟩, p⟩
  ·have he : e.2 ≠ 0 := hok
   have key := key ⟨by rw [hl e rfl]; rfl, fun l' p h => by rw [hl e rfl] at h; cases h⟩
   refine z6 tabOk Tryz.func62 rfl trivial (fun h1 => ?_) (fun h1 => ?_)
   ·refine z6 tabOk Tryz.func62 rfl trivial (fun h2 => ?_) (fun h2 => ?_)
    ·have h2 : (e.2 == 0) = true := h2
     rw [beq_iff_eq] at h2
     exact absurd h2 he
    refine zh 1 tabOk Tryz.func62 rfl trivial ?_
    exact zg key hC hCl ⟨⟨_, rfl, .refl _⟩, ⟨_, rfl, .refl _⟩, ⟨_, rfl, .refl _⟩, trivial⟩ ⟨.refl _, .refl _, .refl _, trivial⟩ rfl rfl (Nat.zero_le _)
   ·refine z6 tabOk Tryz.func62 rfl trivial (fun h => by cases h) (fun _ => ?_)
    refine zh 1 tabOk Tryz.func62 rfl trivial ?_
    exact zg key hC hCl ⟨⟨_, rfl, .refl _⟩, ⟨_, rfl, .refl _⟩, ⟨_, rfl, .refl _⟩, trivial⟩ ⟨.refl _, .refl _, .refl _, trivial⟩ rfl rfl (Nat.zero_le _)
  obtain ⟨p0, p1⟩ : 0 ≤ p ∧ p ≤ b.length := hok
  obtain ⟨hi, hm, hol, hcl⟩ := hr _ _ rfl
  refine z6 tabOk Tryz.func62 rfl trivial (fun h1 => ?_) (fun h1 => ?_)
  rotate_left
  ·have h1 : decide ((i : Int) < m) = false := h1
   rw [decide_eq_false_iff_not] at h1
   rw [show m.toNat - i = 0 by omega, z4v] at hcl
   have key := key ⟨by rw [← hcl]; rfl, fun l' p h => by rw [← hcl] at h; cases h; rfl⟩
   refine z6 tabOk Tryz.func62 rfl trivial (fun h => by cases h) (fun _ => ?_)
   refine zh 1 tabOk Tryz.func62 rfl trivial ?_
   exact zg key hC hCl ⟨⟨_, rfl, .refl _⟩, ⟨_, rfl, .refl _⟩, ⟨_, rfl, .refl _⟩, trivial⟩ ⟨.refl _, .refl _, .refl _, trivial⟩ rfl rfl (Nat.zero_le _)
  clear key
  have h1 : decide ((i : Int) < m) = true := h1
  rw [decide_eq_true_eq] at h1
  rw [show m.toNat - i = (m.toNat - (i + 1)) + 1 by omega, z4v] at hcl
  refine z6 tabOk Tryz.func62 rfl trivial (fun _ => ?_) (fun h => by cases h)
  have hcok := @OkS.cl b n p hn.1 p0 p1
  refine ze tabOk Tryz.func62 rfl trivial (z41 b sDel (.inr ((), p) : PR Unit) hb (by decide) ⟨p0, p1⟩) (.refl _) rfl ⟨_, rfl⟩ (by rintro r o rfl; rfl) ?_
  rintro _ o rfl
  change ASat _ _ _ _ _ ((_, .d (eAt b (stP (wordP b sDel p)))) :: _) _ _
  have hstep : stepP b n p = bnd (clR b n (b.length + 1) (isTo b p sDel) []) fun c p2 => .inr ((isAt b p sDel, c, ()), p2) := rfl
  rw [hstep] at hcl
  have hwd : (isAt b p sDel = true ∧ wordP b sDel p = .inr ((), isTo b p sDel)) ∨ (isAt b p sDel = false ∧ wordP b sDel p = .inl (p, 2) ∧ isTo b p sDel = p) := by
   unfold wordP
   cases hi2 : isAt b p sDel with
   | true => exact .inl ⟨rfl, if_pos rfl⟩
   | false => exact .inr ⟨rfl, if_neg (by decide), zh0 p0 p1 hi2⟩
  obtain ⟨t0, t1⟩ := z8s (s := sDel) p0 p1
  apply letK (p := ASat Tryz.prog 62 Tryz.f62.ntmps C _ [(1, vI .i64 n), (5, .ptr 1 0), (6, vI .i64 m), (7, .ptr 2 0), (8, .gs 3), (9, vI .i64 (i : Int)), (11, vB (isAt b p sDel))] [none, some zAt, some (bAt b (isTo b p sDel, 0)), some (gSps out)] (fun r o => zo1 b q' r))
  ·intro key2
   rcases hwd with ⟨w1, w2⟩ | ⟨w1, w2, w3⟩
   ·rw [w2]
    refine z6 tabOk Tryz.func62 rfl trivial (fun _ => ?_) (fun h => by cases h)
    refine zh 5 tabOk Tryz.func62 rfl trivial ?_
    exact zg key2 hC hCl ⟨⟨_, rfl, .refl _⟩, ⟨_, rfl, .refl _⟩, ⟨_, rfl, .refl _⟩, ⟨_, rfl, .refl _⟩, ⟨_, rfl, .refl _⟩, ⟨_, rfl, .refl _⟩, ⟨_, rfl, .of (by rw [w1]; rfl)⟩, trivial⟩ ⟨.refl _, .refl _, .refl _, trivial⟩ rfl rfl (Nat.zero_le _)
   ·rw [w2]
    refine z6 tabOk Tryz.func62 rfl trivial (fun h => by cases h) (fun _ => ?_)
    refine zh 2 tabOk Tryz.func62 rfl trivial ?_
    exact zg key2 hC hCl ⟨⟨_, rfl, .refl _⟩, ⟨_, rfl, .refl _⟩, ⟨_, rfl, .refl _⟩, ⟨_, rfl, .refl _⟩, ⟨_, rfl, .refl _⟩, ⟨_, rfl, .refl _⟩, ⟨_, rfl, .of (by rw [w1]; rfl)⟩, trivial⟩ ⟨.refl _, .of (by rw [w3]; rfl), .refl _, trivial⟩ rfl rfl (Nat.zero_le _)
  refine ze tabOk Tryz.func62 rfl trivial (zgq b n (.inr ((), isTo b p sDel) : PR Unit) hb (by omega) ⟨by omega, t1⟩) (.refl _) rfl ⟨_, rfl⟩ (by rintro r o ⟨l, rfl, -⟩; rfl) ?_
  rintro _ o ⟨l, rfl, hlv⟩
  change ASat _ _ _ _ _ ((_, tupOf [.d (eIs l), .d (eAt b (stP (clR b n (b.length + 1) (isTo b p sDel) [])))]) :: _) _ _
  change ∀ l' p2, clR b n (b.length + 1) (isTo b p sDel) [] = .inr (l', p2) → l = l' at hlv
  generalize clR b n (b.length + 1) (isTo b p sDel) [] = Q at *
  obtain ⟨st2, e1, e2, e3, e4⟩ := zpq b Q
  rw [← e1]
  refine za tabOk Tryz.func62 rfl ?nd ?_
  case nd =>
   rw [List.length_map]
   show (out.length + 1) * 32 ≤ 140737488355328 ∧ True
   exact ⟨by omega, trivial⟩
  refine zg (ih (i + 1, st2, out ++ [(isAt b p sDel, l, ())]) ⟨e2 hcok, fun e h => ?_, fun u p2 h => ?_⟩ (by simp only; omega)) hC hCl ⟨⟨_, rfl, .refl _⟩, ⟨_, rfl, .refl _⟩, ⟨_, rfl, .refl _⟩, ⟨_, rfl, .refl _⟩, ⟨_, rfl, .refl _⟩, ⟨_, rfl, .of (by rw [zb (by omega) (by omega)]; rfl)⟩, trivial⟩ ⟨.refl _, .refl _, .gL ?_, trivial⟩ rfl rfl (Nat.zero_le _)
  ·rw [← hcl, e3 e h]
   rfl
  ·obtain ⟨l2, hQ⟩ := e4 u p2 h
   have := hlv _ _ hQ
   subst this
   rw [hQ] at hcl
   exact ⟨by simp only; omega, hm, by simp only [List.length_append, List.length_singleton]; omega, hcl⟩
  ·rw [List.map_append]
   rfl
 rintro ⟨k1, k2⟩
 refine zn 3 tabOk Tryz.func62 rfl rfl trivial (by kernel_rfl) ?_
 refine zo tabOk rfl trivial ?_
 refine zy 3 rfl ?_
 exact zp tabOk Tryz.func62 rfl trivial hC hCl (r2 := tupOf [.d (eSps out), .d (eAt b (stP q'))]) (.of (by rw [k1]; rfl)) (o2 := []) trivial rfl rfl (Nat.zero_le _) ⟨out, rfl, k2⟩
def g1P (a : Ag) (b : List UInt8) : PR Int := bnd (wordP b kInv 0) fun _ p => numP b (20000 - varsA a) p
def s1P (a : Ag) (b : List UInt8) : PR Unit := bnd (g1P a b) fun _ p => wordP b [32] p
def g2P (a : Ag) (b : List UInt8) : PR Int := bnd (s1P a b) fun _ p => numP b (2 * (varsA a + valP (g1P a b)) + 1) p
def s2P (a : Ag) (b : List UInt8) : PR Unit := bnd (g2P a b) fun _ p => wordP b [10] p
def gQP (a : Ag) (b : List UInt8) : PR (List P2) := bnd (s2P a b) fun _ p => z3j b (varsA a) (valP (g1P a b)).toNat p []
theorem z3a {α β : Type} (a : α) (p : Int) (f : α → Int → PR β) : bnd (.inr (a, p)) f = f a p := rfl
theorem zcy (a p : Int) : valP (.inr (a, p)) = a := rfl
theorem zpj (a : Ag) (b : List UInt8) (F : Int → Int → List P2 → Int → PR Ct) : (bnd (wordP b kInv 0) fun _ p1 => bnd (numP b (20000 - varsA a) p1) fun m p2 => bnd (wordP b [32] p2) fun _ p3 => bnd (numP b (2 * (varsA a + m) + 1) p3) fun inv p4 => bnd (wordP b [10] p4) fun _ p5 => bnd (z3j b (varsA a) m.toNat p5 []) fun g p6 => F p3 inv g p6) = bnd (gQP a b) fun g p6 => F (stP (s1P a b)).1 (valP (g2P a b)) g p6 := by
 unfold gQP s2P g2P s1P g1P
 generalize wordP b kInv 0 = w1
 rcases w1 with e | ⟨u, p1⟩
 ·rfl
 simp only [z3a]
 generalize numP b (20000 - varsA a) p1 = w2
 rcases w2 with e | ⟨m, p2⟩
 ·rfl
 simp only [z3a, zcy]
 generalize wordP b [32] p2 = w3
 rcases w3 with e | ⟨u, p3⟩
 ·rfl
 simp only [z3a]
 generalize numP b (2 * (varsA a + m) + 1) p3 = w4
 rcases w4 with e | ⟨inv, p4⟩
 ·rfl
 simp only [z3a, zcy]
 generalize wordP b [10] p4 = w5
 rcases w5 with e | ⟨u, p5⟩
 ·rfl
 rfl
theorem zpk (a : Ag) (b : List UInt8) : bodyP a b = bnd (gQP a b) fun g p6 => if z2y { a with g := a.g ++ g } (valP (g2P a b)) = true then .inl ((stP (s1P a b)).1, 2) else restP b (varsA a + g.length + 1) g (valP (g2P a b)) p6 :=
 zpj a b fun p3 inv g p6 => if z2y { a with g := a.g ++ g } inv = true then .inl (p3, 2) else restP b (varsA a + g.length + 1) g inv p6
theorem zgf {α : Type} {b : List UInt8} {m : Int} {q : PR α} (hq : OkS b q) (hm : 0 ≤ m) : valP (bnd q fun _ p => numP b m p) ≤ m := by
 rcases q with e | ⟨x, p⟩
 ·exact hm
 ·obtain ⟨h0, h1⟩ : 0 ≤ p ∧ p ≤ b.length := hq
  show valP (numP b m p) ≤ m
  cases h : numP b m p with
  | inl e => exact hm
  | inr y => exact (zme h0 h1 (x := y.1) (e := y.2) h).2
theorem OkS.gates {b : List UInt8} {v : Int} {k : Nat} {out : List P2} {p : Int} (h0 : 0 ≤ p) (h1 : p ≤ b.length) : OkS b (z3j b v k p out) := by
 obtain ⟨q, rfl⟩ : ∃ q : Nat, p = q := ⟨p.toNat, by omega⟩
 exact (z6t k out q (by omega)).okS
theorem zmz {b : List UInt8} {v : Int} {k : Nat} {g : List P2} {p p2 : Int} (h0 : 0 ≤ p) (h1 : p ≤ b.length) (h : z3j b v k p [] = .inr (g, p2)) : g.length = k ∧ gatOk (v + 1) g = true := by
 obtain ⟨q, rfl⟩ : ∃ q : Nat, p = q := ⟨p.toNat, by omega⟩
 obtain ⟨_, _, _, _, h2, e1, e2, _, e4⟩ := (z6t k [] q (by omega)).ok _ _ h
 rw [List.nil_append] at e1
 subst e1
 exact ⟨e2, by simpa using e4⟩
structure OkB (a : Ag) (b : List UInt8) : Prop where
 w : OkS b (wordP b kInv 0)
 g1 : OkS b (g1P a b)
 s1 : OkS b (s1P a b)
 g2 : OkS b (g2P a b)
 s2 : OkS b (s2P a b)
 gQ : OkS b (gQP a b)
 m0 : 0 ≤ valP (g1P a b)
 m1 : valP (g1P a b) ≤ 20000 - varsA a
 i0 : 0 ≤ valP (g2P a b)
 i1 : valP (g2P a b) ≤ 2 * (varsA a + valP (g1P a b)) + 1
theorem okB {a : Ag} (ha : RightA a) (b : List UInt8) : OkB a b := by
 have hv := ha.v1
 have hv0 : 0 ≤ varsA a := by
  have := ha.i0
  unfold varsA
  omega
 have w : OkS b (wordP b kInv 0) := .word (Int.le_refl 0) (by omega)
 have g1 : OkS b (g1P a b) := w.bnd fun _ p _ h0 h1 => .num h0 h1
 have s1 : OkS b (s1P a b) := g1.bnd fun _ p _ h0 h1 => .word h0 h1
 have g2 : OkS b (g2P a b) := s1.bnd fun _ p _ h0 h1 => .num h0 h1
 have s2 : OkS b (s2P a b) := g2.bnd fun _ p _ h0 h1 => .word h0 h1
 have m0 : 0 ≤ valP (g1P a b) := (za4 b _ _).1
 exact ⟨w, g1, s1, g2, s2, s2.bnd fun _ p _ h0 h1 => .gates h0 h1, m0, zgf w (by omega), (za4 b _ _).1, zgf s1 (by omega)⟩
theorem zr6 {a : Ag} {b : List UInt8} (h : OkB a b) {g : List P2} {p : Int} (hq : gQP a b = .inr (g, p)) : (g.length : Int) = valP (g1P a b) ∧ gatOk (varsA a + 1) g = true := by
 have hs := h.s2
 have h0 := h.m0
 unfold gQP at hq
 rcases hs2 : s2P a b with e | ⟨u, p5⟩
 ·rw [hs2] at hq
  cases hq
 ·rw [hs2] at hq hs
  obtain ⟨i0, i1⟩ : 0 ≤ p5 ∧ p5 ≤ b.length := hs
  obtain ⟨e1, e2⟩ := zmz i0 i1 (show z3j b (varsA a) (valP (g1P a b)).toNat p5 [] = .inr (g, p) from hq)
  exact ⟨by omega, e2⟩
theorem zp7 (b : List UInt8) (v p : Int) {n1 n2 : PR Int} {w1 w2 : PR Unit} (e1 : numP b (2 * v - 1) p = n1) (e2 : (bnd n1 fun _ p => wordP b [32] p) = w1) (e3 : (bnd w1 fun _ p => numP b (valP n1) p) = n2) (e4 : (bnd n2 fun _ p => wordP b [10] p) = w2) :
  (∀ e, w2 = .inl e → gateP b v p = .inl e) ∧ (∀ u p2, w2 = .inr (u, p2) → gateP b v p = .inr ((valP n1, valP n2), p2)) := by
 unfold gateP
 rw [e1]
 rcases n1 with e | ⟨x, p1⟩
 ·subst e2; subst e3; subst e4
  exact ⟨fun e2 h => by cases h; rfl, fun u p2 h => by cases h⟩
 rw [z3a] at e2 ⊢
 rw [e2]
 rw [zcy] at *
 rcases w1 with e | ⟨u, p2⟩
 ·subst e3; subst e4
  exact ⟨fun e2 h => by cases h; rfl, fun u p2 h => by cases h⟩
 rw [z3a] at e3 ⊢
 rw [e3]
 rcases n2 with e | ⟨y, p3⟩
 ·subst e4
  exact ⟨fun e2 h => by cases h; rfl, fun u p2 h => by cases h⟩
 rw [z3a] at e4 ⊢
 rw [e4]
 rcases w2 with e | ⟨u2, p4⟩
 ·exact ⟨fun e2 h => by cases h; rfl, fun u p2 h => by cases h⟩
 ·exact ⟨fun e2 h => (by cases h), fun u p2 h => by cases h; rfl⟩
theorem zop (b : List UInt8) (N inv p6 : Int) (g : List P2) {q7 q8 q9 q10 : PR (List Sp)} (e7 : z1v b N p6 = q7) (e8 : (bnd q7 fun _ p => z1v b (2 * N) p) = q8) (e9 : (bnd q8 fun _ p => z1v b N p) = q9) (e10 : (bnd q9 fun x p => (if p < b.length then .inl (p, 2) else .inr (x, p) : PR (List Sp))) = q10) :
  (∀ e, q10 = .inl e → restP b N g inv p6 = .inl e) ∧ (∀ z p, q10 = .inr (z, p) → ∃ x p1 y p2 p3, q7 = .inr (x, p1) ∧ q8 = .inr (y, p2) ∧ q9 = .inr (z, p3) ∧ restP b N g inv p6 = .inr (⟨g, inv, x, y, z⟩, p)) := by
 unfold restP
 rw [e7]
 rcases q7 with e | ⟨x, p1⟩
 ·subst e8; subst e9; subst e10
  exact ⟨fun e2 h => by cases h; rfl, fun u p2 h => by cases h⟩
 rw [z3a] at e8 ⊢
 rw [e8]
 rcases q8 with e | ⟨y, p2⟩
 ·subst e9; subst e10
  exact ⟨fun e2 h => by cases h; rfl, fun u p2 h => by cases h⟩
 rw [z3a] at e9 ⊢
 rw [e9]
 rcases q9 with e | ⟨z, p3⟩
 ·subst e10
  exact ⟨fun e2 h => by cases h; rfl, fun u p2 h => by cases h⟩
 rw [z3a] at e10 ⊢
 subst e10
 by_cases hlt : p3 < b.length
 ·rw [if_pos hlt, if_pos hlt]
  exact ⟨fun e2 h => by cases h; rfl, fun u p2 h => by cases h⟩
 ·rw [if_neg hlt, if_neg hlt]
  exact ⟨fun e2 h => (by cases h), fun u p2 h => by cases h; exact ⟨x, p1, y, _, _, rfl, rfl, rfl, rfl⟩⟩
def InvG (b : List UInt8) (v m : Int) (Q : PR (List P2)) (s : Nat × PR Unit × List P2) : Prop :=
 OkS b s.2.1 ∧ (∀ e, s.2.1 = .inl e → Q = .inl e) ∧ ∀ u p, s.2.1 = .inr (u, p) → s.1 ≤ m.toNat ∧ s.2.2.length = s.1 ∧ z3j b v (m.toNat - s.1) p s.2.2 = Q
theorem zeq (a : Ag) (b : List UInt8) (ha : RightA a) (hb : b.length ≤ 1000000) : ACall Tryz.prog 24 [.d (eAg a), .d (eBy b)] [] (fun r o => r = znh (certP a b)) := by
 refine z8 Tryz.func24 rfl rfl (Nat.le_of_ble_eq_true rfl) fun C hC hCl hDs hGk => ?_
 unfold certP
 refine z6 tabOk Tryz.func24 rfl trivial (fun h => ?_) (fun h => ?_)
 ·have h : decide ((((b.map eU8).length : Nat) : Int) > 100000) = true := h
  rw [decide_eq_true_eq, List.length_map] at h
  rw [if_pos (by omega)]
  exact z7 tabOk Tryz.func24 rfl trivial rfl
 have h : decide ((((b.map eU8).length : Nat) : Int) > 100000) = false := h
 rw [decide_eq_false_iff_not, List.length_map] at h
 rw [if_neg (by omega), zpk]
 have hB := z6g (z13.2 ha)
 have hv1 := ha.v1
 have hv0 : 0 ≤ varsA a := by
  have := ha.i0
  unfold varsA
  omega
 have hO := okB ha b
 have hm0 := hO.m0
 have hm1 := hO.m1
 have hi0 := hO.i0
 have hi1 := hO.i1
 have hgq := fun g p => @zr6 a b hO g p
 have hgQ := hO.gQ
 have hs2 := hO.s2
 refine ze tabOk Tryz.func24 rfl trivial (z5e a hB) (.refl _) rfl ⟨_, rfl⟩ (by rintro r o rfl; rfl) ?_
 rintro _ o rfl
 have w0 := z41 b kInv (.inr ((), 0) : PR Unit) hb (by decide) ⟨Int.le_refl 0, by omega⟩
 change ACall _ _ _ _ (fun r o => r = .d (eAt b (stP (wordP b kInv 0)))) at w0
 refine ze tabOk Tryz.func24 rfl trivial w0 ⟨.of rfl, .refl _, trivial⟩ rfl ⟨_, rfl⟩ (by rintro r o rfl; rfl) ?_
 rintro _ o rfl
 have ev : IntKind.i64.wrap (20000 - varsA a) = 20000 - varsA a := zb (by omega) (by omega)
 have f1 := z4e b [32] (20000 - varsA a) _ hb (by decide) (by omega) hO.w
 change ACall _ _ _ _ (fun r o => r = tupOf [vI .i64 (valP (g1P a b)), .d (eAt b (stP (s1P a b)))]) at f1
 refine ze tabOk Tryz.func24 rfl trivial f1 ⟨.refl _, .of (congrArg (vI .i64) ev), .refl _, trivial⟩ rfl ⟨_, rfl⟩ (by rintro r o rfl; rfl) ?_
 rintro _ o rfl
 have e1 : IntKind.i64.wrap (varsA a + valP (g1P a b)) = varsA a + valP (g1P a b) := zb (by omega) (by omega)
 have e2 : IntKind.i64.wrap (2 * (varsA a + valP (g1P a b))) = 2 * (varsA a + valP (g1P a b)) := zb (by omega) (by omega)
 have e3 : IntKind.i64.wrap (2 * (varsA a + valP (g1P a b)) + 1) = 2 * (varsA a + valP (g1P a b)) + 1 := zb (by omega) (by omega)
 have f2 := z4e b [10] (2 * (varsA a + valP (g1P a b)) + 1) _ hb (by decide) (by omega) hO.s1
 change ACall _ _ _ _ (fun r o => r = tupOf [vI .i64 (valP (g2P a b)), .d (eAt b (stP (s2P a b)))]) at f2
 refine ze tabOk Tryz.func24 rfl trivial f2 ⟨.refl _, .of ?vl, .refl _, trivial⟩ rfl ⟨_, rfl⟩ (by rintro r o rfl; rfl) ?_
 case vl =>
  show vI .i64 (IntKind.i64.wrap (IntKind.i64.wrap (2 * IntKind.i64.wrap (varsA a + valP (g1P a b))) + 1)) = _
  rw [e1, e2, e3]
 rintro _ o rfl
 have hinv : InvG b (varsA a) (valP (g1P a b)) (gQP a b) (0, s2P a b, []) := by
  refine ⟨hs2, fun e h => ?_, fun u p h => ⟨Nat.zero_le _, rfl, ?_⟩⟩
  ·have h : s2P a b = .inl e := h
   unfold gQP
   rw [h]
   rfl
  ·have h : s2P a b = .inr (u, p) := h
   unfold gQP
   rw [h]
   rfl
 clear hO hs2 w0 f1 f2
 generalize gQP a b = Q at *
 generalize valP (g1P a b) = m at *
 generalize valP (g2P a b) = inv at *
 generalize s2P a b = st at *
 generalize stP (s1P a b) = s1 at *
 refine za tabOk Tryz.func24 rfl trivial ?_
 refine z5d 4 0 (e' := 98) (s := 2) (fun i => eP2 (([] : List P2).getD i (0, 0))) rfl rfl ?_
 refine zj (α := Nat × PR Unit × List P2) (fun s => [(2, .ptr 0 0), (4, .ptr 1 0), (7, vI .i64 (varsA a)), (8, vI .i64 m), (10, vI .i64 s1.1), (11, vI .i64 inv), (12, .ptr 3 0), (13, .ptr 4 0), (14, vI .i64 (s.1 : Int))]) (fun s => [some (bAg a), some zCt, none, some (bAt b (stP s.2.1)), some (.cells 31 [.gs 5, vI .i64 inv, .d nilD, .d nilD, .d nilD]), some (gP2s s.2.2)]) (InvG b (varsA a) m Q) (fun s => m.toNat - s.1) (0, st, []) hinv ?_ ?_
 ·exact fun h => zg h hC hCl ⟨⟨_, rfl, .refl _⟩, ⟨_, rfl, .refl _⟩, ⟨_, rfl, .refl _⟩, ⟨_, rfl, .refl _⟩, ⟨_, rfl, .refl _⟩, ⟨_, rfl, .refl _⟩, ⟨_, rfl, .refl _⟩, ⟨_, rfl, .refl _⟩, ⟨_, rfl, .refl _⟩, trivial⟩ ⟨.refl _, .refl _, .refl _, .refl _, .gL rfl, trivial⟩ rfl rfl (Nat.zero_le _)
 rintro ⟨i, st, g⟩ ⟨hok, hl, hr⟩ ih
 simp only at hok hl hr ih ⊢
 apply letK (p := (stP st = stP Q ∧ ∀ g' p, Q = .inr (g', p) → g = g') → ASat Tryz.prog 24 Tryz.f24.ntmps C _ [(2, .ptr 0 0), (4, .ptr 1 0), (7, vI .i64 (varsA a)), (8, vI .i64 m), (10, vI .i64 s1.1), (11, vI .i64 inv), (12, .ptr 3 0), (13, .ptr 4 0)] [some (bAg a), some zCt, none, some (bAt b (stP st)), some (.cells 31 [.gs 5, vI .i64 inv, .d nilD, .d nilD, .d nilD]), some (gP2s g)] _)
 ·intro key
  rcases st with e | ⟨⟨⟩, p⟩
  ·have he : e.2 ≠ 0 := hok
   have key := key ⟨by rw [hl e rfl]; rfl, fun l' p h => by rw [hl e rfl] at h; cases h⟩
   refine z6 tabOk Tryz.func24 rfl trivial (fun h1 => ?_) (fun h1 => ?_)
   ·refine z6 tabOk Tryz.func24 rfl trivial (fun h2 => ?_) (fun h2 => ?_)
    ·have h2 : (e.2 == 0) = true := h2
     rw [beq_iff_eq] at h2
     exact absurd h2 he
    refine zh 1 tabOk Tryz.func24 rfl trivial ?_
    exact zg key hC hCl ⟨⟨_, rfl, .refl _⟩, ⟨_, rfl, .refl _⟩, ⟨_, rfl, .refl _⟩, ⟨_, rfl, .refl _⟩, ⟨_, rfl, .refl _⟩, ⟨_, rfl, .refl _⟩, ⟨_, rfl, .refl _⟩, ⟨_, rfl, .refl _⟩, trivial⟩ ⟨.refl _, .refl _, .refl _, .refl _, .refl _, trivial⟩ rfl rfl (Nat.zero_le _)
   ·refine z6 tabOk Tryz.func24 rfl trivial (fun h => by cases h) (fun _ => ?_)
    refine zh 1 tabOk Tryz.func24 rfl trivial ?_
    exact zg key hC hCl ⟨⟨_, rfl, .refl _⟩, ⟨_, rfl, .refl _⟩, ⟨_, rfl, .refl _⟩, ⟨_, rfl, .refl _⟩, ⟨_, rfl, .refl _⟩, ⟨_, rfl, .refl _⟩, ⟨_, rfl, .refl _⟩, ⟨_, rfl, .refl _⟩, trivial⟩ ⟨.refl _, .refl _, .refl _, .refl _, .refl _, trivial⟩ rfl rfl (Nat.zero_le _)
  obtain ⟨p0, p1⟩ : 0 ≤ p ∧ p ≤ b.length := hok
  obtain ⟨hi, hol, hcl⟩ := hr _ _ rfl
  refine z6 tabOk Tryz.func24 rfl trivial (fun h1 => ?_) (fun h1 => ?_)
  rotate_left
  ·have h1 : decide ((i : Int) < m) = false := h1
   rw [decide_eq_false_iff_not] at h1
   rw [show m.toNat - i = 0 by omega, z3j] at hcl
   have key := key ⟨by rw [← hcl]; rfl, fun l' p h => by rw [← hcl] at h; cases h; rfl⟩
   refine z6 tabOk Tryz.func24 rfl trivial (fun h => by cases h) (fun _ => ?_)
   refine zh 1 tabOk Tryz.func24 rfl trivial ?_
   exact zg key hC hCl ⟨⟨_, rfl, .refl _⟩, ⟨_, rfl, .refl _⟩, ⟨_, rfl, .refl _⟩, ⟨_, rfl, .refl _⟩, ⟨_, rfl, .refl _⟩, ⟨_, rfl, .refl _⟩, ⟨_, rfl, .refl _⟩, ⟨_, rfl, .refl _⟩, trivial⟩ ⟨.refl _, .refl _, .refl _, .refl _, .refl _, trivial⟩ rfl rfl (Nat.zero_le _)
  clear key
  have h1 : decide ((i : Int) < m) = true := h1
  rw [decide_eq_true_eq] at h1
  rw [show m.toNat - i = (m.toNat - (i + 1)) + 1 by omega, z3j, show varsA a + 1 + (g.length : Int) = varsA a + 1 + (i : Int) by omega] at hcl
  refine z6 tabOk Tryz.func24 rfl trivial (fun _ => ?_) (fun h => by cases h)
  have g1 : IntKind.i64.wrap (varsA a + 1) = varsA a + 1 := zb (by omega) (by omega)
  have g2 : IntKind.i64.wrap (varsA a + 1 + (i : Int)) = varsA a + 1 + (i : Int) := zb (by omega) (by omega)
  have g3 : IntKind.i64.wrap (2 * (varsA a + 1 + (i : Int))) = 2 * (varsA a + 1 + (i : Int)) := zb (by omega) (by omega)
  have g4 : IntKind.i64.wrap (2 * (varsA a + 1 + (i : Int)) - 1) = 2 * (varsA a + 1 + (i : Int)) - 1 := zb (by omega) (by omega)
  have hq0 : OkS b (.inr ((), p) : PR Unit) := ⟨p0, p1⟩
  have f1 := z4e b [32] (2 * (varsA a + 1 + (i : Int)) - 1) (.inr ((), p) : PR Unit) hb (by decide) (by omega) hq0
  have hv := za4 b (2 * (varsA a + 1 + (i : Int)) - 1) (.inr ((), p) : PR Unit)
  have hvl := zgf (b := b) (m := 2 * (varsA a + 1 + (i : Int)) - 1) hq0 (by omega)
  have hn1 : OkS b (numP b (2 * (varsA a + 1 + (i : Int)) - 1) p) := .num p0 p1
  rw [z3a] at f1 hv hvl
  have hrel := @zp7 b (varsA a + 1 + (i : Int)) p
  generalize hN1 : numP b (2 * (varsA a + 1 + (i : Int)) - 1) p = n1 at *
  have hw1 : OkS b (bnd n1 fun _ p => wordP b [32] p) := hn1.bnd fun _ p _ h0 h1 => .word h0 h1
  refine ze tabOk Tryz.func24 rfl trivial f1 ⟨.refl _, .of ?vl2, .refl _, trivial⟩ rfl ⟨_, rfl⟩ (by rintro r o rfl; rfl) ?_
  case vl2 =>
   show vI .i64 (IntKind.i64.wrap (IntKind.i64.wrap (2 * IntKind.i64.wrap (IntKind.i64.wrap (varsA a + 1) + (i : Int))) - 1)) = _
   rw [g1, g2, g3, g4]
  rintro _ o rfl
  generalize hW1 : (bnd n1 fun _ p => wordP b [32] p) = w1 at *
  have f2 := z4e b [10] (valP n1) w1 hb (by decide) (by omega) hw1
  have hn2 : OkS b (bnd w1 fun _ p => numP b (valP n1) p) := hw1.bnd fun _ p _ h0 h1 => .num h0 h1
  have hv2 := za4 b (valP n1) w1
  refine ze tabOk Tryz.func24 rfl trivial f2 (.refl _) rfl ⟨_, rfl⟩ (by rintro r o rfl; rfl) ?_
  rintro _ o rfl
  generalize hN2 : (bnd w1 fun _ p => numP b (valP n1) p) = n2 at *
  have hw2 : OkS b (bnd n2 fun _ p => wordP b [10] p) := hn2.bnd fun _ p _ h0 h1 => .word h0 h1
  obtain ⟨r1, r2⟩ := hrel rfl hW1 hN2 rfl
  generalize (bnd n2 fun _ p => wordP b [10] p) = w2 at *
  generalize valP n1 = x at *
  generalize valP n2 = y at *
  refine za tabOk Tryz.func24 rfl ?nd ?_
  case nd =>
   rw [List.length_map]
   show (g.length + 1) * 16 ≤ 140737488355328 ∧ True
   exact ⟨by omega, trivial⟩
  refine zg (ih (i + 1, w2, g ++ [(x, y)]) ⟨hw2, fun e h => ?_, fun u p2 h => ?_⟩ (by simp only; omega)) hC hCl ⟨⟨_, rfl, .refl _⟩, ⟨_, rfl, .refl _⟩, ⟨_, rfl, .refl _⟩, ⟨_, rfl, .refl _⟩, ⟨_, rfl, .refl _⟩, ⟨_, rfl, .refl _⟩, ⟨_, rfl, .refl _⟩, ⟨_, rfl, .refl _⟩, ⟨_, rfl, .of (by rw [zb (by omega) (by omega)]; rfl)⟩, trivial⟩ ⟨.refl _, .refl _, .refl _, .refl _, .gL ?_, trivial⟩ rfl rfl (Nat.zero_le _)
  ·rw [← hcl, r1 e h]
   rfl
  ·rw [r2 u p2 h, z3a] at hcl
   exact ⟨by simp only; omega, by simp only [List.length_append, List.length_singleton]; omega, hcl⟩
  ·rw [List.map_append]
   rfl
 rintro ⟨k1, k2⟩
 clear ih hl hr hok hinv
 rw [k1]
 refine zy 5 rfl ?_
 rcases Q with e | ⟨g', p6⟩
 ·have he : e.2 ≠ 0 := hgQ
  refine z6 tabOk Tryz.func24 rfl trivial (fun h1 => ?_) (fun h1 => ?_)
  rotate_left
  ·have h1 : (e.2 != 0) = false := h1
   rw [bne_eq_false_iff_eq] at h1
   exact absurd h1 he
  refine z8k 7 5 1 (c := none) (a := .dead) (o2 := zCt) tabOk Tryz.func24 rfl rfl trivial (by kernel_rfl) (by kernel_rfl) rfl rfl (fun _ => zo tabOk rfl trivial rfl) rfl rfl rfl rfl trivial ?_
  exact z7 tabOk Tryz.func24 rfl trivial rfl
 obtain rfl := k2 g' p6 rfl
 obtain ⟨p60, p61⟩ : 0 ≤ p6 ∧ p6 ≤ b.length := hgQ
 obtain ⟨hgl, hgo⟩ := hgq g p6 rfl
 refine z6 tabOk Tryz.func24 rfl trivial (fun h => by cases h) (fun _ => ?_)
 have hgr := z5u (a := a) (c := ⟨g, inv, [], [], []⟩) ha (by simp only; omega) hgo
 have hvg : varsA (zu a ⟨g, inv, [], [], []⟩) = varsA a + g.length := z2i _ _
 show ASat _ _ _ _ _ _ _ (fun r o => r = znh (if z2y (zu a ⟨g, inv, [], [], []⟩) inv = true then .inl (s1.1, 2) else restP b (varsA a + g.length + 1) g inv p6))
 refine ze tabOk Tryz.func24 rfl trivial (zgs a ⟨g, inv, [], [], []⟩ (by have := ha.i0; unfold varsA at hv1; omega) (by simp only; omega)) ⟨.refl _, VLe.dag ⟨.refl _, .refl _, dnil2, dnil2, dnil2, trivial⟩, trivial⟩ rfl ⟨_, rfl⟩ (by rintro r o rfl; rfl) ?_
 rintro _ o rfl
 have hBG := z6g (z13.2 hgr)
 have hgat := hgr.gat
 generalize zu a ⟨g, inv, [], [], []⟩ = G at *
 refine ze tabOk Tryz.func24 rfl trivial (zgr G inv hBG hgat ⟨hi0, by rw [hvg]; omega⟩) (.refl _) rfl ⟨_, rfl⟩ (by rintro r o rfl; rfl) ?_
 rintro _ o rfl
 cases hH : z2y G inv with
 | true =>
  rw [if_pos rfl]
  refine z6 tabOk Tryz.func24 rfl trivial (fun _ => ?_) (fun h => by cases h)
  exact z7 tabOk Tryz.func24 rfl trivial rfl
 | false =>
 rw [if_neg (by decide)]
 refine z6 tabOk Tryz.func24 rfl trivial (fun h => by cases h) (fun _ => ?_)
 have n1 : IntKind.i64.wrap (varsA a + m) = varsA a + m := zb (by omega) (by omega)
 have n2 : IntKind.i64.wrap (varsA a + m + 1) = varsA a + m + 1 := zb (by omega) (by omega)
 have n3 : IntKind.i64.wrap (IntKind.i64.wrap (varsA a + m) + 1) = varsA a + g.length + 1 := by rw [n1, n2]; omega
 have hN : 0 ≤ varsA a + g.length + 1 ∧ varsA a + g.length + 1 ≤ 20001 := by omega
 generalize varsA a + g.length + 1 = N at *
 have n4 : IntKind.i64.wrap (2 * N) = 2 * N := zb (by omega) (by omega)
 have hN1 : 0 ≤ N ∧ N ≤ 100000 := by omega
 have hN2 : 0 ≤ 2 * N ∧ 2 * N ≤ 100000 := by omega
 have o6 : OkS b (.inr ((), p6) : PR Unit) := ⟨p60, p61⟩
 have hst7 := z7e b N (.inr ((), p6) : PR Unit) hb hN1 o6
 rw [z3a] at hst7
 have o7 : OkS b (z1v b N p6) := .proof hN1 p60 p61
 have hrel := @zop b N inv p6 g
 generalize hQ7 : z1v b N p6 = q7 at *
 have hst8 := z7e b (2 * N) q7 hb hN2 o7
 have o8 : OkS b (bnd q7 fun _ p => z1v b (2 * N) p) := o7.bnd fun _ p _ h0 h1 => .proof hN2 h0 h1
 refine ze tabOk Tryz.func24 rfl trivial hst7 ⟨.refl _, .of (congrArg (vI .i64) n3), trivial⟩ rfl ⟨_, rfl⟩ (by rintro r o ⟨l, rfl, -⟩; rfl) ?_
 rintro _ o ⟨x, rfl, hx⟩
 generalize hQ8 : (bnd q7 fun _ p => z1v b (2 * N) p) = q8 at *
 have hst9 := z7e b N q8 hb hN1 o8
 have o9 : OkS b (bnd q8 fun _ p => z1v b N p) := o8.bnd fun _ p _ h0 h1 => .proof hN1 h0 h1
 refine ze tabOk Tryz.func24 rfl trivial hst8 ⟨.refl _, .of ?vl8, trivial⟩ rfl ⟨_, rfl⟩ (by rintro r o ⟨l, rfl, -⟩; rfl) ?_
 case vl8 =>
  show vI .i64 (IntKind.i64.wrap (2 * IntKind.i64.wrap (IntKind.i64.wrap (varsA a + m) + 1))) = _
  rw [n3, n4]
 rintro _ o ⟨y, rfl, hy⟩
 generalize hQ9 : (bnd q8 fun _ p => z1v b N p) = q9 at *
 refine ze tabOk Tryz.func24 rfl trivial hst9 ⟨.refl _, .of (congrArg (vI .i64) n3), trivial⟩ rfl ⟨_, rfl⟩ (by rintro r o ⟨l, rfl, -⟩; rfl) ?_
 rintro _ o ⟨z, rfl, hz⟩
 have hend := zlr b q9 hb o9
 generalize hQ10 : (bnd q9 fun x p => (if p < b.length then .inl (p, 2) else .inr (x, p) : PR (List Sp))) = q10 at *
 have o10 : OkS b q10 := by
  rw [← hQ10]
  refine o9.bnd fun x p _ h0 h1 => ?_
  split
  ·show (2 : Int) ≠ 0
   decide
  ·exact ⟨h0, h1⟩
 refine ze tabOk Tryz.func24 rfl trivial hend (.refl _) rfl ⟨_, rfl⟩ (by rintro r o rfl; rfl) ?_
 rintro _ o rfl
 obtain ⟨r1, r2⟩ := hrel rfl hQ8 hQ9 hQ10
 rcases q10 with e | ⟨z', p10⟩
 ·have he : e.2 ≠ 0 := o10
  rw [r1 e rfl]
  refine z6 tabOk Tryz.func24 rfl trivial (fun h1 => ?_) (fun h1 => ?_)
  rotate_left
  ·have h1 : (e.2 != 0) = false := h1
   rw [bne_eq_false_iff_eq] at h1
   exact absurd h1 he
  refine z8k 7 5 1 (c := none) (a := .dead) (o2 := zCt) tabOk Tryz.func24 rfl rfl trivial (by kernel_rfl) (by kernel_rfl) rfl rfl (fun _ => zo tabOk rfl trivial rfl) rfl rfl rfl rfl trivial ?_
  exact z7 tabOk Tryz.func24 rfl trivial rfl
 obtain ⟨x', p1, y', p2, p3, c1, c2, c3, c4⟩ := r2 z' p10 rfl
 obtain rfl := hx _ _ c1
 obtain rfl := hy _ _ c2
 obtain rfl := hz _ _ c3
 rw [c4]
 refine z6 tabOk Tryz.func24 rfl trivial (fun h => by cases h) (fun _ => ?_)
 refine z8k 4 3 1 (c := none) (a := .dead) (o2 := .cells 31 [.d (eP2s g), .d (eI inv), .d (eSps x), .d (eSps y), .d (eSps z)]) tabOk Tryz.func24 rfl rfl trivial (by kernel_rfl) (by kernel_rfl) rfl rfl (fun _ => zo tabOk rfl trivial rfl) rfl rfl rfl rfl trivial ?_
 exact z7 tabOk Tryz.func24 rfl trivial rfl
theorem zgo (a : Ag) (b : List UInt8) (ha : RightA a) (hb : b.length ≤ 1000000) : ACall Tryz.prog 24 [.d (eAg a), .d (eBy b)] [] (fun r o => r = cparA (certP a b)) := by
 refine (zeq a b ha hb).less ?_
 rintro r o rfl
 refine ⟨_, [], rfl, ?_, trivial, ?_, rfl, Nat.le_refl _⟩
 ·cases certP a b with
  | inl x => exact .tp ⟨.dag ⟨dnil2, .refl _, dnil2, dnil2, dnil2, trivial⟩, .refl _, .refl _, trivial⟩
  | inr x => exact .refl _
 ·cases certP a b <;> rfl
end Go.Proofs.YtkemmijjpclckaaGreatDoor
namespace Go.Proofs.YtkemmijjpclckaaGreatDoor
open Go Ab Go.RowKit Go.Lib
theorem zpf {a : Ag} (ra : RightA a) (b : List UInt8) : ∃ (c : Ct) (p e : Int), cparA (certP a b) = tupOf [.d (eCt c), vI .i64 p, vI .i64 e] ∧ c.g.length ≤ 1000000 := by
 have hg := zns (a := a) ra (b := b)
 cases h : certP a b with
 | inl x => exact ⟨_, _, _, rfl, Nat.zero_le _⟩
 | inr x =>
  obtain ⟨c, p⟩ := x
  have h2 := (z40.1 (hg.1 c p h).2.2).1
  exact ⟨c, p, 0, rfl, by omega⟩
theorem CertParses_law (a : Ag) (b : List UInt8) (hm : AgM a) (hb : b.length ≤ maxLen) : ACall Tryz.prog 4 [.d (eAg a), .d (eBy b)] [] (fun r o => r = vB true) := by
 refine z8 Tryz.func4 rfl rfl (Nat.le_of_ble_eq_true rfl) fun C hC hCl hDs hGk => ?_
 refine ze tabOk Tryz.func4 rfl trivial zhn (.refl _) rfl ⟨_, rfl⟩ (by rintro r o rfl; rfl) ?_
 rintro _ o rfl
 refine ze tabOk Tryz.func4 rfl trivial (zjp a hm) (.refl _) rfl ⟨_, rfl⟩ (by rintro r o ⟨b, rfl, -⟩; rfl) ?_
 rintro _ o ⟨m, rfl, h1⟩
 cases m with
 | false =>
  repeat refine z6 tabOk Tryz.func4 rfl trivial (fun _ => ?_) (fun h => by cases h)
  exact z7 tabOk Tryz.func4 rfl trivial rfl
 | true =>
 obtain ⟨sa, ra⟩ := h1 rfl
 refine z6 tabOk Tryz.func4 rfl trivial (fun h => by cases h) (fun _ => ?_)
 refine z6 tabOk Tryz.func4 rfl trivial (fun h2 => ?_) (fun h2 => ?_)
 ·exact z7 tabOk Tryz.func4 rfl trivial rfl
 have h2 : decide ((((b.map eU8).length : Nat) : Int) > 2000) = false := h2
 rw [decide_eq_false_iff_not, List.length_map] at h2
 have c1 := zbm a b ra (by omega)
 have c2 := zgo a b ra (by omega)
 obtain ⟨c, p, e, hc, hl⟩ := zpf ra b
 rw [hc] at c1 c2
 have c3 := zgn c c hl
 rw [zli.2 rfl] at c3
 refine ze tabOk Tryz.func4 rfl trivial c1 (.refl _) rfl ⟨_, rfl⟩ (by rintro r o rfl; rfl) ?_
 rintro _ o rfl
 refine ze tabOk Tryz.func4 rfl trivial c2 (.refl _) rfl ⟨_, rfl⟩ (by rintro r o rfl; rfl) ?_
 rintro _ o rfl
 refine z6 tabOk Tryz.func4 rfl trivial (fun _ => ?_) (fun h => by cases h)
 refine ze tabOk Tryz.func4 rfl trivial c3 (.refl _) rfl ⟨_, rfl⟩ (by rintro r o rfl; rfl) ?_
 rintro _ o rfl
 refine z6 tabOk Tryz.func4 rfl trivial (fun _ => ?_) (fun h => by cases h)
 refine z6 tabOk Tryz.func4 rfl trivial (fun h3 => ?_) (fun h3 => ?_)
 ·refine z7 tabOk Tryz.func4 rfl trivial ?_
  show vB (e == e) = _
  rw [beq_self_eq_true]
 ·have h3 : (p == p) = false := h3
  rw [beq_self_eq_true] at h3
  cases h3
end Go.Proofs.YtkemmijjpclckaaGreatDoor
namespace Go.Proofs.YtkemmijjpclckaaGreatDoor
open Go Ab
def Abs1 (x : UInt8) (b : Bool) : Prop := (x = 0 → b = false) ∧ (x = 1 → b = true)
structure AbsL (V : List UInt8) (W : List Bool) : Prop where
 len : V.length = W.length
 get : ∀ j, j < V.length → Abs1 (V.getD j 0) (W.getD j false)
end Go.Proofs.YtkemmijjpclckaaGreatDoor
namespace Go.Proofs.YtkemmijjpclckaaGreatDoor
open Go Ab Go.RowKit
def I64 (l : Int) : Prop := -9223372036854775808 ≤ l ∧ l ≤ 9223372036854775807
structure AgW (a : Ag) : Prop where
 b : AgB a
 l : ∀ p ∈ a.l, I64 p.1
 g : ∀ p ∈ a.g, I64 p.1 ∧ I64 p.2
 outs : ∀ x ∈ a.outs, I64 x
 bad : ∀ x ∈ a.bad, I64 x
 con : ∀ x ∈ a.con, I64 x
end Go.Proofs.YtkemmijjpclckaaGreatDoor
namespace Ab
open Go
variable [Draws]
def zi6 (l : List Nat) : Bool := l.all fun n => decide (n ≤ reachBytes)
structure ReadsS (P : Program) (t : TypeId) {α : Type} (enc : α → D) (Q : α → Prop) : Prop where
 len : ∀ a, (enc a).cells.length = P.cellsOf t
 rd : ∀ {H : Type} (eH : TypeId × Value → H) (w : World) (fuel : Nat) (cs : List Value) (x : DataW H × List MemPlace) (ok : Nat → Prop), (∀ b, ok b) → DataW.trod eH P w 0 (fun _ => true) true fuel t cs = some x → zi6 (x.1.weights P t) = true → ∃ a, Q a ∧ RelL w ok (enc a).cells cs
theorem Reads.toS {P : Program} {t : TypeId} {α : Type} {enc : α → D} {Q : α → Prop} (R : Reads P t enc Q) : ReadsS P t enc Q where
 len := R.len
 rd eH w fuel cs x ok hok h _ := R.rd eH w fuel cs x ok hok h
theorem Reads.via {P : Program} {t : TypeId} {α β : Type} {enc : α → D} {Q : α → Prop} {enc' : β → D} {Q' : β → Prop} (R : Reads P t enc Q) (g : α → β) (hg : ∀ a, Q a → Q' (g a)) (he : ∀ a, Q a → enc' (g a) = enc a) (hl : ∀ b, (enc' b).cells.length = P.cellsOf t) : Reads P t enc' Q' where
 len := hl
 rd eH w fuel cs x ok hok h := by
  obtain ⟨a, qa, ra⟩ := R.rd eH w fuel cs x ok hok h
  exact ⟨g a, hg a qa, by rw [he a qa]; exact ra⟩
theorem ReadsS.via {P : Program} {t : TypeId} {α β : Type} {enc : α → D} {Q : α → Prop} {enc' : β → D} {Q' : β → Prop} (R : ReadsS P t enc Q) (g : α → β) (hg : ∀ a, Q a → Q' (g a)) (he : ∀ a, Q a → enc' (g a) = enc a) (hl : ∀ b, (enc' b).cells.length = P.cellsOf t) : ReadsS P t enc' Q' where
 len := hl
 rd eH w fuel cs x ok hok h hw := by
  obtain ⟨a, qa, ra⟩ := R.rd eH w fuel cs x ok hok h hw
  exact ⟨g a, hg a qa, by rw [he a qa]; exact ra⟩
structure ReadsFS (P : Program) (fs : List Field) (o tot : Nat) {α : Type} (enc : α → List D) (Q : α → Prop) : Prop where
 len : ∀ a, (enc a).length = tot
 rd : ∀ {H : Type} (eH : TypeId × Value → H) (w : World) (fuel : Nat) (cs : List Value) (ok : Nat → Prop), (∀ b, ok b) → (∀ f ∈ fs, ∃ x, DataW.trod eH P w 0 (fun _ => true) true fuel f.type ((cs.drop f.offset).take (P.cellsOf f.type)) = some x ∧ zi6 (x.1.weights P f.type) = true) → ∃ a, Q a ∧ RelL w ok (enc a) ((cs.drop o).take tot)
theorem ReadsS.argS {P : Program} {t : TypeId} {α : Type} {enc : α → D} {Q : α → Prop} (R : ReadsS P t enc Q) {H : Type} {eH : TypeId × Value → H} {W : World} {cs : Array Value} {d : DataW H} {p : List MemPlace} (h : DataW.Trod eH P W 0 (fun _ => true) true t (.agg cs) d p) (hw : zi6 (d.weights P t) = true) (ok : Nat → Prop) (hok : ∀ b, ok b) :
  ∃ a, Q a ∧ RelL W ok (enc a).cells cs.toList := by
 obtain ⟨fuel, hf⟩ := h
 exact R.rd eH W fuel cs.toList _ ok hok hf hw
theorem ReadsS.arg {P : Program} {t : TypeId} {α : Type} {enc : α → D} {Q : α → Prop} (R : ReadsS P t enc Q) {H : Type} {eH : TypeId × Value → H} {W : World} {v : Value} {d : DataW H} {p : List MemPlace} (h : DataW.Trod eH P W 0 (fun _ => true) true t v d p) (hw : zi6 (d.weights P t) = true) (hna : ∀ cs, v ≠ .agg cs) (ok : Nat → Prop) (hok : ∀ b, ok b) :
  ∃ a, Q a ∧ RelL W ok (enc a).cells [v] := by
 obtain ⟨fuel, hf⟩ := h
 have : v.cells.toList = [v] := by
  cases v <;> first | rfl | exact absurd rfl (hna _)
 rw [this] at hf
 exact R.rd eH W fuel [v] _ ok hok hf hw
end Ab
