/- A part of the proof. -/
import Derived.Test.YtkemmijjpclckaaGreatDoorP6
import Derived.Below
set_option linter.unusedVariables false
set_option linter.unusedSimpArgs false
set_option linter.unusedSectionVars false
set_option maxRecDepth 100000
set_option maxHeartbeats 8000000
namespace Ab
open Go Go.RowKit
variable [Draws]
theorem z3n {P : Program} [Globals P] (hdr : ∀ w w' : World, dr w ≤ dr w') {f : FuncId} {az : List AV} {vs : List Value} {v : Value} (hfl : flat v = true) (haz : ∀ w ok π us, RelVs w ok π az us → us = vs) (eg : ∀ args w, (callFunc f args).run P w = .ok (.enter f args) w)
  (h : ∀ w, Globals.tb P w → Calls P f vs.toArray w fun e w' => e = .returned v ∧ Below w.heap.size w w') : ACall P f az [] (fun r o => r = .d (.v v)) := by
 intro X π w us g m hv
 obtain rfl := haz _ _ _ _ hv
 refine .inl ⟨eg _ _, (h w g.tb).mono ?_⟩
 rintro e w' ⟨rfl, b⟩
 have t := z2l m b.os b.tape ⟨b.output, hdr _ _⟩ b.size b.block
 exact ⟨v, _, [], π, rfl, rfl, t.mem, .d (.v hfl), t.hist⟩
end Ab
namespace Go.Proofs.YtkemmijjpclckaaGreatDoor
open Go Ab Go.RowKit
theorem zko (w : World) (k : Nat) (os : Array Obj) : Below w.heap.size w (Go.Sort.grow (w.drewN k) os) := by
 refine ⟨rfl, rfl, rfl, by simp [Go.Sort.grow, World.drewN], fun b hb => ?_⟩
 show (w.heap ++ os)[b]? = _
 rw [Array.getElem?_append_left hb]
@[reducible] def tItoa (n : Int) : List UInt8 := Go.Lib.itoa n
@[reducible] def vTx (l : List UInt8) : AV := .d (.v (.string ⟨l.toArray⟩))
theorem zbw (n : Int) (h0 : -9223372036854775808 ≤ n) (h1 : n ≤ 9223372036854775807) : ACall Tryz.prog 130 [vI .i64 n, vI .i64 10] [] (fun r o => r = vTx (tItoa n)) :=
 z3n (fun _ _ => Nat.le_refl _) rfl (vs := [.int .i64 n, .int .i64 10]) (fun w ok π us h => by
  cases h with | cons h1 h => cases h with | cons h2 h => cases h with | nil =>
  cases h1 with | d h1 => cases h1 with | v _ => cases h2 with | d h2 => cases h2 with | v _ => rfl) (fun args w => zf Tryz.func130 rfl rfl args w) fun w ht => (Any.internal_strconv_FormatInt_10 Tryz.itoaL n h0 h1 w (tb_pow ht)).mono fun e w' ⟨he, k, os, hw⟩ => ⟨he, hw ▸ zko w k os⟩
theorem zjz (n : Int) (h0 : -9223372036854775808 ≤ n) (h1 : n ≤ 9223372036854775807) : ACall Tryz.prog 87 [vI .i64 n] [] (fun r o => r = vTx (tItoa n)) := by
 refine z8 Tryz.func87 rfl rfl (Nat.le_of_ble_eq_true rfl) fun C hC hCl hDs hGk => ?_
 refine ze tabOk Tryz.func87 rfl trivial (zbw n h0 h1) (.refl _) rfl ⟨_, rfl⟩ (by rintro r o rfl; rfl) ?_
 rintro _ o rfl
 exact z7 tabOk Tryz.func87 rfl trivial rfl
theorem z3q (n : Int) (h0 : -9223372036854775808 ≤ n) (h1 : n ≤ 9223372036854775807) : ACall Tryz.prog 39 [vI .i64 n] [] (fun r o => r = vTx (tItoa n)) := by
 refine z8 Tryz.func39 rfl rfl (Nat.le_of_ble_eq_true rfl) fun C hC hCl hDs hGk => ?_
 refine ze tabOk Tryz.func39 rfl trivial (zjz n h0 h1) (.refl _) rfl ⟨_, rfl⟩ (by rintro r o rfl; rfl) ?_
 rintro _ o rfl
 exact z7 tabOk Tryz.func39 rfl trivial rfl
end Go.Proofs.YtkemmijjpclckaaGreatDoor
namespace Ab
open Go
variable [Draws]
section
variable {P : Program} [Globals P] {T : Tab} {f : FuncId} {fn : Func} {n : Nat} {C : Cx} {R R1 : AV → List (Option AObj) → Prop} {todo todo' : List Item} {env env' : Env} {objs objs' : List (Option AObj)} {nd : Prop}
theorem zee {ops : Array Oper} {i : Nat} {r : List Nat} {k : List Item} {o : Oper} {e1 e2 : Env} {t ty e : TypeId} {xo : Operand} {rr : TRow} {s : Nat} {xs : List D} {rd : Nat → D} (hT : TabOk P T)
  (ho : ops[i]? = some o) (hw : wantE ops env o = .yes) (hop : o.op = .binOp .eql t xo (.const (.slice none 0 0)) ty) (hx : opnd env xo = some (.d (.sl s xs rd))) (h1 : tlook T t = some rr) (h2 : rr.kd = .slice e)
  (hput1 : putE n o.dst (.lit true) env = some e1) (hput2 : putE n o.dst (.lit false) env = some e2)
  (k1 : xs = [] → ASat P f n C (.inRegion ops r :: k) e1 objs R) (k2 : ASat P f n C (.inRegion ops r :: k) e2 objs R) : ASat P f n C (.inRegion ops (i :: r) :: k) env objs R := by
 intro π w tmps hn hm hh he
 have hv := zk (ds := []) he hx
 have ht : P.underlying t = some (.slice e) := by
  have := zmv hT h1
  rwa [h2] at this
 have hrun : ∀ {v : Value} {b : Bool}, Act.eval ⟨tmps, []⟩ xo = v → (∀ cs, v ≠ .agg cs) → z9n v → (Op.equal t v (.slice none 0 0)).run P w = .ok b w → (execOp (Act.eval ⟨tmps, []⟩) o).run P w = .ok (.value (.bool b)) w := by
  intro v b h3 h4 h5 h6
  unfold execOp
  simp only [hop, h3]
  have hg := zb3 (P := P) (op := .eql) (t := t) (xo := xo) (yo := .const (.slice none 0 0)) (a := v) (b := .slice none 0 0) (by simp [isC]) h4 w
  have h7 : Act.eval ⟨tmps, []⟩ (.const (.slice none 0 0)) = .slice none 0 0 := rfl
  rw [h7]
  simp only [Sem.run_bind, hg, Result.andThen_ok, zg6 h5, h6, Sem.run_pure]
 generalize hev : Act.eval ⟨tmps, []⟩ xo = v at hv
 cases hv with
 | d hv =>
  cases hv with
  | nil hb =>
   rename_i c A
   cases A with
   | none =>
    obtain ⟨p1, p2⟩ := z1s he hn hput1 (.lit (w := w) (ok := okOf C.X π objs) (π := π))
    refine .opVal ho ((zw he).1 hw) (hrun hev (by simp) trivial (z4l fun d => ?_)) (k1 rfl π w _ p2 hm hh p1)
    simp [Op.equalIn, run_underlying ht]
   | some a =>
    obtain ⟨p1, p2⟩ := z1s he hn hput2 (.lit (w := w) (ok := okOf C.X π objs) (π := π))
    refine .opVal ho ((zw he).1 hw) (hrun hev (by simp) trivial (z4l fun d => ?_)) (k2 π w _ p2 hm hh p1)
    simp [Op.equalIn, run_underlying ht]
  | sl a1 a2 a3 a4 a5 =>
   obtain ⟨p1, p2⟩ := z1s he hn hput2 (.lit (w := w) (ok := okOf C.X π objs) (π := π))
   refine .opVal ho ((zw he).1 hw) (hrun hev (by simp) trivial (z4l fun d => ?_)) (k2 π w _ p2 hm hh p1)
   simp [Op.equalIn, run_underlying ht]
theorem zi3 (t i : Nat) (hl : look env t = some (.gs i)) (k : ∀ v, flat v = true → ASat P f n C todo ((t, .d (.v v)) :: env) (objs ++ [some (.hold (.gs i) v)]) R) : ASat P f n C todo env objs R := by
 intro π w tmps hn hm hh he
 have hv := he t _ hl
 have hfl : flat (tmps.getD t undef) = true := by
  revert hv
  generalize tmps.getD t undef = v
  intro hv
  cases hv
  rfl
 have htr : Tr C.X π objs w none (π ++ [.tuple #[]]) (objs ++ [some (.hold (.gs i) (tmps.getD t undef))]) w :=
  z2m hm rfl rfl ⟨rfl, zv (Nat.le_refl _)⟩ (Nat.le_refl _) (fun _ _ => rfl) _ _ (by intro b e; cases e)
   (.hold (hv.mono (z4z (fun _ _ => rfl) _ _ hm.len (by intro b e; cases e)) (z9o _)))
 refine k _ hfl _ w tmps hn htr.mem (z1u hh htr) fun u c hu => ?_
 simp only [look] at hu
 split at hu
 ·rename_i e
  have e' : t = u := by simpa using e
  cases hu
  subst e'
  exact .d (.v hfl)
 ·exact z3u he htr u c hu
theorem zc5 (t m : Nat) {a : AV} {v : Value} (hl : look env t = some (.d (.v v))) (ho : nth objs m = some (some (.hold a v))) (k : ASat P f n C todo ((t, a) :: env) objs R) : ASat P f n C todo env objs R := by
 intro π w tmps hn hm hh he
 obtain ⟨h, hp, hrel⟩ := hm.obj m _ ho
 refine k _ w tmps hn hm hh fun u c hu => ?_
 simp only [look] at hu
 split at hu
 ·rename_i e
  have e' : t = u := by simpa using e
  cases hu
  subst e'
  have hv := he t _ hl
  revert hv
  generalize tmps.getD t undef = x
  intro hv
  cases hv with | d hv => cases hv with | v _ => cases hrel with | hold h => exact h
 ·exact he u c hu
end
end Ab
