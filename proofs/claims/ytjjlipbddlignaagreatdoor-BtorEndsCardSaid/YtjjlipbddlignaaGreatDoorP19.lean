/- A part of the proof: Ab72, Ab73, B3, N35, NR0, NR1, NR2, N26, NR3, NR4, NR5, NR6, NR8, NR7, N36. -/
import Derived.Test.YtjjlipbddlignaaGreatDoorP18
import Derived.Shelf.SlicesE.Delete
set_option linter.unusedVariables false
set_option linter.unusedSimpArgs false
set_option linter.unusedSimpArgs false
set_option linter.unusedVariables false
set_option linter.unusedSectionVars false
namespace Ab
open Go Go.Shelf Go.RowKit Go.Lib Go.Sort Go.Proofs
variable [Draws]

abbrev FV := { v : Value // v.oneCell' = true }
instance : Inhabited FV := ⟨⟨.nilIface, rfl⟩⟩
end Ab
set_option linter.unusedSimpArgs false
set_option linter.unusedVariables false
set_option linter.unusedSectionVars false
namespace Ab
open Go
variable [Draws]
section
variable {P : Program} [Globals P] {T : Tab} {f : FuncId} {fn : Func} {n : Nat} {C : Cx} {R : AV → List (Option AObj) → Prop} {todo k : List Item} {env env' : Env} {objs : List (Option AObj)} {nd : Prop} {ops : Array Oper}

/-- A slice without cells, that nothing tells of yet. -/
theorem sat_dummy (e : TypeId) (s : Nat) (rd : Nat → D) (kk : ASat P f n C todo env (objs ++ [some (.grow e s [] rd)]) R) : ASat P f n C todo env objs R := by
  intro π w tmps hn hm hh he
  have htr : Tr C.X π objs w none (π ++ [.slice none 0 0]) (objs ++ [some (.grow e s [] rd)]) w := tr_newW hm rfl rfl ⟨rfl, dr_mono (Nat.le_refl _)⟩ (Nat.le_refl _) (fun _ _ => rfl) _ _ (by intro b e; cases e) .gnil
  exact kk _ w tmps hn htr.mem (hist_tr hh htr) (env_tr he htr)

/-- A cell that holds nil owns an empty slice that there is. -/
theorem sat_attach (i q j : Nat) {e e' : TypeId} {cs : List AV} {s : Nat} {rd : Nat → D} (hij : i ≠ j) (ho : nth objs i = some (some (.cells e cs))) (hc : nth (AV.drops j cs) q = some (.d (.v (.slice none 0 0)))) (hj : nth objs j = some (some (.grow e' s [] rd)))
    (kk : ASat P f n C todo (dropEnv j env) (setNth (setNth (dropO j objs) j (some (.grow e' s [] rd))) i (some (.cells e (setNth (AV.drops j cs) q (.gs j))))) R) : ASat P f n C todo env objs R := by
  intro π w tmps hn hm hh he
  obtain ⟨h, hp, hrel⟩ := hm.obj j _ hj
  have hsl : isSl h = true := by cases hrel <;> rfl
  have htr : Tr C.X π objs w (some j) (setNth π j (.slice none 0 0)) (setNth (dropO j objs) j (some (.grow e' s [] rd))) w :=
    tr_regrow hm hj hp hsl rfl rfl ⟨rfl, dr_mono (Nat.le_refl _)⟩ (Nat.le_refl _) (fun _ _ _ => rfl) (by intro b e; cases e) .gnil
  have hm1 := htr.mem
  have hdrop : ∀ (l : List (Option AObj)) (i : Nat), nth l i = some (some (.cells e cs)) → nth (dropO j l) i = some (some (.cells e (AV.drops j cs))) := by
    intro l
    induction l with
    | nil => intro i h; simp [nth] at h
    | cons a r ih =>
      intro i h
      cases i with
      | zero =>
        simp only [nth, Option.some.injEq] at h
        subst h
        rfl
      | succ i =>
        have := ih i (by simpa [nth] using h)
        cases a <;> simpa [dropO, nth] using this
  have ho1 : nth (setNth (dropO j objs) j (some (.grow e' s [] rd))) i = some (some (.cells e (AV.drops j cs))) := by
    rw [nth_setNth_ne hij]
    exact hdrop objs i ho
  obtain ⟨h', h5, h6⟩ := hm1.obj i _ ho1
  cases h6 with
  | cells hb hcs hf =>
    rename_i b vs
    obtain ⟨v, hv1, hv2⟩ := hcs.get hc
    have hv3 : v = .slice none 0 0 := by cases hv2 with | d h => cases h; rfl
    subst hv3
    have htr2 := tr_set (o' := .cells e (setNth (AV.drops j cs) q (.gs j))) hm1 ho1 h5 (b := b) rfl rfl rfl ⟨rfl, dr_mono (Nat.le_refl _)⟩ rfl (fun _ _ => rfl) ?_
    · exact kk _ w tmps hn htr2.mem (hist_tr (hist_tr hh htr) htr2) (env_tr (env_tr he htr) htr2)
    · have hrel := hcs.set q (x := .gs j) (v := .slice none 0 0) (.gs (nth_setNth_eq hp))
      have hvs : vs.set q (.slice none 0 0) = vs := by
        have := nth_setNth_self (l := vs) (i := q) (x := .slice none 0 0) (by rw [nth_eq]; exact hv1)
        rwa [setNth_eq] at this
      rw [hvs] at hrel
      exact .cells hb (hrel.mono (fun c off u h1 h2 => ⟨(okOf_set ho1 c).2 h1, h2⟩) (fun _ _ h => h)) hf

/-- Nothing is appended to nil. -/
theorem sat_appNil {i : Nat} {r : List Nat} {o : Oper} {e2 : Env} {xo yo : Operand} {t t2 e : TypeId} {inf : TypeInfo} (ho : ops[i]? = some o) (hw : wantE ops env o = .yes) (hop : o.op = .call { callee := .builtin .append, args := #[xo, yo], argTypes := #[t, t2] })
    (hx : opnd env xo = some (.d (.v (.slice none 0 0)))) (hy : opnd env yo = some (.d (.v (.string ⟨#[]⟩)))) (ht : P.underlying t = some (.slice e)) (ht2 : P.underlying t2 = some .string) (hi : P.info? e = some inf) (hput : putE n o.dst (.d (.v (.slice none 0 0))) env = some e2)
    (h : ASat P f n C (.inRegion ops r :: k) e2 objs R) : ASat P f n C (.inRegion ops (i :: r) :: k) env objs R := by
  refine sat_quiet (.d (.v (.slice none 0 0))) ho hw (fun X π w tmps m he => ?_) hput h
  have hax := look_ok (P := P) he hx
  have hay := look_ok (P := P) he hy
  have hrun := run_append_in (P := P) (w := w) (w' := w) (t := t) (t2 := t2) (ty := o.type) (rest := []) ht (.inr ht2) hi (A := none) (n := 0) (c := 0) (m := 0) (x := .string ⟨#[]⟩) (us := []) (fun w' => by simp [Builtin.lenOf]; rfl) (by omega) (by simp [Builtin.firstCells]) (by simp)
  refine ⟨.slice none 0 0, ?_, .d (.v rfl)⟩
  unfold execOp
  simp only [hop]
  have hrun' : (Builtin.append_ #[t, t2] o.type #[.slice none 0 0, .string ⟨#[]⟩]).run P w = .ok (.slice none 0 0) w := hrun
  simp [resolve, invoke, builtin, hax, hay, hrun']
end
end Ab
namespace Go.Proofs.YtjjlipbddlignaaGreatDoor
open Go Ab
set_option maxRecDepth 100000
set_option linter.unusedVariables false
set_option linter.unusedSimpArgs false
set_option maxHeartbeats 2000000

/-- A builder at i whose buffer is, or will be, at j; does it point to itself? -/
@[reducible] def bld (i j : Nat) (a : Bool) : List UInt8 → AObj
  | [] => .cells 49 [match a with | true => .ptr i 0 | false => .d (.v (.pointer none)), nilS]
  | _ :: _ => .cells 49 [.ptr i 0, .gs j]
theorem bld_ren (ρ : Nat → Nat) (i j : Nat) (a : Bool) (bs : List UInt8) : (bld i j a bs).ren ρ = bld (ρ i) (ρ j) a bs := by
  cases bs with
  | nil => cases a <;> rfl
  | cons b r => rfl
theorem bld_refs {i j m : Nat} (hi : i < m) (hj : j < m) (a : Bool) (bs : List UInt8) : refsO1 m (bld i j a bs) = true := by
  have h1 : Nat.blt i m = true := by simpa [Nat.blt_eq] using hi
  have h2 : Nat.blt j m = true := by simpa [Nat.blt_eq] using hj
  cases bs with
  | nil => cases a <;> simp [refsO1, refsBs, refsB, h1, bld]
  | cons b r => simp [refsO1, refsBs, refsB, h1, h2, bld]
@[reducible] def vStr (l : List UInt8) : AV := .d (.v (.string ⟨l.toArray⟩))
theorem blds_refs (a : Bool) (bs : List UInt8) : refsO 2 [some (bld 0 1 a bs), some (gB bs)] = true := by
  simp only [refsO, bld_refs (show 0 < 2 by decide) (show 1 < 2 by decide)]
  rfl
@[reducible] def wsR (s : List UInt8) : AV := .tp [vI .i64 (s.length : Int), .d (.v .nilIface)]
theorem catStr (a b : List UInt8) : (⟨a.toArray⟩ : ByteArray) ++ ⟨b.toArray⟩ = ⟨(a ++ b).toArray⟩ := by
  apply ByteArray.ext
  simp
theorem strEs_len (s : List UInt8) : (strEs ⟨s.toArray⟩).length = s.length := by simp [strEs]
theorem vlen (s : List UInt8) : vI .i64 (((⟨s.toArray⟩ : ByteArray).size : Nat) : Int) = vI .i64 (s.length : Int) := by
  rw [show (⟨s.toArray⟩ : ByteArray).size = s.length by simp [ByteArray.size]]
theorem WStr_call (a : Bool) (bs s : List UInt8) (hl : bs.length ≤ 100000000) (hs : s.length ≤ 100000000) : ACall Tryz.prog 21 [.ptr 0 0, vStr s] [some (bld 0 1 a bs), some (gB bs)] (fun r o => r = wsR s ∧ o = [some (bld 0 1 true (bs ++ s)), some (gB (bs ++ s))]) := by
  refine acall_enter Tryz.func21 rfl rfl (Nat.le_of_ble_eq_true rfl) fun C hC hCl hDs hGk => ?_
  cases bs with
  | nil =>
    cases a
    all_goals
      first
      | refine sat_callG [0] tabOk Tryz.func21 rfl trivial (copyF_call false) ⟨⟨_, rfl, .refl _⟩, trivial⟩ (.refl _) rfl rfl rfl ⟨_, rfl⟩ ?_
      | refine sat_callG [0] tabOk Tryz.func21 rfl trivial (copyF_call true) ⟨⟨_, rfl, .refl _⟩, trivial⟩ (.refl _) rfl rfl rfl ⟨_, rfl⟩ ?_
      rintro r o ⟨rfl, rfl⟩
      cases s with
      | nil =>
        refine sat_steps 9 tabOk Tryz.func21 rfl trivial ?_
        refine sat_appNil rfl rfl rfl rfl rfl Tryz.underlying39 Tryz.underlying9 (by rfl) rfl ?_
        refine sat_retL tabOk Tryz.func21 rfl trivial hC hCl (.of ?_) (o2 := [some (bld 0 1 true []), some (gB [])]) ⟨.refl _, .refl _, trivial⟩ rfl rfl (Nat.le_refl _) ⟨rfl, rfl⟩
        rfl
      | cons c s =>
        refine sat_attach 0 1 1 (by decide) rfl rfl rfl ?_
        refine sat_retL tabOk Tryz.func21 rfl ?nd hC hCl (.of ?_) (o2 := [some (bld 0 1 true (c :: s)), some (gB (c :: s))]) ⟨.refl _, .gL ?_, trivial⟩ rfl rfl (Nat.le_refl _) ⟨rfl, rfl⟩
        case nd =>
          show (0 + (strEs ⟨(c :: s).toArray⟩).length) * 1 ≤ 140737488355328 ∧ True
          rw [strEs_len]
          exact ⟨by omega, trivial⟩
        · show AV.tp [vI .i64 (((⟨(c :: s).toArray⟩ : ByteArray).size : Nat) : Int), _] = _
          rw [vlen]
        · rfl
  | cons b bs =>
    refine sat_callG [0, 1] tabOk Tryz.func21 rfl trivial (copyW_call (b :: bs)) ⟨⟨_, rfl, .refl _⟩, ⟨_, rfl, .refl _⟩, trivial⟩ (.refl _) rfl rfl rfl ⟨_, rfl⟩ ?_
    rintro r o ⟨rfl, rfl⟩
    refine sat_retL tabOk Tryz.func21 rfl ?nd hC hCl (.of ?_) (o2 := [some (bld 0 1 true (b :: bs ++ s)), some (gB (b :: bs ++ s))]) ⟨.refl _, .gL ?_, trivial⟩ rfl rfl (Nat.le_refl _) ⟨rfl, rfl⟩
    · show (((b :: bs).map eU8).length + (strEs ⟨s.toArray⟩).length) * 1 ≤ 140737488355328 ∧ True
      rw [strEs_len, List.length_map]
      exact ⟨by omega, trivial⟩
    · show AV.tp [vI .i64 (((⟨s.toArray⟩ : ByteArray).size : Nat) : Int), _] = _
      rw [vlen]
    · rw [List.map_append]
      rfl
/-- The builder's bytes. -/
theorem BStr_call (a : Bool) (bs : List UInt8) : ACall Tryz.prog 23 [.ptr 0 0] [some (bld 0 1 a bs), some (gB bs)] (fun r o => r = vStr bs ∧ o = [none, none]) := by
  cases bs with
  | cons b bs => exact StringW_call (b :: bs) (by simp)
  | nil =>
    refine acall_enter Tryz.func23 rfl rfl (Nat.le_of_ble_eq_true rfl) fun C hC hCl hDs hGk => ?_
    cases a
    all_goals
      refine sat_drawT 10 tabOk Tryz.func23 rfl rfl trivial (by kernel_rfl) ?_
      refine ds_steps 4 tabOk rfl trivial ?_
      refine ds_dataNil rfl Tryz.underlying73 rfl rfl rfl rfl rfl ?_
      refine ds_done tabOk rfl trivial ?_
      refine sat_noBytes rfl rfl rfl rfl rfl rfl ?_
      exact sat_retL tabOk Tryz.func23 rfl trivial hC hCl (.refl _) (o2 := [none, none]) trivial rfl rfl (Nat.le_refl _) ⟨rfl, rfl⟩
end Go.Proofs.YtjjlipbddlignaaGreatDoor
namespace Go.Proofs.YtjjlipbddlignaaGreatDoor
open Go Ab Go.RowKit Go.Lib
set_option maxRecDepth 100000
set_option linter.unusedVariables false
set_option linter.unusedSimpArgs false
set_option maxHeartbeats 4000000

@[reducible] def gS (l : List (List UInt8)) : AObj := .grow 9 1 (l.map dSL) (fun i => dSL (l.getD i []))
theorem bld_drop4 (a : Bool) (bs : List UInt8) : (bld 1 2 a bs).drop 4 = bld 1 2 a bs := by
  cases a <;> cases bs <;> rfl
theorem bld_frz4 (d : D) (a : Bool) (bs : List UInt8) : (bld 1 2 a bs).frz 4 d = bld 1 2 a bs := by
  cases a <;> cases bs <;> rfl
theorem subR_bld {objs : List (Option AObj)} {i j : Nat} {a : Bool} {bs : List UInt8} (h1 : nth objs i = some (some (bld i j a bs))) (h2 : nth objs j = some (some (gB bs))) : subR (rho [i, j] objs.length) objs [i, j] [some (bld 0 1 a bs), some (gB bs)] := by
  refine ⟨⟨_, h1, ?_⟩, ⟨_, h2, .refl _⟩, trivial⟩
  rw [bld_ren]
  exact .refl _
theorem text_app : ∀ (l m : List Nd) (i : Nat), textFrom i (l ++ m) = textFrom i l ++ textFrom (i + l.length) m
  | [], m, i => rfl
  | x :: l, m, i => by
    rw [List.cons_append, textFrom, textFrom, text_app l m (i + 1), List.append_assoc, List.length_cons, show i + 1 + l.length = i + (l.length + 1) by omega]
theorem text_take {l : List Nd} {i : Nat} (h : i < l.length) : textM (l.take (i + 1)) = textM (l.take i) ++ nodeT ((i : Int) + 1) (nd l i) := by
  unfold textM
  rw [List.take_succ_eq_append_getElem h, text_app, nd_at h, List.length_take, Nat.zero_add, Nat.min_eq_left (Nat.le_of_lt h)]
  simp [textFrom]
theorem text_pre (l : List Nd) (i : Nat) : (textM (l.take i)).length ≤ (textM l).length := by
  have h := text_app (l.take i) (l.drop i) 0
  rw [List.take_append_drop] at h
  unfold textM
  rw [h, List.length_append]
  omega
@[reducible] def prO (l : List Nd) (a : Bool) (T : List UInt8) : List (Option AObj) := [some (bBt l), some (bld 1 2 a T), some (gB T)]
@[reducible] def prL (l : List Nd) (a : Bool) (T : List UInt8) (x : Nd) (p : List (List UInt8)) : List (Option AObj) := [some (bBt l), some (bld 1 2 a T), some (gB T), some (bNd x), some (gS p)]
theorem prO_refs (l : List Nd) (a : Bool) (T : List UInt8) : refsO 3 (prO l a T) = true := by
  have h1 := bld_refs (i := 1) (j := 2) (m := 3) (by decide) (by decide) a T
  simp only [refsO, h1]
  rfl
theorem prL_refs (l : List Nd) (a : Bool) (T : List UInt8) (x : Nd) (p : List (List UInt8)) : refsO 5 (prL l a T x p) = true := by
  have h1 := bld_refs (i := 1) (j := 2) (m := 5) (by decide) (by decide) a T
  simp only [refsO, h1]
  rfl
@[reducible] def prE (l : List Nd) (i : Nat) : Env := [(1, .ptr 0 0), (4, .ptr 1 0), (16, .d (eNds l)), (17, vI .i64 l.length), (18, vI .i64 (i : Int))]
@[reducible] def prA (l : List Nd) : AV := tupOf [vTx (if rightM l = true then textM l else []), vI .i64 (if rightM l = true then 0 else 1)]
theorem bPrint_call (l : List Nd) (hl : l.length ≤ 1000000) (hm : ∀ x ∈ l, NdB x) (hT : rightM l = true → (textM l).length ≤ 100000000) : ACall Tryz.prog 10 [.d (eBt l)] [] (fun r o => r = prA l) := by
  refine acall_enter Tryz.func10 rfl rfl (Nat.le_of_ble_eq_true rfl) fun C hC hCl hDs hGk => ?_
  unfold prA
  refine sat_call tabOk Tryz.func10 rfl trivial (pRight_call l (by have : maxLen = 9223372036854775807 := rfl; omega) hm) (.refl _) rfl ⟨_, rfl⟩ (by rintro r o rfl; rfl) ?_
  rintro _ o rfl
  cases hr : rightM l with
  | false =>
    refine sat_branch tabOk Tryz.func10 rfl trivial (fun _ => ?_) (fun h => by cases h)
    exact sat_ret tabOk Tryz.func10 rfl trivial rfl
  | true =>
  refine sat_branch tabOk Tryz.func10 rfl trivial (fun h => by cases h) (fun _ => ?_)
  have hT := hT hr
  have hlen : l.length ≤ 5000 ∧ ∀ j (h : j < l.length), nodeB ((j : Int) + 1) (nd l j) = true := by
    unfold rightM at hr
    rw [Bool.and_eq_true, rightFrom_iff, decide_eq_true_eq] at hr
    refine ⟨hr.2, fun j hj => ?_⟩
    have := hr.1 j hj
    rwa [← nd_at hj, show ((0 : Nat) : Int) + (j : Int) + 1 = (j : Int) + 1 by omega] at this
  refine sat_steps 7 tabOk Tryz.func10 rfl trivial ?_
  refine sat_dummy 5 1 (fun i => eU8 (([] : List UInt8).getD i 0)) ?_
  refine sat_stop tabOk Tryz.func10 rfl trivial ?_
  refine sat_while (α := Nat × Bool) (fun s => prE l s.1) (fun s => prO l s.2 (textM (l.take s.1))) (fun s => s.1 ≤ l.length) (fun s => l.length - s.1) (0, false) (Nat.zero_le _) ?_ ?_
  · exact fun h => sat_le h hC hCl ⟨⟨_, rfl, .refl _⟩, ⟨_, rfl, .refl _⟩, ⟨_, rfl, .refl _⟩, ⟨_, rfl, .of (by rw [List.length_map])⟩, ⟨_, rfl, .refl _⟩, trivial⟩ ⟨.refl _, .refl _, .refl _, trivial⟩ rfl rfl (Nat.zero_le _)
  rintro ⟨i, a⟩ hi ih
  simp only at hi ih ⊢
  refine sat_branch tabOk Tryz.func10 rfl trivial (fun h => ?_) (fun h => ?_)
  rotate_left
  · have h : decide ((i : Int) < (l.length : Int)) = false := h
    rw [decide_eq_false_iff_not] at h
    obtain rfl : i = l.length := by omega
    rw [List.take_length]
    refine sat_callG [1, 2] tabOk Tryz.func10 rfl trivial (BStr_call a (textM l)) (subR_bld rfl rfl) (.refl _) rfl rfl (blds_refs _ _) ⟨_, rfl⟩ ?_
    rintro _ o ⟨rfl, rfl⟩
    exact sat_ret tabOk Tryz.func10 rfl trivial rfl
  have h : decide ((i : Int) < (l.length : Int)) = true := h
  rw [decide_eq_true_eq] at h
  have hlt : i < l.length := by omega
  have hB := hlen.2 i hlt
  have hx := hm _ (nd_mem hlt)
  have htk := text_take hlt
  have hp1 := text_pre l i
  have hp2 := text_pre l (i + 1)
  rw [htk, List.length_append] at hp2
  have ih := fun a2 => ih (i + 1, a2) (show i + 1 ≤ l.length by omega) (show l.length - (i + 1) < l.length - i by omega)
  simp only [htk] at ih
  have hid : (i : Int) + 1 ≤ 100000 := by have := hlen.1; omega
  have hnum := nodeB_nums hid hB
  have hal : (nd l i).a.length ≤ 4 ∧ (nd l i).n.length ≤ 8 := by
    have hfl := form_len (nd l i).op
    unfold nodeB aOk nOk at hB
    simp only [Bool.and_eq_true, decide_eq_true_eq] at hB
    have c1 : (frm (nd l i).op).count 97 ≤ (frm (nd l i).op).length := List.count_le_length
    have c2 : (frm (nd l i).op).count 110 ≤ (frm (nd l i).op).length := List.count_le_length
    have c3 : (frm (nd l i).op).count 119 ≤ (frm (nd l i).op).length := List.count_le_length
    omega
  have hw : IntKind.i64.wrap ((i : Int) + 1) = (i : Int) + 1 := wrap_id (by omega) (by omega)
  have hxi : (l.getD i default) = nd l i := rfl
  have hjoin := parts_join ((i : Int) + 1) (nd l i)
  unfold partsP tailP at hjoin
  generalize textM (l.take i) = T at *
  generalize hxx : nd l i = x at *
  have e48 : ∀ q : List (List UInt8), q.length ≤ 100 → ((q.map dSL).length + 1) * 16 ≤ 140737488355328 := fun q hq => by
    rw [List.length_map]
    omega
  apply letK (p := ASat Tryz.prog 10 Tryz.f10.ntmps C _ (prE l i ++ [(6, .ptr 3 0), (7, .gs 4)]) (prL l a T x ([tItoa ((i : Int) + 1), x.op] ++ (if frm x.op = [119] then [sBv] else []))) (fun r o => r = tupOf [vTx (textM l), vI .i64 0]))
  · intro keyB
    refine sat_drawT 5 tabOk Tryz.func10 rfl rfl ?nd (by kernel_rfl) ?_
    case nd => exact (by simp only [andP, and_true, true_and, Int.toNat_natCast, List.length_map, List.length_append, List.length_cons, List.length_nil, List.length_replicate]; omega)
    refine ds_call tabOk rfl trivial (Itoa_call ((i : Int) + 1) (by omega) (by omega)) (callFunc_run Tryz.func19 rfl rfl) (by rintro r o rfl; rfl) ⟨.of (congrArg (fun z => vI .i64 z) hw), trivial⟩ rfl rfl ⟨_, rfl⟩ ?_
    refine ds_done tabOk rfl trivial ?_
    refine sat_litG _ tabOk rfl rfl rfl rfl rfl trivial rfl ?_
    refine sat_call tabOk Tryz.func10 rfl trivial (pForm_call x.op) ⟨.of ?_, trivial⟩ rfl ⟨_, rfl⟩ (by rintro r o rfl; rfl) ?_
    · show AV.d (dSL (nd l i).op) = _
      rw [hxx]
    rintro _ o rfl
    refine sat_branch tabOk Tryz.func10 rfl trivial (fun hf => ?_) (fun hf => ?_)
    · have hf : ((⟨(frm x.op).toArray⟩ : ByteArray).toList == (⟨([119] : List UInt8).toArray⟩ : ByteArray).toList) = true := hf
      rw [isEq_bytes, decide_eq_true_eq] at hf
      rw [if_pos hf] at keyB
      refine sat_steps 7 tabOk Tryz.func10 rfl ?nd2 ?_
      case nd2 =>
        show (2 + 1) * 16 ≤ 140737488355328 ∧ True
        exact ⟨by decide, trivial⟩
      exact sat_le keyB hC hCl ⟨⟨_, rfl, .refl _⟩, ⟨_, rfl, .refl _⟩, ⟨_, rfl, .refl _⟩, ⟨_, rfl, .refl _⟩, ⟨_, rfl, .refl _⟩, ⟨_, rfl, .refl _⟩, ⟨_, rfl, .refl _⟩, trivial⟩ ⟨.refl _, .of (bld_drop4 _ _), .refl _, .of (by show bNd (nd l i) = _; rw [hxx]), .grow (by rw [← hxx]; rfl) (map_rd dSL [] _), trivial⟩ rfl (prL_refs _ _ _ _ _) (Nat.zero_le _)
    · have hf : ((⟨(frm x.op).toArray⟩ : ByteArray).toList == (⟨([119] : List UInt8).toArray⟩ : ByteArray).toList) = false := hf
      rw [isEq_bytes, decide_eq_false_iff_not] at hf
      rw [if_neg hf] at keyB
      refine sat_steps 2 tabOk Tryz.func10 rfl trivial ?_
      exact sat_le keyB hC hCl ⟨⟨_, rfl, .refl _⟩, ⟨_, rfl, .refl _⟩, ⟨_, rfl, .refl _⟩, ⟨_, rfl, .refl _⟩, ⟨_, rfl, .refl _⟩, ⟨_, rfl, .refl _⟩, ⟨_, rfl, .refl _⟩, trivial⟩ ⟨.refl _, .refl _, .refl _, .of (by show bNd (nd l i) = _; rw [hxx]), .grow (by rw [← hxx]; rfl) (map_rd dSL [] _), trivial⟩ rfl (prL_refs _ _ _ _ _) (Nat.zero_le _)
  have hPB : ([tItoa ((i : Int) + 1), x.op] ++ (if frm x.op = [119] then [sBv] else [])).length ≤ 3 := by split <;> exact Nat.le_of_ble_eq_true rfl
  generalize hpb : [tItoa ((i : Int) + 1), x.op] ++ (if frm x.op = [119] then [sBv] else []) = PB at *
  apply letK (p := ASat Tryz.prog 10 Tryz.f10.ntmps C _ (prE l i ++ [(6, .ptr 3 0), (7, .gs 4)]) (prL l a T x (PB ++ (if 0 < x.s then [tItoa x.s] else []))) (fun r o => r = tupOf [vTx (textM l), vI .i64 0]))
  · intro keyC
    refine sat_branch tabOk Tryz.func10 rfl trivial (fun hs => ?_) (fun hs => ?_)
    · have hs : decide (x.s > 0) = true := hs
      rw [decide_eq_true_eq] at hs
      rw [if_pos (by omega)] at keyC
      refine sat_call tabOk Tryz.func10 rfl trivial (Itoa_call x.s (by omega) (by omega)) (.refl _) rfl ⟨_, rfl⟩ (by rintro r o rfl; rfl) ?_
      rintro _ o rfl
      refine sat_steps 4 tabOk Tryz.func10 rfl ?nd2 ?_
      case nd2 =>
        exact ⟨e48 PB (by omega), trivial⟩
      exact sat_le keyC hC hCl ⟨⟨_, rfl, .refl _⟩, ⟨_, rfl, .refl _⟩, ⟨_, rfl, .refl _⟩, ⟨_, rfl, .refl _⟩, ⟨_, rfl, .refl _⟩, ⟨_, rfl, .refl _⟩, ⟨_, rfl, .refl _⟩, trivial⟩ ⟨.refl _, .of (bld_drop4 _ _), .refl _, .refl _, .grow (by rw [List.map_append]; rfl) (map_rd dSL [] _), trivial⟩ rfl (prL_refs _ _ _ _ _) (Nat.zero_le _)
    · have hs : decide (x.s > 0) = false := hs
      rw [decide_eq_false_iff_not] at hs
      rw [if_neg (by omega), List.append_nil] at keyC
      refine sat_steps 2 tabOk Tryz.func10 rfl trivial ?_
      exact sat_le keyC hC hCl ⟨⟨_, rfl, .refl _⟩, ⟨_, rfl, .refl _⟩, ⟨_, rfl, .refl _⟩, ⟨_, rfl, .refl _⟩, ⟨_, rfl, .refl _⟩, ⟨_, rfl, .refl _⟩, ⟨_, rfl, .refl _⟩, trivial⟩ ⟨.refl _, .refl _, .refl _, .refl _, .refl _, trivial⟩ rfl (prL_refs _ _ _ _ _) (Nat.zero_le _)
  have hPC : (PB ++ (if 0 < x.s then [tItoa x.s] else [])).length ≤ 4 := by
    rw [List.length_append]
    have : (if 0 < x.s then [tItoa x.s] else []).length ≤ 1 := by split <;> exact Nat.le_of_ble_eq_true rfl
    omega
  generalize hpc : PB ++ (if 0 < x.s then [tItoa x.s] else []) = PC at *
  refine sat_call tabOk Tryz.func10 rfl trivial (Concat_call x.a x.n (by omega) (by omega)) ⟨VLe.eL rfl, trivial⟩ rfl ⟨_, rfl⟩ (by rintro r o rfl; rfl) ?_
  rintro _ o rfl
  refine sat_stop tabOk Tryz.func10 rfl trivial ?_
  obtain ⟨L, hL⟩ : ∃ L, x.a ++ x.n = L := ⟨_, rfl⟩
  have hLl : L.length ≤ 12 := by rw [← hL, List.length_append]; omega
  have hLn : ∀ n ∈ L, 0 ≤ n ∧ n ≤ 100000 := fun n hn => by
    rw [← hL, List.mem_append] at hn
    exact hn.elim (hnum.2.1 n) (hnum.2.2 n)
  rw [hL] at hjoin ⊢
  refine sat_while (α := Nat) (fun k => prE l i ++ [(6, .ptr 3 0), (7, .gs 4), (54, .d (eIs L)), (55, vI .i64 (L.length : Int)), (56, vI .i64 (k : Int))]) (fun k => prL l a T x (PC ++ (L.take k).map tItoa)) (fun k => k ≤ L.length) (fun k => L.length - k) 0 (Nat.zero_le _) ?_ ?_
  · exact fun h => sat_le h hC hCl ⟨⟨_, rfl, .refl _⟩, ⟨_, rfl, .refl _⟩, ⟨_, rfl, .refl _⟩, ⟨_, rfl, .refl _⟩, ⟨_, rfl, .refl _⟩, ⟨_, rfl, .refl _⟩, ⟨_, rfl, .refl _⟩, ⟨_, rfl, .refl _⟩, ⟨_, rfl, .of (by rw [List.length_map])⟩, ⟨_, rfl, .refl _⟩, trivial⟩ ⟨.refl _, .refl _, .refl _, .refl _, .of (by rw [List.take_zero, List.map_nil, List.append_nil]), trivial⟩ rfl (prL_refs _ _ _ _ _) (Nat.zero_le _)
  rintro k hk ih2
  refine sat_branch tabOk Tryz.func10 rfl trivial (fun hb => ?_) (fun hb => ?_)
  · have hb : decide ((k : Int) < (L.length : Int)) = true := hb
    rw [decide_eq_true_eq] at hb
    have hk2 : k < L.length := by omega
    have eg : L.getD k 0 = L[k] := by simp [hk2]
    have hv := hLn _ (List.getElem_mem hk2)
    rw [← eg] at hv
    refine sat_call tabOk Tryz.func10 rfl ?nd3 (Itoa_call (L.getD k 0) (by omega) (by omega)) (.refl _) rfl ⟨_, rfl⟩ (by rintro r o rfl; rfl) ?_
    case nd3 => exact (by simp only [andP, and_true, true_and, Int.toNat_natCast, List.length_map, List.length_append, List.length_cons, List.length_nil, List.length_replicate]; omega)
    rintro _ o rfl
    refine sat_stop tabOk Tryz.func10 rfl ?nd4 ?_
    case nd4 => exact ⟨e48 _ (by rw [List.length_append, List.length_map, List.length_take]; omega), trivial⟩
    refine sat_le (ih2 (k + 1) (by omega) (by omega)) hC hCl ⟨⟨_, rfl, .refl _⟩, ⟨_, rfl, .refl _⟩, ⟨_, rfl, .refl _⟩, ⟨_, rfl, .refl _⟩, ⟨_, rfl, .refl _⟩, ⟨_, rfl, .refl _⟩, ⟨_, rfl, .refl _⟩, ⟨_, rfl, .refl _⟩, ⟨_, rfl, .refl _⟩, ⟨_, rfl, .of (by rw [wrap_id (by omega) (by omega)]; rfl)⟩, trivial⟩ ⟨.refl _, .of (bld_drop4 _ _), .refl _, .refl _, .grow ?_ (map_rd dSL [] _), trivial⟩ rfl (prL_refs _ _ _ _ _) (Nat.zero_le _)
    rw [List.take_succ_eq_append_getElem hk2, ← eg, List.map_append (f := tItoa), ← List.append_assoc, List.map_append (l₂ := List.map tItoa [L.getD k 0])]
    rfl
  have hb : decide ((k : Int) < (L.length : Int)) = false := hb
  rw [decide_eq_false_iff_not] at hb
  obtain rfl : k = L.length := by omega
  rw [List.take_length]
  have hPD : (PC ++ L.map tItoa).length ≤ 16 := by rw [List.length_append, List.length_map]; omega
  have hPD1 : PC ++ L.map tItoa ≠ [] := by
    rw [← hpc, ← hpb]
    simp
  generalize hpd : PC ++ L.map tItoa = PD at *
  apply letK (p := ASat Tryz.prog 10 Tryz.f10.ntmps C _ (prE l i ++ [(6, .ptr 3 0), (7, .gs 4)]) (prL l a T x (PD ++ (if x.t = [] then [] else [x.t]))) (fun r o => r = tupOf [vTx (textM l), vI .i64 0]))
  · intro keyD
    refine sat_branch tabOk Tryz.func10 rfl trivial (fun ht => ?_) (fun ht => ?_)
    · have ht : (!((⟨x.t.toArray⟩ : ByteArray).toList == (⟨#[]⟩ : ByteArray).toList)) = true := ht
      have ht : x.t ≠ [] := by
        rw [eqE_list] at ht
        intro e
        rw [e] at ht
        cases ht
      rw [if_neg ht] at keyD
      refine sat_steps 9 tabOk Tryz.func10 rfl ?nd5 ?_
      case nd5 => exact ⟨e48 PD (by omega), trivial⟩
      exact sat_le keyD hC hCl ⟨⟨_, rfl, .refl _⟩, ⟨_, rfl, .refl _⟩, ⟨_, rfl, .refl _⟩, ⟨_, rfl, .refl _⟩, ⟨_, rfl, .refl _⟩, ⟨_, rfl, .refl _⟩, ⟨_, rfl, .refl _⟩, trivial⟩ ⟨.refl _, .of (bld_drop4 _ _), .refl _, .refl _, .grow (by rw [List.map_append]; rfl) (map_rd dSL [] _), trivial⟩ rfl (prL_refs _ _ _ _ _) (Nat.zero_le _)
    · have ht : (!((⟨x.t.toArray⟩ : ByteArray).toList == (⟨#[]⟩ : ByteArray).toList)) = false := ht
      have ht : x.t = [] := by
        rw [eqE_list] at ht
        cases hxt : x.t with
        | nil => rfl
        | cons c r =>
          rw [hxt] at ht
          cases ht
      rw [if_pos ht, List.append_nil] at keyD
      refine sat_steps 2 tabOk Tryz.func10 rfl trivial ?_
      exact sat_le keyD hC hCl ⟨⟨_, rfl, .refl _⟩, ⟨_, rfl, .refl _⟩, ⟨_, rfl, .refl _⟩, ⟨_, rfl, .refl _⟩, ⟨_, rfl, .refl _⟩, ⟨_, rfl, .refl _⟩, ⟨_, rfl, .refl _⟩, trivial⟩ ⟨.refl _, .refl _, .refl _, .refl _, .refl _, trivial⟩ rfl (prL_refs _ _ _ _ _) (Nat.zero_le _)
  have hP : (PD ++ (if x.t = [] then [] else [x.t])).length ≤ 17 := by
    rw [List.length_append]
    have : (if x.t = [] then [] else [x.t]).length ≤ 1 := by split <;> exact Nat.le_of_ble_eq_true rfl
    omega
  have hP1 : PD ++ (if x.t = [] then [] else [x.t]) ≠ [] := fun e => hPD1 (List.append_eq_nil_iff.1 e).1
  have hjn : Go.Lib.join (PD ++ (if x.t = [] then [] else [x.t])) [32] ++ [10] = nodeT ((i : Int) + 1) x := by
    rw [← hpd, ← hpc, ← hpb, ← hjoin]
    simp [List.append_assoc]
  generalize PD ++ (if x.t = [] then [] else [x.t]) = P at *
  have hjl := congrArg List.length hjn
  rw [List.length_append, List.length_singleton] at hjl
  refine sat_freeze 4 rfl ?_
  refine sat_le (env' := [(1, .ptr 0 0), (4, .ptr 1 0), (16, .d (eNds l)), (17, vI .i64 l.length), (18, vI .i64 (i : Int)), (7, AV.d (eSs P))]) (objs' := prO l a T) ?_ hC hCl ⟨⟨_, rfl, .refl _⟩, ⟨_, rfl, .refl _⟩, ⟨_, rfl, .refl _⟩, ⟨_, rfl, .refl _⟩, ⟨_, rfl, .refl _⟩, ⟨_, rfl, VLe.eL rfl⟩, trivial⟩ ⟨.refl _, .of (bld_frz4 _ _ _), .refl _, trivial⟩ rfl (prO_refs _ _ _) (Nat.zero_le _)
  refine sat_call tabOk Tryz.func10 rfl trivial (Join_call P [32] hP1 (by omega) (by omega)) (.refl _) rfl ⟨_, rfl⟩ (by rintro r o rfl; rfl) ?_
  rintro _ o rfl
  refine sat_callG [1, 2] tabOk Tryz.func10 rfl ?nd6 (WStr_call a T (nodeT ((i : Int) + 1) x) (by omega) (by omega)) (subR_bld rfl rfl) ⟨.refl _, .of ?_, trivial⟩ rfl rfl (blds_refs _ _) ⟨_, rfl⟩ ?_
  case nd6 =>
    rw [sizeBy]
    show (Go.Lib.join P [32]).length + 1 ≤ 9223372036854775807 ∧ True
    exact ⟨by omega, trivial⟩
  · show AV.d (.v (.string ((⟨(Go.Lib.join P [32]).toArray⟩ : ByteArray) ++ ⟨([10] : List UInt8).toArray⟩))) = _
    rw [catStr, hjn]
    rfl
  rintro _ o ⟨rfl, rfl⟩
  refine sat_stop tabOk Tryz.func10 rfl trivial ?_
  refine sat_le (ih true) hC hCl ⟨⟨_, rfl, .refl _⟩, ⟨_, rfl, .refl _⟩, ⟨_, rfl, .refl _⟩, ⟨_, rfl, .refl _⟩, ⟨_, rfl, .of (by rw [wrap_id (by omega) (by omega)]; rfl)⟩, trivial⟩ ⟨.refl _, .of ?_, .refl _, trivial⟩ rfl (prO_refs _ _ _) (Nat.zero_le _)
  show (bld 0 1 true _).ren _ = _
  rw [bld_ren]
  rfl
end Go.Proofs.YtjjlipbddlignaaGreatDoor
namespace Go.Proofs.YtjjlipbddlignaaGreatDoor
open Go Ab
set_option maxRecDepth 100000
set_option linter.unusedVariables false
set_option linter.unusedSimpArgs false

theorem Form_call (op : List UInt8) : ACall Tryz.prog 13 [vTx op] [] (fun r o => r = tupOf [vTx (formR op).1, vB (formR op).2]) := by
  refine acall_enter Tryz.func13 rfl rfl (Nat.le_of_ble_eq_true rfl) fun C hC hCl hDs hGk => ?_
  unfold formR
  refine sat_branch tabOk Tryz.func13 rfl trivial (fun h => ?_) (fun h => ?_) <;> rw [show ((⟨#[115, 111, 114, 116]⟩ : ByteArray)) = ⟨kSort.toArray⟩ from rfl, strB] at h
  · have h0 : op = kSort := by simpa using h
    refine sat_ret tabOk Tryz.func13 rfl trivial ?_
    rw [if_pos h0]
    try rfl
  have h0 : ¬ op = kSort := by simpa using h
  clear h
  refine sat_branch tabOk Tryz.func13 rfl trivial (fun h => ?_) (fun h => ?_) <;> rw [show ((⟨#[99, 111, 110, 115, 116]⟩ : ByteArray)) = ⟨kConst.toArray⟩ from rfl, strB] at h
  · have h1 : op = kConst := by simpa using h
    refine sat_ret tabOk Tryz.func13 rfl trivial ?_
    rw [if_neg h0, if_pos h1]
    try rfl
  have h1 : ¬ op = kConst := by simpa using h
  clear h
  refine sat_branch tabOk Tryz.func13 rfl trivial (fun h => ?_) (fun h => ?_) <;> rw [show ((⟨#[105, 110, 112, 117, 116]⟩ : ByteArray)) = ⟨kInput.toArray⟩ from rfl, strB] at h
  · have h2 : op = kInput := by simpa using h
    refine sat_ret tabOk Tryz.func13 rfl trivial ?_
    rw [if_neg h0, if_neg h1, if_pos h2]
    try rfl
  have h2 : ¬ op = kInput := by simpa using h
  clear h
  refine sat_branch tabOk Tryz.func13 rfl trivial (fun h => ?_) (fun h => ?_) <;> rw [show ((⟨#[115, 116, 97, 116, 101]⟩ : ByteArray)) = ⟨kState.toArray⟩ from rfl, strB] at h
  · have h3 : op = kState := by simpa using h
    refine sat_ret tabOk Tryz.func13 rfl trivial ?_
    rw [if_neg h0, if_neg h1, if_neg h2, if_pos h3]
    try rfl
  have h3 : ¬ op = kState := by simpa using h
  clear h
  refine sat_branch tabOk Tryz.func13 rfl trivial (fun h => ?_) (fun h => ?_) <;> rw [show ((⟨#[98, 97, 100]⟩ : ByteArray)) = ⟨kBad.toArray⟩ from rfl, strB] at h
  · have h4 : op = kBad := by simpa using h
    refine sat_ret tabOk Tryz.func13 rfl trivial ?_
    rw [if_neg h0, if_neg h1, if_neg h2, if_neg h3, if_pos h4]
    try rfl
  have h4 : ¬ op = kBad := by simpa using h
  clear h
  refine sat_branch tabOk Tryz.func13 rfl trivial (fun h => ?_) (fun h => ?_) <;> rw [show ((⟨#[99, 111, 110, 115, 116, 114, 97, 105, 110, 116]⟩ : ByteArray)) = ⟨kConstraint.toArray⟩ from rfl, strB] at h
  · have h5 : op = kConstraint := by simpa using h
    refine sat_ret tabOk Tryz.func13 rfl trivial ?_
    rw [if_neg h0, if_neg h1, if_neg h2, if_neg h3, if_neg h4, if_pos h5]
    try rfl
  have h5 : ¬ op = kConstraint := by simpa using h
  clear h
  refine sat_branch tabOk Tryz.func13 rfl trivial (fun h => ?_) (fun h => ?_) <;> rw [show ((⟨#[110, 111, 116]⟩ : ByteArray)) = ⟨kNot.toArray⟩ from rfl, strB] at h
  · have h6 : op = kNot := by simpa using h
    refine sat_ret tabOk Tryz.func13 rfl trivial ?_
    rw [if_neg h0, if_neg h1, if_neg h2, if_neg h3, if_neg h4, if_neg h5, if_pos h6]
    try rfl
  have h6 : ¬ op = kNot := by simpa using h
  clear h
  refine sat_branch tabOk Tryz.func13 rfl trivial (fun h => ?_) (fun h => ?_) <;> rw [show ((⟨#[105, 110, 99]⟩ : ByteArray)) = ⟨kInc.toArray⟩ from rfl, strB] at h
  · have h7 : op = kInc := by simpa using h
    refine sat_ret tabOk Tryz.func13 rfl trivial ?_
    rw [if_neg h0, if_neg h1, if_neg h2, if_neg h3, if_neg h4, if_neg h5, if_neg h6, if_pos h7]
    try rfl
  have h7 : ¬ op = kInc := by simpa using h
  clear h
  refine sat_branch tabOk Tryz.func13 rfl trivial (fun h => ?_) (fun h => ?_) <;> rw [show ((⟨#[100, 101, 99]⟩ : ByteArray)) = ⟨kDec.toArray⟩ from rfl, strB] at h
  · have h8 : op = kDec := by simpa using h
    refine sat_ret tabOk Tryz.func13 rfl trivial ?_
    rw [if_neg h0, if_neg h1, if_neg h2, if_neg h3, if_neg h4, if_neg h5, if_neg h6, if_neg h7, if_pos h8]
    try rfl
  have h8 : ¬ op = kDec := by simpa using h
  clear h
  refine sat_branch tabOk Tryz.func13 rfl trivial (fun h => ?_) (fun h => ?_) <;> rw [show ((⟨#[110, 101, 103]⟩ : ByteArray)) = ⟨kNeg.toArray⟩ from rfl, strB] at h
  · have h9 : op = kNeg := by simpa using h
    refine sat_ret tabOk Tryz.func13 rfl trivial ?_
    rw [if_neg h0, if_neg h1, if_neg h2, if_neg h3, if_neg h4, if_neg h5, if_neg h6, if_neg h7, if_neg h8, if_pos h9]
    try rfl
  have h9 : ¬ op = kNeg := by simpa using h
  clear h
  refine sat_branch tabOk Tryz.func13 rfl trivial (fun h => ?_) (fun h => ?_) <;> rw [show ((⟨#[114, 101, 100, 97, 110, 100]⟩ : ByteArray)) = ⟨kRedand.toArray⟩ from rfl, strB] at h
  · have h10 : op = kRedand := by simpa using h
    refine sat_ret tabOk Tryz.func13 rfl trivial ?_
    rw [if_neg h0, if_neg h1, if_neg h2, if_neg h3, if_neg h4, if_neg h5, if_neg h6, if_neg h7, if_neg h8, if_neg h9, if_pos h10]
    try rfl
  have h10 : ¬ op = kRedand := by simpa using h
  clear h
  refine sat_branch tabOk Tryz.func13 rfl trivial (fun h => ?_) (fun h => ?_) <;> rw [show ((⟨#[114, 101, 100, 111, 114]⟩ : ByteArray)) = ⟨kRedor.toArray⟩ from rfl, strB] at h
  · have h11 : op = kRedor := by simpa using h
    refine sat_ret tabOk Tryz.func13 rfl trivial ?_
    rw [if_neg h0, if_neg h1, if_neg h2, if_neg h3, if_neg h4, if_neg h5, if_neg h6, if_neg h7, if_neg h8, if_neg h9, if_neg h10, if_pos h11]
    try rfl
  have h11 : ¬ op = kRedor := by simpa using h
  clear h
  refine sat_branch tabOk Tryz.func13 rfl trivial (fun h => ?_) (fun h => ?_) <;> rw [show ((⟨#[114, 101, 100, 120, 111, 114]⟩ : ByteArray)) = ⟨kRedxor.toArray⟩ from rfl, strB] at h
  · have h12 : op = kRedxor := by simpa using h
    refine sat_ret tabOk Tryz.func13 rfl trivial ?_
    rw [if_neg h0, if_neg h1, if_neg h2, if_neg h3, if_neg h4, if_neg h5, if_neg h6, if_neg h7, if_neg h8, if_neg h9, if_neg h10, if_neg h11, if_pos h12]
    try rfl
  have h12 : ¬ op = kRedxor := by simpa using h
  clear h
  refine sat_branch tabOk Tryz.func13 rfl trivial (fun h => ?_) (fun h => ?_) <;> rw [show ((⟨#[105, 110, 105, 116]⟩ : ByteArray)) = ⟨kInit.toArray⟩ from rfl, strB] at h
  · have h13 : op = kInit := by simpa using h
    refine sat_ret tabOk Tryz.func13 rfl trivial ?_
    rw [if_neg h0, if_neg h1, if_neg h2, if_neg h3, if_neg h4, if_neg h5, if_neg h6, if_neg h7, if_neg h8, if_neg h9, if_neg h10, if_neg h11, if_neg h12, if_pos h13]
    try rfl
  have h13 : ¬ op = kInit := by simpa using h
  clear h
  refine sat_branch tabOk Tryz.func13 rfl trivial (fun h => ?_) (fun h => ?_) <;> rw [show ((⟨#[110, 101, 120, 116]⟩ : ByteArray)) = ⟨kNext.toArray⟩ from rfl, strB] at h
  · have h14 : op = kNext := by simpa using h
    refine sat_ret tabOk Tryz.func13 rfl trivial ?_
    rw [if_neg h0, if_neg h1, if_neg h2, if_neg h3, if_neg h4, if_neg h5, if_neg h6, if_neg h7, if_neg h8, if_neg h9, if_neg h10, if_neg h11, if_neg h12, if_neg h13, if_pos h14]
    try rfl
  have h14 : ¬ op = kNext := by simpa using h
  clear h
  refine sat_branch tabOk Tryz.func13 rfl trivial (fun h => ?_) (fun h => ?_) <;> rw [show ((⟨#[97, 110, 100]⟩ : ByteArray)) = ⟨kAnd.toArray⟩ from rfl, strB] at h
  · have h15 : op = kAnd := by simpa using h
    refine sat_ret tabOk Tryz.func13 rfl trivial ?_
    rw [if_neg h0, if_neg h1, if_neg h2, if_neg h3, if_neg h4, if_neg h5, if_neg h6, if_neg h7, if_neg h8, if_neg h9, if_neg h10, if_neg h11, if_neg h12, if_neg h13, if_neg h14, if_pos h15]
    try rfl
  have h15 : ¬ op = kAnd := by simpa using h
  clear h
  refine sat_branch tabOk Tryz.func13 rfl trivial (fun h => ?_) (fun h => ?_) <;> rw [show ((⟨#[111, 114]⟩ : ByteArray)) = ⟨kOr.toArray⟩ from rfl, strB] at h
  · have h16 : op = kOr := by simpa using h
    refine sat_ret tabOk Tryz.func13 rfl trivial ?_
    rw [if_neg h0, if_neg h1, if_neg h2, if_neg h3, if_neg h4, if_neg h5, if_neg h6, if_neg h7, if_neg h8, if_neg h9, if_neg h10, if_neg h11, if_neg h12, if_neg h13, if_neg h14, if_neg h15, if_pos h16]
    try rfl
  have h16 : ¬ op = kOr := by simpa using h
  clear h
  refine sat_branch tabOk Tryz.func13 rfl trivial (fun h => ?_) (fun h => ?_) <;> rw [show ((⟨#[120, 111, 114]⟩ : ByteArray)) = ⟨kXor.toArray⟩ from rfl, strB] at h
  · have h17 : op = kXor := by simpa using h
    refine sat_ret tabOk Tryz.func13 rfl trivial ?_
    rw [if_neg h0, if_neg h1, if_neg h2, if_neg h3, if_neg h4, if_neg h5, if_neg h6, if_neg h7, if_neg h8, if_neg h9, if_neg h10, if_neg h11, if_neg h12, if_neg h13, if_neg h14, if_neg h15, if_neg h16, if_pos h17]
    try rfl
  have h17 : ¬ op = kXor := by simpa using h
  clear h
  refine sat_branch tabOk Tryz.func13 rfl trivial (fun h => ?_) (fun h => ?_) <;> rw [show ((⟨#[97, 100, 100]⟩ : ByteArray)) = ⟨kAdd.toArray⟩ from rfl, strB] at h
  · have h18 : op = kAdd := by simpa using h
    refine sat_ret tabOk Tryz.func13 rfl trivial ?_
    rw [if_neg h0, if_neg h1, if_neg h2, if_neg h3, if_neg h4, if_neg h5, if_neg h6, if_neg h7, if_neg h8, if_neg h9, if_neg h10, if_neg h11, if_neg h12, if_neg h13, if_neg h14, if_neg h15, if_neg h16, if_neg h17, if_pos h18]
    try rfl
  have h18 : ¬ op = kAdd := by simpa using h
  clear h
  refine sat_branch tabOk Tryz.func13 rfl trivial (fun h => ?_) (fun h => ?_) <;> rw [show ((⟨#[115, 117, 98]⟩ : ByteArray)) = ⟨kSub.toArray⟩ from rfl, strB] at h
  · have h19 : op = kSub := by simpa using h
    refine sat_ret tabOk Tryz.func13 rfl trivial ?_
    rw [if_neg h0, if_neg h1, if_neg h2, if_neg h3, if_neg h4, if_neg h5, if_neg h6, if_neg h7, if_neg h8, if_neg h9, if_neg h10, if_neg h11, if_neg h12, if_neg h13, if_neg h14, if_neg h15, if_neg h16, if_neg h17, if_neg h18, if_pos h19]
    try rfl
  have h19 : ¬ op = kSub := by simpa using h
  clear h
  refine sat_branch tabOk Tryz.func13 rfl trivial (fun h => ?_) (fun h => ?_) <;> rw [show ((⟨#[109, 117, 108]⟩ : ByteArray)) = ⟨kMul.toArray⟩ from rfl, strB] at h
  · have h20 : op = kMul := by simpa using h
    refine sat_ret tabOk Tryz.func13 rfl trivial ?_
    rw [if_neg h0, if_neg h1, if_neg h2, if_neg h3, if_neg h4, if_neg h5, if_neg h6, if_neg h7, if_neg h8, if_neg h9, if_neg h10, if_neg h11, if_neg h12, if_neg h13, if_neg h14, if_neg h15, if_neg h16, if_neg h17, if_neg h18, if_neg h19, if_pos h20]
    try rfl
  have h20 : ¬ op = kMul := by simpa using h
  clear h
  refine sat_branch tabOk Tryz.func13 rfl trivial (fun h => ?_) (fun h => ?_) <;> rw [show ((⟨#[117, 100, 105, 118]⟩ : ByteArray)) = ⟨kUdiv.toArray⟩ from rfl, strB] at h
  · have h21 : op = kUdiv := by simpa using h
    refine sat_ret tabOk Tryz.func13 rfl trivial ?_
    rw [if_neg h0, if_neg h1, if_neg h2, if_neg h3, if_neg h4, if_neg h5, if_neg h6, if_neg h7, if_neg h8, if_neg h9, if_neg h10, if_neg h11, if_neg h12, if_neg h13, if_neg h14, if_neg h15, if_neg h16, if_neg h17, if_neg h18, if_neg h19, if_neg h20, if_pos h21]
    try rfl
  have h21 : ¬ op = kUdiv := by simpa using h
  clear h
  refine sat_branch tabOk Tryz.func13 rfl trivial (fun h => ?_) (fun h => ?_) <;> rw [show ((⟨#[117, 114, 101, 109]⟩ : ByteArray)) = ⟨kUrem.toArray⟩ from rfl, strB] at h
  · have h22 : op = kUrem := by simpa using h
    refine sat_ret tabOk Tryz.func13 rfl trivial ?_
    rw [if_neg h0, if_neg h1, if_neg h2, if_neg h3, if_neg h4, if_neg h5, if_neg h6, if_neg h7, if_neg h8, if_neg h9, if_neg h10, if_neg h11, if_neg h12, if_neg h13, if_neg h14, if_neg h15, if_neg h16, if_neg h17, if_neg h18, if_neg h19, if_neg h20, if_neg h21, if_pos h22]
    try rfl
  have h22 : ¬ op = kUrem := by simpa using h
  clear h
  refine sat_branch tabOk Tryz.func13 rfl trivial (fun h => ?_) (fun h => ?_) <;> rw [show ((⟨#[115, 108, 108]⟩ : ByteArray)) = ⟨kSll.toArray⟩ from rfl, strB] at h
  · have h23 : op = kSll := by simpa using h
    refine sat_ret tabOk Tryz.func13 rfl trivial ?_
    rw [if_neg h0, if_neg h1, if_neg h2, if_neg h3, if_neg h4, if_neg h5, if_neg h6, if_neg h7, if_neg h8, if_neg h9, if_neg h10, if_neg h11, if_neg h12, if_neg h13, if_neg h14, if_neg h15, if_neg h16, if_neg h17, if_neg h18, if_neg h19, if_neg h20, if_neg h21, if_neg h22, if_pos h23]
    try rfl
  have h23 : ¬ op = kSll := by simpa using h
  clear h
  refine sat_branch tabOk Tryz.func13 rfl trivial (fun h => ?_) (fun h => ?_) <;> rw [show ((⟨#[115, 114, 108]⟩ : ByteArray)) = ⟨kSrl.toArray⟩ from rfl, strB] at h
  · have h24 : op = kSrl := by simpa using h
    refine sat_ret tabOk Tryz.func13 rfl trivial ?_
    rw [if_neg h0, if_neg h1, if_neg h2, if_neg h3, if_neg h4, if_neg h5, if_neg h6, if_neg h7, if_neg h8, if_neg h9, if_neg h10, if_neg h11, if_neg h12, if_neg h13, if_neg h14, if_neg h15, if_neg h16, if_neg h17, if_neg h18, if_neg h19, if_neg h20, if_neg h21, if_neg h22, if_neg h23, if_pos h24]
    try rfl
  have h24 : ¬ op = kSrl := by simpa using h
  clear h
  refine sat_branch tabOk Tryz.func13 rfl trivial (fun h => ?_) (fun h => ?_) <;> rw [show ((⟨#[115, 114, 97]⟩ : ByteArray)) = ⟨kSra.toArray⟩ from rfl, strB] at h
  · have h25 : op = kSra := by simpa using h
    refine sat_ret tabOk Tryz.func13 rfl trivial ?_
    rw [if_neg h0, if_neg h1, if_neg h2, if_neg h3, if_neg h4, if_neg h5, if_neg h6, if_neg h7, if_neg h8, if_neg h9, if_neg h10, if_neg h11, if_neg h12, if_neg h13, if_neg h14, if_neg h15, if_neg h16, if_neg h17, if_neg h18, if_neg h19, if_neg h20, if_neg h21, if_neg h22, if_neg h23, if_neg h24, if_pos h25]
    try rfl
  have h25 : ¬ op = kSra := by simpa using h
  clear h
  refine sat_branch tabOk Tryz.func13 rfl trivial (fun h => ?_) (fun h => ?_) <;> rw [show ((⟨#[101, 113]⟩ : ByteArray)) = ⟨kEq.toArray⟩ from rfl, strB] at h
  · have h26 : op = kEq := by simpa using h
    refine sat_ret tabOk Tryz.func13 rfl trivial ?_
    rw [if_neg h0, if_neg h1, if_neg h2, if_neg h3, if_neg h4, if_neg h5, if_neg h6, if_neg h7, if_neg h8, if_neg h9, if_neg h10, if_neg h11, if_neg h12, if_neg h13, if_neg h14, if_neg h15, if_neg h16, if_neg h17, if_neg h18, if_neg h19, if_neg h20, if_neg h21, if_neg h22, if_neg h23, if_neg h24, if_neg h25, if_pos h26]
    try rfl
  have h26 : ¬ op = kEq := by simpa using h
  clear h
  refine sat_branch tabOk Tryz.func13 rfl trivial (fun h => ?_) (fun h => ?_) <;> rw [show ((⟨#[117, 108, 116]⟩ : ByteArray)) = ⟨kUlt.toArray⟩ from rfl, strB] at h
  · have h27 : op = kUlt := by simpa using h
    refine sat_ret tabOk Tryz.func13 rfl trivial ?_
    rw [if_neg h0, if_neg h1, if_neg h2, if_neg h3, if_neg h4, if_neg h5, if_neg h6, if_neg h7, if_neg h8, if_neg h9, if_neg h10, if_neg h11, if_neg h12, if_neg h13, if_neg h14, if_neg h15, if_neg h16, if_neg h17, if_neg h18, if_neg h19, if_neg h20, if_neg h21, if_neg h22, if_neg h23, if_neg h24, if_neg h25, if_neg h26, if_pos h27]
    try rfl
  have h27 : ¬ op = kUlt := by simpa using h
  clear h
  refine sat_branch tabOk Tryz.func13 rfl trivial (fun h => ?_) (fun h => ?_) <;> rw [show ((⟨#[115, 108, 116]⟩ : ByteArray)) = ⟨kSlt.toArray⟩ from rfl, strB] at h
  · have h28 : op = kSlt := by simpa using h
    refine sat_ret tabOk Tryz.func13 rfl trivial ?_
    rw [if_neg h0, if_neg h1, if_neg h2, if_neg h3, if_neg h4, if_neg h5, if_neg h6, if_neg h7, if_neg h8, if_neg h9, if_neg h10, if_neg h11, if_neg h12, if_neg h13, if_neg h14, if_neg h15, if_neg h16, if_neg h17, if_neg h18, if_neg h19, if_neg h20, if_neg h21, if_neg h22, if_neg h23, if_neg h24, if_neg h25, if_neg h26, if_neg h27, if_pos h28]
    try rfl
  have h28 : ¬ op = kSlt := by simpa using h
  clear h
  refine sat_branch tabOk Tryz.func13 rfl trivial (fun h => ?_) (fun h => ?_) <;> rw [show ((⟨#[99, 111, 110, 99, 97, 116]⟩ : ByteArray)) = ⟨kConcat.toArray⟩ from rfl, strB] at h
  · have h29 : op = kConcat := by simpa using h
    refine sat_ret tabOk Tryz.func13 rfl trivial ?_
    rw [if_neg h0, if_neg h1, if_neg h2, if_neg h3, if_neg h4, if_neg h5, if_neg h6, if_neg h7, if_neg h8, if_neg h9, if_neg h10, if_neg h11, if_neg h12, if_neg h13, if_neg h14, if_neg h15, if_neg h16, if_neg h17, if_neg h18, if_neg h19, if_neg h20, if_neg h21, if_neg h22, if_neg h23, if_neg h24, if_neg h25, if_neg h26, if_neg h27, if_neg h28, if_pos h29]
    try rfl
  have h29 : ¬ op = kConcat := by simpa using h
  clear h
  refine sat_branch tabOk Tryz.func13 rfl trivial (fun h => ?_) (fun h => ?_) <;> rw [show ((⟨#[105, 116, 101]⟩ : ByteArray)) = ⟨kIte.toArray⟩ from rfl, strB] at h
  · have h30 : op = kIte := by simpa using h
    refine sat_ret tabOk Tryz.func13 rfl trivial ?_
    rw [if_neg h0, if_neg h1, if_neg h2, if_neg h3, if_neg h4, if_neg h5, if_neg h6, if_neg h7, if_neg h8, if_neg h9, if_neg h10, if_neg h11, if_neg h12, if_neg h13, if_neg h14, if_neg h15, if_neg h16, if_neg h17, if_neg h18, if_neg h19, if_neg h20, if_neg h21, if_neg h22, if_neg h23, if_neg h24, if_neg h25, if_neg h26, if_neg h27, if_neg h28, if_neg h29, if_pos h30]
    try rfl
  have h30 : ¬ op = kIte := by simpa using h
  clear h
  refine sat_branch tabOk Tryz.func13 rfl trivial (fun h => ?_) (fun h => ?_) <;> rw [show ((⟨#[115, 108, 105, 99, 101]⟩ : ByteArray)) = ⟨kSlice.toArray⟩ from rfl, strB] at h
  · have h31 : op = kSlice := by simpa using h
    refine sat_ret tabOk Tryz.func13 rfl trivial ?_
    rw [if_neg h0, if_neg h1, if_neg h2, if_neg h3, if_neg h4, if_neg h5, if_neg h6, if_neg h7, if_neg h8, if_neg h9, if_neg h10, if_neg h11, if_neg h12, if_neg h13, if_neg h14, if_neg h15, if_neg h16, if_neg h17, if_neg h18, if_neg h19, if_neg h20, if_neg h21, if_neg h22, if_neg h23, if_neg h24, if_neg h25, if_neg h26, if_neg h27, if_neg h28, if_neg h29, if_neg h30, if_pos h31]
    try rfl
  have h31 : ¬ op = kSlice := by simpa using h
  clear h
  refine sat_branch tabOk Tryz.func13 rfl trivial (fun h => ?_) (fun h => ?_) <;> rw [show ((⟨#[117, 101, 120, 116]⟩ : ByteArray)) = ⟨kUext.toArray⟩ from rfl, strB] at h
  · have h32 : op = kUext := by simpa using h
    refine sat_ret tabOk Tryz.func13 rfl trivial ?_
    rw [if_neg h0, if_neg h1, if_neg h2, if_neg h3, if_neg h4, if_neg h5, if_neg h6, if_neg h7, if_neg h8, if_neg h9, if_neg h10, if_neg h11, if_neg h12, if_neg h13, if_neg h14, if_neg h15, if_neg h16, if_neg h17, if_neg h18, if_neg h19, if_neg h20, if_neg h21, if_neg h22, if_neg h23, if_neg h24, if_neg h25, if_neg h26, if_neg h27, if_neg h28, if_neg h29, if_neg h30, if_neg h31, if_pos h32]
    try rfl
  have h32 : ¬ op = kUext := by simpa using h
  clear h
  refine sat_branch tabOk Tryz.func13 rfl trivial (fun h => ?_) (fun h => ?_) <;> rw [show ((⟨#[115, 101, 120, 116]⟩ : ByteArray)) = ⟨kSext.toArray⟩ from rfl, strB] at h
  · have h33 : op = kSext := by simpa using h
    refine sat_ret tabOk Tryz.func13 rfl trivial ?_
    rw [if_neg h0, if_neg h1, if_neg h2, if_neg h3, if_neg h4, if_neg h5, if_neg h6, if_neg h7, if_neg h8, if_neg h9, if_neg h10, if_neg h11, if_neg h12, if_neg h13, if_neg h14, if_neg h15, if_neg h16, if_neg h17, if_neg h18, if_neg h19, if_neg h20, if_neg h21, if_neg h22, if_neg h23, if_neg h24, if_neg h25, if_neg h26, if_neg h27, if_neg h28, if_neg h29, if_neg h30, if_neg h31, if_neg h32, if_pos h33]
    try rfl
  have h33 : ¬ op = kSext := by simpa using h
  clear h
  refine sat_ret tabOk Tryz.func13 rfl trivial ?_
  rw [if_neg h0, if_neg h1, if_neg h2, if_neg h3, if_neg h4, if_neg h5, if_neg h6, if_neg h7, if_neg h8, if_neg h9, if_neg h10, if_neg h11, if_neg h12, if_neg h13, if_neg h14, if_neg h15, if_neg h16, if_neg h17, if_neg h18, if_neg h19, if_neg h20, if_neg h21, if_neg h22, if_neg h23, if_neg h24, if_neg h25, if_neg h26, if_neg h27, if_neg h28, if_neg h29, if_neg h30, if_neg h31, if_neg h32, if_neg h33]
  try rfl
end Go.Proofs.YtjjlipbddlignaaGreatDoor
namespace Go.Proofs.YtjjlipbddlignaaGreatDoor
open Go Ab
set_option maxRecDepth 100000
set_option linter.unusedVariables false
set_option linter.unusedSimpArgs false
set_option maxHeartbeats 1000000

theorem take_one {α : Type} [Inhabited α] {l : List α} {i : Nat} (d : α) (h : i < l.length) : l.take (i + 1) = l.take i ++ [l.getD i d] := by
  rw [List.take_succ_eq_append_getElem h]
  simp [h]
theorem cnt1 (x c : UInt8) : [x].count c = if x = c then 1 else 0 := by by_cases e : x = c <;> simp [e]
theorem has_call (form : List UInt8) (c : UInt8) (hl : form.length ≤ 1000000) : ACall Tryz.prog 45 [vTx form, vI .u8 (c.toNat : Int)] [] (fun r o => r = vI .i64 ((form.count c : Nat) : Int)) := by
  refine acall_enter Tryz.func45 rfl rfl (Nat.le_of_ble_eq_true rfl) fun C hC hCl hDs hGk => ?_
  refine sat_stop tabOk Tryz.func45 rfl trivial ?_
  refine sat_while (α := Nat) (fun i => [(0, vTx form), (1, vI .u8 (c.toNat : Int)), (5, vI .i64 (((form.take i).count c : Nat) : Int)), (6, vI .i64 i)]) (fun i => []) (fun i => i ≤ form.length) (fun i => form.length - i) 0 (Nat.zero_le _) ?_ ?_
  · exact fun h => sat_le h hC hCl ⟨⟨_, rfl, .refl _⟩, ⟨_, rfl, .refl _⟩, ⟨_, rfl, .refl _⟩, ⟨_, rfl, .refl _⟩, trivial⟩ trivial rfl rfl (Nat.zero_le _)
  rintro i hi ih
  have hsz : (⟨form.toArray⟩ : ByteArray).size = form.length := sizeBy form
  refine sat_branch tabOk Tryz.func45 rfl trivial (fun hb => ?_) (fun hb => ?_) <;> simp only [hsz, decide_eq_true_eq, decide_eq_false_iff_not] at hb
  · have hlt : i < form.length := by omega
    have hc : (form.take i).count c ≤ form.length := Nat.le_trans List.count_le_length (by rw [List.length_take]; omega)
    have hs : (form.take (i + 1)).count c = (form.take i).count c + (if form.getD i 0 = c then 1 else 0) := by
      rw [take_one 0 hlt, List.count_append, cnt1]
    refine sat_branch tabOk Tryz.func45 rfl ?_ (fun hb2 => ?_) (fun hb2 => ?_)
    · simp only [hsz, Int.toNat_natCast]
      exact ⟨⟨by omega, by omega⟩, trivial⟩
    · have hb2 : (bt ⟨form.toArray⟩ ((i : Int)).toNat == (c.toNat : Int)) = true := hb2
      rw [Int.toNat_natCast, bt_list] at hb2
      have e : form.getD i 0 = c := by
        have : ((form.getD i 0).toNat : Int) = c.toNat := by simpa using hb2
        exact UInt8.toNat_inj.1 (by omega)
      rw [if_pos e] at hs
      refine sat_stop tabOk Tryz.func45 rfl trivial ?_
      refine sat_le (ih (i + 1) (by omega) (by omega)) hC hCl ⟨⟨_, rfl, .refl _⟩, ⟨_, rfl, .refl _⟩, ⟨_, rfl, .of ?_⟩, ⟨_, rfl, .of (by rw [wrap_id (by omega) (by omega)]; rfl)⟩, trivial⟩ trivial rfl rfl (Nat.zero_le _)
      show vI .i64 (IntKind.i64.wrap (((form.take i).count c : Nat) + 1)) = _
      rw [wrap_id (by omega) (by omega), hs]
      rfl
    · have hb2 : (bt ⟨form.toArray⟩ ((i : Int)).toNat == (c.toNat : Int)) = false := hb2
      rw [Int.toNat_natCast, bt_list] at hb2
      have e : ¬ form.getD i 0 = c := by
        rintro rfl
        simp at hb2
      rw [if_neg e] at hs
      refine sat_stop tabOk Tryz.func45 rfl trivial ?_
      refine sat_le (ih (i + 1) (by omega) (by omega)) hC hCl ⟨⟨_, rfl, .refl _⟩, ⟨_, rfl, .refl _⟩, ⟨_, rfl, .of ?_⟩, ⟨_, rfl, .of (by rw [wrap_id (by omega) (by omega)]; rfl)⟩, trivial⟩ trivial rfl rfl (Nat.zero_le _)
      rw [hs]
      rfl
  · obtain rfl : i = form.length := by omega
    refine sat_ret tabOk Tryz.func45 rfl trivial ?_
    rw [List.take_length]
    rfl

end Go.Proofs.YtjjlipbddlignaaGreatDoor
namespace Go.Proofs.YtjjlipbddlignaaGreatDoor
open Go Ab
set_option maxRecDepth 100000
set_option linter.unusedVariables false
set_option linter.unusedSimpArgs false
set_option maxHeartbeats 1000000

def withinB (l : List Int) (many least most : Int) : Bool := decide ((l.length : Int) = many) && l.all (fun x => decide (least ≤ x ∧ x ≤ most))
theorem withinB_no {l : List Int} {many least most : Int} {i : Nat} (h : i < l.length) (hn : ¬ (least ≤ l.getD i 0 ∧ l.getD i 0 ≤ most)) : withinB l many least most = false := by
  unfold withinB
  rw [Bool.and_eq_false_iff]
  right
  rw [List.all_eq_false]
  exact ⟨l.getD i 0, getD_memI h, by simpa using hn⟩
theorem within_call (l : List Int) (many least most : Int) (hl : l.length ≤ maxLen) : ACall Tryz.prog 46 [.d (eIs l), vI .i64 many, vI .i64 least, vI .i64 most] [] (fun r o => r = vB (withinB l many least most)) := by
  refine acall_enter Tryz.func46 rfl rfl (Nat.le_of_ble_eq_true rfl) fun C hC hCl hDs hGk => ?_
  have hl : l.length ≤ 9223372036854775807 := hl
  refine sat_stop tabOk Tryz.func46 rfl trivial ?_
  refine sat_while (α := Nat) (fun i => [(0, .d (eIs l)), (1, vI .i64 many), (2, vI .i64 least), (3, vI .i64 most), (9, vI .i64 i)]) (fun i => []) (fun i => i ≤ l.length ∧ ∀ j, j < i → least ≤ l.getD j 0 ∧ l.getD j 0 ≤ most) (fun i => l.length - i) 0 ⟨Nat.zero_le _, fun j hj => by omega⟩ ?_ ?_
  · exact fun h => sat_le h hC hCl ⟨⟨_, rfl, .refl _⟩, ⟨_, rfl, .refl _⟩, ⟨_, rfl, .refl _⟩, ⟨_, rfl, .refl _⟩, ⟨_, rfl, .refl _⟩, trivial⟩ trivial rfl rfl (Nat.zero_le _)
  rintro i ⟨hi, hall⟩ ih
  refine sat_branch tabOk Tryz.func46 rfl trivial (fun hb => ?_) (fun hb => ?_) <;> simp only [List.length_map, decide_eq_true_eq, decide_eq_false_iff_not] at hb
  · have hlt : i < l.length := by omega
    refine sat_branch tabOk Tryz.func46 rfl (by simp only [andP, and_true, true_and, Int.toNat_natCast, List.length_map, List.length_append, List.length_cons, List.length_nil, List.length_replicate]; omega) (fun h1 => ?_) (fun h1 => ?_)
    · have h1 : decide (l.getD i 0 < least) = true := h1
      rw [decide_eq_true_eq] at h1
      refine sat_branch tabOk Tryz.func46 rfl trivial (fun _ => ?_) (fun h => by cases h)
      refine sat_ret tabOk Tryz.func46 rfl trivial ?_
      rw [withinB_no hlt (by omega)]
      rfl
    refine sat_branch tabOk Tryz.func46 rfl (by simp only [andP, and_true, true_and, Int.toNat_natCast, List.length_map, List.length_append, List.length_cons, List.length_nil, List.length_replicate]; omega) (fun h2 => ?_) (fun h2 => ?_)
    · have h2 : decide (l.getD i 0 > most) = true := h2
      rw [decide_eq_true_eq] at h2
      refine sat_ret tabOk Tryz.func46 rfl trivial ?_
      rw [withinB_no hlt (by omega)]
      rfl
    have h1 : decide (l.getD i 0 < least) = false := h1
    have h2 : decide (l.getD i 0 > most) = false := h2
    rw [decide_eq_false_iff_not] at h1 h2
    refine sat_stop tabOk Tryz.func46 rfl trivial ?_
    refine sat_le (ih (i + 1) ⟨by omega, fun j hj => ?_⟩ (by omega)) hC hCl ⟨⟨_, rfl, .refl _⟩, ⟨_, rfl, .refl _⟩, ⟨_, rfl, .refl _⟩, ⟨_, rfl, .refl _⟩, ⟨_, rfl, .of (by rw [wrap_id (by omega) (by omega)]; rfl)⟩, trivial⟩ trivial rfl rfl (Nat.zero_le _)
    rcases Nat.lt_or_ge j i with h | h
    · exact hall j h
    · obtain rfl : j = i := by omega
      omega
  · obtain rfl : i = l.length := by omega
    refine sat_ret tabOk Tryz.func46 rfl trivial ?_
    show vB (((((l.map eI).length : Nat) : Int)) == many) = _
    rw [List.length_map]
    have ha : l.all (fun x => decide (least ≤ x ∧ x ≤ most)) = true := by
      rw [List.all_eq_true]
      intro x hx
      obtain ⟨j, hj, rfl⟩ := List.getElem_of_mem hx
      have := hall j hj
      rw [List.getD_eq_getElem?_getD, List.getElem?_eq_getElem hj] at this
      exact decide_eq_true this
    unfold withinB
    rw [ha, Bool.and_true]
    congr 2
theorem bits13_call (l : List UInt8) (hl : l.length ≤ maxLen) : ACall Tryz.prog 61 [vTx l] [] (fun r o => r = vB (bitsOk l)) := by
  refine acall_enter Tryz.func61 rfl rfl (Nat.le_of_ble_eq_true rfl) fun C hC hCl hDs hGk => ?_
  have hl : l.length ≤ 9223372036854775807 := hl
  have hsz : (⟨l.toArray⟩ : ByteArray).size = l.length := sizeBy l
  have no : ∀ i, i < l.length → isBit (l.getD i 0) = false → bitsOk l = false := fun i hi hb => by
    unfold bitsOk
    rw [Bool.and_eq_false_iff]
    right
    rw [List.all_eq_false]
    exact ⟨l.getD i 0, by simp [List.getD_eq_getElem?_getD, hi], by simpa using hb⟩
  have e48 : (48 : UInt8).toNat = 48 := rfl
  have e49 : (49 : UInt8).toNat = 49 := rfl
  refine sat_stop tabOk Tryz.func61 rfl trivial ?_
  refine sat_while (α := Nat) (fun i => [(0, vTx l), (3, vI .i64 i)]) (fun i => []) (fun i => i ≤ l.length ∧ ∀ j, j < i → isBit (l.getD j 0) = true) (fun i => l.length - i) 0 ⟨Nat.zero_le _, fun j hj => by omega⟩ ?_ ?_
  · exact fun h => sat_le h hC hCl ⟨⟨_, rfl, .refl _⟩, ⟨_, rfl, .refl _⟩, trivial⟩ trivial rfl rfl (Nat.zero_le _)
  rintro i ⟨hi, hall⟩ ih
  refine sat_branch tabOk Tryz.func61 rfl trivial (fun hb => ?_) (fun hb => ?_) <;> simp only [hsz, decide_eq_true_eq, decide_eq_false_iff_not] at hb
  · have hlt : i < l.length := by omega
    have hnd : ((0 : Int) ≤ (i : Int) ∧ (i : Int) < ((⟨l.toArray⟩ : ByteArray).size : Int)) := by rw [hsz]; omega
    have go : isBit (l.getD i 0) = true → ∀ j, j < i + 1 → isBit (l.getD j 0) = true := fun hk j hj => by
      rcases Nat.lt_succ_iff_lt_or_eq.1 hj with h | rfl
      · exact hall j h
      · exact hk
    refine sat_branch tabOk Tryz.func61 rfl ⟨hnd, trivial⟩ (fun h1 => ?_) (fun h1 => ?_)
    · have h1 : (bt ⟨l.toArray⟩ ((i : Int)).toNat != 48) = true := h1
      rw [Int.toNat_natCast, bt_list, bne_iff_ne] at h1
      refine sat_branch tabOk Tryz.func61 rfl ⟨hnd, trivial⟩ (fun h2 => ?_) (fun h2 => ?_)
      · have h2 : (bt ⟨l.toArray⟩ ((i : Int)).toNat != 49) = true := h2
        rw [Int.toNat_natCast, bt_list, bne_iff_ne] at h2
        refine sat_ret tabOk Tryz.func61 rfl trivial ?_
        rw [no i hlt (decide_eq_false (by
          rintro (e | e)
          · rw [e] at h1
            exact h1 rfl
          · rw [e] at h2
            exact h2 rfl))]
        rfl
      have h2 : (bt ⟨l.toArray⟩ ((i : Int)).toNat != 49) = false := h2
      rw [Int.toNat_natCast, bt_list, bne_eq_false_iff_eq] at h2
      refine sat_stop tabOk Tryz.func61 rfl trivial ?_
      exact sat_le (ih (i + 1) ⟨by omega, go (decide_eq_true (.inr (UInt8.toNat_inj.1 (by omega))))⟩ (by omega)) hC hCl ⟨⟨_, rfl, .refl _⟩, ⟨_, rfl, .of (by rw [wrap_id (by omega) (by omega)]; rfl)⟩, trivial⟩ trivial rfl rfl (Nat.zero_le _)
    · have h1 : (bt ⟨l.toArray⟩ ((i : Int)).toNat != 48) = false := h1
      rw [Int.toNat_natCast, bt_list, bne_eq_false_iff_eq] at h1
      refine sat_branch tabOk Tryz.func61 rfl trivial (fun h => by cases h) (fun _ => ?_)
      refine sat_stop tabOk Tryz.func61 rfl trivial ?_
      exact sat_le (ih (i + 1) ⟨by omega, go (decide_eq_true (.inl (UInt8.toNat_inj.1 (by omega))))⟩ (by omega)) hC hCl ⟨⟨_, rfl, .refl _⟩, ⟨_, rfl, .of (by rw [wrap_id (by omega) (by omega)]; rfl)⟩, trivial⟩ trivial rfl rfl (Nat.zero_le _)
  · obtain rfl : i = l.length := by omega
    have hall2 : l.all isBit = true := by
      rw [List.all_eq_true]
      intro c hc
      obtain ⟨j, hj, rfl⟩ := List.getElem_of_mem hc
      have := hall j hj
      rw [List.getD_eq_getElem?_getD, List.getElem?_eq_getElem hj] at this
      exact this
    refine sat_branch tabOk Tryz.func61 rfl trivial (fun h1 => ?_) (fun h1 => ?_)
    · have h1 : decide (((⟨l.toArray⟩ : ByteArray).size : Int) ≥ 1) = true := h1
      rw [hsz, decide_eq_true_eq] at h1
      refine sat_ret tabOk Tryz.func61 rfl trivial ?_
      show vB (decide (((⟨l.toArray⟩ : ByteArray).size : Int) ≤ 128)) = _
      unfold bitsOk
      rw [hall2, Bool.and_true, hsz]
      congr 2
      rw [eq_iff_iff]
      omega
    · have h1 : decide (((⟨l.toArray⟩ : ByteArray).size : Int) ≥ 1) = false := h1
      rw [hsz, decide_eq_false_iff_not] at h1
      refine sat_ret tabOk Tryz.func61 rfl trivial ?_
      unfold bitsOk
      rw [decide_eq_false (by omega)]
      rfl
end Go.Proofs.YtjjlipbddlignaaGreatDoor
namespace Go.Proofs.YtjjlipbddlignaaGreatDoor
open Go Ab Go.RowKit
set_option maxRecDepth 100000
set_option linter.unusedVariables false
set_option linter.unusedSimpArgs false
set_option maxHeartbeats 4000000

theorem EqI_call (a b : List Int) : ACall Tryz.prog 30 [.d (eIs a), .d (eIs b)] [] (fun r o => r = vB (decide (a = b))) := by
  refine acall_enter Tryz.func30 rfl rfl (Nat.le_of_ble_eq_true rfl) fun C hC hCl hDs hGk => ?_
  refine sat_len (t := 0) rfl fun hlen => ?_
  rw [List.length_map] at hlen
  refine sat_branch tabOk Tryz.func30 rfl trivial (fun h => ?_) (fun h => ?_)
  · refine sat_ret tabOk Tryz.func30 rfl trivial ?_
    show vB false = vB _
    have : a ≠ b := by rintro rfl; simp at h
    simp [this]
  have hl : a.length = b.length := by simp at h; omega
  refine sat_stop tabOk Tryz.func30 rfl trivial ?_
  refine sat_while (α := Nat) (fun i => [(0, .d (eIs a)), (1, .d (eIs b)), (12, vI .i64 a.length), (13, vI .i64 i)]) (fun _ => []) (fun i => i ≤ a.length ∧ a.take i = b.take i) (fun i => a.length - i) 0 ⟨Nat.zero_le _, rfl⟩ ?_ ?_
  · exact fun h => sat_le h hC hCl ⟨⟨_, rfl, .refl _⟩, ⟨_, rfl, .refl _⟩, ⟨_, rfl, .of (by rw [List.length_map])⟩, ⟨_, rfl, .refl _⟩, trivial⟩ trivial rfl rfl (Nat.zero_le _)
  rintro i ⟨hi, hc⟩ ih
  refine sat_branch tabOk Tryz.func30 rfl trivial (fun hb => ?_) (fun hb => ?_) <;> simp only [decide_eq_true_eq, decide_eq_false_iff_not, List.length_map] at hb
  · have hlt : i < a.length := by omega
    have hlb : i < b.length := by omega
    have ea : a.getD i 0 = a[i] := by simp [hlt]
    have eb : b.getD i 0 = b[i] := by simp [hlb]
    refine sat_drawT 8 tabOk Tryz.func30 rfl rfl trivial (by kernel_rfl) ?_
    refine ds_done tabOk rfl ?_ ?_
    · exact (by simp only [andP, and_true, true_and, Int.toNat_natCast, List.length_map, List.length_append, List.length_cons, List.length_nil, List.length_replicate]; omega)
    refine sat_branch tabOk Tryz.func30 rfl trivial (fun hb2 => ?_) (fun hb2 => ?_)
    · simp only [Int.toNat_natCast, bne_iff_ne, ne_eq] at hb2
      refine sat_ret tabOk Tryz.func30 rfl trivial ?_
      show vB false = vB _
      have : a ≠ b := by rintro rfl; exact hb2 rfl
      simp [this]
    · simp only [Int.toNat_natCast, bne_eq_false_iff_eq] at hb2
      rw [ea, eb] at hb2
      refine sat_stop tabOk Tryz.func30 rfl trivial ?_
      refine sat_le (ih (i + 1) ⟨by omega, ?_⟩ (by omega)) hC hCl ⟨⟨_, rfl, .refl _⟩, ⟨_, rfl, .refl _⟩, ⟨_, rfl, .refl _⟩, ⟨_, rfl, .of (by rw [wrap_id (by omega) (by omega)]; rfl)⟩, trivial⟩ trivial rfl rfl (Nat.zero_le _)
      rw [List.take_add_one, List.take_add_one, hc, List.getElem?_eq_getElem hlt, List.getElem?_eq_getElem hlb, hb2]
  · obtain rfl : i = a.length := by omega
    rw [List.take_length, hl, List.take_length] at hc
    refine sat_ret tabOk Tryz.func30 rfl trivial ?_
    show vB true = vB _
    simp [hc]

theorem nd_eq (x y : Nd) : x = y ↔ x.op = y.op ∧ x.s = y.s ∧ x.t = y.t ∧ x.a = y.a ∧ x.n = y.n := by
  obtain ⟨a, b, c, d, e⟩ := x
  obtain ⟨a', b', c', d', e'⟩ := y
  simp only [Nd.mk.injEq]
  exact ⟨fun ⟨h1, h2, h3, h4, h5⟩ => ⟨h1, h2, h5, h3, h4⟩, fun ⟨h1, h2, h3, h4, h5⟩ => ⟨h1, h2, h4, h5, h3⟩⟩
theorem sameN_call (x y : Nd) : ACall Tryz.prog 29 [.d (eNd x), .d (eNd y)] [] (fun r o => r = vB (decide (x = y))) := by
  refine acall_enter Tryz.func29 rfl rfl (Nat.le_of_ble_eq_true rfl) fun C hC hCl hDs hGk => ?_
  have hq := nd_eq x y
  have no : ¬ (x.op = y.op ∧ x.s = y.s ∧ x.t = y.t ∧ x.a = y.a ∧ x.n = y.n) → vB false = vB (decide (x = y)) := fun h => by rw [decide_eq_false (fun e => h (hq.1 e))]
  refine sat_branch tabOk Tryz.func29 rfl trivial (fun h1 => ?_) (fun h1 => ?_)
  rotate_left
  · have h1 : ((⟨x.op.toArray⟩ : ByteArray).toList == (⟨y.op.toArray⟩ : ByteArray).toList) = false := h1
    rw [strBy, decide_eq_false_iff_not] at h1
    repeat refine sat_branch tabOk Tryz.func29 rfl trivial (fun h => by cases h) (fun _ => ?_)
    exact sat_ret tabOk Tryz.func29 rfl trivial (no fun h => h1 h.1)
  have h1 : ((⟨x.op.toArray⟩ : ByteArray).toList == (⟨y.op.toArray⟩ : ByteArray).toList) = true := h1
  rw [strBy, decide_eq_true_eq] at h1
  refine sat_branch tabOk Tryz.func29 rfl trivial (fun h2 => ?_) (fun h2 => ?_)
  rotate_left
  · have h2 : (x.s == y.s) = false := h2
    rw [beq_eq_false_iff_ne] at h2
    repeat refine sat_branch tabOk Tryz.func29 rfl trivial (fun h => by cases h) (fun _ => ?_)
    exact sat_ret tabOk Tryz.func29 rfl trivial (no fun h => h2 h.2.1)
  have h2 : (x.s == y.s) = true := h2
  rw [beq_iff_eq] at h2
  refine sat_branch tabOk Tryz.func29 rfl trivial (fun h3 => ?_) (fun h3 => ?_)
  rotate_left
  · have h3 : ((⟨x.t.toArray⟩ : ByteArray).toList == (⟨y.t.toArray⟩ : ByteArray).toList) = false := h3
    rw [strBy, decide_eq_false_iff_not] at h3
    repeat refine sat_branch tabOk Tryz.func29 rfl trivial (fun h => by cases h) (fun _ => ?_)
    exact sat_ret tabOk Tryz.func29 rfl trivial (no fun h => h3 h.2.2.1)
  have h3 : ((⟨x.t.toArray⟩ : ByteArray).toList == (⟨y.t.toArray⟩ : ByteArray).toList) = true := h3
  rw [strBy, decide_eq_true_eq] at h3
  refine sat_call tabOk Tryz.func29 rfl trivial (EqI_call x.a y.a) (.refl _) rfl ⟨_, rfl⟩ (by rintro r o rfl; rfl) ?_
  rintro _ o rfl
  by_cases h4 : x.a = y.a
  · rw [decide_eq_true h4]
    refine sat_branch tabOk Tryz.func29 rfl trivial (fun _ => ?_) (fun h => by cases h)
    refine sat_call tabOk Tryz.func29 rfl trivial (EqI_call x.n y.n) (.refl _) rfl ⟨_, rfl⟩ (by rintro r o rfl; rfl) ?_
    rintro _ o rfl
    refine sat_ret tabOk Tryz.func29 rfl trivial ?_
    show vB (decide (x.n = y.n)) = vB (decide (x = y))
    congr 2
    rw [eq_iff_iff, hq]
    exact ⟨fun h => ⟨h1, h2, h3, h4, h⟩, fun h => h.2.2.2.2⟩
  · rw [decide_eq_false h4]
    repeat refine sat_branch tabOk Tryz.func29 rfl trivial (fun h => by cases h) (fun _ => ?_)
    exact sat_ret tabOk Tryz.func29 rfl trivial (no fun h => h4 h.2.2.2.1)
theorem EqN_call (a b : List Nd) : ACall Tryz.prog 28 [.d (eNds a), .d (eNds b), vFn 29] [] (fun r o => r = vB (decide (a = b))) := by
  refine acall_enter Tryz.func28 rfl rfl (Nat.le_of_ble_eq_true rfl) fun C hC hCl hDs hGk => ?_
  refine sat_len (t := 0) rfl fun hlen => ?_
  rw [List.length_map] at hlen
  refine sat_branch tabOk Tryz.func28 rfl trivial (fun h => ?_) (fun h => ?_)
  · refine sat_ret tabOk Tryz.func28 rfl trivial ?_
    show vB false = vB _
    have : a ≠ b := by rintro rfl; simp at h
    simp [this]
  have hl : a.length = b.length := by simp at h; omega
  refine sat_stop tabOk Tryz.func28 rfl trivial ?_
  refine sat_while (α := Nat) (fun i => [(1, .d (eNds b)), (2, vFn 29), (15, .d (eNds a)), (16, vI .i64 a.length), (17, vI .i64 i)]) (fun _ => []) (fun i => i ≤ a.length ∧ a.take i = b.take i) (fun i => a.length - i) 0 ⟨Nat.zero_le _, rfl⟩ ?_ ?_
  · exact fun h => sat_le h hC hCl ⟨⟨_, rfl, .refl _⟩, ⟨_, rfl, .refl _⟩, ⟨_, rfl, .refl _⟩, ⟨_, rfl, .of (by rw [List.length_map])⟩, ⟨_, rfl, .refl _⟩, trivial⟩ trivial rfl rfl (Nat.zero_le _)
  rintro i ⟨hi, hc⟩ ih
  refine sat_branch tabOk Tryz.func28 rfl trivial (fun hb => ?_) (fun hb => ?_) <;> simp only [decide_eq_true_eq, decide_eq_false_iff_not, List.length_map] at hb
  · have hlt : i < a.length := by omega
    have hlb : i < b.length := by omega
    have ea : a.getD i default = a[i] := by simp [hlt]
    have eb : b.getD i default = b[i] := by simp [hlb]
    refine sat_call tabOk Tryz.func28 rfl (by simp only [andP, and_true, true_and, Int.toNat_natCast, List.length_map, List.length_append, List.length_cons, List.length_nil, List.length_replicate]; omega) (sameN_call (a.getD i default) (b.getD i default)) (.refl _) rfl ⟨_, rfl⟩ (by rintro r o rfl; rfl) ?_
    rintro _ o rfl
    refine sat_branch tabOk Tryz.func28 rfl trivial (fun hb2 => ?_) (fun hb2 => ?_)
    · have hb2 : a.getD i default ≠ b.getD i default := by simpa using hb2
      refine sat_ret tabOk Tryz.func28 rfl trivial ?_
      show vB false = vB _
      have : a ≠ b := by rintro rfl; exact hb2 rfl
      simp [this]
    · have hb2 : a.getD i default = b.getD i default := by simpa using hb2
      rw [ea, eb] at hb2
      refine sat_stop tabOk Tryz.func28 rfl trivial ?_
      refine sat_le (ih (i + 1) ⟨by omega, ?_⟩ (by omega)) hC hCl ⟨⟨_, rfl, .refl _⟩, ⟨_, rfl, .refl _⟩, ⟨_, rfl, .refl _⟩, ⟨_, rfl, .refl _⟩, ⟨_, rfl, .of (by rw [wrap_id (by omega) (by omega)]; rfl)⟩, trivial⟩ trivial rfl rfl (Nat.zero_le _)
      rw [List.take_add_one, List.take_add_one, hc, List.getElem?_eq_getElem hlt, List.getElem?_eq_getElem hlb, hb2]
  · obtain rfl : i = a.length := by omega
    refine sat_ret tabOk Tryz.func28 rfl trivial ?_
    rw [List.take_length, hl, List.take_length] at hc
    rw [decide_eq_true hc]
    rfl
theorem bSame_call (a b : List Nd) : ACall Tryz.prog 16 [.d (eBt a), .d (eBt b)] [] (fun r o => r = vB (decide (a = b))) := by
  refine acall_enter Tryz.func16 rfl rfl (Nat.le_of_ble_eq_true rfl) fun C hC hCl hDs hGk => ?_
  refine sat_call tabOk Tryz.func16 rfl trivial (EqN_call a b) (.refl _) rfl ⟨_, rfl⟩ (by rintro r o rfl; rfl) ?_
  rintro _ o rfl
  exact sat_ret tabOk Tryz.func16 rfl trivial rfl
end Go.Proofs.YtjjlipbddlignaaGreatDoor
namespace Go.Proofs.YtjjlipbddlignaaGreatDoor
open Go Ab
set_option maxRecDepth 100000
set_option linter.unusedVariables false
set_option linter.unusedSimpArgs false
set_option maxHeartbeats 4000000

theorem Ints_call (a b : List Int) : ACall Tryz.prog 31 [.d (eIs a), .d (eIs b)] [] (fun r o => r = vB (decide (a = b))) := by
  refine acall_enter Tryz.func31 rfl rfl (Nat.le_of_ble_eq_true rfl) fun C hC hCl hDs hGk => ?_
  refine sat_len (t := 0) rfl fun hlen => ?_
  rw [List.length_map] at hlen
  refine sat_branch tabOk Tryz.func31 rfl trivial (fun h => ?_) (fun h => ?_)
  · refine sat_ret tabOk Tryz.func31 rfl trivial ?_
    show vB false = vB _
    have : a ≠ b := by rintro rfl; simp at h
    simp [this]
  · have hl : a.length = b.length := by simp at h; omega
    refine sat_stop tabOk Tryz.func31 rfl trivial ?_
    refine sat_while (α := Nat) (fun i => [(0, .d (eIs a)), (1, .d (eIs b)), (5, vI .i64 i)]) (fun _ => []) (fun i => i ≤ a.length ∧ a.take i = b.take i) (fun i => a.length - i) 0 ⟨Nat.zero_le _, rfl⟩ ?_ ?_
    · exact fun h => sat_le h hC hCl ⟨⟨_, rfl, .refl _⟩, ⟨_, rfl, .refl _⟩, ⟨_, rfl, .refl _⟩, trivial⟩ trivial rfl rfl (Nat.zero_le _)
    · rintro i ⟨hi, hc⟩ ih
      refine sat_branch tabOk Tryz.func31 rfl trivial (fun hb => ?_) (fun hb => ?_) <;> simp only [decide_eq_true_eq, decide_eq_false_iff_not, List.length_map] at hb
      · have hlt : i < a.length := by omega
        have hlb : i < b.length := by omega
        refine sat_draw tabOk Tryz.func31 rfl rfl trivial (by kernel_rfl) rfl ?_ ?_
        · simp only [Int.toNat_natCast, List.length_map]; exact ⟨⟨by omega, by omega⟩, ⟨by omega, by omega⟩, trivial⟩
        have ea : a.getD i 0 = a[i] := by simp [hlt]
        have eb : b.getD i 0 = b[i] := by simp [hlb]
        refine sat_branch tabOk Tryz.func31 rfl trivial (fun hb2 => ?_) (fun hb2 => ?_)
        · have hb2 : a.getD i 0 ≠ b.getD i 0 := by simpa using hb2
          refine sat_ret tabOk Tryz.func31 rfl trivial ?_
          show vB false = vB _
          have : a ≠ b := by rintro rfl; exact hb2 rfl
          simp [this]
        · have hb2 : a.getD i 0 = b.getD i 0 := by simpa using hb2
          rw [ea, eb] at hb2
          refine sat_stop tabOk Tryz.func31 rfl trivial ?_
          refine sat_le (ih (i + 1) ⟨by omega, ?_⟩ (by omega)) hC hCl ⟨⟨_, rfl, .refl _⟩, ⟨_, rfl, .refl _⟩, ⟨_, rfl, .of (by rw [wrap_id (by omega) (by omega)]; rfl)⟩, trivial⟩ trivial rfl rfl (Nat.zero_le _)
          rw [List.take_add_one, List.take_add_one, hc, List.getElem?_eq_getElem hlt, List.getElem?_eq_getElem hlb, hb2]
      · obtain rfl : i = a.length := by omega
        rw [List.take_length, hl, List.take_length] at hc
        refine sat_ret tabOk Tryz.func31 rfl trivial ?_
        show vB true = vB _
        simp [hc]

/-! ### Formulas -/

theorem rSame_call (a b : List Nd) (ha : a.length ≤ maxLen) : ACall Tryz.prog 17 [.d (eBt a), .d (eBt b)] [] (fun r o => r = vB (decide (a = b))) := by
  refine acall_enter Tryz.func17 rfl rfl (Nat.le_of_ble_eq_true rfl) fun C hC hCl hDs hGk => ?_
  have hml : maxLen = 9223372036854775807 := rfl
  refine sat_branch tabOk Tryz.func17 rfl trivial (fun h => ?_) (fun h => ?_)
  · have h : ((((a.map eNd).length : Nat) : Int) != (((b.map eNd).length : Nat) : Int)) = true := h
    rw [bne_iff_ne, List.length_map, List.length_map] at h
    refine sat_ret tabOk Tryz.func17 rfl trivial ?_
    rw [decide_eq_false (by rintro rfl; exact h rfl)]
    rfl
  have h : ((((a.map eNd).length : Nat) : Int) != (((b.map eNd).length : Nat) : Int)) = false := h
  rw [bne_eq_false_iff_eq, List.length_map, List.length_map] at h
  have hl : a.length = b.length := by omega
  refine sat_stop tabOk Tryz.func17 rfl trivial ?_
  refine sat_while (α := Nat) (fun i => [(2, .ptr 0 0), (3, .ptr 1 0), (5, vI .i64 (i : Int))]) (fun i => [some (bBt a), some (bBt b)]) (fun i => i ≤ a.length ∧ a.take i = b.take i) (fun i => a.length - i) 0 ⟨Nat.zero_le _, rfl⟩ ?_ ?_
  · exact fun h => sat_le h hC hCl ⟨⟨_, rfl, .refl _⟩, ⟨_, rfl, .refl _⟩, ⟨_, rfl, .refl _⟩, trivial⟩ ⟨.refl _, .refl _, trivial⟩ rfl rfl (Nat.zero_le _)
  rintro i ⟨hi, hc⟩ ih
  refine sat_branch tabOk Tryz.func17 rfl trivial (fun hb => ?_) (fun hb => ?_)
  · have hb : decide ((i : Int) < (((a.map eNd).length : Nat) : Int)) = true := hb
    rw [decide_eq_true_eq, List.length_map] at hb
    have hlt : i < a.length := by omega
    have hlb : i < b.length := by omega
    have ea : a.getD i default = a[i] := by simp [hlt]
    have eb : b.getD i default = b[i] := by simp [hlb]
    have no : a[i] ≠ b[i] → vB false = vB (decide (a = b)) := fun hne => by
      rw [decide_eq_false (by rintro rfl; exact hne rfl)]
    have hq := nd_eq a[i] b[i]
    refine sat_call tabOk Tryz.func17 rfl (by simp only [andP, and_true, true_and, Int.toNat_natCast, List.length_map, List.length_append, List.length_cons, List.length_nil, List.length_replicate]; omega) (Ints_call (a.getD i default).a (b.getD i default).a) (.refl _) rfl ⟨_, rfl⟩ (by rintro r o rfl; rfl) ?_
    rintro _ o rfl
    refine sat_call tabOk Tryz.func17 rfl trivial (Ints_call (a.getD i default).n (b.getD i default).n) (.refl _) rfl ⟨_, rfl⟩ (by rintro r o rfl; rfl) ?_
    rintro _ o rfl
    rw [ea, eb]
    by_cases h1 : a[i].a = b[i].a
    · rw [decide_eq_true h1]
      refine sat_branch tabOk Tryz.func17 rfl trivial (fun h => by cases h) (fun _ => ?_)
      by_cases h2 : a[i].n = b[i].n
      · rw [decide_eq_true h2]
        refine sat_branch tabOk Tryz.func17 rfl trivial (fun h => by cases h) (fun _ => ?_)
        refine sat_branch tabOk Tryz.func17 rfl trivial (fun h3 => ?_) (fun h3 => ?_)
        · have h3 : (!((⟨(a.getD i default).op.toArray⟩ : ByteArray).toList == (⟨(b.getD i default).op.toArray⟩ : ByteArray).toList)) = true := h3
          rw [ea, eb, strBy, Bool.not_eq_true', decide_eq_false_iff_not] at h3
          repeat refine sat_branch tabOk Tryz.func17 rfl trivial (fun _ => ?_) (fun h => by cases h)
          exact sat_ret tabOk Tryz.func17 rfl trivial (no fun e => h3 (by rw [e]))
        have h3 : (!((⟨(a.getD i default).op.toArray⟩ : ByteArray).toList == (⟨(b.getD i default).op.toArray⟩ : ByteArray).toList)) = false := h3
        rw [ea, eb, strBy, Bool.not_eq_false', decide_eq_true_eq] at h3
        refine sat_branch tabOk Tryz.func17 rfl trivial (fun h4 => ?_) (fun h4 => ?_)
        · have h4 : ((a.getD i default).s != (b.getD i default).s) = true := h4
          rw [ea, eb, bne_iff_ne] at h4
          repeat refine sat_branch tabOk Tryz.func17 rfl trivial (fun _ => ?_) (fun h => by cases h)
          exact sat_ret tabOk Tryz.func17 rfl trivial (no fun e => h4 (by rw [e]))
        have h4 : ((a.getD i default).s != (b.getD i default).s) = false := h4
        rw [ea, eb, bne_eq_false_iff_eq] at h4
        refine sat_branch tabOk Tryz.func17 rfl trivial (fun h5 => ?_) (fun h5 => ?_)
        · have h5 : (!((⟨(a.getD i default).t.toArray⟩ : ByteArray).toList == (⟨(b.getD i default).t.toArray⟩ : ByteArray).toList)) = true := h5
          rw [ea, eb, strBy, Bool.not_eq_true', decide_eq_false_iff_not] at h5
          exact sat_ret tabOk Tryz.func17 rfl trivial (no fun e => h5 (by rw [e]))
        have h5 : (!((⟨(a.getD i default).t.toArray⟩ : ByteArray).toList == (⟨(b.getD i default).t.toArray⟩ : ByteArray).toList)) = false := h5
        rw [ea, eb, strBy, Bool.not_eq_false', decide_eq_true_eq] at h5
        refine sat_stop tabOk Tryz.func17 rfl trivial ?_
        refine sat_le (ih (i + 1) ⟨by omega, ?_⟩ (by omega)) hC hCl ⟨⟨_, rfl, .refl _⟩, ⟨_, rfl, .refl _⟩, ⟨_, rfl, .of (by rw [wrap_id (by omega) (by omega)]; rfl)⟩, trivial⟩ ⟨.refl _, .refl _, trivial⟩ rfl rfl (Nat.zero_le _)
        rw [List.take_add_one, List.take_add_one, hc, List.getElem?_eq_getElem hlt, List.getElem?_eq_getElem hlb, hq.2 ⟨h3, h4, h5, h1, h2⟩]
      · rw [decide_eq_false h2]
        repeat refine sat_branch tabOk Tryz.func17 rfl trivial (fun _ => ?_) (fun h => by cases h)
        exact sat_ret tabOk Tryz.func17 rfl trivial (no fun e => h2 (by rw [e]))
    · rw [decide_eq_false h1]
      repeat refine sat_branch tabOk Tryz.func17 rfl trivial (fun _ => ?_) (fun h => by cases h)
      exact sat_ret tabOk Tryz.func17 rfl trivial (no fun e => h1 (by rw [e]))
  · have hb : decide ((i : Int) < (((a.map eNd).length : Nat) : Int)) = false := hb
    rw [decide_eq_false_iff_not, List.length_map] at hb
    obtain rfl : i = a.length := by omega
    refine sat_ret tabOk Tryz.func17 rfl trivial ?_
    rw [List.take_length, hl, List.take_length] at hc
    rw [decide_eq_true hc]
    rfl
end Go.Proofs.YtjjlipbddlignaaGreatDoor
namespace Go.Proofs.YtjjlipbddlignaaGreatDoor
open Go Ab
set_option maxRecDepth 100000
set_option linter.unusedVariables false
set_option linter.unusedSimpArgs false
set_option maxHeartbeats 4000000

structure SmN (x : Nd) : Prop where
  op : x.op.length ≤ 20
  t : x.t.length ≤ 200
  a : x.a.length ≤ 5
  n : x.n.length ≤ 5
theorem SmN.b {x : Nd} (h : SmN x) : NdB x := by
  have hml : maxLen = 9223372036854775807 := rfl
  have h1 := h.op
  have h2 := h.t
  have h3 := h.a
  have h4 := h.n
  exact ⟨by omega, by omega, by omega, by omega⟩
theorem small13_call (l : List Nd) (hl : l.length ≤ maxLen) (most : Int) : ACall Tryz.prog 9 [.d (eBt l), vI .i64 most] [] (fun r o => ∃ b, r = vB b ∧ (b = true → (l.length : Int) ≤ most ∧ ∀ x ∈ l, SmN x)) := by
  refine acall_enter Tryz.func9 rfl rfl (Nat.le_of_ble_eq_true rfl) fun C hC hCl hDs hGk => ?_
  have hl : l.length ≤ 9223372036854775807 := hl
  refine sat_branch tabOk Tryz.func9 rfl trivial (fun h1 => ?_) (fun h1 => ?_)
  · exact sat_ret tabOk Tryz.func9 rfl trivial ⟨false, rfl, by simp⟩
  have h1 : decide ((((l.map eNd).length : Nat) : Int) > most) = false := h1
  rw [List.length_map, decide_eq_false_iff_not] at h1
  refine sat_stop tabOk Tryz.func9 rfl trivial ?_
  refine sat_while (α := Nat) (fun i => [(2, .ptr 0 0), (5, vI .i64 (i : Int))]) (fun i => [some (bBt l)]) (fun i => i ≤ l.length ∧ ∀ j, j < i → SmN (nd l j)) (fun i => l.length - i) 0 ⟨Nat.zero_le _, fun j hj => absurd hj (Nat.not_lt_zero _)⟩ ?_ ?_
  · exact fun h => sat_le h hC hCl ⟨⟨_, rfl, .refl _⟩, ⟨_, rfl, .refl _⟩, trivial⟩ ⟨.refl _, trivial⟩ rfl rfl (Nat.zero_le _)
  rintro i ⟨hi, hall⟩ ih
  refine sat_branch tabOk Tryz.func9 rfl trivial (fun hb => ?_) (fun hb => ?_) <;> simp only [List.length_map, decide_eq_true_eq, decide_eq_false_iff_not] at hb
  · have hlt : i < l.length := by omega
    refine sat_branch tabOk Tryz.func9 rfl (by simp only [andP, and_true, true_and, Int.toNat_natCast, List.length_map, List.length_append, List.length_cons, List.length_nil, List.length_replicate]; omega) (fun g => ?_) (fun g1 => ?_)
    · repeat refine sat_branch tabOk Tryz.func9 rfl trivial (fun _ => ?_) (fun h => by cases h)
      exact sat_ret tabOk Tryz.func9 rfl trivial ⟨false, rfl, by simp⟩
    refine sat_branch tabOk Tryz.func9 rfl trivial (fun g => ?_) (fun g2 => ?_)
    · repeat refine sat_branch tabOk Tryz.func9 rfl trivial (fun _ => ?_) (fun h => by cases h)
      exact sat_ret tabOk Tryz.func9 rfl trivial ⟨false, rfl, by simp⟩
    refine sat_branch tabOk Tryz.func9 rfl trivial (fun g => ?_) (fun g3 => ?_)
    · repeat refine sat_branch tabOk Tryz.func9 rfl trivial (fun _ => ?_) (fun h => by cases h)
      exact sat_ret tabOk Tryz.func9 rfl trivial ⟨false, rfl, by simp⟩
    refine sat_branch tabOk Tryz.func9 rfl trivial (fun g => ?_) (fun g4 => ?_)
    · exact sat_ret tabOk Tryz.func9 rfl trivial ⟨false, rfl, by simp⟩
    have g1 : decide ((((⟨(nd l i).op.toArray⟩ : ByteArray).size : Nat) : Int) > 20) = false := g1
    have g2 : decide ((((⟨(nd l i).t.toArray⟩ : ByteArray).size : Nat) : Int) > 200) = false := g2
    have g3 : decide (((((nd l i).a.map eI).length : Nat) : Int) > 5) = false := g3
    have g4 : decide (((((nd l i).n.map eI).length : Nat) : Int) > 5) = false := g4
    rw [sizeBy, decide_eq_false_iff_not] at g1 g2
    rw [List.length_map, decide_eq_false_iff_not] at g3 g4
    refine sat_stop tabOk Tryz.func9 rfl trivial ?_
    refine sat_le (ih (i + 1) ⟨by omega, fun j hj => ?_⟩ (by omega)) hC hCl ⟨⟨_, rfl, .refl _⟩, ⟨_, rfl, .of (by rw [wrap_id (by omega) (by omega)]; rfl)⟩, trivial⟩ ⟨.refl _, trivial⟩ rfl rfl (Nat.zero_le _)
    rcases Nat.lt_succ_iff_lt_or_eq.1 hj with h | rfl
    · exact hall j h
    · exact ⟨by omega, by omega, by omega, by omega⟩
  · refine sat_ret tabOk Tryz.func9 rfl trivial ⟨true, rfl, fun _ => ⟨by omega, fun x hx => ?_⟩⟩
    obtain ⟨j, hj, rfl⟩ := List.getElem_of_mem hx
    have := hall j (by omega)
    rw [nd_at hj] at this
    exact this
end Go.Proofs.YtjjlipbddlignaaGreatDoor
namespace Go.Proofs.YtjjlipbddlignaaGreatDoor
open Go Ab Go.Lib
set_option maxRecDepth 100000
set_option linter.unusedVariables false
set_option linter.unusedSimpArgs false
set_option maxHeartbeats 4000000

end Go.Proofs.YtjjlipbddlignaaGreatDoor
namespace Go.Proofs.YtjjlipbddlignaaGreatDoor
open Go Ab Go.RowKit Go.Lib
set_option maxRecDepth 100000
set_option linter.unusedVariables false
set_option linter.unusedSimpArgs false
set_option maxHeartbeats 4000000

/-- How many bytes a rune has; 0: it is none. -/
def longN (l : List UInt8) : Nat := if decL l = (65533, 1) then 0 else (decL l).2
/-- What a rune's bytes come to, up to a place. -/
def cvN (l : List UInt8) (c : Nat) : Nat → Nat
  | 0 => c
  | i + 1 => cvN l c i * 64 + (bA l (i + 1) - 128)
/-- A byte that goes on. -/
def Go2 (l : List UInt8) (j : Nat) : Prop := j < l.length ∧ 128 ≤ bA l j ∧ bA l j ≤ 191
def RuneV (least c : Nat) : Prop := least ≤ c ∧ c ≤ 1114111 ∧ ¬ (55296 ≤ c ∧ c < 57344)
theorem cv_lt {l : List UInt8} {c : Nat} (hc : c < 1000) : ∀ i, cvN l c i < 1000 * 65 ^ i
  | 0 => by simpa [cvN] using hc
  | i + 1 => by
    have h := cv_lt (l := l) hc i
    have hb := bA_lt l (i + 1)
    have hq : 0 < 65 ^ i := Nat.pow_pos (by decide)
    rw [cvN, Nat.pow_succ]
    generalize 65 ^ i = q at *
    omega
theorem longOf {l : List UInt8} {r w : Nat} (h : decL l = (r, w)) (hw : 2 ≤ w) : longN l = w := by
  unfold longN
  rw [h, if_neg (fun e => by have := congrArg Prod.snd e; simp only at this; omega)]
theorem longOf0 {l : List UInt8} (h : decL l = (65533, 1)) : longN l = 0 := by
  unfold longN
  rw [if_pos h]
theorem long1 {l : List UInt8} (h : bA l 0 < 128) : longN l = 1 := by
  have e : decL l = (bA l 0, 1) := by unfold decL decodeN; rw [if_pos h]
  unfold longN
  rw [e, if_neg (fun hh => by have := congrArg Prod.fst hh; simp only at this; omega)]
theorem long_bad {l : List UInt8} (h : (128 ≤ bA l 0 ∧ bA l 0 < 192) ∨ 248 ≤ bA l 0) : longN l = 0 := by
  have hb := bA_lt l 0
  have e : decL l = (65533, 1) := by
    unfold decL decodeN
    repeat' split
    all_goals first | rfl | (exfalso; omega)
  unfold longN
  rw [if_pos e]
/-- The kinds of first bytes: how many bytes, what is left of the first one, the least number. -/
def Lead (b n c least : Nat) : Prop := (192 ≤ b ∧ b < 224 ∧ n = 2 ∧ c = b - 192 ∧ least = 128) ∨ (224 ≤ b ∧ b < 240 ∧ n = 3 ∧ c = b - 224 ∧ least = 2048) ∨ (240 ≤ b ∧ b < 248 ∧ n = 4 ∧ c = b - 240 ∧ least = 65536)
theorem long_no {l : List UInt8} {n c least j : Nat} (h : Lead (bA l 0) n c least) (h1 : 1 ≤ j) (hj : j < n) (hn : ¬ Go2 l j) : longN l = 0 := by
  have b0 := bA_lt l 0
  have b1 := bA_lt l 1
  have b2 := bA_lt l 2
  have b3 := bA_lt l 3
  have e : decL l = (65533, 1) := by
    unfold Go2 at hn
    rcases h with ⟨h, h', rfl, -, -⟩ | ⟨h, h', rfl, -, -⟩ | ⟨h, h', rfl, -, -⟩
    · obtain rfl : j = 1 := by omega
      unfold decL decodeN
      rw [if_neg (by omega), if_neg (by omega), if_neg (by omega), if_neg (by omega)]
    · rcases (by omega : j = 1 ∨ j = 2) with rfl | rfl
      · unfold decL decodeN
        rw [if_neg (by omega), if_neg (by omega), if_neg (by omega), if_neg (by omega)]
      · unfold decL decodeN
        rw [if_neg (by omega), if_neg (by omega), if_neg (by omega), if_neg (by omega)]
    · rcases (by omega : j = 1 ∨ j = 2 ∨ j = 3) with rfl | rfl | rfl
      · unfold decL decodeN
        rw [if_neg (by omega), if_neg (by omega), if_neg (by omega), if_neg (by omega)]
      · unfold decL decodeN
        rw [if_neg (by omega), if_neg (by omega), if_neg (by omega), if_neg (by omega)]
      · unfold decL decodeN
        rw [if_neg (by omega), if_neg (by omega), if_neg (by omega), if_neg (by omega)]
  unfold longN
  rw [if_pos e]
theorem long_end {l : List UInt8} {n c least : Nat} (h : Lead (bA l 0) n c least) (hg : ∀ j, 1 ≤ j → j < n → Go2 l j) : (RuneV least (cvN l c (n - 1)) → longN l = n) ∧ (¬ RuneV least (cvN l c (n - 1)) → longN l = 0) := by
  have b0 := bA_lt l 0
  have b1 := bA_lt l 1
  have b2 := bA_lt l 2
  have b3 := bA_lt l 3
  unfold RuneV
  rcases h with ⟨h, h', rfl, rfl, rfl⟩ | ⟨h, h', rfl, rfl, rfl⟩ | ⟨h, h', rfl, rfl, rfl⟩
  · obtain ⟨g1, g2, g3⟩ := hg 1 (by omega) (by omega)
    have ec : cvN l (bA l 0 - 192) (2 - 1) = bA l 0 % 32 * 64 + bA l 1 % 64 := by
      show (bA l 0 - 192) * 64 + (bA l 1 - 128) = _
      omega
    have ed : decL l = if bA l 0 % 32 * 64 + bA l 1 % 64 ≥ 128 then (bA l 0 % 32 * 64 + bA l 1 % 64, 2) else (65533, 1) := by
      unfold decL decodeN
      rw [if_neg (by omega), if_pos (by omega)]
    rw [ec]
    exact ⟨fun hr => longOf (by rw [ed, if_pos (by omega)]) (by decide), fun hr => longOf0 (by rw [ed, if_neg (by omega)])⟩
  · obtain ⟨g1, g2, g3⟩ := hg 1 (by omega) (by omega)
    obtain ⟨f1, f2, f3⟩ := hg 2 (by omega) (by omega)
    have ec : cvN l (bA l 0 - 224) (3 - 1) = bA l 0 % 16 * 4096 + bA l 1 % 64 * 64 + bA l 2 % 64 := by
      show ((bA l 0 - 224) * 64 + (bA l 1 - 128)) * 64 + (bA l 2 - 128) = _
      omega
    have ed : decL l = if bA l 0 % 16 * 4096 + bA l 1 % 64 * 64 + bA l 2 % 64 ≥ 2048 ∧ (bA l 0 % 16 * 4096 + bA l 1 % 64 * 64 + bA l 2 % 64 < 55296 ∨ (57344 ≤ bA l 0 % 16 * 4096 + bA l 1 % 64 * 64 + bA l 2 % 64 ∧ bA l 0 % 16 * 4096 + bA l 1 % 64 * 64 + bA l 2 % 64 ≤ 1114111)) then (bA l 0 % 16 * 4096 + bA l 1 % 64 * 64 + bA l 2 % 64, 3) else (65533, 1) := by
      unfold decL decodeN
      rw [if_neg (by omega), if_neg (by omega), if_pos (by omega)]
    rw [ec]
    exact ⟨fun hr => longOf (by rw [ed, if_pos (by omega)]) (by decide), fun hr => longOf0 (by rw [ed, if_neg (by omega)])⟩
  · obtain ⟨g1, g2, g3⟩ := hg 1 (by omega) (by omega)
    obtain ⟨f1, f2, f3⟩ := hg 2 (by omega) (by omega)
    obtain ⟨d1, d2, d3⟩ := hg 3 (by omega) (by omega)
    have ec : cvN l (bA l 0 - 240) (4 - 1) = bA l 0 % 8 * 262144 + bA l 1 % 64 * 4096 + bA l 2 % 64 * 64 + bA l 3 % 64 := by
      show (((bA l 0 - 240) * 64 + (bA l 1 - 128)) * 64 + (bA l 2 - 128)) * 64 + (bA l 3 - 128) = _
      omega
    have ed : decL l = if bA l 0 % 8 * 262144 + bA l 1 % 64 * 4096 + bA l 2 % 64 * 64 + bA l 3 % 64 ≥ 65536 ∧ (bA l 0 % 8 * 262144 + bA l 1 % 64 * 4096 + bA l 2 % 64 * 64 + bA l 3 % 64 < 55296 ∨ (57344 ≤ bA l 0 % 8 * 262144 + bA l 1 % 64 * 4096 + bA l 2 % 64 * 64 + bA l 3 % 64 ∧ bA l 0 % 8 * 262144 + bA l 1 % 64 * 4096 + bA l 2 % 64 * 64 + bA l 3 % 64 ≤ 1114111)) then (bA l 0 % 8 * 262144 + bA l 1 % 64 * 4096 + bA l 2 % 64 * 64 + bA l 3 % 64, 4) else (65533, 1) := by
      unfold decL decodeN
      rw [if_neg (by omega), if_neg (by omega), if_neg (by omega), if_pos (by omega)]
    rw [ec]
    exact ⟨fun hr => longOf (by rw [ed, if_pos (by omega)]) (by decide), fun hr => longOf0 (by rw [ed, if_neg (by omega)])⟩

theorem Long_call (l : List UInt8) (at_ : Nat) (hl : l.length ≤ maxLen) (hat : at_ < l.length) : ACall Tryz.prog 82 [vTx l, vI .i64 (at_ : Int)] [] (fun r o => r = vI .i64 ((longN (l.drop at_) : Nat) : Int)) := by
  refine acall_enter Tryz.func82 rfl rfl (Nat.le_of_ble_eq_true rfl) fun C hC hCl hDs hGk => ?_
  have hl : l.length ≤ 9223372036854775807 := hl
  have hsz : (⟨l.toArray⟩ : ByteArray).size = l.length := sizeBy l
  have hbd : ∀ k, bA (l.drop at_) k = (l.getD (at_ + k) 0).toNat := fun k => bA_drop l at_ k
  have hdl : (l.drop at_).length = l.length - at_ := List.length_drop
  have hv0 := UInt8.toNat_lt (l.getD at_ 0)
  have hb0 : bA (l.drop at_) 0 = (l.getD at_ 0).toNat := hbd 0
  have ew : IntKind.i64.wrap (((l.getD at_ 0).toNat : Nat) : Int) = (((l.getD at_ 0).toNat : Nat) : Int) := wrap_id (by omega) (by omega)
  apply letK (p := ∀ n c least : Nat, Lead (bA (l.drop at_) 0) n c least → ASat Tryz.prog 82 Tryz.f82.ntmps C _ [(0, vTx l), (1, vI .i64 (at_ : Int)), (5, vI .i64 (n : Int)), (6, vI .i64 (c : Int)), (7, vI .i64 (least : Int)), (8, vI .i64 (1 : Int))] [] (fun r o => r = vI .i64 ((longN (l.drop at_) : Nat) : Int)))
  · intro key
    refine sat_branch tabOk Tryz.func82 rfl ⟨⟨by omega, by rw [hsz]; omega⟩, trivial⟩ (fun h1 => ?_) (fun h1 => ?_)
    · have h1 : decide (IntKind.i64.wrap (bt ⟨l.toArray⟩ ((at_ : Int)).toNat) >= 240) = true := h1
      rw [Int.toNat_natCast, bt_list, ew, decide_eq_true_eq] at h1
      refine sat_branch tabOk Tryz.func82 rfl trivial (fun h2 => ?_) (fun h2 => ?_)
      · have h2 : decide (IntKind.i64.wrap (bt ⟨l.toArray⟩ ((at_ : Int)).toNat) < 248) = true := h2
        rw [Int.toNat_natCast, bt_list, ew, decide_eq_true_eq] at h2
        refine sat_stop tabOk Tryz.func82 rfl trivial ?_
        refine sat_le (key 4 ((l.getD at_ 0).toNat - 240) 65536 (.inr (.inr ⟨by omega, by omega, rfl, by omega, rfl⟩))) hC hCl ⟨⟨_, rfl, .refl _⟩, ⟨_, rfl, .refl _⟩, ⟨_, rfl, .refl _⟩, ⟨_, rfl, .of ?_⟩, ⟨_, rfl, .refl _⟩, ⟨_, rfl, .refl _⟩, trivial⟩ trivial rfl rfl (Nat.zero_le _)
        show vI .i64 (IntKind.i64.wrap (IntKind.i64.wrap (bt ⟨l.toArray⟩ ((at_ : Int)).toNat) - 240)) = _
        rw [Int.toNat_natCast, bt_list, ew, wrap_id (by omega) (by omega)]
        show vI .i64 _ = vI .i64 _
        rw [show (((l.getD at_ 0).toNat : Nat) : Int) - 240 = (((l.getD at_ 0).toNat - 240 : Nat) : Int) by omega]
      · have h2 : decide (IntKind.i64.wrap (bt ⟨l.toArray⟩ ((at_ : Int)).toNat) < 248) = false := h2
        rw [Int.toNat_natCast, bt_list, ew, decide_eq_false_iff_not] at h2
        refine sat_branch tabOk Tryz.func82 rfl trivial (fun h3 => ?_) (fun h3 => ?_)
        · have h3 : decide (IntKind.i64.wrap (bt ⟨l.toArray⟩ ((at_ : Int)).toNat) >= 224) = true := h3
          refine sat_branch tabOk Tryz.func82 rfl trivial (fun h4 => ?_) (fun h4 => ?_)
          · have h4 : decide (IntKind.i64.wrap (bt ⟨l.toArray⟩ ((at_ : Int)).toNat) < 240) = true := h4
            rw [Int.toNat_natCast, bt_list, ew, decide_eq_true_eq] at h4
            omega
          · refine sat_branch tabOk Tryz.func82 rfl trivial (fun h5 => ?_) (fun h5 => ?_)
            · refine sat_branch tabOk Tryz.func82 rfl trivial (fun h6 => ?_) (fun h6 => ?_)
              · have h6 : decide (IntKind.i64.wrap (bt ⟨l.toArray⟩ ((at_ : Int)).toNat) < 224) = true := h6
                rw [Int.toNat_natCast, bt_list, ew, decide_eq_true_eq] at h6
                omega
              · refine sat_branch tabOk Tryz.func82 rfl trivial (fun h7 => ?_) (fun h7 => ?_)
                · refine sat_ret tabOk Tryz.func82 rfl trivial ?_
                  rw [long_bad (.inr (by omega))]
                  rfl
                · have h7 : decide (IntKind.i64.wrap (bt ⟨l.toArray⟩ ((at_ : Int)).toNat) >= 128) = false := h7
                  rw [Int.toNat_natCast, bt_list, ew, decide_eq_false_iff_not] at h7
                  omega
            · have h5 : decide (IntKind.i64.wrap (bt ⟨l.toArray⟩ ((at_ : Int)).toNat) >= 192) = false := h5
              rw [Int.toNat_natCast, bt_list, ew, decide_eq_false_iff_not] at h5
              omega
        · have h3 : decide (IntKind.i64.wrap (bt ⟨l.toArray⟩ ((at_ : Int)).toNat) >= 224) = false := h3
          rw [Int.toNat_natCast, bt_list, ew, decide_eq_false_iff_not] at h3
          omega
    · have h1 : decide (IntKind.i64.wrap (bt ⟨l.toArray⟩ ((at_ : Int)).toNat) >= 240) = false := h1
      rw [Int.toNat_natCast, bt_list, ew, decide_eq_false_iff_not] at h1
      refine sat_branch tabOk Tryz.func82 rfl trivial (fun h => by cases h) (fun _ => ?_)
      refine sat_branch tabOk Tryz.func82 rfl trivial (fun h3 => ?_) (fun h3 => ?_)
      · have h3 : decide (IntKind.i64.wrap (bt ⟨l.toArray⟩ ((at_ : Int)).toNat) >= 224) = true := h3
        rw [Int.toNat_natCast, bt_list, ew, decide_eq_true_eq] at h3
        refine sat_branch tabOk Tryz.func82 rfl trivial (fun h4 => ?_) (fun h4 => ?_)
        · refine sat_stop tabOk Tryz.func82 rfl trivial ?_
          refine sat_le (key 3 ((l.getD at_ 0).toNat - 224) 2048 (.inr (.inl ⟨by omega, by omega, rfl, by omega, rfl⟩))) hC hCl ⟨⟨_, rfl, .refl _⟩, ⟨_, rfl, .refl _⟩, ⟨_, rfl, .refl _⟩, ⟨_, rfl, .of ?_⟩, ⟨_, rfl, .refl _⟩, ⟨_, rfl, .refl _⟩, trivial⟩ trivial rfl rfl (Nat.zero_le _)
          show vI .i64 (IntKind.i64.wrap (IntKind.i64.wrap (bt ⟨l.toArray⟩ ((at_ : Int)).toNat) - 224)) = _
          rw [Int.toNat_natCast, bt_list, ew, wrap_id (by omega) (by omega)]
          show vI .i64 _ = vI .i64 _
          rw [show (((l.getD at_ 0).toNat : Nat) : Int) - 224 = (((l.getD at_ 0).toNat - 224 : Nat) : Int) by omega]
        · have h4 : decide (IntKind.i64.wrap (bt ⟨l.toArray⟩ ((at_ : Int)).toNat) < 240) = false := h4
          rw [Int.toNat_natCast, bt_list, ew, decide_eq_false_iff_not] at h4
          omega
      · have h3 : decide (IntKind.i64.wrap (bt ⟨l.toArray⟩ ((at_ : Int)).toNat) >= 224) = false := h3
        rw [Int.toNat_natCast, bt_list, ew, decide_eq_false_iff_not] at h3
        refine sat_branch tabOk Tryz.func82 rfl trivial (fun h => by cases h) (fun _ => ?_)
        refine sat_branch tabOk Tryz.func82 rfl trivial (fun h5 => ?_) (fun h5 => ?_)
        · have h5 : decide (IntKind.i64.wrap (bt ⟨l.toArray⟩ ((at_ : Int)).toNat) >= 192) = true := h5
          rw [Int.toNat_natCast, bt_list, ew, decide_eq_true_eq] at h5
          refine sat_branch tabOk Tryz.func82 rfl trivial (fun h6 => ?_) (fun h6 => ?_)
          · refine sat_stop tabOk Tryz.func82 rfl trivial ?_
            refine sat_le (key 2 ((l.getD at_ 0).toNat - 192) 128 (.inl ⟨by omega, by omega, rfl, by omega, rfl⟩)) hC hCl ⟨⟨_, rfl, .refl _⟩, ⟨_, rfl, .refl _⟩, ⟨_, rfl, .refl _⟩, ⟨_, rfl, .of ?_⟩, ⟨_, rfl, .refl _⟩, ⟨_, rfl, .refl _⟩, trivial⟩ trivial rfl rfl (Nat.zero_le _)
            show vI .i64 (IntKind.i64.wrap (IntKind.i64.wrap (bt ⟨l.toArray⟩ ((at_ : Int)).toNat) - 192)) = _
            rw [Int.toNat_natCast, bt_list, ew, wrap_id (by omega) (by omega)]
            show vI .i64 _ = vI .i64 _
            rw [show (((l.getD at_ 0).toNat : Nat) : Int) - 192 = (((l.getD at_ 0).toNat - 192 : Nat) : Int) by omega]
          · have h6 : decide (IntKind.i64.wrap (bt ⟨l.toArray⟩ ((at_ : Int)).toNat) < 224) = false := h6
            rw [Int.toNat_natCast, bt_list, ew, decide_eq_false_iff_not] at h6
            omega
        · have h5 : decide (IntKind.i64.wrap (bt ⟨l.toArray⟩ ((at_ : Int)).toNat) >= 192) = false := h5
          rw [Int.toNat_natCast, bt_list, ew, decide_eq_false_iff_not] at h5
          refine sat_branch tabOk Tryz.func82 rfl trivial (fun h => by cases h) (fun _ => ?_)
          refine sat_branch tabOk Tryz.func82 rfl trivial (fun h7 => ?_) (fun h7 => ?_)
          · have h7 : decide (IntKind.i64.wrap (bt ⟨l.toArray⟩ ((at_ : Int)).toNat) >= 128) = true := h7
            rw [Int.toNat_natCast, bt_list, ew, decide_eq_true_eq] at h7
            refine sat_ret tabOk Tryz.func82 rfl trivial ?_
            rw [long_bad (.inl (by omega))]
            rfl
          · have h7 : decide (IntKind.i64.wrap (bt ⟨l.toArray⟩ ((at_ : Int)).toNat) >= 128) = false := h7
            rw [Int.toNat_natCast, bt_list, ew, decide_eq_false_iff_not] at h7
            have hx : longN (l.drop at_) = 1 := long1 (by omega)
            refine sat_stop tabOk Tryz.func82 rfl trivial ?_
            refine sat_loop1 ?_
            refine sat_branch tabOk Tryz.func82 rfl trivial (fun h => by cases h) (fun _ => ?_)
            refine sat_branch tabOk Tryz.func82 rfl trivial (fun h8 => ?_) (fun h8 => ?_)
            · have h8 : decide (IntKind.i64.wrap (bt ⟨l.toArray⟩ ((at_ : Int)).toNat) < 0) = true := h8
              rw [Int.toNat_natCast, bt_list, ew, decide_eq_true_eq] at h8
              omega
            refine sat_branch tabOk Tryz.func82 rfl trivial (fun h9 => ?_) (fun h9 => ?_)
            · have h9 : decide (IntKind.i64.wrap (bt ⟨l.toArray⟩ ((at_ : Int)).toNat) > 1114111) = true := h9
              rw [Int.toNat_natCast, bt_list, ew, decide_eq_true_eq] at h9
              omega
            refine sat_branch tabOk Tryz.func82 rfl trivial (fun h9 => ?_) (fun h9 => ?_)
            · have h9 : decide (IntKind.i64.wrap (bt ⟨l.toArray⟩ ((at_ : Int)).toNat) >= 55296) = true := h9
              rw [Int.toNat_natCast, bt_list, ew, decide_eq_true_eq] at h9
              omega
            refine sat_branch tabOk Tryz.func82 rfl trivial (fun h => by cases h) (fun _ => ?_)
            refine sat_ret tabOk Tryz.func82 rfl trivial ?_
            rw [hx]
            rfl
  intro n c least hL
  have hn : 2 ≤ n ∧ n ≤ 4 ∧ c < 1000 ∧ least ≤ 65536 := by
    rcases hL with ⟨_, _, rfl, rfl, rfl⟩ | ⟨_, _, rfl, rfl, rfl⟩ | ⟨_, _, rfl, rfl, rfl⟩ <;> omega
  refine sat_while (α := Nat) (fun i => [(0, vTx l), (1, vI .i64 (at_ : Int)), (5, vI .i64 (n : Int)), (6, vI .i64 (cvN (l.drop at_) c (i - 1) : Int)), (7, vI .i64 (least : Int)), (8, vI .i64 (i : Int))]) (fun _ => []) (fun i => 1 ≤ i ∧ i ≤ n ∧ ∀ j, 1 ≤ j → j < i → Go2 (l.drop at_) j) (fun i => n - i) 1 ⟨Nat.le_refl _, by omega, fun j h1 h2 => by omega⟩ ?_ ?_
  · exact fun h => sat_le h hC hCl ⟨⟨_, rfl, .refl _⟩, ⟨_, rfl, .refl _⟩, ⟨_, rfl, .refl _⟩, ⟨_, rfl, .refl _⟩, ⟨_, rfl, .refl _⟩, ⟨_, rfl, .refl _⟩, trivial⟩ trivial rfl rfl (Nat.zero_le _)
  rintro i ⟨hi1, hi2, hgo⟩ ih
  have hcb := cv_lt (l := l.drop at_) hn.2.2.1 (i - 1)
  have hpw : 65 ^ (i - 1) ≤ 65 ^ 3 := Nat.pow_le_pow_right (by decide) (by omega)
  have hc4 : cvN (l.drop at_) c (i - 1) < 1000 * 65 ^ 3 := Nat.lt_of_lt_of_le hcb (Nat.mul_le_mul_left _ hpw)
  have hstep : cvN (l.drop at_) c i = cvN (l.drop at_) c (i - 1) * 64 + (bA (l.drop at_) i - 128) := by
    obtain ⟨k, rfl⟩ : ∃ k, i = k + 1 := ⟨i - 1, by omega⟩
    rfl
  have ewi : IntKind.i64.wrap (((⟨l.toArray⟩ : ByteArray).size : Int) - at_) = ((l.length - at_ : Nat) : Int) := by rw [hsz, wrap_id (by omega) (by omega)]; omega
  refine sat_branch tabOk Tryz.func82 rfl trivial (fun hb => ?_) (fun hb => ?_) <;> simp only [decide_eq_true_eq, decide_eq_false_iff_not] at hb
  · refine sat_branch tabOk Tryz.func82 rfl trivial (fun g1 => ?_) (fun g1 => ?_)
    · have g1 : decide ((i : Int) ≥ IntKind.i64.wrap (((⟨l.toArray⟩ : ByteArray).size : Int) - at_)) = true := g1
      rw [ewi, decide_eq_true_eq] at g1
      refine sat_branch tabOk Tryz.func82 rfl trivial (fun _ => ?_) (fun h => by cases h)
      refine sat_branch tabOk Tryz.func82 rfl trivial (fun _ => ?_) (fun h => by cases h)
      refine sat_ret tabOk Tryz.func82 rfl trivial ?_
      rw [long_no hL hi1 (by omega) (fun hg => by have := hg.1; omega)]
      rfl
    have g1 : decide ((i : Int) ≥ IntKind.i64.wrap (((⟨l.toArray⟩ : ByteArray).size : Int) - at_)) = false := g1
    rw [ewi, decide_eq_false_iff_not] at g1
    have eai : IntKind.i64.wrap ((at_ : Int) + i) = ((at_ + i : Nat) : Int) := by rw [wrap_id (by omega) (by omega)]; omega
    have hnd : ((0 : Int) ≤ IntKind.i64.wrap ((at_ : Int) + i) ∧ IntKind.i64.wrap ((at_ : Int) + i) < ((⟨l.toArray⟩ : ByteArray).size : Int)) := by rw [eai, hsz]; omega
    have hv := UInt8.toNat_lt (l.getD (at_ + i) 0)
    have hbi := hbd i
    refine sat_branch tabOk Tryz.func82 rfl ⟨hnd, trivial⟩ (fun g2 => ?_) (fun g2 => ?_)
    · have g2 : decide (bt ⟨l.toArray⟩ (IntKind.i64.wrap ((at_ : Int) + i)).toNat < 128) = true := g2
      rw [eai, Int.toNat_natCast, bt_list, decide_eq_true_eq] at g2
      refine sat_branch tabOk Tryz.func82 rfl trivial (fun _ => ?_) (fun h => by cases h)
      refine sat_ret tabOk Tryz.func82 rfl trivial ?_
      rw [long_no hL hi1 (by omega) (fun hg => by have := hg.2; omega)]
      rfl
    have g2 : decide (bt ⟨l.toArray⟩ (IntKind.i64.wrap ((at_ : Int) + i)).toNat < 128) = false := g2
    rw [eai, Int.toNat_natCast, bt_list, decide_eq_false_iff_not] at g2
    refine sat_branch tabOk Tryz.func82 rfl ⟨hnd, trivial⟩ (fun g3 => ?_) (fun g3 => ?_)
    · have g3 : decide (bt ⟨l.toArray⟩ (IntKind.i64.wrap ((at_ : Int) + i)).toNat > 191) = true := g3
      rw [eai, Int.toNat_natCast, bt_list, decide_eq_true_eq] at g3
      refine sat_ret tabOk Tryz.func82 rfl trivial ?_
      rw [long_no hL hi1 (by omega) (fun hg => by have := hg.2; omega)]
      rfl
    have g3 : decide (bt ⟨l.toArray⟩ (IntKind.i64.wrap ((at_ : Int) + i)).toNat > 191) = false := g3
    rw [eai, Int.toNat_natCast, bt_list, decide_eq_false_iff_not] at g3
    refine sat_stop tabOk Tryz.func82 rfl ⟨hnd, trivial⟩ ?_
    refine sat_le (ih (i + 1) ⟨by omega, by omega, fun j h1 h2 => ?_⟩ (by omega)) hC hCl ⟨⟨_, rfl, .refl _⟩, ⟨_, rfl, .refl _⟩, ⟨_, rfl, .refl _⟩, ⟨_, rfl, .of ?_⟩, ⟨_, rfl, .refl _⟩, ⟨_, rfl, .of (by rw [wrap_id (by omega) (by omega)]; rfl)⟩, trivial⟩ trivial rfl rfl (Nat.zero_le _)
    · rcases Nat.lt_or_ge j i with h | h
      · exact hgo j h1 h
      · obtain rfl : j = i := by omega
        exact ⟨by omega, by omega, by omega⟩
    · rw [Nat.add_sub_cancel, hstep]
      generalize cvN (l.drop at_) c (i - 1) = v at *
      show vI .i64 (IntKind.i64.wrap (IntKind.i64.wrap (IntKind.i64.wrap ((v : Int) * 64) + IntKind.i64.wrap (bt ⟨l.toArray⟩ (IntKind.i64.wrap ((at_ : Int) + i)).toNat)) - 128)) = _
      have e1 : IntKind.i64.wrap ((v : Int) * 64) = (v : Int) * 64 := wrap_id (by omega) (by omega)
      have e2 : IntKind.i64.wrap (((l.getD (at_ + i) 0).toNat : Nat) : Int) = (((l.getD (at_ + i) 0).toNat : Nat) : Int) := wrap_id (by omega) (by omega)
      have e3 : IntKind.i64.wrap ((v : Int) * 64 + (((l.getD (at_ + i) 0).toNat : Nat) : Int)) = (v : Int) * 64 + (((l.getD (at_ + i) 0).toNat : Nat) : Int) := wrap_id (by omega) (by omega)
      rw [eai, Int.toNat_natCast, bt_list, e2, e1, e3, wrap_id (by omega) (by omega)]
      show vI .i64 _ = vI .i64 _
      congr 4
      omega
  · obtain rfl : i = n := by omega
    have hend := long_end hL hgo
    generalize cvN (l.drop at_) c (i - 1) = v at *
    unfold RuneV at hend
    refine sat_branch tabOk Tryz.func82 rfl trivial (fun g1 => ?_) (fun g1 => ?_)
    · have g1 : decide ((v : Int) < (least : Int)) = true := g1
      rw [decide_eq_true_eq] at g1
      refine sat_branch tabOk Tryz.func82 rfl trivial (fun _ => ?_) (fun h => by cases h)
      refine sat_branch tabOk Tryz.func82 rfl trivial (fun _ => ?_) (fun h => by cases h)
      refine sat_ret tabOk Tryz.func82 rfl trivial ?_
      rw [hend.2 (by omega)]
      rfl
    have g1 : decide ((v : Int) < (least : Int)) = false := g1
    rw [decide_eq_false_iff_not] at g1
    refine sat_branch tabOk Tryz.func82 rfl trivial (fun g2 => ?_) (fun g2 => ?_)
    · have g2 : decide ((v : Int) > 1114111) = true := g2
      rw [decide_eq_true_eq] at g2
      refine sat_branch tabOk Tryz.func82 rfl trivial (fun _ => ?_) (fun h => by cases h)
      refine sat_ret tabOk Tryz.func82 rfl trivial ?_
      rw [hend.2 (by omega)]
      rfl
    have g2 : decide ((v : Int) > 1114111) = false := g2
    rw [decide_eq_false_iff_not] at g2
    refine sat_branch tabOk Tryz.func82 rfl trivial (fun g3 => ?_) (fun g3 => ?_)
    · have g3 : decide ((v : Int) >= 55296) = true := g3
      rw [decide_eq_true_eq] at g3
      refine sat_branch tabOk Tryz.func82 rfl trivial (fun g4 => ?_) (fun g4 => ?_)
      · have g4 : decide ((v : Int) < 57344) = true := g4
        rw [decide_eq_true_eq] at g4
        refine sat_ret tabOk Tryz.func82 rfl trivial ?_
        rw [hend.2 (by omega)]
        rfl
      · have g4 : decide ((v : Int) < 57344) = false := g4
        rw [decide_eq_false_iff_not] at g4
        refine sat_ret tabOk Tryz.func82 rfl trivial ?_
        rw [hend.1 (by omega)]
        rfl
    · have g3 : decide ((v : Int) >= 55296) = false := g3
      rw [decide_eq_false_iff_not] at g3
      refine sat_branch tabOk Tryz.func82 rfl trivial (fun h => by cases h) (fun _ => ?_)
      refine sat_ret tabOk Tryz.func82 rfl trivial ?_
      rw [hend.1 (by omega)]
      rfl
end Go.Proofs.YtjjlipbddlignaaGreatDoor
namespace Go.Proofs.YtjjlipbddlignaaGreatDoor
open Go Ab Go.RowKit Go.Lib
set_option maxRecDepth 100000
set_option linter.unusedVariables false
set_option linter.unusedSimpArgs false
set_option maxHeartbeats 4000000

theorem long_zero {l : List UInt8} (h : l ≠ []) : longN l = 0 ↔ decL l = (65533, 1) := by
  unfold longN
  have := (decL_w l h).1
  constructor
  · intro hh
    split at hh
    · assumption
    · omega
  · intro hh
    rw [if_pos hh]
theorem rIsName_call (l : List UInt8) (hl : l.length ≤ 1000000) : ACall Tryz.prog 62 [vTx l] [] (fun r o => r = vB (nameOk l)) := by
  refine acall_enter Tryz.func62 rfl rfl (Nat.le_of_ble_eq_true rfl) fun C hC hCl hDs hGk => ?_
  have hml : maxLen = 9223372036854775807 := rfl
  have hsz : (⟨l.toArray⟩ : ByteArray).size = l.length := sizeBy l
  refine sat_stop tabOk Tryz.func62 rfl trivial ?_
  refine sat_while (α := Nat × Nat) (fun p => [(0, vTx l), (3, vI .i64 (p.2 : Int)), (4, vI .i64 (p.1 : Int))]) (fun p => []) (fun p => p.1 ≤ l.length ∧ p.2 ≤ p.1 ∧ nameQ l = (nameQ (l.drop p.1)).map (· + p.2)) (fun p => l.length - p.1) (0, 0) ⟨Nat.zero_le _, Nat.le_refl _, by simp⟩ ?_ ?_
  · exact fun h => sat_le h hC hCl ⟨⟨_, rfl, .refl _⟩, ⟨_, rfl, .refl _⟩, ⟨_, rfl, .refl _⟩, trivial⟩ trivial rfl rfl (Nat.zero_le _)
  rintro ⟨i, q⟩ ⟨hi, hq, hQ⟩ ih
  simp only at hi hq hQ ih
  refine sat_branch tabOk Tryz.func62 rfl trivial (fun hb => ?_) (fun hb => ?_) <;> simp only [hsz, decide_eq_true_eq, decide_eq_false_iff_not] at hb
  · have hlt : i < l.length := by omega
    have hne : l.drop i ≠ [] := fun e => by
      have := congrArg List.length e
      rw [List.length_drop, List.length_nil] at this
      omega
    have hw := decL_w (l.drop i) hne
    rw [List.length_drop] at hw
    have hq2 := nameQ_cons hne
    rw [List.drop_drop] at hq2
    have hb0 : bA (l.drop i) 0 = (l.getD i 0).toNat := bA_drop l i 0
    have bad : (decL (l.drop i)).1 < 32 ∨ (decL (l.drop i)).1 = 127 ∨ decL (l.drop i) = (65533, 1) → nameOk l = false := fun hb => by
      rw [nameOk_Q, hQ, hq2, if_pos hb]
      rfl
    have hnd : ((0 : Int) ≤ (i : Int) ∧ (i : Int) < ((⟨l.toArray⟩ : ByteArray).size : Int)) := by rw [hsz]; omega
    refine sat_call tabOk Tryz.func62 rfl trivial (Long_call l i (by omega) hlt) (.refl _) rfl ⟨_, rfl⟩ (by rintro r o rfl; rfl) ?_
    rintro _ o rfl
    refine sat_branch tabOk Tryz.func62 rfl trivial (fun h1 => ?_) (fun h1 => ?_)
    · have h1 : (((longN (l.drop i) : Nat) : Int) == 0) = true := h1
      rw [beq_iff_eq] at h1
      repeat refine sat_branch tabOk Tryz.func62 rfl trivial (fun _ => ?_) (fun h => by cases h)
      refine sat_ret tabOk Tryz.func62 rfl trivial ?_
      rw [bad (.inr (.inr ((long_zero hne).1 (by omega))))]
      rfl
    have h1 : (((longN (l.drop i) : Nat) : Int) == 0) = false := h1
    rw [beq_eq_false_iff_ne] at h1
    have hdn : decL (l.drop i) ≠ (65533, 1) := fun e => h1 (by rw [(long_zero hne).2 e]; rfl)
    have hn : longN (l.drop i) = (decL (l.drop i)).2 := by
      unfold longN
      rw [if_neg hdn]
    have hd := decL_bytes (l.drop i) hne hdn
    rw [hb0] at hd
    rw [hn]
    refine sat_branch tabOk Tryz.func62 rfl ⟨hnd, trivial⟩ (fun h2 => ?_) (fun h2 => ?_)
    · have h2 : decide (bt ⟨l.toArray⟩ ((i : Int)).toNat < 32) = true := h2
      rw [Int.toNat_natCast, bt_list, decide_eq_true_eq] at h2
      repeat refine sat_branch tabOk Tryz.func62 rfl trivial (fun _ => ?_) (fun h => by cases h)
      refine sat_ret tabOk Tryz.func62 rfl trivial ?_
      rw [bad (.inl (by omega))]
      rfl
    have h2 : decide (bt ⟨l.toArray⟩ ((i : Int)).toNat < 32) = false := h2
    rw [Int.toNat_natCast, bt_list, decide_eq_false_iff_not] at h2
    refine sat_branch tabOk Tryz.func62 rfl ⟨hnd, trivial⟩ (fun h3 => ?_) (fun h3 => ?_)
    · have h3 : (bt ⟨l.toArray⟩ ((i : Int)).toNat == 127) = true := h3
      rw [Int.toNat_natCast, bt_list, beq_iff_eq] at h3
      refine sat_ret tabOk Tryz.func62 rfl trivial ?_
      rw [bad (.inr (.inl (by omega)))]
      rfl
    have h3 : (bt ⟨l.toArray⟩ ((i : Int)).toNat == 127) = false := h3
    rw [Int.toNat_natCast, bt_list, beq_eq_false_iff_ne] at h3
    have hgood : ¬ ((decL (l.drop i)).1 < 32 ∨ (decL (l.drop i)).1 = 127 ∨ decL (l.drop i) = (65533, 1)) := by
      rintro (e | e | e)
      · omega
      · omega
      · exact hdn e
    rw [if_neg hgood] at hq2
    generalize (decL (l.drop i)).2 = n at *
    refine sat_stop tabOk Tryz.func62 rfl trivial ?_
    refine sat_le (ih (i + n, q + 1) ⟨by simp only; omega, by simp only; omega, ?_⟩ (by simp only; omega)) hC hCl ⟨⟨_, rfl, .refl _⟩, ⟨_, rfl, .of ?_⟩, ⟨_, rfl, .of ?_⟩, trivial⟩ trivial rfl rfl (Nat.zero_le _)
    · simp only
      rw [hQ, hq2, Option.map_map]
      congr 1
      funext x
      show x + 1 + q = x + (q + 1)
      omega
    · show vI .i64 (IntKind.i64.wrap ((q : Int) + 1)) = _
      rw [wrap_id (by omega) (by omega)]
      rfl
    · show vI .i64 (IntKind.i64.wrap ((i : Int) + n)) = _
      rw [wrap_id (by omega) (by omega)]
      rfl
  · obtain rfl : i = l.length := by omega
    have hok : nameOk l = decide (1 ≤ q ∧ q ≤ 40) := by
      rw [nameOk_Q, hQ, List.drop_length, nameQ_nil]
      simp
    refine sat_branch tabOk Tryz.func62 rfl trivial (fun h1 => ?_) (fun h1 => ?_)
    · have h1 : decide ((q : Int) ≥ 1) = true := h1
      rw [decide_eq_true_eq] at h1
      refine sat_ret tabOk Tryz.func62 rfl trivial ?_
      show vB (decide ((q : Int) ≤ 40)) = _
      rw [hok]
      congr 2
      rw [eq_iff_iff]
      omega
    · have h1 : decide ((q : Int) ≥ 1) = false := h1
      rw [decide_eq_false_iff_not] at h1
      refine sat_ret tabOk Tryz.func62 rfl trivial ?_
      rw [hok, decide_eq_false (by omega)]
      rfl
end Go.Proofs.YtjjlipbddlignaaGreatDoor
namespace Go.Proofs.YtjjlipbddlignaaGreatDoor
open Go Ab Go.RowKit Go.Lib
set_option maxRecDepth 100000
set_option linter.unusedVariables false
set_option linter.unusedSimpArgs false
set_option maxHeartbeats 4000000

theorem cnt_mem {f : List UInt8} {c : UInt8} : c ∈ f ↔ 0 < f.count c := List.count_pos_iff.symm
theorem text13_call (form l : List UInt8) (hf : form.length ≤ 4) (hl : l.length ≤ 1000000) : ACall Tryz.prog 44 [vTx form, vTx l] [] (fun r o => r = vB (tOk form l)) := by
  have hml : maxLen = 9223372036854775807 := rfl
  refine acall_enter Tryz.func44 rfl rfl (Nat.le_of_ble_eq_true rfl) fun C hC hCl hDs hGk => ?_
  unfold tOk
  refine sat_call tabOk Tryz.func44 rfl trivial (has_call form 98 (by omega)) (.refl _) rfl ⟨_, rfl⟩ (by rintro r o rfl; rfl) ?_
  rintro r o rfl
  refine sat_branch tabOk Tryz.func44 rfl trivial (fun h1 => ?_) (fun h1 => ?_)
  · have h1 : decide (((form.count 98 : Nat) : Int) > 0) = true := h1
    rw [decide_eq_true_eq] at h1
    rw [if_pos (cnt_mem.2 (by omega))]
    refine sat_call tabOk Tryz.func44 rfl trivial (bits13_call l (by omega)) (.refl _) rfl ⟨_, rfl⟩ (by rintro r o rfl; rfl) ?_
    rintro r o rfl
    exact sat_ret tabOk Tryz.func44 rfl trivial rfl
  have h1 : decide (((form.count 98 : Nat) : Int) > 0) = false := h1
  rw [decide_eq_false_iff_not] at h1
  rw [if_neg (fun h => by have := cnt_mem.1 h; omega)]
  refine sat_call tabOk Tryz.func44 rfl trivial (has_call form 109 (by omega)) (.refl _) rfl ⟨_, rfl⟩ (by rintro r o rfl; rfl) ?_
  rintro r o rfl
  have hemp : ((⟨l.toArray⟩ : ByteArray).toList == (⟨#[]⟩ : ByteArray).toList) = decide (l = []) := by
    rw [eqE_list]
    cases l <;> rfl
  refine sat_branch tabOk Tryz.func44 rfl trivial (fun h2 => ?_) (fun h2 => ?_)
  · have h2 : decide (((form.count 109 : Nat) : Int) > 0) = true := h2
    rw [decide_eq_true_eq] at h2
    rw [if_pos (cnt_mem.2 (by omega))]
    refine sat_branch tabOk Tryz.func44 rfl trivial (fun h3 => ?_) (fun h3 => ?_)
    · have h3 : (!((⟨l.toArray⟩ : ByteArray).toList == (⟨#[]⟩ : ByteArray).toList)) = true := h3
      rw [hemp, Bool.not_eq_true'] at h3
      refine sat_call tabOk Tryz.func44 rfl trivial (rIsName_call l hl) (.refl _) rfl ⟨_, rfl⟩ (by rintro r o rfl; rfl) ?_
      rintro r o rfl
      refine sat_ret tabOk Tryz.func44 rfl trivial ?_
      rw [h3]
      rfl
    · have h3 : (!((⟨l.toArray⟩ : ByteArray).toList == (⟨#[]⟩ : ByteArray).toList)) = false := h3
      rw [hemp, Bool.not_eq_false'] at h3
      refine sat_ret tabOk Tryz.func44 rfl trivial ?_
      show vB ((⟨l.toArray⟩ : ByteArray).toList == (⟨#[]⟩ : ByteArray).toList) = _
      rw [hemp, h3]
      rfl
  · have h2 : decide (((form.count 109 : Nat) : Int) > 0) = false := h2
    rw [decide_eq_false_iff_not] at h2
    rw [if_neg (fun h => by have := cnt_mem.1 h; omega)]
    refine sat_branch tabOk Tryz.func44 rfl trivial (fun h => by cases h) (fun _ => ?_)
    refine sat_ret tabOk Tryz.func44 rfl trivial ?_
    show vB ((⟨l.toArray⟩ : ByteArray).toList == (⟨#[]⟩ : ByteArray).toList) = _
    rw [hemp]
theorem aOk_within (f : List UInt8) (id : Int) (a : List Int) : withinB a ((f.count 97 : Nat) : Int) 1 (id - 1) = aOk f id a := by
  unfold withinB aOk
  congr 1
  · rw [Bool.eq_iff_iff, decide_eq_true_eq, decide_eq_true_eq]
    omega
  · congr 1
    funext n
    rw [Bool.eq_iff_iff, decide_eq_true_eq, decide_eq_true_eq]
    omega
theorem nOk_within (f : List UInt8) (l : List Int) : withinB l ((f.count 110 + f.count 119 : Nat) : Int) ((f.count 119 : Nat) : Int) 128 = nOk f l := by
  unfold withinB nOk
  congr 1
  rw [Bool.eq_iff_iff, decide_eq_true_eq, decide_eq_true_eq]
  omega
theorem rnode_call (x : Nd) (hx : NdB x) (id : Nat) (hid : id ≤ 1000000000) : ACall Tryz.prog 27 [.d (eNd x), vI .i64 (id : Int)] [] (fun r o => r = vB (nodeB (id : Int) x)) := by
  refine acall_enter Tryz.func27 rfl rfl (Nat.le_of_ble_eq_true rfl) fun C hC hCl hDs hGk => ?_
  have hfl := form_len x.op
  unfold nodeB
  unfold frm at hfl ⊢
  refine sat_call tabOk Tryz.func27 rfl trivial (Form_call x.op) (.refl _) rfl ⟨_, rfl⟩ (by rintro r o rfl; rfl) ?_
  rintro r o rfl
  generalize (formR x.op).1 = f at *
  cases hk1 : (formR x.op).2 with
  | false =>
    refine sat_branch tabOk Tryz.func27 rfl trivial (fun _ => ?_) (fun h => by cases h)
    refine sat_branch tabOk Tryz.func27 rfl trivial (fun _ => ?_) (fun h => by cases h)
    exact sat_ret tabOk Tryz.func27 rfl trivial rfl
  | true =>
  refine sat_branch tabOk Tryz.func27 rfl trivial (fun h => by cases h) (fun _ => ?_)
  refine sat_call tabOk Tryz.func27 rfl trivial (text13_call f x.t hfl hx.t) (.refl _) rfl ⟨_, rfl⟩ (by rintro r o rfl; rfl) ?_
  rintro r o rfl
  cases hk2 : tOk f x.t with
  | false =>
    refine sat_branch tabOk Tryz.func27 rfl trivial (fun _ => ?_) (fun h => by cases h)
    refine sat_ret tabOk Tryz.func27 rfl trivial ?_
    simp
    rfl
  | true =>
  refine sat_branch tabOk Tryz.func27 rfl trivial (fun h => by cases h) (fun _ => ?_)
  refine sat_call tabOk Tryz.func27 rfl trivial (has_call f 115 (by omega)) (.refl _) rfl ⟨_, rfl⟩ (by rintro r o rfl; rfl) ?_
  rintro r o rfl
  have n1 : f.count 115 ≤ 4 := Nat.le_trans List.count_le_length hfl
  have n2 : f.count 119 ≤ 4 := Nat.le_trans List.count_le_length hfl
  have n3 : f.count 97 ≤ 4 := Nat.le_trans List.count_le_length hfl
  have n4 : f.count 110 ≤ 4 := Nat.le_trans List.count_le_length hfl
  apply letK (p := sOk f (id : Int) x.s = true → ASat Tryz.prog 27 Tryz.f27.ntmps C _ [(1, vI .i64 (id : Int)), (2, .ptr 0 0), (5, vTx f), (50, vI .i64 ((f.count 119 : Nat) : Int))] [some (bNd x)] (fun r o => r = vB (true && sOk f (id : Int) x.s && true && aOk f (id : Int) x.a && nOk f x.n)))
  · intro key
    refine sat_branch tabOk Tryz.func27 rfl trivial (fun h3 => ?_) (fun h3 => ?_)
    · have h3 : (((f.count 115 : Nat) : Int) == 0) = true := h3
      have z3 : f.count 115 = 0 := by have := eq_of_beq h3; omega
      have hs : sOk f (id : Int) x.s = decide (x.s = 0) := by
        unfold sOk
        rw [if_neg (fun h => by have := cnt_mem.1 h; omega)]
      refine sat_branch tabOk Tryz.func27 rfl trivial (fun h4 => ?_) (fun h4 => ?_)
      · have h4 : (x.s != 0) = true := h4
        rw [bne_iff_ne] at h4
        refine sat_branch tabOk Tryz.func27 rfl trivial (fun _ => ?_) (fun h => by cases h)
        refine sat_ret tabOk Tryz.func27 rfl trivial ?_
        rw [hs, decide_eq_false h4]
        rfl
      have h4 : (x.s != 0) = false := h4
      rw [bne_eq_false_iff_eq] at h4
      refine sat_call tabOk Tryz.func27 rfl trivial (has_call f 115 (by omega)) (.refl _) rfl ⟨_, rfl⟩ (by rintro r o rfl; rfl) ?_
      rintro r o rfl
      refine sat_branch tabOk Tryz.func27 rfl trivial (fun h5 => ?_) (fun h5 => ?_)
      · have h5 : decide (((f.count 115 : Nat) : Int) > 0) = true := h5
        rw [z3] at h5
        cases h5
      refine sat_branch tabOk Tryz.func27 rfl trivial (fun h => by cases h) (fun _ => ?_)
      refine sat_call tabOk Tryz.func27 rfl trivial (has_call f 119 (by omega)) (.refl _) rfl ⟨_, rfl⟩ (by rintro r o rfl; rfl) ?_
      rintro r o rfl
      exact sat_le (key (by rw [hs, decide_eq_true h4])) hC hCl ⟨⟨_, rfl, .refl _⟩, ⟨_, rfl, .refl _⟩, ⟨_, rfl, .refl _⟩, ⟨_, rfl, .refl _⟩, trivial⟩ ⟨.refl _, trivial⟩ rfl rfl (Nat.zero_le _)
    · have h3 : (((f.count 115 : Nat) : Int) == 0) = false := h3
      rw [beq_eq_false_iff_ne] at h3
      have hs : sOk f (id : Int) x.s = decide (1 ≤ x.s ∧ x.s < (id : Int)) := by
        unfold sOk
        rw [if_pos (cnt_mem.2 (by omega))]
      refine sat_branch tabOk Tryz.func27 rfl trivial (fun h => by cases h) (fun _ => ?_)
      refine sat_call tabOk Tryz.func27 rfl trivial (has_call f 115 (by omega)) (.refl _) rfl ⟨_, rfl⟩ (by rintro r o rfl; rfl) ?_
      rintro r o rfl
      refine sat_branch tabOk Tryz.func27 rfl trivial (fun h5 => ?_) (fun h5 => ?_)
      rotate_left
      · have h5 : decide (((f.count 115 : Nat) : Int) > 0) = false := h5
        rw [decide_eq_false_iff_not] at h5
        omega
      refine sat_branch tabOk Tryz.func27 rfl trivial (fun h6 => ?_) (fun h6 => ?_)
      · have h6 : decide (x.s < 1) = true := h6
        rw [decide_eq_true_eq] at h6
        refine sat_branch tabOk Tryz.func27 rfl trivial (fun _ => ?_) (fun h => by cases h)
        refine sat_ret tabOk Tryz.func27 rfl trivial ?_
        rw [hs, decide_eq_false (by omega)]
        rfl
      have h6 : decide (x.s < 1) = false := h6
      rw [decide_eq_false_iff_not] at h6
      refine sat_branch tabOk Tryz.func27 rfl trivial (fun h7 => ?_) (fun h7 => ?_)
      · have h7 : decide (x.s ≥ (id : Int)) = true := h7
        rw [decide_eq_true_eq] at h7
        refine sat_ret tabOk Tryz.func27 rfl trivial ?_
        rw [hs, decide_eq_false (by omega)]
        rfl
      have h7 : decide (x.s ≥ (id : Int)) = false := h7
      rw [decide_eq_false_iff_not] at h7
      refine sat_call tabOk Tryz.func27 rfl trivial (has_call f 119 (by omega)) (.refl _) rfl ⟨_, rfl⟩ (by rintro r o rfl; rfl) ?_
      rintro r o rfl
      exact sat_le (key (by rw [hs, decide_eq_true (by omega)])) hC hCl ⟨⟨_, rfl, .refl _⟩, ⟨_, rfl, .refl _⟩, ⟨_, rfl, .refl _⟩, ⟨_, rfl, .refl _⟩, trivial⟩ ⟨.refl _, trivial⟩ rfl rfl (Nat.zero_le _)
  intro hs
  have eid : IntKind.i64.wrap ((id : Int) - 1) = (id : Int) - 1 := wrap_id (by omega) (by omega)
  have e10 : IntKind.i64.wrap (((f.count 110 : Nat) : Int) + ((f.count 119 : Nat) : Int)) = ((f.count 110 + f.count 119 : Nat) : Int) := by rw [wrap_id (by omega) (by omega)]; omega
  refine sat_drawT 6 tabOk Tryz.func27 rfl rfl trivial (by kernel_rfl) ?_
  refine ds_call tabOk rfl trivial (has_call f 97 (by omega)) (callFunc_run Tryz.func45 rfl rfl) (by rintro r o rfl; rfl) (.refl _) rfl rfl ⟨_, rfl⟩ ?_
  refine ds_done tabOk rfl trivial ?_
  refine sat_call tabOk Tryz.func27 rfl trivial (within_call x.a ((f.count 97 : Nat) : Int) 1 ((id : Int) - 1) hx.a) ⟨.refl _, .refl _, .refl _, .of (by show vI .i64 (IntKind.i64.wrap ((id : Int) - 1)) = _; rw [eid]), trivial⟩ rfl ⟨_, rfl⟩ (by rintro r o rfl; rfl) ?_
  rintro r o rfl
  rw [aOk_within]
  refine sat_drawT 7 tabOk Tryz.func27 rfl rfl trivial (by kernel_rfl) ?_
  refine ds_call tabOk rfl trivial (has_call f 110 (by omega)) (callFunc_run Tryz.func45 rfl rfl) (by rintro r o rfl; rfl) (.refl _) rfl rfl ⟨_, rfl⟩ ?_
  refine ds_done tabOk rfl trivial ?_
  refine sat_call tabOk Tryz.func27 rfl trivial (within_call x.n ((f.count 110 + f.count 119 : Nat) : Int) ((f.count 119 : Nat) : Int) 128 hx.n) ⟨.refl _, .of (by show vI .i64 (IntKind.i64.wrap (((f.count 110 : Nat) : Int) + ((f.count 119 : Nat) : Int))) = _; rw [e10]), .refl _, .refl _, trivial⟩ rfl ⟨_, rfl⟩ (by rintro r o rfl; rfl) ?_
  rintro r o rfl
  rw [nOk_within]
  rw [hs]
  cases h8 : aOk f (id : Int) x.a with
  | false =>
    refine sat_branch tabOk Tryz.func27 rfl trivial (fun h => by cases h) (fun _ => ?_)
    exact sat_ret tabOk Tryz.func27 rfl trivial rfl
  | true =>
    refine sat_branch tabOk Tryz.func27 rfl trivial (fun _ => ?_) (fun h => by cases h)
    exact sat_ret tabOk Tryz.func27 rfl trivial rfl
theorem rRight_call (l : List Nd) (hl : l.length ≤ 1000000) (hm : ∀ x ∈ l, NdB x) : ACall Tryz.prog 15 [.d (eBt l)] [] (fun r o => r = vB (rightM l)) := by
  refine acall_enter Tryz.func15 rfl rfl (Nat.le_of_ble_eq_true rfl) fun C hC hCl hDs hGk => ?_
  refine sat_stop tabOk Tryz.func15 rfl trivial ?_
  refine sat_while (α := Nat) (fun i => [(1, .ptr 0 0), (3, vI .i64 (i : Int))]) (fun i => [some (bBt l)]) (fun i => i ≤ l.length ∧ ∀ j, j < i → nodeB ((j : Int) + 1) (nd l j) = true) (fun i => l.length - i) 0 ⟨Nat.zero_le _, fun j hj => by omega⟩ ?_ ?_
  · exact fun h => sat_le h hC hCl ⟨⟨_, rfl, .refl _⟩, ⟨_, rfl, .refl _⟩, trivial⟩ ⟨.refl _, trivial⟩ rfl rfl (Nat.zero_le _)
  rintro i ⟨hi, hall⟩ ih
  refine sat_branch tabOk Tryz.func15 rfl trivial (fun hb => ?_) (fun hb => ?_) <;> simp only [List.length_map, decide_eq_true_eq, decide_eq_false_iff_not] at hb
  · have hlt : i < l.length := by omega
    have e1 : IntKind.i64.wrap ((i : Int) + 1) = ((i + 1 : Nat) : Int) := by rw [wrap_id (by omega) (by omega)]; omega
    refine sat_call tabOk Tryz.func15 rfl (by simp only [andP, and_true, true_and, Int.toNat_natCast, List.length_map, List.length_append, List.length_cons, List.length_nil, List.length_replicate]; omega) (rnode_call (nd l i) (hm _ (nd_mem hlt)) (i + 1) (by omega)) ⟨.refl _, .of (by show vI .i64 (IntKind.i64.wrap ((i : Int) + 1)) = _; rw [e1]), trivial⟩ rfl ⟨_, rfl⟩ (by rintro r o rfl; rfl) ?_
    rintro r o rfl
    rw [show ((i + 1 : Nat) : Int) = (i : Int) + 1 by omega]
    cases hn : nodeB ((i : Int) + 1) (nd l i) with
    | false =>
      refine sat_branch tabOk Tryz.func15 rfl trivial (fun _ => ?_) (fun h => by cases h)
      refine sat_ret tabOk Tryz.func15 rfl trivial ?_
      have : rightM l = false := by
        rw [← Bool.not_eq_true]
        intro hr
        unfold rightM at hr
        rw [Bool.and_eq_true, rightFrom_iff] at hr
        have := hr.1 i hlt
        rw [← nd_at hlt, show ((0 : Nat) : Int) + (i : Int) + 1 = (i : Int) + 1 by omega, hn] at this
        cases this
      rw [this]
      rfl
    | true =>
    refine sat_branch tabOk Tryz.func15 rfl trivial (fun h => by cases h) (fun _ => ?_)
    refine sat_stop tabOk Tryz.func15 rfl trivial ?_
    refine sat_le (ih (i + 1) ⟨by omega, fun j hj => ?_⟩ (by omega)) hC hCl ⟨⟨_, rfl, .refl _⟩, ⟨_, rfl, .of (by rw [wrap_id (by omega) (by omega)]; rfl)⟩, trivial⟩ ⟨.refl _, trivial⟩ rfl rfl (Nat.zero_le _)
    rcases Nat.lt_or_ge j i with h | h
    · exact hall j h
    · obtain rfl : j = i := by omega
      exact hn
  · obtain rfl : i = l.length := by omega
    refine sat_ret tabOk Tryz.func15 rfl trivial ?_
    have hr : rightFrom 0 l = true := by
      rw [rightFrom_iff]
      intro j hj
      have := hall j hj
      rwa [nd_at hj, show (j : Int) + 1 = ((0 : Nat) : Int) + (j : Int) + 1 by omega] at this
    unfold rightM
    rw [hr, Bool.true_and]
    show vB (decide ((((l.map eNd).length : Nat) : Int) ≤ 5000)) = _
    rw [List.length_map]
    congr 2
    rw [eq_iff_iff]
    omega
end Go.Proofs.YtjjlipbddlignaaGreatDoor
namespace Go.Proofs.YtjjlipbddlignaaGreatDoor
open Go Ab Go.RowKit Go.Lib
set_option maxRecDepth 100000
set_option linter.unusedVariables false
set_option linter.unusedSimpArgs false
set_option maxHeartbeats 4000000

end Go.Proofs.YtjjlipbddlignaaGreatDoor
