/- A part of the proof: Ab72, Ab73, B3, N35, N26. -/
import Derived.Test.YtjjlipbddlignaaDoorP18
import Derived.Shelf.SlicesE.Delete
set_option linter.unusedVariables false
set_option linter.unusedSimpArgs false
set_option linter.unusedSimpArgs false
set_option linter.unusedVariables false
set_option linter.unusedSectionVars false
namespace Ab
open Go Go.Shelf Go.RowKit Go.Lib Go.Sort Go.Proofs
variable [Draws]

abbrev FV := { v : Value // v.oneCell' = true }
instance : Inhabited FV := ⟨⟨.nilIface, rfl⟩⟩
end Ab
set_option linter.unusedSimpArgs false
set_option linter.unusedVariables false
set_option linter.unusedSectionVars false
namespace Ab
open Go
variable [Draws]
section
variable {P : Program} [Globals P] {T : Tab} {f : FuncId} {fn : Func} {n : Nat} {C : Cx} {R : AV → List (Option AObj) → Prop} {todo k : List Item} {env env' : Env} {objs : List (Option AObj)} {nd : Prop} {ops : Array Oper}

/-- A slice without cells, that nothing tells of yet. -/
theorem sat_dummy (e : TypeId) (s : Nat) (rd : Nat → D) (kk : ASat P f n C todo env (objs ++ [some (.grow e s [] rd)]) R) : ASat P f n C todo env objs R := by
  intro π w tmps hn hm hh he
  have htr : Tr C.X π objs w none (π ++ [.slice none 0 0]) (objs ++ [some (.grow e s [] rd)]) w := tr_newW hm rfl rfl ⟨rfl, dr_mono (Nat.le_refl _)⟩ (Nat.le_refl _) (fun _ _ => rfl) _ _ (by intro b e; cases e) .gnil
  exact kk _ w tmps hn htr.mem (hist_tr hh htr) (env_tr he htr)

/-- A cell that holds nil owns an empty slice that there is. -/
theorem sat_attach (i q j : Nat) {e e' : TypeId} {cs : List AV} {s : Nat} {rd : Nat → D} (hij : i ≠ j) (ho : nth objs i = some (some (.cells e cs))) (hc : nth (AV.drops j cs) q = some (.d (.v (.slice none 0 0)))) (hj : nth objs j = some (some (.grow e' s [] rd)))
    (kk : ASat P f n C todo (dropEnv j env) (setNth (setNth (dropO j objs) j (some (.grow e' s [] rd))) i (some (.cells e (setNth (AV.drops j cs) q (.gs j))))) R) : ASat P f n C todo env objs R := by
  intro π w tmps hn hm hh he
  obtain ⟨h, hp, hrel⟩ := hm.obj j _ hj
  have hsl : isSl h = true := by cases hrel <;> rfl
  have htr : Tr C.X π objs w (some j) (setNth π j (.slice none 0 0)) (setNth (dropO j objs) j (some (.grow e' s [] rd))) w :=
    tr_regrow hm hj hp hsl rfl rfl ⟨rfl, dr_mono (Nat.le_refl _)⟩ (Nat.le_refl _) (fun _ _ _ => rfl) (by intro b e; cases e) .gnil
  have hm1 := htr.mem
  have hdrop : ∀ (l : List (Option AObj)) (i : Nat), nth l i = some (some (.cells e cs)) → nth (dropO j l) i = some (some (.cells e (AV.drops j cs))) := by
    intro l
    induction l with
    | nil => intro i h; simp [nth] at h
    | cons a r ih =>
      intro i h
      cases i with
      | zero =>
        simp only [nth, Option.some.injEq] at h
        subst h
        rfl
      | succ i =>
        have := ih i (by simpa [nth] using h)
        cases a <;> simpa [dropO, nth] using this
  have ho1 : nth (setNth (dropO j objs) j (some (.grow e' s [] rd))) i = some (some (.cells e (AV.drops j cs))) := by
    rw [nth_setNth_ne hij]
    exact hdrop objs i ho
  obtain ⟨h', h5, h6⟩ := hm1.obj i _ ho1
  cases h6 with
  | cells hb hcs hf =>
    rename_i b vs
    obtain ⟨v, hv1, hv2⟩ := hcs.get hc
    have hv3 : v = .slice none 0 0 := by cases hv2 with | d h => cases h; rfl
    subst hv3
    have htr2 := tr_set (o' := .cells e (setNth (AV.drops j cs) q (.gs j))) hm1 ho1 h5 (b := b) rfl rfl rfl ⟨rfl, dr_mono (Nat.le_refl _)⟩ rfl (fun _ _ => rfl) ?_
    · exact kk _ w tmps hn htr2.mem (hist_tr (hist_tr hh htr) htr2) (env_tr (env_tr he htr) htr2)
    · have hrel := hcs.set q (x := .gs j) (v := .slice none 0 0) (.gs (nth_setNth_eq hp))
      have hvs : vs.set q (.slice none 0 0) = vs := by
        have := nth_setNth_self (l := vs) (i := q) (x := .slice none 0 0) (by rw [nth_eq]; exact hv1)
        rwa [setNth_eq] at this
      rw [hvs] at hrel
      exact .cells hb (hrel.mono (fun c off u h1 h2 => ⟨(okOf_set ho1 c).2 h1, h2⟩) (fun _ _ h => h)) hf

/-- Nothing is appended to nil. -/
theorem sat_appNil {i : Nat} {r : List Nat} {o : Oper} {e2 : Env} {xo yo : Operand} {t t2 e : TypeId} {inf : TypeInfo} (ho : ops[i]? = some o) (hw : wantE ops env o = .yes) (hop : o.op = .call { callee := .builtin .append, args := #[xo, yo], argTypes := #[t, t2] })
    (hx : opnd env xo = some (.d (.v (.slice none 0 0)))) (hy : opnd env yo = some (.d (.v (.string ⟨#[]⟩)))) (ht : P.underlying t = some (.slice e)) (ht2 : P.underlying t2 = some .string) (hi : P.info? e = some inf) (hput : putE n o.dst (.d (.v (.slice none 0 0))) env = some e2)
    (h : ASat P f n C (.inRegion ops r :: k) e2 objs R) : ASat P f n C (.inRegion ops (i :: r) :: k) env objs R := by
  refine sat_quiet (.d (.v (.slice none 0 0))) ho hw (fun X π w tmps m he => ?_) hput h
  have hax := look_ok (P := P) he hx
  have hay := look_ok (P := P) he hy
  have hrun := run_append_in (P := P) (w := w) (w' := w) (t := t) (t2 := t2) (ty := o.type) (rest := []) ht (.inr ht2) hi (A := none) (n := 0) (c := 0) (m := 0) (x := .string ⟨#[]⟩) (us := []) (fun w' => by simp [Builtin.lenOf]; rfl) (by omega) (by simp [Builtin.firstCells]) (by simp)
  refine ⟨.slice none 0 0, ?_, .d (.v rfl)⟩
  unfold execOp
  simp only [hop]
  have hrun' : (Builtin.append_ #[t, t2] o.type #[.slice none 0 0, .string ⟨#[]⟩]).run P w = .ok (.slice none 0 0) w := hrun
  simp [resolve, invoke, builtin, hax, hay, hrun']
end
end Ab
namespace Go.Proofs.YtjjlipbddlignaaDoor
open Go Ab
set_option maxRecDepth 100000
set_option linter.unusedVariables false
set_option linter.unusedSimpArgs false
set_option maxHeartbeats 2000000

/-- A builder at i whose buffer is, or will be, at j; does it point to itself? -/
@[reducible] def bld (i j : Nat) (a : Bool) : List UInt8 → AObj
  | [] => .cells 44 [match a with | true => .ptr i 0 | false => .d (.v (.pointer none)), nilS]
  | _ :: _ => .cells 44 [.ptr i 0, .gs j]
theorem bld_ren (ρ : Nat → Nat) (i j : Nat) (a : Bool) (bs : List UInt8) : (bld i j a bs).ren ρ = bld (ρ i) (ρ j) a bs := by
  cases bs with
  | nil => cases a <;> rfl
  | cons b r => rfl
theorem bld_refs {i j m : Nat} (hi : i < m) (hj : j < m) (a : Bool) (bs : List UInt8) : refsO1 m (bld i j a bs) = true := by
  have h1 : Nat.blt i m = true := by simpa [Nat.blt_eq] using hi
  have h2 : Nat.blt j m = true := by simpa [Nat.blt_eq] using hj
  cases bs with
  | nil => cases a <;> simp [refsO1, refsBs, refsB, h1, bld]
  | cons b r => simp [refsO1, refsBs, refsB, h1, h2, bld]
@[reducible] def vStr (l : List UInt8) : AV := .d (.v (.string ⟨l.toArray⟩))
theorem blds_refs (a : Bool) (bs : List UInt8) : refsO 2 [some (bld 0 1 a bs), some (gB bs)] = true := by
  simp only [refsO, bld_refs (show 0 < 2 by decide) (show 1 < 2 by decide)]
  rfl
@[reducible] def wsR (s : List UInt8) : AV := .tp [vI .i64 (s.length : Int), .d (.v .nilIface)]
theorem catStr (a b : List UInt8) : (⟨a.toArray⟩ : ByteArray) ++ ⟨b.toArray⟩ = ⟨(a ++ b).toArray⟩ := by
  apply ByteArray.ext
  simp
theorem strEs_len (s : List UInt8) : (strEs ⟨s.toArray⟩).length = s.length := by simp [strEs]
theorem vlen (s : List UInt8) : vI .i64 (((⟨s.toArray⟩ : ByteArray).size : Nat) : Int) = vI .i64 (s.length : Int) := by
  rw [show (⟨s.toArray⟩ : ByteArray).size = s.length by simp [ByteArray.size]]
theorem WStr_call (a : Bool) (bs s : List UInt8) (hl : bs.length ≤ 100000000) (hs : s.length ≤ 100000000) : ACall Tryd.prog 13 [.ptr 0 0, vStr s] [some (bld 0 1 a bs), some (gB bs)] (fun r o => r = wsR s ∧ o = [some (bld 0 1 true (bs ++ s)), some (gB (bs ++ s))]) := by
  refine acall_enter Tryd.func13 rfl rfl (Nat.le_of_ble_eq_true rfl) fun C hC hCl hDs hGk => ?_
  cases bs with
  | nil =>
    cases a
    all_goals
      first
      | refine sat_callG [0] tabOk Tryd.func13 rfl trivial (copyF_call false) ⟨⟨_, rfl, .refl _⟩, trivial⟩ (.refl _) rfl rfl rfl ⟨_, rfl⟩ ?_
      | refine sat_callG [0] tabOk Tryd.func13 rfl trivial (copyF_call true) ⟨⟨_, rfl, .refl _⟩, trivial⟩ (.refl _) rfl rfl rfl ⟨_, rfl⟩ ?_
      rintro r o ⟨rfl, rfl⟩
      cases s with
      | nil =>
        refine sat_steps 9 tabOk Tryd.func13 rfl trivial ?_
        refine sat_appNil rfl rfl rfl rfl rfl Tryd.underlying37 Tryd.underlying9 (by rfl) rfl ?_
        refine sat_retL tabOk Tryd.func13 rfl trivial hC hCl (.of ?_) (o2 := [some (bld 0 1 true []), some (gB [])]) ⟨.refl _, .refl _, trivial⟩ rfl rfl (Nat.le_refl _) ⟨rfl, rfl⟩
        rfl
      | cons c s =>
        refine sat_attach 0 1 1 (by decide) rfl rfl rfl ?_
        refine sat_retL tabOk Tryd.func13 rfl ?nd hC hCl (.of ?_) (o2 := [some (bld 0 1 true (c :: s)), some (gB (c :: s))]) ⟨.refl _, .gL ?_, trivial⟩ rfl rfl (Nat.le_refl _) ⟨rfl, rfl⟩
        case nd =>
          show (0 + (strEs ⟨(c :: s).toArray⟩).length) * 1 ≤ 140737488355328 ∧ True
          rw [strEs_len]
          exact ⟨by omega, trivial⟩
        · show AV.tp [vI .i64 (((⟨(c :: s).toArray⟩ : ByteArray).size : Nat) : Int), _] = _
          rw [vlen]
        · rfl
  | cons b bs =>
    refine sat_callG [0, 1] tabOk Tryd.func13 rfl trivial (copyW_call (b :: bs)) ⟨⟨_, rfl, .refl _⟩, ⟨_, rfl, .refl _⟩, trivial⟩ (.refl _) rfl rfl rfl ⟨_, rfl⟩ ?_
    rintro r o ⟨rfl, rfl⟩
    refine sat_retL tabOk Tryd.func13 rfl ?nd hC hCl (.of ?_) (o2 := [some (bld 0 1 true (b :: bs ++ s)), some (gB (b :: bs ++ s))]) ⟨.refl _, .gL ?_, trivial⟩ rfl rfl (Nat.le_refl _) ⟨rfl, rfl⟩
    · show (((b :: bs).map eU8).length + (strEs ⟨s.toArray⟩).length) * 1 ≤ 140737488355328 ∧ True
      rw [strEs_len, List.length_map]
      exact ⟨by omega, trivial⟩
    · show AV.tp [vI .i64 (((⟨s.toArray⟩ : ByteArray).size : Nat) : Int), _] = _
      rw [vlen]
    · rw [List.map_append]
      rfl
/-- The builder's bytes. -/
theorem BStr_call (a : Bool) (bs : List UInt8) : ACall Tryd.prog 15 [.ptr 0 0] [some (bld 0 1 a bs), some (gB bs)] (fun r o => r = vStr bs ∧ o = [none, none]) := by
  cases bs with
  | cons b bs => exact StringW_call (b :: bs) (by simp)
  | nil =>
    refine acall_enter Tryd.func15 rfl rfl (Nat.le_of_ble_eq_true rfl) fun C hC hCl hDs hGk => ?_
    cases a
    all_goals
      refine sat_drawT 10 tabOk Tryd.func15 rfl rfl trivial (by kernel_rfl) ?_
      refine ds_steps 4 tabOk rfl trivial ?_
      refine ds_dataNil rfl Tryd.underlying67 rfl rfl rfl rfl rfl ?_
      refine ds_done tabOk rfl trivial ?_
      refine sat_noBytes rfl rfl rfl rfl rfl rfl ?_
      exact sat_retL tabOk Tryd.func15 rfl trivial hC hCl (.refl _) (o2 := [none, none]) trivial rfl rfl (Nat.le_refl _) ⟨rfl, rfl⟩
end Go.Proofs.YtjjlipbddlignaaDoor
namespace Go.Proofs.YtjjlipbddlignaaDoor
open Go Ab Go.RowKit Go.Lib
set_option maxRecDepth 100000
set_option linter.unusedVariables false
set_option linter.unusedSimpArgs false
set_option maxHeartbeats 4000000

@[reducible] def gS (l : List (List UInt8)) : AObj := .grow 9 1 (l.map dSL) (fun i => dSL (l.getD i []))
theorem bld_drop4 (a : Bool) (bs : List UInt8) : (bld 1 2 a bs).drop 4 = bld 1 2 a bs := by
  cases a <;> cases bs <;> rfl
theorem bld_frz4 (d : D) (a : Bool) (bs : List UInt8) : (bld 1 2 a bs).frz 4 d = bld 1 2 a bs := by
  cases a <;> cases bs <;> rfl
theorem subR_bld {objs : List (Option AObj)} {i j : Nat} {a : Bool} {bs : List UInt8} (h1 : nth objs i = some (some (bld i j a bs))) (h2 : nth objs j = some (some (gB bs))) : subR (rho [i, j] objs.length) objs [i, j] [some (bld 0 1 a bs), some (gB bs)] := by
  refine ⟨⟨_, h1, ?_⟩, ⟨_, h2, .refl _⟩, trivial⟩
  rw [bld_ren]
  exact .refl _
theorem text_app : ∀ (l m : List Nd) (i : Nat), textFrom i (l ++ m) = textFrom i l ++ textFrom (i + l.length) m
  | [], m, i => rfl
  | x :: l, m, i => by
    rw [List.cons_append, textFrom, textFrom, text_app l m (i + 1), List.append_assoc, List.length_cons, show i + 1 + l.length = i + (l.length + 1) by omega]
theorem text_take {l : List Nd} {i : Nat} (h : i < l.length) : textM (l.take (i + 1)) = textM (l.take i) ++ nodeT ((i : Int) + 1) (nd l i) := by
  unfold textM
  rw [List.take_succ_eq_append_getElem h, text_app, nd_at h, List.length_take, Nat.zero_add, Nat.min_eq_left (Nat.le_of_lt h)]
  simp [textFrom]
theorem text_pre (l : List Nd) (i : Nat) : (textM (l.take i)).length ≤ (textM l).length := by
  have h := text_app (l.take i) (l.drop i) 0
  rw [List.take_append_drop] at h
  unfold textM
  rw [h, List.length_append]
  omega
@[reducible] def prO (l : List Nd) (a : Bool) (T : List UInt8) : List (Option AObj) := [some (bBt l), some (bld 1 2 a T), some (gB T)]
@[reducible] def prL (l : List Nd) (a : Bool) (T : List UInt8) (x : Nd) (p : List (List UInt8)) : List (Option AObj) := [some (bBt l), some (bld 1 2 a T), some (gB T), some (bNd x), some (gS p)]
theorem prO_refs (l : List Nd) (a : Bool) (T : List UInt8) : refsO 3 (prO l a T) = true := by
  have h1 := bld_refs (i := 1) (j := 2) (m := 3) (by decide) (by decide) a T
  simp only [refsO, h1]
  rfl
theorem prL_refs (l : List Nd) (a : Bool) (T : List UInt8) (x : Nd) (p : List (List UInt8)) : refsO 5 (prL l a T x p) = true := by
  have h1 := bld_refs (i := 1) (j := 2) (m := 5) (by decide) (by decide) a T
  simp only [refsO, h1]
  rfl
@[reducible] def prE (l : List Nd) (i : Nat) : Env := [(1, .ptr 0 0), (4, .ptr 1 0), (16, .d (eNds l)), (17, vI .i64 l.length), (18, vI .i64 (i : Int))]
@[reducible] def prA (l : List Nd) : AV := tupOf [vTx (if rightM l = true then textM l else []), vI .i64 (if rightM l = true then 0 else 1)]
theorem bPrint_call (l : List Nd) (hl : l.length ≤ 1000000) (hm : ∀ x ∈ l, NdB x) (hT : rightM l = true → (textM l).length ≤ 100000000) : ACall Tryd.prog 6 [.d (eBt l)] [] (fun r o => r = prA l) := by
  refine acall_enter Tryd.func6 rfl rfl (Nat.le_of_ble_eq_true rfl) fun C hC hCl hDs hGk => ?_
  unfold prA
  refine sat_call tabOk Tryd.func6 rfl trivial (pRight_call l (by have : maxLen = 9223372036854775807 := rfl; omega) hm) (.refl _) rfl ⟨_, rfl⟩ (by rintro r o rfl; rfl) ?_
  rintro _ o rfl
  cases hr : rightM l with
  | false =>
    refine sat_branch tabOk Tryd.func6 rfl trivial (fun _ => ?_) (fun h => by cases h)
    exact sat_ret tabOk Tryd.func6 rfl trivial rfl
  | true =>
  refine sat_branch tabOk Tryd.func6 rfl trivial (fun h => by cases h) (fun _ => ?_)
  have hT := hT hr
  have hlen : l.length ≤ 5000 ∧ ∀ j (h : j < l.length), nodeB ((j : Int) + 1) (nd l j) = true := by
    unfold rightM at hr
    rw [Bool.and_eq_true, rightFrom_iff, decide_eq_true_eq] at hr
    refine ⟨hr.2, fun j hj => ?_⟩
    have := hr.1 j hj
    rwa [← nd_at hj, show ((0 : Nat) : Int) + (j : Int) + 1 = (j : Int) + 1 by omega] at this
  refine sat_steps 7 tabOk Tryd.func6 rfl trivial ?_
  refine sat_dummy 5 1 (fun i => eU8 (([] : List UInt8).getD i 0)) ?_
  refine sat_stop tabOk Tryd.func6 rfl trivial ?_
  refine sat_while (α := Nat × Bool) (fun s => prE l s.1) (fun s => prO l s.2 (textM (l.take s.1))) (fun s => s.1 ≤ l.length) (fun s => l.length - s.1) (0, false) (Nat.zero_le _) ?_ ?_
  · exact fun h => sat_le h hC hCl ⟨⟨_, rfl, .refl _⟩, ⟨_, rfl, .refl _⟩, ⟨_, rfl, .refl _⟩, ⟨_, rfl, .of (by rw [List.length_map])⟩, ⟨_, rfl, .refl _⟩, trivial⟩ ⟨.refl _, .refl _, .refl _, trivial⟩ rfl rfl (Nat.zero_le _)
  rintro ⟨i, a⟩ hi ih
  simp only at hi ih ⊢
  refine sat_branch tabOk Tryd.func6 rfl trivial (fun h => ?_) (fun h => ?_)
  rotate_left
  · have h : decide ((i : Int) < (l.length : Int)) = false := h
    rw [decide_eq_false_iff_not] at h
    obtain rfl : i = l.length := by omega
    rw [List.take_length]
    refine sat_callG [1, 2] tabOk Tryd.func6 rfl trivial (BStr_call a (textM l)) (subR_bld rfl rfl) (.refl _) rfl rfl (blds_refs _ _) ⟨_, rfl⟩ ?_
    rintro _ o ⟨rfl, rfl⟩
    exact sat_ret tabOk Tryd.func6 rfl trivial rfl
  have h : decide ((i : Int) < (l.length : Int)) = true := h
  rw [decide_eq_true_eq] at h
  have hlt : i < l.length := by omega
  have hB := hlen.2 i hlt
  have hx := hm _ (nd_mem hlt)
  have htk := text_take hlt
  have hp1 := text_pre l i
  have hp2 := text_pre l (i + 1)
  rw [htk, List.length_append] at hp2
  have ih := fun a2 => ih (i + 1, a2) (show i + 1 ≤ l.length by omega) (show l.length - (i + 1) < l.length - i by omega)
  simp only [htk] at ih
  have hid : (i : Int) + 1 ≤ 100000 := by have := hlen.1; omega
  have hnum := nodeB_nums hid hB
  have hal : (nd l i).a.length ≤ 4 ∧ (nd l i).n.length ≤ 8 := by
    have hfl := form_len (nd l i).op
    unfold nodeB aOk nOk at hB
    simp only [Bool.and_eq_true, decide_eq_true_eq] at hB
    have c1 : (frm (nd l i).op).count 97 ≤ (frm (nd l i).op).length := List.count_le_length
    have c2 : (frm (nd l i).op).count 110 ≤ (frm (nd l i).op).length := List.count_le_length
    have c3 : (frm (nd l i).op).count 119 ≤ (frm (nd l i).op).length := List.count_le_length
    omega
  have hw : IntKind.i64.wrap ((i : Int) + 1) = (i : Int) + 1 := wrap_id (by omega) (by omega)
  have hxi : (l.getD i default) = nd l i := rfl
  have hjoin := parts_join ((i : Int) + 1) (nd l i)
  unfold partsP tailP at hjoin
  generalize textM (l.take i) = T at *
  generalize hxx : nd l i = x at *
  have e48 : ∀ q : List (List UInt8), q.length ≤ 100 → ((q.map dSL).length + 1) * 16 ≤ 140737488355328 := fun q hq => by
    rw [List.length_map]
    omega
  apply letK (p := ASat Tryd.prog 6 Tryd.f6.ntmps C _ (prE l i ++ [(6, .ptr 3 0), (7, .gs 4)]) (prL l a T x ([tItoa ((i : Int) + 1), x.op] ++ (if frm x.op = [119] then [sBv] else []))) (fun r o => r = tupOf [vTx (textM l), vI .i64 0]))
  · intro keyB
    refine sat_drawT 5 tabOk Tryd.func6 rfl rfl ?nd (by kernel_rfl) ?_
    case nd => exact (by simp only [andP, and_true, true_and, Int.toNat_natCast, List.length_map, List.length_append, List.length_cons, List.length_nil, List.length_replicate]; omega)
    refine ds_call tabOk rfl trivial (Itoa_call ((i : Int) + 1) (by omega) (by omega)) (callFunc_run Tryd.func11 rfl rfl) (by rintro r o rfl; rfl) ⟨.of (congrArg (fun z => vI .i64 z) hw), trivial⟩ rfl rfl ⟨_, rfl⟩ ?_
    refine ds_done tabOk rfl trivial ?_
    refine sat_litG _ tabOk rfl rfl rfl rfl rfl trivial rfl ?_
    refine sat_call tabOk Tryd.func6 rfl trivial (pForm_call x.op) ⟨.of ?_, trivial⟩ rfl ⟨_, rfl⟩ (by rintro r o rfl; rfl) ?_
    · show AV.d (dSL (nd l i).op) = _
      rw [hxx]
    rintro _ o rfl
    refine sat_branch tabOk Tryd.func6 rfl trivial (fun hf => ?_) (fun hf => ?_)
    · have hf : ((⟨(frm x.op).toArray⟩ : ByteArray).toList == (⟨([119] : List UInt8).toArray⟩ : ByteArray).toList) = true := hf
      rw [isEq_bytes, decide_eq_true_eq] at hf
      rw [if_pos hf] at keyB
      refine sat_steps 7 tabOk Tryd.func6 rfl ?nd2 ?_
      case nd2 =>
        show (2 + 1) * 16 ≤ 140737488355328 ∧ True
        exact ⟨by decide, trivial⟩
      exact sat_le keyB hC hCl ⟨⟨_, rfl, .refl _⟩, ⟨_, rfl, .refl _⟩, ⟨_, rfl, .refl _⟩, ⟨_, rfl, .refl _⟩, ⟨_, rfl, .refl _⟩, ⟨_, rfl, .refl _⟩, ⟨_, rfl, .refl _⟩, trivial⟩ ⟨.refl _, .of (bld_drop4 _ _), .refl _, .of (by show bNd (nd l i) = _; rw [hxx]), .grow (by rw [← hxx]; rfl) (map_rd dSL [] _), trivial⟩ rfl (prL_refs _ _ _ _ _) (Nat.zero_le _)
    · have hf : ((⟨(frm x.op).toArray⟩ : ByteArray).toList == (⟨([119] : List UInt8).toArray⟩ : ByteArray).toList) = false := hf
      rw [isEq_bytes, decide_eq_false_iff_not] at hf
      rw [if_neg hf] at keyB
      refine sat_steps 2 tabOk Tryd.func6 rfl trivial ?_
      exact sat_le keyB hC hCl ⟨⟨_, rfl, .refl _⟩, ⟨_, rfl, .refl _⟩, ⟨_, rfl, .refl _⟩, ⟨_, rfl, .refl _⟩, ⟨_, rfl, .refl _⟩, ⟨_, rfl, .refl _⟩, ⟨_, rfl, .refl _⟩, trivial⟩ ⟨.refl _, .refl _, .refl _, .of (by show bNd (nd l i) = _; rw [hxx]), .grow (by rw [← hxx]; rfl) (map_rd dSL [] _), trivial⟩ rfl (prL_refs _ _ _ _ _) (Nat.zero_le _)
  have hPB : ([tItoa ((i : Int) + 1), x.op] ++ (if frm x.op = [119] then [sBv] else [])).length ≤ 3 := by split <;> exact Nat.le_of_ble_eq_true rfl
  generalize hpb : [tItoa ((i : Int) + 1), x.op] ++ (if frm x.op = [119] then [sBv] else []) = PB at *
  apply letK (p := ASat Tryd.prog 6 Tryd.f6.ntmps C _ (prE l i ++ [(6, .ptr 3 0), (7, .gs 4)]) (prL l a T x (PB ++ (if 0 < x.s then [tItoa x.s] else []))) (fun r o => r = tupOf [vTx (textM l), vI .i64 0]))
  · intro keyC
    refine sat_branch tabOk Tryd.func6 rfl trivial (fun hs => ?_) (fun hs => ?_)
    · have hs : decide (x.s > 0) = true := hs
      rw [decide_eq_true_eq] at hs
      rw [if_pos (by omega)] at keyC
      refine sat_call tabOk Tryd.func6 rfl trivial (Itoa_call x.s (by omega) (by omega)) (.refl _) rfl ⟨_, rfl⟩ (by rintro r o rfl; rfl) ?_
      rintro _ o rfl
      refine sat_steps 4 tabOk Tryd.func6 rfl ?nd2 ?_
      case nd2 =>
        exact ⟨e48 PB (by omega), trivial⟩
      exact sat_le keyC hC hCl ⟨⟨_, rfl, .refl _⟩, ⟨_, rfl, .refl _⟩, ⟨_, rfl, .refl _⟩, ⟨_, rfl, .refl _⟩, ⟨_, rfl, .refl _⟩, ⟨_, rfl, .refl _⟩, ⟨_, rfl, .refl _⟩, trivial⟩ ⟨.refl _, .of (bld_drop4 _ _), .refl _, .refl _, .grow (by rw [List.map_append]; rfl) (map_rd dSL [] _), trivial⟩ rfl (prL_refs _ _ _ _ _) (Nat.zero_le _)
    · have hs : decide (x.s > 0) = false := hs
      rw [decide_eq_false_iff_not] at hs
      rw [if_neg (by omega), List.append_nil] at keyC
      refine sat_steps 2 tabOk Tryd.func6 rfl trivial ?_
      exact sat_le keyC hC hCl ⟨⟨_, rfl, .refl _⟩, ⟨_, rfl, .refl _⟩, ⟨_, rfl, .refl _⟩, ⟨_, rfl, .refl _⟩, ⟨_, rfl, .refl _⟩, ⟨_, rfl, .refl _⟩, ⟨_, rfl, .refl _⟩, trivial⟩ ⟨.refl _, .refl _, .refl _, .refl _, .refl _, trivial⟩ rfl (prL_refs _ _ _ _ _) (Nat.zero_le _)
  have hPC : (PB ++ (if 0 < x.s then [tItoa x.s] else [])).length ≤ 4 := by
    rw [List.length_append]
    have : (if 0 < x.s then [tItoa x.s] else []).length ≤ 1 := by split <;> exact Nat.le_of_ble_eq_true rfl
    omega
  generalize hpc : PB ++ (if 0 < x.s then [tItoa x.s] else []) = PC at *
  refine sat_call tabOk Tryd.func6 rfl trivial (Concat_call x.a x.n (by omega) (by omega)) ⟨VLe.eL rfl, trivial⟩ rfl ⟨_, rfl⟩ (by rintro r o rfl; rfl) ?_
  rintro _ o rfl
  refine sat_stop tabOk Tryd.func6 rfl trivial ?_
  obtain ⟨L, hL⟩ : ∃ L, x.a ++ x.n = L := ⟨_, rfl⟩
  have hLl : L.length ≤ 12 := by rw [← hL, List.length_append]; omega
  have hLn : ∀ n ∈ L, 0 ≤ n ∧ n ≤ 100000 := fun n hn => by
    rw [← hL, List.mem_append] at hn
    exact hn.elim (hnum.2.1 n) (hnum.2.2 n)
  rw [hL] at hjoin ⊢
  refine sat_while (α := Nat) (fun k => prE l i ++ [(6, .ptr 3 0), (7, .gs 4), (54, .d (eIs L)), (55, vI .i64 (L.length : Int)), (56, vI .i64 (k : Int))]) (fun k => prL l a T x (PC ++ (L.take k).map tItoa)) (fun k => k ≤ L.length) (fun k => L.length - k) 0 (Nat.zero_le _) ?_ ?_
  · exact fun h => sat_le h hC hCl ⟨⟨_, rfl, .refl _⟩, ⟨_, rfl, .refl _⟩, ⟨_, rfl, .refl _⟩, ⟨_, rfl, .refl _⟩, ⟨_, rfl, .refl _⟩, ⟨_, rfl, .refl _⟩, ⟨_, rfl, .refl _⟩, ⟨_, rfl, .refl _⟩, ⟨_, rfl, .of (by rw [List.length_map])⟩, ⟨_, rfl, .refl _⟩, trivial⟩ ⟨.refl _, .refl _, .refl _, .refl _, .of (by rw [List.take_zero, List.map_nil, List.append_nil]), trivial⟩ rfl (prL_refs _ _ _ _ _) (Nat.zero_le _)
  rintro k hk ih2
  refine sat_branch tabOk Tryd.func6 rfl trivial (fun hb => ?_) (fun hb => ?_)
  · have hb : decide ((k : Int) < (L.length : Int)) = true := hb
    rw [decide_eq_true_eq] at hb
    have hk2 : k < L.length := by omega
    have eg : L.getD k 0 = L[k] := by simp [hk2]
    have hv := hLn _ (List.getElem_mem hk2)
    rw [← eg] at hv
    refine sat_call tabOk Tryd.func6 rfl ?nd3 (Itoa_call (L.getD k 0) (by omega) (by omega)) (.refl _) rfl ⟨_, rfl⟩ (by rintro r o rfl; rfl) ?_
    case nd3 => exact (by simp only [andP, and_true, true_and, Int.toNat_natCast, List.length_map, List.length_append, List.length_cons, List.length_nil, List.length_replicate]; omega)
    rintro _ o rfl
    refine sat_stop tabOk Tryd.func6 rfl ?nd4 ?_
    case nd4 => exact ⟨e48 _ (by rw [List.length_append, List.length_map, List.length_take]; omega), trivial⟩
    refine sat_le (ih2 (k + 1) (by omega) (by omega)) hC hCl ⟨⟨_, rfl, .refl _⟩, ⟨_, rfl, .refl _⟩, ⟨_, rfl, .refl _⟩, ⟨_, rfl, .refl _⟩, ⟨_, rfl, .refl _⟩, ⟨_, rfl, .refl _⟩, ⟨_, rfl, .refl _⟩, ⟨_, rfl, .refl _⟩, ⟨_, rfl, .refl _⟩, ⟨_, rfl, .of (by rw [wrap_id (by omega) (by omega)]; rfl)⟩, trivial⟩ ⟨.refl _, .of (bld_drop4 _ _), .refl _, .refl _, .grow ?_ (map_rd dSL [] _), trivial⟩ rfl (prL_refs _ _ _ _ _) (Nat.zero_le _)
    rw [List.take_succ_eq_append_getElem hk2, ← eg, List.map_append (f := tItoa), ← List.append_assoc, List.map_append (l₂ := List.map tItoa [L.getD k 0])]
    rfl
  have hb : decide ((k : Int) < (L.length : Int)) = false := hb
  rw [decide_eq_false_iff_not] at hb
  obtain rfl : k = L.length := by omega
  rw [List.take_length]
  have hPD : (PC ++ L.map tItoa).length ≤ 16 := by rw [List.length_append, List.length_map]; omega
  have hPD1 : PC ++ L.map tItoa ≠ [] := by
    rw [← hpc, ← hpb]
    simp
  generalize hpd : PC ++ L.map tItoa = PD at *
  apply letK (p := ASat Tryd.prog 6 Tryd.f6.ntmps C _ (prE l i ++ [(6, .ptr 3 0), (7, .gs 4)]) (prL l a T x (PD ++ (if x.t = [] then [] else [x.t]))) (fun r o => r = tupOf [vTx (textM l), vI .i64 0]))
  · intro keyD
    refine sat_branch tabOk Tryd.func6 rfl trivial (fun ht => ?_) (fun ht => ?_)
    · have ht : (!((⟨x.t.toArray⟩ : ByteArray).toList == (⟨#[]⟩ : ByteArray).toList)) = true := ht
      have ht : x.t ≠ [] := by
        rw [eqE_list] at ht
        intro e
        rw [e] at ht
        cases ht
      rw [if_neg ht] at keyD
      refine sat_steps 9 tabOk Tryd.func6 rfl ?nd5 ?_
      case nd5 => exact ⟨e48 PD (by omega), trivial⟩
      exact sat_le keyD hC hCl ⟨⟨_, rfl, .refl _⟩, ⟨_, rfl, .refl _⟩, ⟨_, rfl, .refl _⟩, ⟨_, rfl, .refl _⟩, ⟨_, rfl, .refl _⟩, ⟨_, rfl, .refl _⟩, ⟨_, rfl, .refl _⟩, trivial⟩ ⟨.refl _, .of (bld_drop4 _ _), .refl _, .refl _, .grow (by rw [List.map_append]; rfl) (map_rd dSL [] _), trivial⟩ rfl (prL_refs _ _ _ _ _) (Nat.zero_le _)
    · have ht : (!((⟨x.t.toArray⟩ : ByteArray).toList == (⟨#[]⟩ : ByteArray).toList)) = false := ht
      have ht : x.t = [] := by
        rw [eqE_list] at ht
        cases hxt : x.t with
        | nil => rfl
        | cons c r =>
          rw [hxt] at ht
          cases ht
      rw [if_pos ht, List.append_nil] at keyD
      refine sat_steps 2 tabOk Tryd.func6 rfl trivial ?_
      exact sat_le keyD hC hCl ⟨⟨_, rfl, .refl _⟩, ⟨_, rfl, .refl _⟩, ⟨_, rfl, .refl _⟩, ⟨_, rfl, .refl _⟩, ⟨_, rfl, .refl _⟩, ⟨_, rfl, .refl _⟩, ⟨_, rfl, .refl _⟩, trivial⟩ ⟨.refl _, .refl _, .refl _, .refl _, .refl _, trivial⟩ rfl (prL_refs _ _ _ _ _) (Nat.zero_le _)
  have hP : (PD ++ (if x.t = [] then [] else [x.t])).length ≤ 17 := by
    rw [List.length_append]
    have : (if x.t = [] then [] else [x.t]).length ≤ 1 := by split <;> exact Nat.le_of_ble_eq_true rfl
    omega
  have hP1 : PD ++ (if x.t = [] then [] else [x.t]) ≠ [] := fun e => hPD1 (List.append_eq_nil_iff.1 e).1
  have hjn : Go.Lib.join (PD ++ (if x.t = [] then [] else [x.t])) [32] ++ [10] = nodeT ((i : Int) + 1) x := by
    rw [← hpd, ← hpc, ← hpb, ← hjoin]
    simp [List.append_assoc]
  generalize PD ++ (if x.t = [] then [] else [x.t]) = P at *
  have hjl := congrArg List.length hjn
  rw [List.length_append, List.length_singleton] at hjl
  refine sat_freeze 4 rfl ?_
  refine sat_le (env' := [(1, .ptr 0 0), (4, .ptr 1 0), (16, .d (eNds l)), (17, vI .i64 l.length), (18, vI .i64 (i : Int)), (7, AV.d (eSs P))]) (objs' := prO l a T) ?_ hC hCl ⟨⟨_, rfl, .refl _⟩, ⟨_, rfl, .refl _⟩, ⟨_, rfl, .refl _⟩, ⟨_, rfl, .refl _⟩, ⟨_, rfl, .refl _⟩, ⟨_, rfl, VLe.eL rfl⟩, trivial⟩ ⟨.refl _, .of (bld_frz4 _ _ _), .refl _, trivial⟩ rfl (prO_refs _ _ _) (Nat.zero_le _)
  refine sat_call tabOk Tryd.func6 rfl trivial (Join_call P [32] hP1 (by omega) (by omega)) (.refl _) rfl ⟨_, rfl⟩ (by rintro r o rfl; rfl) ?_
  rintro _ o rfl
  refine sat_callG [1, 2] tabOk Tryd.func6 rfl ?nd6 (WStr_call a T (nodeT ((i : Int) + 1) x) (by omega) (by omega)) (subR_bld rfl rfl) ⟨.refl _, .of ?_, trivial⟩ rfl rfl (blds_refs _ _) ⟨_, rfl⟩ ?_
  case nd6 =>
    rw [sizeBy]
    show (Go.Lib.join P [32]).length + 1 ≤ 9223372036854775807 ∧ True
    exact ⟨by omega, trivial⟩
  · show AV.d (.v (.string ((⟨(Go.Lib.join P [32]).toArray⟩ : ByteArray) ++ ⟨([10] : List UInt8).toArray⟩))) = _
    rw [catStr, hjn]
    rfl
  rintro _ o ⟨rfl, rfl⟩
  refine sat_stop tabOk Tryd.func6 rfl trivial ?_
  refine sat_le (ih true) hC hCl ⟨⟨_, rfl, .refl _⟩, ⟨_, rfl, .refl _⟩, ⟨_, rfl, .refl _⟩, ⟨_, rfl, .refl _⟩, ⟨_, rfl, .of (by rw [wrap_id (by omega) (by omega)]; rfl)⟩, trivial⟩ ⟨.refl _, .of ?_, .refl _, trivial⟩ rfl (prO_refs _ _ _) (Nat.zero_le _)
  show (bld 0 1 true _).ren _ = _
  rw [bld_ren]
  rfl
end Go.Proofs.YtjjlipbddlignaaDoor
namespace Go.Proofs.YtjjlipbddlignaaDoor
open Go Ab Go.RowKit
set_option maxRecDepth 100000
set_option linter.unusedVariables false
set_option linter.unusedSimpArgs false
set_option maxHeartbeats 4000000

theorem EqI_call (a b : List Int) : ACall Tryd.prog 20 [.d (eIs a), .d (eIs b)] [] (fun r o => r = vB (decide (a = b))) := by
  refine acall_enter Tryd.func20 rfl rfl (Nat.le_of_ble_eq_true rfl) fun C hC hCl hDs hGk => ?_
  refine sat_len (t := 0) rfl fun hlen => ?_
  rw [List.length_map] at hlen
  refine sat_branch tabOk Tryd.func20 rfl trivial (fun h => ?_) (fun h => ?_)
  · refine sat_ret tabOk Tryd.func20 rfl trivial ?_
    show vB false = vB _
    have : a ≠ b := by rintro rfl; simp at h
    simp [this]
  have hl : a.length = b.length := by simp at h; omega
  refine sat_stop tabOk Tryd.func20 rfl trivial ?_
  refine sat_while (α := Nat) (fun i => [(0, .d (eIs a)), (1, .d (eIs b)), (12, vI .i64 a.length), (13, vI .i64 i)]) (fun _ => []) (fun i => i ≤ a.length ∧ a.take i = b.take i) (fun i => a.length - i) 0 ⟨Nat.zero_le _, rfl⟩ ?_ ?_
  · exact fun h => sat_le h hC hCl ⟨⟨_, rfl, .refl _⟩, ⟨_, rfl, .refl _⟩, ⟨_, rfl, .of (by rw [List.length_map])⟩, ⟨_, rfl, .refl _⟩, trivial⟩ trivial rfl rfl (Nat.zero_le _)
  rintro i ⟨hi, hc⟩ ih
  refine sat_branch tabOk Tryd.func20 rfl trivial (fun hb => ?_) (fun hb => ?_) <;> simp only [decide_eq_true_eq, decide_eq_false_iff_not, List.length_map] at hb
  · have hlt : i < a.length := by omega
    have hlb : i < b.length := by omega
    have ea : a.getD i 0 = a[i] := by simp [hlt]
    have eb : b.getD i 0 = b[i] := by simp [hlb]
    refine sat_drawT 8 tabOk Tryd.func20 rfl rfl trivial (by kernel_rfl) ?_
    refine ds_done tabOk rfl ?_ ?_
    · exact (by simp only [andP, and_true, true_and, Int.toNat_natCast, List.length_map, List.length_append, List.length_cons, List.length_nil, List.length_replicate]; omega)
    refine sat_branch tabOk Tryd.func20 rfl trivial (fun hb2 => ?_) (fun hb2 => ?_)
    · simp only [Int.toNat_natCast, bne_iff_ne, ne_eq] at hb2
      refine sat_ret tabOk Tryd.func20 rfl trivial ?_
      show vB false = vB _
      have : a ≠ b := by rintro rfl; exact hb2 rfl
      simp [this]
    · simp only [Int.toNat_natCast, bne_eq_false_iff_eq] at hb2
      rw [ea, eb] at hb2
      refine sat_stop tabOk Tryd.func20 rfl trivial ?_
      refine sat_le (ih (i + 1) ⟨by omega, ?_⟩ (by omega)) hC hCl ⟨⟨_, rfl, .refl _⟩, ⟨_, rfl, .refl _⟩, ⟨_, rfl, .refl _⟩, ⟨_, rfl, .of (by rw [wrap_id (by omega) (by omega)]; rfl)⟩, trivial⟩ trivial rfl rfl (Nat.zero_le _)
      rw [List.take_add_one, List.take_add_one, hc, List.getElem?_eq_getElem hlt, List.getElem?_eq_getElem hlb, hb2]
  · obtain rfl : i = a.length := by omega
    rw [List.take_length, hl, List.take_length] at hc
    refine sat_ret tabOk Tryd.func20 rfl trivial ?_
    show vB true = vB _
    simp [hc]

theorem nd_eq (x y : Nd) : x = y ↔ x.op = y.op ∧ x.s = y.s ∧ x.t = y.t ∧ x.a = y.a ∧ x.n = y.n := by
  obtain ⟨a, b, c, d, e⟩ := x
  obtain ⟨a', b', c', d', e'⟩ := y
  simp only [Nd.mk.injEq]
  exact ⟨fun ⟨h1, h2, h3, h4, h5⟩ => ⟨h1, h2, h5, h3, h4⟩, fun ⟨h1, h2, h3, h4, h5⟩ => ⟨h1, h2, h4, h5, h3⟩⟩
theorem sameN_call (x y : Nd) : ACall Tryd.prog 19 [.d (eNd x), .d (eNd y)] [] (fun r o => r = vB (decide (x = y))) := by
  refine acall_enter Tryd.func19 rfl rfl (Nat.le_of_ble_eq_true rfl) fun C hC hCl hDs hGk => ?_
  have hq := nd_eq x y
  have no : ¬ (x.op = y.op ∧ x.s = y.s ∧ x.t = y.t ∧ x.a = y.a ∧ x.n = y.n) → vB false = vB (decide (x = y)) := fun h => by rw [decide_eq_false (fun e => h (hq.1 e))]
  refine sat_branch tabOk Tryd.func19 rfl trivial (fun h1 => ?_) (fun h1 => ?_)
  rotate_left
  · have h1 : ((⟨x.op.toArray⟩ : ByteArray).toList == (⟨y.op.toArray⟩ : ByteArray).toList) = false := h1
    rw [strBy, decide_eq_false_iff_not] at h1
    repeat refine sat_branch tabOk Tryd.func19 rfl trivial (fun h => by cases h) (fun _ => ?_)
    exact sat_ret tabOk Tryd.func19 rfl trivial (no fun h => h1 h.1)
  have h1 : ((⟨x.op.toArray⟩ : ByteArray).toList == (⟨y.op.toArray⟩ : ByteArray).toList) = true := h1
  rw [strBy, decide_eq_true_eq] at h1
  refine sat_branch tabOk Tryd.func19 rfl trivial (fun h2 => ?_) (fun h2 => ?_)
  rotate_left
  · have h2 : (x.s == y.s) = false := h2
    rw [beq_eq_false_iff_ne] at h2
    repeat refine sat_branch tabOk Tryd.func19 rfl trivial (fun h => by cases h) (fun _ => ?_)
    exact sat_ret tabOk Tryd.func19 rfl trivial (no fun h => h2 h.2.1)
  have h2 : (x.s == y.s) = true := h2
  rw [beq_iff_eq] at h2
  refine sat_branch tabOk Tryd.func19 rfl trivial (fun h3 => ?_) (fun h3 => ?_)
  rotate_left
  · have h3 : ((⟨x.t.toArray⟩ : ByteArray).toList == (⟨y.t.toArray⟩ : ByteArray).toList) = false := h3
    rw [strBy, decide_eq_false_iff_not] at h3
    repeat refine sat_branch tabOk Tryd.func19 rfl trivial (fun h => by cases h) (fun _ => ?_)
    exact sat_ret tabOk Tryd.func19 rfl trivial (no fun h => h3 h.2.2.1)
  have h3 : ((⟨x.t.toArray⟩ : ByteArray).toList == (⟨y.t.toArray⟩ : ByteArray).toList) = true := h3
  rw [strBy, decide_eq_true_eq] at h3
  refine sat_call tabOk Tryd.func19 rfl trivial (EqI_call x.a y.a) (.refl _) rfl ⟨_, rfl⟩ (by rintro r o rfl; rfl) ?_
  rintro _ o rfl
  by_cases h4 : x.a = y.a
  · rw [decide_eq_true h4]
    refine sat_branch tabOk Tryd.func19 rfl trivial (fun _ => ?_) (fun h => by cases h)
    refine sat_call tabOk Tryd.func19 rfl trivial (EqI_call x.n y.n) (.refl _) rfl ⟨_, rfl⟩ (by rintro r o rfl; rfl) ?_
    rintro _ o rfl
    refine sat_ret tabOk Tryd.func19 rfl trivial ?_
    show vB (decide (x.n = y.n)) = vB (decide (x = y))
    congr 2
    rw [eq_iff_iff, hq]
    exact ⟨fun h => ⟨h1, h2, h3, h4, h⟩, fun h => h.2.2.2.2⟩
  · rw [decide_eq_false h4]
    repeat refine sat_branch tabOk Tryd.func19 rfl trivial (fun h => by cases h) (fun _ => ?_)
    exact sat_ret tabOk Tryd.func19 rfl trivial (no fun h => h4 h.2.2.2.1)
theorem EqN_call (a b : List Nd) : ACall Tryd.prog 18 [.d (eNds a), .d (eNds b), vFn 19] [] (fun r o => r = vB (decide (a = b))) := by
  refine acall_enter Tryd.func18 rfl rfl (Nat.le_of_ble_eq_true rfl) fun C hC hCl hDs hGk => ?_
  refine sat_len (t := 0) rfl fun hlen => ?_
  rw [List.length_map] at hlen
  refine sat_branch tabOk Tryd.func18 rfl trivial (fun h => ?_) (fun h => ?_)
  · refine sat_ret tabOk Tryd.func18 rfl trivial ?_
    show vB false = vB _
    have : a ≠ b := by rintro rfl; simp at h
    simp [this]
  have hl : a.length = b.length := by simp at h; omega
  refine sat_stop tabOk Tryd.func18 rfl trivial ?_
  refine sat_while (α := Nat) (fun i => [(1, .d (eNds b)), (2, vFn 19), (15, .d (eNds a)), (16, vI .i64 a.length), (17, vI .i64 i)]) (fun _ => []) (fun i => i ≤ a.length ∧ a.take i = b.take i) (fun i => a.length - i) 0 ⟨Nat.zero_le _, rfl⟩ ?_ ?_
  · exact fun h => sat_le h hC hCl ⟨⟨_, rfl, .refl _⟩, ⟨_, rfl, .refl _⟩, ⟨_, rfl, .refl _⟩, ⟨_, rfl, .of (by rw [List.length_map])⟩, ⟨_, rfl, .refl _⟩, trivial⟩ trivial rfl rfl (Nat.zero_le _)
  rintro i ⟨hi, hc⟩ ih
  refine sat_branch tabOk Tryd.func18 rfl trivial (fun hb => ?_) (fun hb => ?_) <;> simp only [decide_eq_true_eq, decide_eq_false_iff_not, List.length_map] at hb
  · have hlt : i < a.length := by omega
    have hlb : i < b.length := by omega
    have ea : a.getD i default = a[i] := by simp [hlt]
    have eb : b.getD i default = b[i] := by simp [hlb]
    refine sat_call tabOk Tryd.func18 rfl (by simp only [andP, and_true, true_and, Int.toNat_natCast, List.length_map, List.length_append, List.length_cons, List.length_nil, List.length_replicate]; omega) (sameN_call (a.getD i default) (b.getD i default)) (.refl _) rfl ⟨_, rfl⟩ (by rintro r o rfl; rfl) ?_
    rintro _ o rfl
    refine sat_branch tabOk Tryd.func18 rfl trivial (fun hb2 => ?_) (fun hb2 => ?_)
    · have hb2 : a.getD i default ≠ b.getD i default := by simpa using hb2
      refine sat_ret tabOk Tryd.func18 rfl trivial ?_
      show vB false = vB _
      have : a ≠ b := by rintro rfl; exact hb2 rfl
      simp [this]
    · have hb2 : a.getD i default = b.getD i default := by simpa using hb2
      rw [ea, eb] at hb2
      refine sat_stop tabOk Tryd.func18 rfl trivial ?_
      refine sat_le (ih (i + 1) ⟨by omega, ?_⟩ (by omega)) hC hCl ⟨⟨_, rfl, .refl _⟩, ⟨_, rfl, .refl _⟩, ⟨_, rfl, .refl _⟩, ⟨_, rfl, .refl _⟩, ⟨_, rfl, .of (by rw [wrap_id (by omega) (by omega)]; rfl)⟩, trivial⟩ trivial rfl rfl (Nat.zero_le _)
      rw [List.take_add_one, List.take_add_one, hc, List.getElem?_eq_getElem hlt, List.getElem?_eq_getElem hlb, hb2]
  · obtain rfl : i = a.length := by omega
    refine sat_ret tabOk Tryd.func18 rfl trivial ?_
    rw [List.take_length, hl, List.take_length] at hc
    rw [decide_eq_true hc]
    rfl
theorem bSame_call (a b : List Nd) : ACall Tryd.prog 8 [.d (eBt a), .d (eBt b)] [] (fun r o => r = vB (decide (a = b))) := by
  refine acall_enter Tryd.func8 rfl rfl (Nat.le_of_ble_eq_true rfl) fun C hC hCl hDs hGk => ?_
  refine sat_call tabOk Tryd.func8 rfl trivial (EqN_call a b) (.refl _) rfl ⟨_, rfl⟩ (by rintro r o rfl; rfl) ?_
  rintro _ o rfl
  exact sat_ret tabOk Tryd.func8 rfl trivial rfl
end Go.Proofs.YtjjlipbddlignaaDoor
