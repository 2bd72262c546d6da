/- A part of the proof: B1, Ab73, B3. -/
import Derived.Test.YtffomfbbplpljaaDoorP13
import Derived.Laws.Externs
set_option linter.unusedVariables false
set_option linter.unusedSimpArgs false
namespace Go.Proofs.YtffomfbbplpljaaDoor
open Go Ab
set_option maxRecDepth 100000
set_option linter.unusedVariables false
set_option linter.unusedSimpArgs false

/-! ### strings.Builder -/
@[reducible] def adrB (a : Bool) : AV := match a with | true => .ptr 0 0 | false => .d (.v (.pointer none))
@[reducible] def nilS : AV := .d (.v (.slice none 0 0))
@[reducible] def gB (bs : List UInt8) : AObj := gL 5 1 eU8 0 bs
/-- Never written to; or 'addr' is set, the buffer nil. -/
@[reducible] def bF (a : Bool) : AObj := .cells 62 [adrB a, nilS]
@[reducible] def bW : AObj := .cells 62 [.ptr 0 0, .gs 1]

theorem NoEscape_call (o0 : AObj) : ACall Tryd.prog 48 [.ptr 0 0] [some o0] (fun r o => r = .ptr 0 0 ∧ o = [some o0]) := by
  intro X π w vs hgk hm hv
  cases hv with | cons h1 hv =>
  cases hv
  rename_i v
  refine .inr ⟨v, w, ?_, v, _, _, π, rfl, ⟨rfl, rfl⟩, hm, h1, .refl _ _ _⟩
  show (callFunc 48 #[v]).run Tryd.prog w = _
  rw [run_callFunc_extern (e := Extern.AbiNoEscape.same) Tryd.func48 rfl rfl (by kernel_rfl) (by kernel_rfl), Go.Lib.run_noEscape]
  rfl

theorem copyF_call (a : Bool) : ACall Tryd.prog 37 [.ptr 0 0] [some (bF a)] (fun r o => r = .tp [] ∧ o = [some (bF true)]) := by
  cases a with
  | false =>
    refine acall_enter Tryd.func37 rfl rfl (Nat.le_of_ble_eq_true rfl) fun C hC hCl hDs hGk => ?_
    refine sat_branch tabOk Tryd.func37 rfl trivial (fun _ => ?_) (fun h => by cases h)
    refine sat_goto tabOk Tryd.func37 rfl trivial ?_
    refine sat_toUnsafe rfl rfl rfl rfl rfl (by decide) Tryd.underlying60 Tryd.underlying92 (sz := 1) (by kernel_rfl) rfl ?_
    refine sat_callG [0] tabOk Tryd.func37 rfl trivial (NoEscape_call (bF false)) ⟨⟨_, rfl, .refl _⟩, trivial⟩ (.refl _) rfl rfl rfl ⟨_, rfl⟩ ?_
    rintro r o ⟨rfl, rfl⟩
    refine sat_goto tabOk Tryd.func37 rfl trivial ?_
    refine sat_fromUnsafe rfl rfl rfl rfl rfl Tryd.underlying92 Tryd.underlying60 (sz := 2) (by kernel_rfl) (by kernel_rfl) rfl ?_
    exact sat_retL tabOk Tryd.func37 rfl trivial hC hCl (.refl _) (o2 := [some (bF true)]) ⟨.refl _, trivial⟩ rfl rfl (Nat.le_refl _) ⟨rfl, rfl⟩
  | true =>
    refine acall_enter Tryd.func37 rfl rfl (Nat.le_of_ble_eq_true rfl) fun C hC hCl hDs hGk => ?_
    refine sat_branch tabOk Tryd.func37 rfl trivial (fun h => by cases h) (fun _ => ?_)
    refine sat_goto tabOk Tryd.func37 rfl trivial ?_
    refine sat_neqSame rfl rfl rfl rfl rfl rfl Tryd.underlying60 (sz := 2) (by kernel_rfl) rfl ?_
    exact sat_retL tabOk Tryd.func37 rfl trivial hC hCl (.refl _) (o2 := [some (bF true)]) ⟨.refl _, trivial⟩ rfl rfl (Nat.le_refl _) ⟨rfl, rfl⟩
theorem copyW_call (bs : List UInt8) : ACall Tryd.prog 37 [.ptr 0 0] [some bW, some (gB bs)] (fun r o => r = .tp [] ∧ o = [some bW, some (gB bs)]) := by
  refine acall_enter Tryd.func37 rfl rfl (Nat.le_of_ble_eq_true rfl) fun C hC hCl hDs hGk => ?_
  refine sat_branch tabOk Tryd.func37 rfl trivial (fun h => by cases h) (fun _ => ?_)
  refine sat_goto tabOk Tryd.func37 rfl trivial ?_
  refine sat_neqSame rfl rfl rfl rfl rfl rfl Tryd.underlying60 (sz := 2) (by kernel_rfl) rfl ?_
  exact sat_retL tabOk Tryd.func37 rfl trivial hC hCl (.refl _) (o2 := [some bW, some (gB bs)]) ⟨.refl _, .refl _, trivial⟩ rfl rfl (Nat.le_refl _) ⟨rfl, rfl⟩

theorem StringW_call (bs : List UInt8) (hne : bs ≠ []) : ACall Tryd.prog 26 [.ptr 0 0] [some bW, some (gB bs)] (fun r o => r = vS ⟨bs.toArray⟩ ∧ o = [none, none]) := by
  refine acall_enter Tryd.func26 rfl rfl (Nat.le_of_ble_eq_true rfl) fun C hC hCl hDs hGk => ?_
  refine sat_drawT 10 tabOk Tryd.func26 rfl rfl trivial (by kernel_rfl) ?_
  refine ds_steps 4 tabOk rfl trivial ?_
  refine ds_data rfl rfl rfl rfl rfl rfl hne rfl ?_
  refine ds_done tabOk rfl trivial ?_
  refine sat_bytes rfl rfl rfl rfl rfl rfl hne (by rw [List.length_map]) Tryd.underlying81 (by kernel_rfl) rfl ?_
  exact sat_retL tabOk Tryd.func26 rfl trivial hC hCl (.refl _) (o2 := [none, none]) trivial rfl rfl (Nat.le_refl _) ⟨rfl, rfl⟩
end Go.Proofs.YtffomfbbplpljaaDoor
set_option linter.unusedSimpArgs false
set_option linter.unusedVariables false
set_option linter.unusedSectionVars false
namespace Ab
open Go
variable [Draws]
section
variable {P : Program} [Globals P] {T : Tab} {f : FuncId} {fn : Func} {n : Nat} {C : Cx} {R : AV → List (Option AObj) → Prop} {todo k : List Item} {env env' : Env} {objs : List (Option AObj)} {nd : Prop} {ops : Array Oper}

/-- A slice without cells, that nothing tells of yet. -/
theorem sat_dummy (e : TypeId) (s : Nat) (rd : Nat → D) (kk : ASat P f n C todo env (objs ++ [some (.grow e s [] rd)]) R) : ASat P f n C todo env objs R := by
  intro π w tmps hn hm hh he
  have htr : Tr C.X π objs w none (π ++ [.slice none 0 0]) (objs ++ [some (.grow e s [] rd)]) w := tr_newW hm rfl rfl ⟨rfl, dr_mono (Nat.le_refl _)⟩ (Nat.le_refl _) (fun _ _ => rfl) _ _ (by intro b e; cases e) .gnil
  exact kk _ w tmps hn htr.mem (hist_tr hh htr) (env_tr he htr)

/-- A cell that holds nil owns an empty slice that there is. -/
theorem sat_attach (i q j : Nat) {e e' : TypeId} {cs : List AV} {s : Nat} {rd : Nat → D} (hij : i ≠ j) (ho : nth objs i = some (some (.cells e cs))) (hc : nth (AV.drops j cs) q = some (.d (.v (.slice none 0 0)))) (hj : nth objs j = some (some (.grow e' s [] rd)))
    (kk : ASat P f n C todo (dropEnv j env) (setNth (setNth (dropO j objs) j (some (.grow e' s [] rd))) i (some (.cells e (setNth (AV.drops j cs) q (.gs j))))) R) : ASat P f n C todo env objs R := by
  intro π w tmps hn hm hh he
  obtain ⟨h, hp, hrel⟩ := hm.obj j _ hj
  have hsl : isSl h = true := by cases hrel <;> rfl
  have htr : Tr C.X π objs w (some j) (setNth π j (.slice none 0 0)) (setNth (dropO j objs) j (some (.grow e' s [] rd))) w :=
    tr_regrow hm hj hp hsl rfl rfl ⟨rfl, dr_mono (Nat.le_refl _)⟩ (Nat.le_refl _) (fun _ _ _ => rfl) (by intro b e; cases e) .gnil
  have hm1 := htr.mem
  have hdrop : ∀ (l : List (Option AObj)) (i : Nat), nth l i = some (some (.cells e cs)) → nth (dropO j l) i = some (some (.cells e (AV.drops j cs))) := by
    intro l
    induction l with
    | nil => intro i h; simp [nth] at h
    | cons a r ih =>
      intro i h
      cases i with
      | zero =>
        simp only [nth, Option.some.injEq] at h
        subst h
        rfl
      | succ i =>
        have := ih i (by simpa [nth] using h)
        cases a <;> simpa [dropO, nth] using this
  have ho1 : nth (setNth (dropO j objs) j (some (.grow e' s [] rd))) i = some (some (.cells e (AV.drops j cs))) := by
    rw [nth_setNth_ne hij]
    exact hdrop objs i ho
  obtain ⟨h', h5, h6⟩ := hm1.obj i _ ho1
  cases h6 with
  | cells hb hcs hf =>
    rename_i b vs
    obtain ⟨v, hv1, hv2⟩ := hcs.get hc
    have hv3 : v = .slice none 0 0 := by cases hv2 with | d h => cases h; rfl
    subst hv3
    have htr2 := tr_set (o' := .cells e (setNth (AV.drops j cs) q (.gs j))) hm1 ho1 h5 (b := b) rfl rfl rfl ⟨rfl, dr_mono (Nat.le_refl _)⟩ rfl (fun _ _ => rfl) ?_
    · exact kk _ w tmps hn htr2.mem (hist_tr (hist_tr hh htr) htr2) (env_tr (env_tr he htr) htr2)
    · have hrel := hcs.set q (x := .gs j) (v := .slice none 0 0) (.gs (nth_setNth_eq hp))
      have hvs : vs.set q (.slice none 0 0) = vs := by
        have := nth_setNth_self (l := vs) (i := q) (x := .slice none 0 0) (by rw [nth_eq]; exact hv1)
        rwa [setNth_eq] at this
      rw [hvs] at hrel
      exact .cells hb (hrel.mono (fun c off u h1 h2 => ⟨(okOf_set ho1 c).2 h1, h2⟩) (fun _ _ h => h)) hf

/-- Nothing is appended to nil. -/
theorem sat_appNil {i : Nat} {r : List Nat} {o : Oper} {e2 : Env} {xo yo : Operand} {t t2 e : TypeId} {inf : TypeInfo} (ho : ops[i]? = some o) (hw : wantE ops env o = .yes) (hop : o.op = .call { callee := .builtin .append, args := #[xo, yo], argTypes := #[t, t2] })
    (hx : opnd env xo = some (.d (.v (.slice none 0 0)))) (hy : opnd env yo = some (.d (.v (.string ⟨#[]⟩)))) (ht : P.underlying t = some (.slice e)) (ht2 : P.underlying t2 = some .string) (hi : P.info? e = some inf) (hput : putE n o.dst (.d (.v (.slice none 0 0))) env = some e2)
    (h : ASat P f n C (.inRegion ops r :: k) e2 objs R) : ASat P f n C (.inRegion ops (i :: r) :: k) env objs R := by
  refine sat_quiet (.d (.v (.slice none 0 0))) ho hw (fun X π w tmps m he => ?_) hput h
  have hax := look_ok (P := P) he hx
  have hay := look_ok (P := P) he hy
  have hrun := run_append_in (P := P) (w := w) (w' := w) (t := t) (t2 := t2) (ty := o.type) (rest := []) ht (.inr ht2) hi (A := none) (n := 0) (c := 0) (m := 0) (x := .string ⟨#[]⟩) (us := []) (fun w' => by simp [Builtin.lenOf]; rfl) (by omega) (by simp [Builtin.firstCells]) (by simp)
  refine ⟨.slice none 0 0, ?_, .d (.v rfl)⟩
  unfold execOp
  simp only [hop]
  have hrun' : (Builtin.append_ #[t, t2] o.type #[.slice none 0 0, .string ⟨#[]⟩]).run P w = .ok (.slice none 0 0) w := hrun
  simp [resolve, invoke, builtin, hax, hay, hrun']
end
end Ab
namespace Go.Proofs.YtffomfbbplpljaaDoor
open Go Ab
set_option maxRecDepth 100000
set_option linter.unusedVariables false
set_option linter.unusedSimpArgs false
set_option maxHeartbeats 2000000

/-- A builder at i whose buffer is, or will be, at j; does it point to itself? -/
@[reducible] def bld (i j : Nat) (a : Bool) : List UInt8 → AObj
  | [] => .cells 62 [match a with | true => .ptr i 0 | false => .d (.v (.pointer none)), nilS]
  | _ :: _ => .cells 62 [.ptr i 0, .gs j]
theorem bld_ren (ρ : Nat → Nat) (i j : Nat) (a : Bool) (bs : List UInt8) : (bld i j a bs).ren ρ = bld (ρ i) (ρ j) a bs := by
  cases bs with
  | nil => cases a <;> rfl
  | cons b r => rfl
theorem bld_refs {i j m : Nat} (hi : i < m) (hj : j < m) (a : Bool) (bs : List UInt8) : refsO1 m (bld i j a bs) = true := by
  have h1 : Nat.blt i m = true := by simpa [Nat.blt_eq] using hi
  have h2 : Nat.blt j m = true := by simpa [Nat.blt_eq] using hj
  cases bs with
  | nil => cases a <;> simp [refsO1, refsBs, refsB, h1, bld]
  | cons b r => simp [refsO1, refsBs, refsB, h1, h2, bld]
@[reducible] def vStr (l : List UInt8) : AV := .d (.v (.string ⟨l.toArray⟩))
theorem blds_refs (a : Bool) (bs : List UInt8) : refsO 2 [some (bld 0 1 a bs), some (gB bs)] = true := by
  simp only [refsO, bld_refs (show 0 < 2 by decide) (show 1 < 2 by decide)]
  rfl
@[reducible] def wsR (s : List UInt8) : AV := .tp [vI .i64 (s.length : Int), .d (.v .nilIface)]
theorem catStr (a b : List UInt8) : (⟨a.toArray⟩ : ByteArray) ++ ⟨b.toArray⟩ = ⟨(a ++ b).toArray⟩ := by
  apply ByteArray.ext
  simp
theorem strEs_len (s : List UInt8) : (strEs ⟨s.toArray⟩).length = s.length := by simp [strEs]
theorem vlen (s : List UInt8) : vI .i64 (((⟨s.toArray⟩ : ByteArray).size : Nat) : Int) = vI .i64 (s.length : Int) := by
  rw [show (⟨s.toArray⟩ : ByteArray).size = s.length by simp [ByteArray.size]]
theorem WStr_call (a : Bool) (bs s : List UInt8) (hl : bs.length ≤ 100000000) (hs : s.length ≤ 100000000) : ACall Tryd.prog 24 [.ptr 0 0, vStr s] [some (bld 0 1 a bs), some (gB bs)] (fun r o => r = wsR s ∧ o = [some (bld 0 1 true (bs ++ s)), some (gB (bs ++ s))]) := by
  refine acall_enter Tryd.func24 rfl rfl (Nat.le_of_ble_eq_true rfl) fun C hC hCl hDs hGk => ?_
  cases bs with
  | nil =>
    cases a
    all_goals
      first
      | refine sat_callG [0] tabOk Tryd.func24 rfl trivial (copyF_call false) ⟨⟨_, rfl, .refl _⟩, trivial⟩ (.refl _) rfl rfl rfl ⟨_, rfl⟩ ?_
      | refine sat_callG [0] tabOk Tryd.func24 rfl trivial (copyF_call true) ⟨⟨_, rfl, .refl _⟩, trivial⟩ (.refl _) rfl rfl rfl ⟨_, rfl⟩ ?_
      rintro r o ⟨rfl, rfl⟩
      cases s with
      | nil =>
        refine sat_steps 9 tabOk Tryd.func24 rfl trivial ?_
        refine sat_appNil rfl rfl rfl rfl rfl Tryd.underlying38 Tryd.underlying9 (by rfl) rfl ?_
        refine sat_retL tabOk Tryd.func24 rfl trivial hC hCl (.of ?_) (o2 := [some (bld 0 1 true []), some (gB [])]) ⟨.refl _, .refl _, trivial⟩ rfl rfl (Nat.le_refl _) ⟨rfl, rfl⟩
        rfl
      | cons c s =>
        refine sat_attach 0 1 1 (by decide) rfl rfl rfl ?_
        refine sat_retL tabOk Tryd.func24 rfl ?nd hC hCl (.of ?_) (o2 := [some (bld 0 1 true (c :: s)), some (gB (c :: s))]) ⟨.refl _, .gL ?_, trivial⟩ rfl rfl (Nat.le_refl _) ⟨rfl, rfl⟩
        case nd =>
          show (0 + (strEs ⟨(c :: s).toArray⟩).length) * 1 ≤ 140737488355328 ∧ True
          rw [strEs_len]
          exact ⟨by omega, trivial⟩
        · show AV.tp [vI .i64 (((⟨(c :: s).toArray⟩ : ByteArray).size : Nat) : Int), _] = _
          rw [vlen]
        · rfl
  | cons b bs =>
    refine sat_callG [0, 1] tabOk Tryd.func24 rfl trivial (copyW_call (b :: bs)) ⟨⟨_, rfl, .refl _⟩, ⟨_, rfl, .refl _⟩, trivial⟩ (.refl _) rfl rfl rfl ⟨_, rfl⟩ ?_
    rintro r o ⟨rfl, rfl⟩
    refine sat_retL tabOk Tryd.func24 rfl ?nd hC hCl (.of ?_) (o2 := [some (bld 0 1 true (b :: bs ++ s)), some (gB (b :: bs ++ s))]) ⟨.refl _, .gL ?_, trivial⟩ rfl rfl (Nat.le_refl _) ⟨rfl, rfl⟩
    · show (((b :: bs).map eU8).length + (strEs ⟨s.toArray⟩).length) * 1 ≤ 140737488355328 ∧ True
      rw [strEs_len, List.length_map]
      exact ⟨by omega, trivial⟩
    · show AV.tp [vI .i64 (((⟨s.toArray⟩ : ByteArray).size : Nat) : Int), _] = _
      rw [vlen]
    · rw [List.map_append]
      rfl
/-- The builder's bytes. -/
theorem BStr_call (a : Bool) (bs : List UInt8) : ACall Tryd.prog 26 [.ptr 0 0] [some (bld 0 1 a bs), some (gB bs)] (fun r o => r = vStr bs ∧ o = [none, none]) := by
  cases bs with
  | cons b bs => exact StringW_call (b :: bs) (by simp)
  | nil =>
    refine acall_enter Tryd.func26 rfl rfl (Nat.le_of_ble_eq_true rfl) fun C hC hCl hDs hGk => ?_
    cases a
    all_goals
      refine sat_drawT 10 tabOk Tryd.func26 rfl rfl trivial (by kernel_rfl) ?_
      refine ds_steps 4 tabOk rfl trivial ?_
      refine ds_dataNil rfl Tryd.underlying81 rfl rfl rfl rfl rfl ?_
      refine ds_done tabOk rfl trivial ?_
      refine sat_noBytes rfl rfl rfl rfl rfl rfl ?_
      exact sat_retL tabOk Tryd.func26 rfl trivial hC hCl (.refl _) (o2 := [none, none]) trivial rfl rfl (Nat.le_refl _) ⟨rfl, rfl⟩
end Go.Proofs.YtffomfbbplpljaaDoor
