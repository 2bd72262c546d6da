/- make; cuts of a slice that grows; the step of an operation that acts. -/
import Derived.Test.YtdnpkeahgpbkoaaAb20
set_option linter.unusedSimpArgs false
set_option linter.unusedVariables false
namespace Ab
open Go

def zeroD (r : TRow) : D :=
  match r.isAgg with
  | true => .ag (r.zero.map .v)
  | false => match r.zero with
    | [v] => .v v
    | _ => .v undef

theorem zeroD_rel {P : Program} {t : TypeId} {r : TRow} (h : RowOk P t r) (w : World) (ok : Nat → Prop) : RelL w ok (zeroD r).cells r.zero := by
  obtain ⟨z, _, hz2, hz3, hz4, hz5⟩ := h.zero
  have key : ∀ l : List Value, (∀ v ∈ l, flat v = true) → RelL w ok (l.map .v) l := by
    intro l
    induction l with
    | nil => intro _; exact .nil
    | cons a r ih => intro h; exact .cons (.v (h a (by simp))) (h a (by simp)) (ih fun v hv => h v (by simp [hv]))
  unfold zeroD
  cases ha : r.isAgg
  · have := hz5 ha
    rw [this] at hz3 ⊢
    exact key [z] hz3
  · exact key _ hz3

theorem range_mul_succ (l s : Nat) (f : Nat → Value) : (List.range ((l + 1) * s)).map f = (List.range s).map f ++ (List.range (l * s)).map (fun i => f (s + i)) := by
  rw [Nat.add_mul, Nat.one_mul, Nat.add_comm, List.range_add, List.map_append, List.map_map]
  rfl

theorem zeros_row {w : World} {ok : Nat → Prop} {s : Nat} {zc : List Value} {zd : D} (hz : RelL w ok zd.cells zc) (hs : zc.length = s) : ∀ (l : Nat), RelE w ok s (List.replicate l zd) ((List.range (l * s)).map fun i => zc.toArray[i % zc.toArray.size]!)
  | 0 => by simpa using .nil
  | l + 1 => by
    rw [List.replicate_succ, range_mul_succ]
    have e1 : (List.range s).map (fun i => zc.toArray[i % zc.toArray.size]!) = zc := by
      apply List.ext_getElem?
      intro i
      by_cases hi : i < s
      · rw [List.getElem?_map, List.getElem?_range hi]
        have hi' : i < zc.length := by omega
        simp [Nat.mod_eq_of_lt hi', hi']
      · rw [List.getElem?_eq_none (by simp; omega), List.getElem?_eq_none (by omega)]
    have e2 : (fun i => zc.toArray[(s + i) % zc.toArray.size]!) = fun i => zc.toArray[i % zc.toArray.size]! := by
      funext i
      have : (s + i) % zc.length = i % zc.length := by rw [← hs, Nat.add_mod_left]
      simp only [List.size_toArray, this]
    rw [e1, e2]
    exact .cons hz hs (zeros_row hz hs l)

def eMake (T : Tab) (t : TypeId) (objs : List (Option AObj)) (len cap : AV) : Option EOut :=
  match tlook T t with
  | none => none
  | some r => match r.kd with
    | .slice e => match tlook T e with
      | none => none
      | some re => match Nat.beq re.bytes 0 with
        | true => none
        | false => match len with
          | .d (.v (.int _ l)) => match cap with
            | .d (.v (.int _ c)) => some ⟨some (0 ≤ l ∧ l ≤ c ∧ c * re.bytes ≤ 281474976710656), false, .gs objs.length, none, objs ++ [some (.grow e re.size (List.replicate l.toNat (zeroD re)) (fun _ => zeroD re))]⟩
            | _ => none
          | _ => none
    | _ => none

theorem wrap_small {n : Int} (h0 : 0 ≤ n) (h1 : n ≤ 281474976710656) : IntKind.i64.wrap n = n := by
  have : n % (2 : Int) ^ 64 = n := Int.emod_eq_of_lt h0 (by omega)
  simp only [IntKind.wrap, IntKind.bits, IntKind.signed, this]
  rw [if_neg]
  simp
  omega

theorem eMake_ok {P : Program} {T : Tab} (hT : TabOk P T) {X : Nat → Prop} {π : List Value} {objs : List (Option AObj)} {w : World} (m : Mem X π objs w) {t : TypeId} {len cap : AV} {vl vc : Value}
    (hl : RelV w (okOf X π objs) π len vl) (hc : RelV w (okOf X π objs) π cap vc) : ERok P X π objs w (eMake T t objs len cap) (do pure (.value (← Instr.makeSlice t vl vc))) := by
  unfold eMake
  split
  · trivial
  · rename_i r hr
    split
    · rename_i e hk
      have ht := slice_elem hT hr hk
      split
      · trivial
      · rename_i re hre
        obtain ⟨inf, d0, hi, hd0, hsz, hby, hz0, _⟩ := (tab_row hT hre).ex
        obtain ⟨z, hzr, hzc, hzf, _, _⟩ := (tab_row hT hre).zero
        have hzl := (tab_row hT hre).zl
        split
        · trivial
        · rename_i hb0
          have hb0' : 0 < re.bytes := by
            rcases Nat.eq_zero_or_pos re.bytes with h | h
            · rw [h] at hb0; cases hb0
            · exact h
          split
          · rename_i kl l
            cases hl with | d hl => cases hl with | v _ =>
            split
            · rename_i kc c
              cases hc with | d hc => cases hc with | v _ =>
              intro hcond
              obtain ⟨h1, h2, h3⟩ : 0 ≤ l ∧ l ≤ c ∧ c * re.bytes ≤ 281474976710656 := hcond
              obtain ⟨l', rfl⟩ : ∃ l' : Nat, l = l' := ⟨l.toNat, by omega⟩
              obtain ⟨c', rfl⟩ : ∃ c' : Nat, c = c' := ⟨c.toNat, by omega⟩
              have h3' : c' * re.bytes ≤ 281474976710656 := by
                have e : ((c' * re.bytes : Nat) : Int) = (c' : Int) * (re.bytes : Int) := Int.natCast_mul _ _
                omega
              have hc1 : c' * 1 ≤ c' * re.bytes := Nat.mul_le_mul_left _ hb0'
              have hlc : l' ≤ c' := by omega
              have w1 := wrap_small (n := (l' : Int)) (by omega) (by omega)
              have w2 := wrap_small (n := (c' : Int)) (by omega) (by omega)
              have hask : ∀ (b : Nat) (w' : World), (askRoom b).run P w' = .ok () w' := by
                intro b w'
                unfold askRoom
                split <;> rfl
              have hz' : z.cells = re.zero.toArray := by rw [← hzc]
              have hcells : (Array.map (fun i => z.cells[i % z.cells.size]!) (Array.range (c' * re.size))) = ((List.range (c' * re.size)).map fun i => re.zero.toArray[i % re.zero.toArray.size]!).toArray := by
                rw [hz']
                apply Array.ext'
                rw [Array.toList_map, Array.toList_range]
              have f1 : ¬ ((c' : Int) < 0) := by omega
              have f2 : ¬ ((l' : Int) < 0) := by omega
              have f3 : ¬ (c' < l') := by omega
              have hrun : (Instr.makeSlice t (.int kl (l' : Int)) (.int kc (c' : Int))).run P w = .ok (.slice (some ⟨w.heap.size, 0, none⟩) l' c') (w.alloc (.cells ((List.range (c' * re.size)).map fun i => re.zero.toArray[i % re.zero.toArray.size]!).toArray e)) := by
                have hsz' := (tab_row hT hre).sizeOf w
                have hnb : ¬ ((281474976710656 : Int) < (re.bytes : Int) * (c' : Int)) := by
                  rw [Int.mul_comm]
                  omega
                by_cases hn0 : c' * re.size = 0
                · have e0 : ((List.range (c' * re.size)).map fun i => re.zero.toArray[i % re.zero.toArray.size]!) = [] := by rw [hn0]; rfl
                  rw [e0]
                  have e1 : Array.range 0 = #[] := Array.ext' (by rw [Array.toList_range]; rfl)
                  simp [Instr.makeSlice, run_underlying ht, asInt, asIntOf, run_typeInfo w hi, hby, w1, w2, hnb, f1, f2, f3, hask, hsz', hn0, run_newRow, e1]
                · rw [← hcells]
                  simp [Instr.makeSlice, run_underlying ht, asInt, asIntOf, run_typeInfo w hi, hby, w1, w2, hnb, f1, f2, f3, hask, hsz', hn0, run_newRow, hzr]
              have hh : ∀ b, blk (.slice (some ⟨w.heap.size, 0, none⟩) l' c') = some b → w.heap.size ≤ b := by
                intro b e
                cases c' with
                | zero => cases e
                | succ k => cases e; exact Nat.le_refl _
              have hk2 := new_keeps (X := X) (π := π) (objs := objs) (w := w) (.cells ((List.range (c' * re.size)).map fun i => re.zero.toArray[i % re.zero.toArray.size]!).toArray e) (.slice (some ⟨w.heap.size, 0, none⟩) l' c') (.grow e re.size (List.replicate l' (zeroD re)) (fun _ => zeroD re)) m.len hh
              refine ⟨.slice (some ⟨w.heap.size, 0, none⟩) l' c', _, π ++ [.slice (some ⟨w.heap.size, 0, none⟩) l' c'], by simp only [Sem.run_bind, hrun, Result.andThen_ok, Sem.run_pure]; rfl,
                tr_newW (w' := w.alloc (.cells ((List.range (c' * re.size)).map fun i => re.zero.toArray[i % re.zero.toArray.size]!).toArray e)) m rfl rfl ⟨rfl, Nat.le_refl _⟩ (by rw [alloc_heap]; simp) (fun b hb => heap_push_old _ hb) _ _ hh ?_, fun _ => .gs (nth_new m.len _)⟩
              simp only [Int.toNat_natCast]
              cases c' with
              | zero =>
                obtain rfl : l' = 0 := by omega
                exact .gnil
              | succ k =>
                have hE := zeros_row (zeroD_rel (tab_row hT hre) w (okOf X π objs)) hzl l'
                have := RelO.grow (π := π ++ [.slice (some ⟨w.heap.size, 0, none⟩) l' (k + 1)]) (e := e) (o := 0) (c := k) (b := w.heap.size) (rd := fun _ => zeroD re) (fz := (0, 0)) (heap_push_new _) (by simp) (hE.mono hk2) (fun i hi => ?_) (by simp; omega) (by have : maxLen = 9223372036854775807 := rfl; omega) (by simp) (fun i hi => ?_)
                · rwa [List.length_replicate] at this
                · simp only [List.length_map, List.length_range] at hi
                  have hle : l' * re.size ≤ (k + 1) * re.size := Nat.mul_le_mul_right _ hlc
                  simp [List.getElem?_map, List.getElem?_range, hi, show i < (k + 1) * re.size by omega]
                · simp only [List.length_replicate] at hi
                  simp [hi]
            · trivial
          · trivial
    · trivial

def eSlice (T : Tab) (t : TypeId) (objs : List (Option AObj)) (x : AV) (lo hi mx : Option AV) : Option EOut :=
  match tlook T t with
  | none => none
  | some r => match r.kd with
    | .slice e => match mx with
      | some _ => none
      | none => match tlook T e with
        | none => none
        | some re => match x with
          | .gs i => match objAt objs i with
            | some (.grow e' s xs rd) => match Nat.beq re.size s with
              | false => none
              | true => match bndOf 0 lo with
                | none => none
                | some l => match bndOf (xs.length : Int) hi with
                  | none => none
                  | some h => some ⟨some (0 ≤ l ∧ l ≤ h ∧ h ≤ xs.length), false, .gs i, some i, setNth (dropO i objs) i (some (.grow e' s ((xs.drop l.toNat).take (h - l).toNat) (fun j => rd (l.toNat + j))))⟩
            | _ => none
          | _ => none
    | _ => none

theorem eSlice_ok {P : Program} {T : Tab} (hT : TabOk P T) {X : Nat → Prop} {π : List Value} {objs : List (Option AObj)} {w : World} (m : Mem X π objs w) {t : TypeId} {x : AV} {lo hi mx : Option AV} {v : Value} {vl vh vm : Option Value}
    (hx : RelV w (okOf X π objs) π x v) (hl : OptRel w (okOf X π objs) π lo vl) (hh : OptRel w (okOf X π objs) π hi vh) (hm : OptRel w (okOf X π objs) π mx vm) :
    ERok P X π objs w (eSlice T t objs x lo hi mx) (do pure (.value (← Instr.sliceAt t v vl vh vm))) := by
  obtain ⟨hl1, hl2⟩ := optRel hl
  obtain ⟨hh1, hh2⟩ := optRel hh
  obtain ⟨_, hm2⟩ := optRel hm
  unfold eSlice
  split
  · trivial
  · rename_i r hr
    split
    · rename_i e hk
      have hu := slice_elem hT hr hk
      split
      · trivial
      · have hmn := hm2 rfl
        subst hmn
        split
        · trivial
        · rename_i re hre
          have hsz := (tab_row hT hre).sizeOf
          split
          · rename_i i
            split
            · rename_i e' s xs rd ho
              have ho' := objAt_eq ho
              split
              · trivial
              · rename_i hs
                have hs' : re.size = s := by simpa using hs
                split
                · trivial
                · rename_i l el
                  split
                  · trivial
                  · rename_i h eh
                    intro hc
                    replace hc : 0 ≤ l ∧ l ≤ h ∧ h ≤ xs.length := hc
                    obtain ⟨h', rfl⟩ : ∃ h' : Nat, h = h' := ⟨h.toNat, by omega⟩
                    obtain ⟨l', rfl⟩ : ∃ l' : Nat, l = l' := ⟨l.toNat, by omega⟩
                    have hd : ((h' : Int) - (l' : Int)).toNat = h' - l' := by omega
                    simp only [hd, Int.toNat_natCast]
                    obtain ⟨hv, hp, hrel⟩ := m.obj _ _ ho'
                    cases hx with
                    | gs hhh =>
                      have hp0 := hp
                      rw [hhh] at hp
                      cases hp
                      have hle : l' ≤ h' := by omega
                      have hle2 : h' ≤ xs.length := by omega
                      cases hrel with
                      | gnil =>
                        rename_i A
                        simp only [List.length_nil] at hle2
                        obtain rfl : h' = 0 := by omega
                        obtain rfl : l' = 0 := by omega
                        have hb1 := run_bounds (P := P) (b := true) (len := 0) (cap := 0) hl1 hl2 hh1 hh2 el (by simpa using eh) hc.1 hc.2.1 (by simp) (Nat.zero_le _) w
                        simp only [Int.toNat_natCast] at hb1
                        have hrun : (Instr.sliceAt t (.slice A 0 0) vl vh none).run P w = .ok (.slice A 0 0) w := by
                          simp [Instr.sliceAt, run_underlying hu, Instr.slice, hb1, hsz]
                        refine ⟨_, w, setNth π i (.slice A 0 0), by simp only [Sem.run_bind, hrun, Result.andThen_ok, Sem.run_pure]; rfl, tr_regrow m ho' hp0 rfl rfl rfl ⟨rfl, Nat.le_refl _⟩ (Nat.le_refl _) (fun _ _ _ => rfl) (fun b e => .inl e) ?_, fun _ => .gs (nth_setNth_eq hp0)⟩
                        simpa using RelO.gnil
                      | grow hb hz2 he hu2 hc2 hm3 ho2 hr2 =>
                        rename_i b o c us vs fz
                        have hlen := he.length
                        have hb1 := run_bounds (P := P) (b := true) (cap := c + 1) hl1 hl2 hh1 hh2 el eh hc.1 hc.2.1 hc.2.2 hc2 w
                        simp only [Int.toNat_natCast] at hb1
                        have hrun : (Instr.sliceAt t (.slice (some ⟨b, o, none⟩) xs.length (c + 1)) vl vh none).run P w = .ok (.slice (if c + 1 = l' then some ⟨b, o, none⟩ else some ⟨b, o + l' * s, none⟩) (h' - l') (c + 1 - l')) w := by
                          simp [Instr.sliceAt, run_underlying hu, Instr.slice, hb1, hsz, hs', addr_add]
                        have hlt : ((xs.drop l').take (h' - l')).length = h' - l' := by
                          rw [List.length_take, List.length_drop]; omega
                        have hbk : ∀ q, blk (.slice (if c + 1 = l' then some ⟨b, o, none⟩ else some ⟨b, o + l' * s, none⟩) (h' - l') (c + 1 - l')) = some q → blk (.slice (some ⟨b, o, none⟩) xs.length (c + 1)) = some q ∨ w.heap.size ≤ q := by
                          intro q e
                          left
                          by_cases hcl : c + 1 = l'
                          · rw [if_pos hcl, show c + 1 - l' = 0 by omega] at e
                            cases e
                          · rw [if_neg hcl, show c + 1 - l' = (c - l') + 1 by omega] at e
                            exact e
                        have hk2 := regrow_keeps (X := X) (w' := w) (o' := .grow e' s ((xs.drop l').take (h' - l')) (fun j => rd (l' + j))) ho' hp0 (fun _ _ _ => rfl) hbk
                        refine ⟨_, w, setNth π i (.slice (if c + 1 = l' then some ⟨b, o, none⟩ else some ⟨b, o + l' * s, none⟩) (h' - l') (c + 1 - l')), by simp only [Sem.run_bind, hrun, Result.andThen_ok, Sem.run_pure]; rfl,
                          tr_regrow m ho' hp0 rfl rfl rfl ⟨rfl, Nat.le_refl _⟩ (Nat.le_refl _) (fun _ _ _ => rfl) hbk ?_, fun _ => .gs (nth_setNth_eq hp0)⟩
                        by_cases hcl : c + 1 = l'
                        · have e0 : (xs.drop l').take (h' - l') = [] := by
                            apply List.eq_nil_of_length_eq_zero
                            rw [hlt]; omega
                          rw [e0, show h' - l' = 0 by omega, show c + 1 - l' = 0 by omega]
                          exact .gnil
                        · rw [if_neg hcl, show c + 1 - l' = (c - l') + 1 by omega]
                          have hmul : o + l' * s + (c - l' + 1) * s = o + (c + 1) * s := by
                            rw [Nat.add_assoc, ← Nat.add_mul]
                            congr 2
                            omega
                          have := RelO.grow (π := setNth π i (.slice (some ⟨b, o + l' * s, none⟩) (h' - l') (c - l' + 1))) (e := e') (o := o + l' * s) (c := c - l') (rd := fun j => rd (l' + j)) hb hz2 (((he.drop l').take (h' - l')).mono hk2) (fun q hq => ?_) (by rw [hlt]; omega) (by omega) (by rw [hmul]; exact ho2) (fun q hq => ?_)
                          · rw [hlt] at this
                            rw [if_neg hcl, show c + 1 - l' = (c - l') + 1 by omega] at *
                            exact this
                          · rw [List.length_take, List.length_drop] at hq
                            have h1 := hu2 (l' * s + q) (by omega)
                            rw [Nat.add_assoc, List.getElem?_take, if_pos (by omega), List.getElem?_drop]
                            exact h1
                          · rw [hlt] at hq
                            rw [List.getElem?_take, if_pos hq, List.getElem?_drop]
                            exact hr2 _ (by omega)
            · trivial
          · trivial
    · trivial

end Ab
