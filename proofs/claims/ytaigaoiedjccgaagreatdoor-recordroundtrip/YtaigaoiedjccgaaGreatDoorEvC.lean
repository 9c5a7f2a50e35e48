/-
  A part of the evaluator by names: that what it answers is what the machine does. For every program and every world in which the given facts hold.
-/
import Derived.Test.YtaigaoiedjccgaaGreatDoorEvB
set_option linter.unusedVariables false
set_option linter.unusedSimpArgs false

namespace Go.Ev

variable {C : Ctx} {N : Nat} {ρ : Rho} {H : AH} {w : World} {nt : Nat} {tm : Tr AV} {a : Act}

/-! ### Writing an object that is no row -/

def AObj.isRow : AObj → Bool
  | .row _ _ _ _ _ _ _ _ _ => true
  | _ => false

theorem setO_some {H H' : AH} {i : Nat} {o : AObj} (h : H.setO i o = some H') : H.ro ≤ i ∧ H' = H.setObj i o := by
  unfold AH.setO at h
  split at h
  · rename_i hb
    cases h
    exact ⟨Nat.le_of_ble_eq_true hb, rfl⟩
  · cases h

theorem run_set {P : Program} {r : Nat} {o o' : Obj} (h : w.heap[r]? = some o) (hc : Obj.isRow o = false) : (setObj r o').run P w = .ok () (wput w r o') := by
  cases o <;> first | (cases hc; done) | simp [setObj, Sem.run, h, wput]

theorem obj_blk {o : AObj} {β : Base} (h : ObjOk C ρ H β w o) (hr : o.isRow = false) : ∃ ob, w.heap[β.blk]? = some ob ∧ Obj.isRow ob = false := by
  cases o with
  | row => cases hr
  | map es clock => exact ⟨_, h.1, rfl⟩
  | siter s pos => exact ⟨_, h, rfl⟩
  | miter m since seen stepped => exact ⟨_, h.1, rfl⟩
  | loop st pend fn tm nt params assign body d => obtain ⟨t, f, h1, _⟩ := h; exact ⟨_, h1, rfl⟩
  | dfr b => exact ⟨_, h, rfl⟩

theorem Steps'.setO {H' : AH} {i : Nat} {o o' : AObj} {ob : Obj} (h : Rel C N ρ H w) (hi : ρ i ≠ none) (ho : H.o.get i = some o) (hr : o.isRow = false) (hr' : o'.isRow = false)
    (hs : H.setO i o' = some H') (hok : ObjOk C ρ H' (ρ.b i) (wput w (ρ.b i).blk ob) o') : Steps' C N ρ H w ρ H' (wput w (ρ.b i).blk ob) := by
  obtain ⟨hro, rfl⟩ := setO_some hs
  cases hb : ρ i with
  | none => exact absurd hb hi
  | some β =>
    have hbb : ρ.b i = β := by simp [Rho.b, hb]
    rw [hbb] at hok ⊢
    obtain ⟨l1, l2, l3⟩ := h.lt i β hb
    have other : ∀ j γ, ρ j = some γ → j ≠ i → γ.blk ≠ β.blk := by
      intro j γ hj hne hblk
      obtain ⟨c, g, gen, ext, frz, e, wh, sg, c', gen', ext', frz', e', wh', sg', s1, s2⟩ := h.sep j i γ β hj hb hne hblk
      rw [ho] at s2
      cases s2
      cases hr
    refine ⟨Rho.le_refl _, ?_, ⟨by simp [wput], fun b hbs hm => ?_⟩, rfl, Nat.le_refl _, fun j hj hn => ⟨?_, hn⟩, fun j γ h1 h2 => (by rw [h2] at h1; cases h1), ⟨rfl, rfl⟩⟩
    · refine ⟨fun j γ hj => by obtain ⟨a1, a2, a3⟩ := h.lt j γ hj; exact ⟨a1, a2, by simpa [wput] using a3⟩, fun j γ hj => ?_, fun j k γ δ hj hk hne hblk => ?_, ?_, ?_, fun b o v hv => ?_, by have := h.base; simpa [wput] using this⟩
      · by_cases hji : j = i
        · subst hji
          rw [hb] at hj
          cases hj
          exact ⟨o', by simp [AH.setObj, Tr.get_set], hok⟩
        · obtain ⟨p, hp, hpo⟩ := h.obj j γ hj
          refine ⟨p, by simp only [AH.setObj, Tr.get_set, if_neg hji]; exact hp, ?_⟩
          apply ObjOk.ages (H := H) _ rfl
          exact hpo.world (by rw [putObj_get, if_neg]; rintro ⟨e, _⟩; exact other j γ hj hji e.symm)
      · obtain ⟨c, g, gen, ext, frz, e, wh, sg, c', gen', ext', frz', e', wh', sg', s1, s2⟩ := h.sep j k γ δ hj hk hne hblk
        refine ⟨c, g, gen, ext, frz, e, wh, sg, c', gen', ext', frz', e', wh', sg', ?_, ?_⟩
        · have : j ≠ i := by rintro rfl; rw [ho] at s1; cases s1; cases hr
          simp only [AH.setObj, Tr.get_set, if_neg this]; exact s1
        · have : k ≠ i := by rintro rfl; rw [ho] at s2; cases s2; cases hr
          simp only [AH.setObj, Tr.get_set, if_neg this]; exact s2
      · intro j k γ δ c g gen frz e wh sg c' gen' ext' frz' e' wh' sg' hj hk hne hblk s1 s2 g1 g2
        have j1 : j ≠ i := by rintro rfl; simp only [AH.setObj, Tr.get_set, if_pos] at s1; cases s1; cases hr'
        have k1 : k ≠ i := by rintro rfl; simp only [AH.setObj, Tr.get_set, if_pos] at s2; cases s2; cases hr'
        simp only [AH.setObj, Tr.get_set, if_neg j1] at s1
        simp only [AH.setObj, Tr.get_set, if_neg k1] at s2
        exact h.tip j k γ δ c g gen frz e wh sg c' gen' ext' frz' e' wh' sg' hj hk hne hblk s1 s2 g1 g2
      · intro j γ c g gen ext frz e wh sg hj s1
        have j1 : j ≠ i := by rintro rfl; simp only [AH.setObj, Tr.get_set, if_pos] at s1; cases s1; cases hr'
        simp only [AH.setObj, Tr.get_set, if_neg j1] at s1
        exact h.age j γ c g gen ext frz e wh sg hj s1
      · obtain ⟨q1, q2, q3⟩ := h.old b o v hv
        refine ⟨?_, q2, q3⟩
        rw [cell?_world (w := w)]
        · exact q1
        · rw [putObj_get, if_neg]
          rintro ⟨e, _⟩
          omega
    · rw [putObj_get, if_neg]
      rintro ⟨e, _⟩
      have := hm i β hb e
      omega
    · have : j ≠ i := by rintro rfl; rw [hb] at hn; cases hn
      simp only [AH.setObj, Tr.get_set, if_neg this]

theorem put_same {i : Nat} {ob : Obj} (h : Rel C N ρ H w) (hi : ρ i ≠ none) : (wput w (ρ.b i).blk ob).heap[(ρ.b i).blk]? = some ob := by
  cases hb : ρ i with
  | none => exact absurd hb hi
  | some β =>
    rw [show ρ.b i = β by simp [Rho.b, hb]]
    rw [putObj_get, if_pos ⟨rfl, (h.lt i β hb).2.2⟩]

/-! ### Keys -/

theorem ba_beq (x y : List UInt8) : ((ByteArray.mk x.toArray) == (ByteArray.mk y.toArray)) = (x == y) := by
  show (x.toArray == y.toArray) = _
  simp

theorem plainKey_cases {t : TypeId} {k : AV} (h : plainKey C t k = true) :
    (∃ j n, C.P.underlying t = some (.int j) ∧ k = .int j n) ∨ (∃ s, C.P.underlying t = some .string ∧ k = .str s) ∨ (∃ b, C.P.underlying t = some .bool ∧ k = .bool b) := by
  unfold plainKey at h
  split at h
  · rename_i j k' n hu
    have : j = k' := by simpa using h
    subst this
    exact .inl ⟨_, _, hu, rfl⟩
  · rename_i s hu
    exact .inr (.inl ⟨_, hu, rfl⟩)
  · rename_i b hu
    exact .inr (.inr ⟨_, hu, rfl⟩)
  · cases h

theorem run_checkKey {P : Program} (hP : C.P = P) {t : TypeId} {k : AV} {e : Bool} {n : Nat} (h : plainKey C t k = true) : (Instr.checkKey e (n + 1) t (k.conc ρ)).run P w = .ok () w := by
  subst hP
  rcases plainKey_cases h with ⟨j, m, hu, rfl⟩ | ⟨s, hu, rfl⟩ | ⟨b, hu, rfl⟩ <;> simp [Instr.checkKey, run_under hu, AV.conc]

theorem findA_now {t : TypeId} {d : TypeDesc} {k : AV} (h : plainKey C t k = true) (hd : C.P.underlying t = some d) : ∀ (es : List (AV × AV × Nat)) (i : Nat) (r : Option (Nat × AV)), findA k es i = some r →
    Instr.findNow d (k.conc ρ) (es.map (entryC ρ)) i = some (r.map fun p => (p.1, p.2.conc ρ))
  | [], i, r, hr => by
    simp only [findA, Option.some.injEq] at hr
    subst hr
    rfl
  | (k', v, b) :: es, i, r, hr => by
    have key : ∀ x, eqKey k k' = some x → Instr.sameNow d (k.conc ρ) (k'.conc ρ) = some x := by
      intro x hx
      rcases plainKey_cases h with ⟨j, m, hu, rfl⟩ | ⟨s, hu, rfl⟩ | ⟨b, hu, rfl⟩
      · rw [hd] at hu
        cases hu
        unfold eqKey at hx
        split at hx <;> simp_all [AV.conc, Instr.sameNow]
      · rw [hd] at hu
        cases hu
        unfold eqKey at hx
        split at hx <;> simp_all [AV.conc, Instr.sameNow, ba_beq]
      · rw [hd] at hu
        cases hu
        unfold eqKey at hx
        split at hx <;> simp_all [AV.conc, Instr.sameNow]
    simp only [findA] at hr
    simp only [List.map_cons, Instr.findNow, entryC]
    split at hr
    · rename_i he
      cases hr
      rw [key _ he]
      rfl
    · rename_i he
      rw [key _ he]
      exact findA_now h hd es (i + 1) r hr
    · cases hr

theorem findA_mem {k v : AV} {j : Nat} : ∀ (es : List (AV × AV × Nat)) (i : Nat), findA k es i = some (some (j, v)) → i ≤ j ∧ ∃ e, es[j - i]? = some e ∧ e.2.1 = v ∧ eqKey k e.1 = some true
  | [], i, h => by simp [findA] at h
  | (k', v', b) :: es, i, h => by
    simp only [findA] at h
    split at h
    · rename_i he
      cases h
      exact ⟨Nat.le_refl _, (k', _, b), by simp, rfl, he⟩
    · obtain ⟨h1, e, h2, h3⟩ := findA_mem es (i + 1) h
      refine ⟨by omega, e, ?_, h3⟩
      rw [show j - i = (j - (i + 1)) + 1 by omega, List.getElem?_cons_succ]
      exact h2
    · cases h

theorem run_findKey {P : Program} (hP : C.P = P) {t : TypeId} {k : AV} {es : List (AV × AV × Nat)} {r : Option (Nat × AV)} (h : plainKey C t k = true) (hr : findA k es 0 = some r) :
    (Instr.findKey t (k.conc ρ) (es.map (entryC ρ))).run P w = .ok (r.map fun p => (p.1, p.2.conc ρ)) w := by
  subst hP
  have : ∃ d, C.P.underlying t = some d := by
    rcases plainKey_cases h with ⟨j, m, hu, rfl⟩ | ⟨s, hu, rfl⟩ | ⟨b, hu, rfl⟩ <;> exact ⟨_, hu⟩
  obtain ⟨d, hd⟩ := this
  simp [Instr.findKey, run_under hd, findA_now h hd es 0 r hr]

theorem run_lookup {P : Program} {t kt et : TypeId} {X I : Value} {es : List MapEntry} {ok : Bool} (hu : P.underlying t = some (.map kt et))
    (hX : X = .map none ∧ es = [] ∨ ∃ r clock, X = .map (some r) ∧ w.heap[r]? = some (.map es.toArray clock)) (hck : ∀ b, (Instr.checkKey b 10000 kt I).run P w = .ok () w) :
    (Instr.lookup t X I ok).run P w = (do
      let (v, ok') ← match ← Instr.findKey kt I es with
        | some (_, v) => pure (v, true)
        | none => pure (← zeroValue et, false)
      pure (if ok then .tuple #[v, .bool ok'] else v) : Sem Value).run P w := by
  rcases hX with ⟨rfl, rfl⟩ | ⟨r, clock, rfl, hr⟩
  · simp only [Instr.lookup, Sem.run_bind, run_under hu, Result.andThen_ok, Sem.run_pure, hck]
    rfl
  · simp only [Instr.lookup, Sem.run_bind, run_under hu, Result.andThen_ok, Sem.run_pure, hck, run_get hr rfl]
    rfl

theorem op_lookup {t : TypeId} {x i : Operand} {ok : Bool} {r : OR} (h : Rel C N ρ H w) (ht : TmOk ρ nt tm a.tmps) (he : opLookup t x i ok C tm H = some r) :
    OpOk C N ρ H w (vs (Instr.lookup t (a.eval x) (a.eval i) ok)) r := by
  obtain ⟨v, hv, rfl⟩ := val_inv he
  obtain ⟨h1, h2⟩ := ev_ok ht x
  obtain ⟨h3, _⟩ := ev_ok ht i
  rw [h1, h3]
  generalize ev tm x = X at *
  generalize ev tm i = I at *
  unfold lookupF at hv
  split at hv
  · rename_i kt et hu
    split at hv
    · cases hv
    · rename_i hk
      split at hv
      · cases hv
      · rename_i es hes
        obtain ⟨hes1, hes2⟩ : (X.conc ρ = .map none ∧ es = [] ∨ ∃ r clock, X.conc ρ = .map (some r) ∧ w.heap[r]? = some (.map (es.map (entryC ρ)).toArray clock)) ∧ ∀ e ∈ es, e.2.1.Ok ρ := by
          split at hes
          · cases hes
            exact ⟨.inl ⟨rfl, rfl⟩, fun e he => by cases he⟩
          · rename_i j
            split at hes
            · rename_i es' clock ho
              cases hes
              have hob := h.at h2 ho
              exact ⟨.inr ⟨_, _, rfl, hob.1⟩, fun e he => (hob.2 e he).2⟩
            · cases hes
          · cases hes
        have hck := fun b => run_checkKey (w := w) (ρ := ρ) (e := b) (n := 9999) rfl hk
        have hlk := run_lookup (P := C.P) (ok := ok) (es := es.map (entryC ρ)) (X := X.conc ρ) (I := I.conc ρ) hu (by
          rcases hes1 with ⟨e1, rfl⟩ | ⟨r, clock, e1, e2⟩
          · exact .inl ⟨e1, rfl⟩
          · exact .inr ⟨r, clock, e1, e2⟩) hck
        split at hv
        · cases hv
        · rename_i j v' hf
          have hfk := run_findKey (w := w) (ρ := ρ) rfl hk hf
          have hvok : v'.Ok ρ := by
            obtain ⟨_, e, e1, e2, _⟩ := findA_mem es 0 hf
            rw [← e2]
            exact hes2 e (List.mem_of_getElem? e1)
          cases hv
          refine OpOk.vs h ?_ ?_
          · rw [hlk]
            simp only [Sem.run_bind, Result.andThen_ok, hfk, Option.map_some]
            cases ok <;> simp [AV.conc, AV.concs]
          · cases ok <;> simp [AV.Ok, AV.Oks, hvok]
        · rename_i hf
          split at hv
          · cases hv
          · rename_i ti hti
            have hfk := run_findKey (w := w) (ρ := ρ) rfl hk hf
            obtain ⟨z, z1, z2, z3, z4⟩ := (tiOf_ok hti).run_zero (w := w)
            cases hv
            refine OpOk.vs h ?_ ?_
            · rw [hlk]
              simp only [Sem.run_bind, Result.andThen_ok, hfk, Option.map_none]
              cases ok <;> simp [AV.conc, AV.concs, z1, (z3 ρ).1]
            · cases ok <;> simp [AV.Ok, AV.Oks, (z3 ρ).2]
  · cases hv

theorem sameBits_key {t : TypeId} {k k' : AV} {n : Nat} (h : plainKey C t k = true) (he : eqKey k k' = some true) : Instr.sameBits n (k'.conc ρ) (k.conc ρ) = true := by
  rcases plainKey_cases h with ⟨j, m, hu, rfl⟩ | ⟨s, hu, rfl⟩ | ⟨b, hu, rfl⟩ <;>
  · unfold eqKey at he
    split at he <;> simp_all [AV.conc, Instr.sameBits, ba_beq]

theorem setNth_eq {α : Type} (f : α → α) : ∀ (l : List α) (i : Nat), setNth l i f = l.modify i f
  | [], i => by cases i <;> simp [setNth]
  | x :: l, 0 => by simp [setNth, List.modify]
  | x :: l, i + 1 => by simp [setNth, List.modify, setNth_eq f l i]

theorem op_mapUpdate {t : TypeId} {m k x : Operand} {r : OR} (h : Rel C N ρ H w) (ht : TmOk ρ nt tm a.tmps) (he : opMapUpdate t m k x C tm H = some r) :
    OpOk C N ρ H w (us (Instr.mapUpdate t (a.eval m) (a.eval k) (a.eval x))) r := by
  obtain ⟨h1, h2⟩ := ev_ok ht m
  obtain ⟨h3, h4⟩ := ev_ok ht k
  obtain ⟨h5, h6⟩ := ev_ok ht x
  rw [h1, h3, h5]
  unfold opMapUpdate at he
  generalize ev tm m = M at *
  generalize ev tm k = K at *
  generalize ev tm x = X at *
  cases hs : mapUpdateF C H t M K X with
  | none => rw [hs] at he; cases he
  | some H' =>
    rw [hs] at he
    cases he
    unfold mapUpdateF at hs
    split at hs
    · rename_i kt et hu
      split at hs
      · rename_i i hk
        split at hs
        · rename_i es clock ho
          have hob := h.at h2 ho
          have hck := run_checkKey (w := w) (ρ := ρ) (e := false) (n := 9999) rfl hk
          split at hs
          · cases hs
          · rename_i j v' hf
            have hfk := run_findKey (w := w) (ρ := ρ) rfl hk hf
            obtain ⟨_, e, e1, e2, e3⟩ := findA_mem es 0 hf
            simp only [Nat.sub_zero] at e1
            refine ⟨ρ, _, run_us ?_, Steps'.setO (ob := .map ((es.map (entryC ρ)).toArray.modify j fun e => { e with key := K.conc ρ, val := X.conc ρ }) clock) h h2 ho rfl rfl hs ?_⟩
            · simp only [AV.conc, Instr.mapUpdate, Sem.run_bind, run_under hu, Result.andThen_ok, run_get hob.1 rfl, hck, hfk, Option.map_some]
              have hkt : (Instr.keyThatStays (e.1.conc ρ) (K.conc ρ)).run C.P w = .ok (K.conc ρ) w := by
                simp [Instr.keyThatStays, sameBits_key hk e3]
              simp only [List.getElem?_toArray, List.getElem?_map, e1, Option.map_some, entryC, Option.getD_some, hkt, Result.andThen_ok]
              exact run_set hob.1 rfl
            · constructor
              · rw [put_same h h2]
                · congr 2
                  rw [setNth_eq]
                  apply Array.ext_getElem?
                  intro q
                  simp only [Array.getElem?_modify, List.getElem?_toArray, List.getElem?_map, List.getElem?_modify]
                  by_cases hq : j = q
                  · subst hq
                    simp [e1, entryC]
                  · simp [hq]
              · intro y hy
                rw [setNth_eq] at hy
                obtain ⟨q, hq, rfl⟩ := List.getElem_of_mem hy
                simp only [List.length_modify] at hq
                rw [List.getElem_modify]
                split
                · exact ⟨h4, h6⟩
                · exact hob.2 _ (List.getElem_mem hq)
          · rename_i hf
            have hfk := run_findKey (w := w) (ρ := ρ) rfl hk hf
            refine ⟨ρ, _, run_us ?_, Steps'.setO (ob := .map ((es.map (entryC ρ)).toArray.push { key := K.conc ρ, val := X.conc ρ, born := clock }) (clock + 1)) h h2 ho rfl rfl hs ?_⟩
            · simp only [AV.conc, Instr.mapUpdate, Sem.run_bind, run_under hu, Result.andThen_ok, run_get hob.1 rfl, hck, hfk, Option.map_none]
              exact run_set hob.1 rfl
            · constructor
              · rw [put_same h h2]
                · simp [entryC]
              · intro y hy
                rcases List.mem_append.1 hy with hy | hy
                · exact hob.2 y hy
                · cases List.mem_singleton.1 hy
                  exact ⟨h4, h6⟩
        · cases hs
      · cases hs
    · cases hs

end Go.Ev

namespace Go.Ev

variable {C : Ctx} {N : Nat} {ρ : Rho} {H : AH} {w : World} {nt : Nat} {tm : Tr AV} {a : Act}

/-! ### Ranges over maps -/

theorem alloc_obj {o : AObj} {ob : Obj} (h : Rel C N ρ H w) (hr : o.isRow = false) (hok : ∀ β : Base, β = ⟨w.heap.size, 0, 0, 0⟩ → ObjOk C (ρ.put H.n β) (H.new o) β (w.alloc ob) o) :
    Steps' C N ρ H w (ρ.put H.n ⟨w.heap.size, 0, 0, 0⟩) (H.new o) (w.alloc ob) :=
  Steps'.alloc h rfl (fun _ _ _ _ _ _ _ _ he => by subst he; cases hr) (hok _ rfl)

theorem op_range {t : TypeId} {x : Operand} {r : OR} (h : Rel C N ρ H w) (ht : TmOk ρ nt tm a.tmps) (he : opRange t x C tm H = some r) :
    OpOk C N ρ H w (vs (Instr.range t (a.eval x))) r := by
  obtain ⟨h1, h2⟩ := ev_ok ht x
  unfold opRange at he
  rw [h1]
  generalize ev tm x = X at *
  split at he
  · rename_i s hu
    cases he
    refine ⟨_, _, run_vs (w' := w.alloc (.stringIter ⟨s.toArray⟩ 0)) ?_, ?_, alloc_obj h rfl fun β e => ?_⟩
    · simp [Instr.range, run_under hu, AV.conc, run_newObj_al, Rho.put_b]
    · simp [AV.Ok, Rho.put]
    · subst e; exact alloc_new
  · rename_i hu
    cases he
    refine ⟨_, _, run_vs (w' := w.alloc (.mapIter none 0 #[] 0)) ?_, ?_, alloc_obj h rfl fun β e => ?_⟩
    · simp [Instr.range, run_under hu, AV.conc, run_newObj_al, Rho.put_b]
    · simp [AV.Ok, Rho.put]
    · subst e; exact ⟨alloc_new, (fun i hi => by cases hi), rfl⟩
  · rename_i i hu
    split at he
    · rename_i es clock ho
      cases he
      have hob := h.at h2 ho
      refine ⟨_, _, run_vs (w' := w.alloc (.mapIter (some (ρ.b i).blk) clock #[] clock)) ?_, ?_, alloc_obj h rfl fun β e => ?_⟩
      · simp [Instr.range, run_under hu, AV.conc, run_newObj_al, Rho.put_b, run_get hob.1 rfl]
      · simp [AV.Ok, Rho.put]
      · subst e
        have hl : ρ.le (ρ.put H.n ⟨w.heap.size, 0, 0, 0⟩) := Rho.le_put h.none_n
        refine ⟨by simp only [Option.map_some, Rho.le_b hl h2]; exact alloc_new, fun j hj => ?_, rfl⟩
        cases hj
        rw [hl i h2]
        exact h2
    · cases he
  · cases he

/-- One step of a range over a map, in plain words. -/
theorem run_next {P : Program} {b m since last clock : Nat} {seen : List Nat} {es : List MapEntry} {t : TypeId} (hb : w.heap[b]? = some (.mapIter (some m) since seen.toArray last))
    (hm : w.heap[m]? = some (.map es.toArray clock)) (hg : (seen.isEmpty || es.isEmpty || es.any (fun e => decide (e.born < last))) = true) (left : Option MapEntry)
    (hl : es.filter (fun e => !seen.contains e.born) = left.toList) (ho : ∀ e, left = some e → e.born < since) :
    (Instr.next (.pointer (some ⟨b, 0, none⟩)) false t).run P w = match left with
      | none => .ok (.tuple #[.bool false]) w
      | some e => .ok (.tuple #[.bool true, e.key, e.val]) (wput w b (.mapIter (some m) since (seen ++ [e.born]).toArray clock)) := by
  have hg' : (!seen.toArray.isEmpty && !es.toArray.isEmpty && es.toArray.all (fun e => decide (e.born ≥ last))) = false := by
    cases h1 : seen.isEmpty with
    | true => simp at h1; simp [h1]
    | false =>
      cases h2 : es.isEmpty with
      | true => simp at h2; simp [h2]
      | false =>
        rw [h1, h2] at hg
        simp only [Bool.false_or, List.any_eq_true, decide_eq_true_eq] at hg
        obtain ⟨e, he, hlt⟩ := hg
        simp only [Bool.and_eq_false_iff]
        right
        rw [← Bool.not_eq_true, List.all_toArray, List.all_eq_true]
        intro hh
        have := hh e he
        simp at this
        omega
  have hf : es.toArray.filter (fun e => !seen.toArray.contains e.born) = left.toList.toArray := by
    rw [← hl]
    simp [List.filter_toArray']
  cases left with
  | none =>
    simp only [Instr.next, Sem.run_bind, run_get hb rfl, Result.andThen_ok, run_get hm rfl, hg', Bool.false_eq_true, if_false, Sem.run_pure, hf]
    simp [Question.forced, run_choose]
  | some e =>
    have := ho e rfl
    simp only [Instr.next, Sem.run_bind, run_get hb rfl, Result.andThen_ok, run_get hm rfl, hg', Bool.false_eq_true, if_false, Sem.run_pure, hf]
    have hn : ¬ since ≤ e.born := by omega
    simp [Question.forced, run_choose, this, hn, run_set hb rfl]

theorem filter_born (es : List (AV × AV × Nat)) (seen : List Nat) :
    (es.map (entryC ρ)).filter (fun e => !seen.contains e.born) = (es.filter (fun e => !seen.contains e.2.2)).map (entryC ρ) := by
  rw [List.filter_map]
  rfl

theorem any_born (es : List (AV × AV × Nat)) (last : Nat) : (es.map (entryC ρ)).any (fun e => decide (e.born < last)) = es.any (fun e => Nat.blt e.2.2 last) := by
  rw [List.any_map]
  congr 1
  funext e
  show decide (e.2.2 < last) = Nat.blt e.2.2 last
  cases hb : Nat.blt e.2.2 last with
  | true => simpa using blt_lt hb
  | false =>
    simp only [decide_eq_false_iff_not]
    intro hlt
    rw [show Nat.blt e.2.2 last = true by simpa [Nat.blt_eq] using hlt] at hb
    cases hb

theorem op_next {t : TypeId} {x : Operand} {str : Bool} {r : OR} (h : Rel C N ρ H w) (ht : TmOk ρ nt tm a.tmps) (he : opNext x str C tm H = some r) :
    OpOk C N ρ H w (vs (Instr.next (a.eval x) str t)) r := by
  obtain ⟨h1, h2⟩ := ev_ok ht x
  unfold opNext at he
  rw [h1]
  generalize ev tm x = X at *
  split at he
  · rename_i i
    split at he
    · rename_i si se st ho
      cases he
      have hob := h.at h2 ho
      refine OpOk.vs h ?_ (by simp [AV.Ok, AV.Oks])
      have h0 : (ρ.b i).off + 0 = 0 := by rw [hob.2.2]
      simp only [AV.conc, h0, Instr.next, Sem.run_bind, run_get hob.1 rfl, Result.andThen_ok, Option.map_none, Sem.run_pure]
      simp [AV.conc, AV.concs]
    · rename_i m since seen last ho
      have hob := h.at h2 ho
      have h0 : (ρ.b i).off + 0 = 0 := by rw [hob.2.2]
      have hm := hob.2.1 m rfl
      split at he
      · rename_i es clock hom
        have hobm := h.at hm hom
        split at he
        · rename_i hl
          split at he
          · rename_i hg
            cases he
            refine OpOk.vs h ?_ (by simp [AV.Ok, AV.Oks])
            simp only [AV.conc, h0]
            rw [run_next (es := es.map (entryC ρ)) hob.1 hobm.1 (by rw [any_born]; simpa using hg) none (by rw [filter_born, hl]; rfl) (by simp)]
            simp [AV.concs, AV.conc]
          · cases he
        · rename_i e hl
          split at he
          · rename_i hg
            simp only [Bool.and_eq_true] at hg
            obtain ⟨g1, g2⟩ := hg
            split at he
            · rename_i H' hs
              cases he
              have hmem : e ∈ es := by
                have : e ∈ es.filter (fun e => !seen.contains e.2.2) := by rw [hl]; simp
                exact (List.mem_filter.1 this).1
              obtain ⟨k1, k2⟩ := hobm.2 e hmem
              have hgg : (seen.isEmpty || (es.map (entryC ρ)).isEmpty || (es.map (entryC ρ)).any (fun e => decide (e.born < last))) = true := by
                rw [any_born]
                cases hse : seen.isEmpty <;> simp [hse] at g2 ⊢
                right
                exact g2
              have hrun := run_next (P := C.P) (t := t) (es := es.map (entryC ρ)) hob.1 hobm.1 hgg (some (entryC ρ e)) (by rw [filter_born, hl]; rfl) (fun e' he' => by cases he'; exact blt_lt g1)
              refine ⟨ρ, _, run_vs (x := .tuple #[.bool true, e.1.conc ρ, e.2.1.conc ρ]) (by simp only [AV.conc, h0]; exact hrun) |>.trans (by simp [AV.conc, AV.concs, entryC]), by simp [AV.Ok, AV.Oks, k1, k2], Steps'.setO h h2 ho rfl rfl hs ⟨put_same h h2, hob.2⟩⟩
            · cases he
          · cases he
        · cases he
      · cases he
    · cases he
  · cases he

/-! ### Whole values -/

theorem mod_len {α : Type} (z : List α) (n i : Nat) (hz : 0 < z.length) (hi : i < n * z.length) : i % z.length < z.length := Nat.mod_lt _ hz

theorem zeros_get (ti : TI) : ∀ (n i : Nat), i < n * ti.zero.length → (zerosF ti n)[i]? = ti.zero[i % ti.zero.length]?
  | 0, i, h => by omega
  | n + 1, i, h => by
    rw [zerosF]
    by_cases hi : i < ti.zero.length
    · rw [List.getElem?_append_left hi, Nat.mod_eq_of_lt hi]
    · have hi' := Nat.le_of_not_lt hi
      rw [List.getElem?_append_right hi', zeros_get ti n (i - ti.zero.length) (by rw [Nat.add_mul] at h; omega)]
      congr 1
      conv => rhs; rw [Nat.mod_eq_sub_mod hi']

theorem zeros_length (ti : TI) : ∀ n, (zerosF ti n).length = n * ti.zero.length
  | 0 => by simp [zerosF]
  | n + 1 => by rw [zerosF, List.length_append, zeros_length ti n, Nat.add_mul]; omega

theorem zeros_ok {ti : TI} (h : ∀ x ∈ ti.zero, x.Ok ρ) : ∀ n, ∀ x ∈ zerosF ti n, x.Ok ρ
  | 0, x, hx => by cases hx
  | n + 1, x, hx => by
    rw [zerosF] at hx
    rcases List.mem_append.1 hx with h' | h'
    · exact h x h'
    · exact zeros_ok h n x h'

/-- The model's word for 'n' elements of zeros. -/
theorem zeros_eq {ti : TI} {z : Array Value} (n : Nat) (hz : z = (ti.zero.map (AV.conc ρ)).toArray) : (Array.range (n * z.size)).map (z[· % z.size]!) = clos ρ (zerosF ti n) := by
  subst hz
  apply Array.ext_getElem?
  intro i
  simp only [List.size_toArray, List.length_map, Array.getElem?_map, clos, List.getElem?_toArray, List.getElem?_map]
  by_cases hi : i < n * ti.zero.length
  · have hp : 0 < ti.zero.length := Nat.pos_of_ne_zero fun e => by rw [e] at hi; omega
    have hm : i % ti.zero.length < ti.zero.length := Nat.mod_lt _ hp
    rw [zeros_get ti n i hi]
    simp [hi, hm, List.getElem?_eq_getElem hm]
  · rw [List.getElem?_eq_none (by rw [zeros_length]; omega)]
    simp [hi]

end Go.Ev

namespace Go.Ev

variable {C : Ctx} {N : Nat} {ρ : Rho} {H : AH} {w : World} {nt : Nat} {tm : Tr AV} {a : Act}

theorem i64_small {n : Nat} (h : n ≤ 100000000000000) : IntKind.i64.wrap (Int.ofNat n) = Int.ofNat n :=
  IntWalk.i64_in _ ⟨by simp only [Int.ofNat_eq_natCast]; omega, by simp only [Int.ofNat_eq_natCast]; omega⟩

theorem run_asInt {P : Program} {k : IntKind} {n : Int} : (asInt (.int k n)).run P w = .ok n w := by simp [asInt, asIntOf]

theorem op_makeSlice {t : TypeId} {l c : Operand} {r : OR} (h : Rel C N ρ H w) (ht : TmOk ρ nt tm a.tmps) (he : opMakeSlice t l c C tm H = some r) :
    OpOk C N ρ H w (vs (Instr.makeSlice t (a.eval l) (a.eval c))) r := by
  obtain ⟨v, H', hv, rfl⟩ := valH_inv he
  obtain ⟨h1, _⟩ := ev_ok ht l
  obtain ⟨h3, _⟩ := ev_ok ht c
  unfold makeSliceF at hv
  split at hv
  · rename_i e hu
    split at hv
    · rename_i ti ln cn hti hl hc
      split at hv
      · rename_i hb
        cases hv
        simp only [Bool.and_eq_true] at hb
        obtain ⟨⟨⟨⟨b1, b2⟩, b3⟩, b4⟩, b5⟩ := hb
        have c1 := Nat.le_of_ble_eq_true b1
        have c2 := Nat.le_of_ble_eq_true b2
        have c3 := Nat.le_of_ble_eq_true b3
        have c4 := beq_size b4
        obtain ⟨k, hk⟩ := natOf_some hl
        obtain ⟨k', hk'⟩ := natOf_some hc
        have hto := tiOf_ok hti
        obtain ⟨i, i1, i2, i3⟩ := hto.run_info (w := w)
        obtain ⟨z, z1, z2, z3, z4⟩ := hto.run_zero (w := w)
        obtain ⟨β, e1, e2, e3, hs⟩ := alloc_row (C := C) (e := e) h (zeros_ok (z4 ρ) cn)
        refine ⟨_, _, run_vs ?_, ?_, hs⟩
        · rw [h1, hk, h3, hk']
          have w1 : IntKind.i64.wrap (Int.ofNat ln) = Int.ofNat ln := i64_small (by omega)
          have w2 : IntKind.i64.wrap (Int.ofNat cn) = Int.ofNat cn := i64_small c3
          have q1 : ¬ (Int.ofNat ln < 0) := by simp only [Int.ofNat_eq_natCast]; omega
          have q2 : ¬ (Int.ofNat cn < 0) := by simp only [Int.ofNat_eq_natCast]; omega
          have q3 : ¬ (Int.ofNat ln > Int.ofNat cn) := by simp only [Int.ofNat_eq_natCast]; omega
          have q4 : ¬ ((i.bytes : Int) * Int.ofNat cn > 281474976710656) := by
            rw [i3]
            have : (ti.bytes : Int) * Int.ofNat cn = ((cn * ti.bytes : Nat) : Int) := by simp [Int.mul_comm]
            rw [this]
            omega
          simp only [AV.conc, Instr.makeSlice, Sem.run_bind, run_under hu, Result.andThen_ok, run_asInt, i1, w1, w2]
          have hz : (Array.range (cn * ti.size)).map (z.cells[· % z.cells.size]!) = clos ρ (zerosF ti cn) := by
            have : z.cells.size = ti.size := by rw [z2 ρ]; simp [c4]
            rw [← this]
            exact zeros_eq (ρ := ρ) cn (z2 ρ)
          have hn : (Int.ofNat cn).toNat = cn := rfl
          have hn' : (Int.ofNat ln).toNat = ln := rfl
          have cond : (decide (Int.ofNat cn < 0) || decide ((i.bytes : Int) * Int.ofNat cn > 2 ^ 48)) = false := by
            simp only [Bool.or_eq_false_iff, decide_eq_false_iff_not]
            exact ⟨q2, by simpa using q4⟩
          have cond2 : ¬ (((decide (Int.ofNat cn < 0) || decide ((i.bytes : Int) * Int.ofNat cn > 2 ^ 48)) = true ∨ Int.ofNat ln < 0) ∨ Int.ofNat ln > Int.ofNat cn) := by
            rw [cond]
            simp only [Bool.false_eq_true, false_or]
            exact fun hh => hh.elim q1 q3
          simp only [Bool.or_eq_true, decide_eq_true_eq] at cond2 ⊢
          rw [if_neg cond2]
          simp only [Sem.run_bind, Sem.run_pure, Result.andThen_ok, run_askRoom, hto.run_size, hn, hn']
          by_cases h0 : cn * ti.size = 0
          · rw [if_pos h0]
            have : cn = 0 := by
              rcases Nat.mul_eq_zero.1 h0 with q | q
              · exact q
              · rw [q] at b5; cases b5
            subst this
            simp [Go.newRow, run_newObj_al, zerosF, clos, Rho.put_b, e1, e2]
            congr 2
            apply Array.ext_getElem?
            intro j
            simp
          · rw [if_neg h0]
            simp only [Sem.run_bind, z1, Result.andThen_ok, Sem.run_pure, hz, Go.newRow, run_newObj_al, Rho.put_b, e1, e2, Option.getD_some]
        · simp [AV.Ok, Rho.put]
      · cases hv
    · cases hv
  · cases hv

/-! ### Parts of a value -/

theorem foldl_laid : ∀ (vs : List Value) (cs : Array Value) (off k : Nat), (vs.zipIdx k).foldl (fun cs (x : Value × Nat) => cs.setIfInBounds (off + x.2) x.1) cs = laid cs (off + k) vs
  | [], cs, off, k => by simp [laid]
  | v :: vs, cs, off, k => by
    simp only [List.zipIdx_cons, List.foldl_cons, laid]
    rw [foldl_laid vs _ off (k + 1)]
    rfl

theorem laid_over {cells vs : List AV} {off : Nat} (h : off + vs.length ≤ cells.length) : laid (clos ρ cells) off (vs.map (AV.conc ρ)) = clos ρ (over cells off vs) := by
  apply Array.ext_getElem?
  intro j
  rw [laid_get _ _ _ _ (by simp [clos]; omega)]
  simp only [clos, List.getElem?_toArray, List.getElem?_map, List.length_map]
  rw [over_get _ _ _ _ h]
  split <;> rfl

theorem fill_ok {place place' : Nat → Option (Nat × Nat)} (hp : ∀ i, place' i = place i) : ∀ (parts : List (Nat × AV)) (cells cells' : List AV), (∀ p ∈ parts, p.2.Ok ρ) → (∀ x ∈ cells, x.Ok ρ) → fillF place cells parts = some cells' →
    Instr.fill place' (clos ρ cells) (parts.map fun p => (p.1, p.2.conc ρ)) = some (clos ρ cells') ∧ ∀ x ∈ cells', x.Ok ρ
  | [], cells, cells', _, hc, h => by
    simp only [fillF, Option.some.injEq] at h
    subst h
    exact ⟨rfl, hc⟩
  | (i, v) :: rest, cells, cells', hps, hc, h => by
    simp only [fillF] at h
    simp only [List.map_cons, Instr.fill, hp]
    split at h
    · cases h
    · rename_i off size hpl
      rw [hpl]
      split at h
      · cases h
      · rename_i hb
        simp only [Bool.and_eq_true] at hb
        have b1 := beq_size hb.1
        have b2 := Nat.le_of_ble_eq_true hb.2
        have hv : v.Ok ρ := hps (i, v) (by simp)
        have e1 : (v.conc ρ).cells.size = size := by rw [cells_conc]; simp [clos, b1]
        have e2 : ¬ (off + (v.conc ρ).cells.size > (clos ρ cells).size) := by rw [cells_conc]; simp [clos]; omega
        have hfold : (v.conc ρ).cells.zipIdx.foldl (fun cs (x : Value × Nat) => cs.setIfInBounds (off + x.2) x.1) (clos ρ cells) = clos ρ (over cells off v.cells) := by
          rw [← laid_over (by omega), ← Array.foldl_toList]
          rw [cells_conc]
          have := foldl_laid (v.cells.map (AV.conc ρ)) (clos ρ cells) off 0
          simp only [Nat.add_zero] at this
          rw [← this]
          simp [clos]
        have ih := fill_ok hp rest (over cells off v.cells) cells' (fun p hp' => hps p (by simp [hp'])) (fun x hx => by
          rcases over_mem _ _ _ _ hx with q | q
          · exact hc x q
          · exact cells_ok hv x q) h
        refine ⟨?_, ih.2⟩
        simp only [Bool.or_eq_true, decide_eq_true_eq]
        rw [if_neg (by rintro (q | q); exact q e1; exact e2 q)]
        rw [← ih.1, ← hfold]

end Go.Ev

namespace Go.Ev

variable {C : Ctx} {N : Nat} {ρ : Rho} {H : AH} {w : World} {nt : Nat} {tm : Tr AV} {a : Act}

theorem fillF_length {place : Nat → Option (Nat × Nat)} : ∀ (parts : List (Nat × AV)) (cells cells' : List AV), fillF place cells parts = some cells' → cells'.length = cells.length
  | [], cells, cells', h => by simp only [fillF, Option.some.injEq] at h; rw [h]
  | (i, v) :: rest, cells, cells', h => by
    simp only [fillF] at h
    split at h
    · cases h
    · split at h
      · cases h
      · rename_i hb
        simp only [Bool.and_eq_true] at hb
        rw [fillF_length rest _ _ h, over_length _ _ _ (Nat.le_of_ble_eq_true hb.2)]

theorem run_places : ∀ (fs : List Field) (l : List (Nat × Nat)), placesF C fs = some l → (fs.mapM fun f => do pure (f.offset, ← sizeOf f.type) : Sem (List (Nat × Nat))).run C.P w = .ok l w
  | [], l, h => by
    simp only [placesF, Option.some.injEq] at h
    subst h
    simp
  | f :: fs, l, h => by
    simp only [placesF] at h
    split at h
    · cases h
    · rename_i ti hti
      split at h
      · cases h
      · rename_i l' hl
        cases h
        have ih := run_places fs l' hl
        rw [List.mapM_cons]
        simp only [Sem.run_bind, (tiOf_ok hti).run_size, Result.andThen_ok, Sem.run_pure]
        rw [ih]
        rfl

theorem parts_eval (ht : TmOk ρ nt tm a.tmps) (ps : Array (Nat × Operand)) : (ps.map fun (i, x) => (i, a.eval x)).toList = (partsF tm ps).map (fun p => (p.1, p.2.conc ρ)) ∧ ∀ p ∈ partsF tm ps, p.2.Ok ρ := by
  constructor
  · simp only [partsF, Array.toList_map, List.map_map]
    apply List.map_congr_left
    intro p _
    simp [(ev_ok ht p.2).1]
  · intro p hp
    obtain ⟨q, _, rfl⟩ := List.mem_map.1 hp
    exact (ev_ok ht q.2).2

theorem op_build {t : TypeId} {ps : Array (Nat × Operand)} {r : OR} (h : Rel C N ρ H w) (ht : TmOk ρ nt tm a.tmps) (he : opBuild t ps C tm H = some r) :
    OpOk C N ρ H w (vs (Instr.build t (ps.map fun (i, x) => (i, a.eval x)))) r := by
  obtain ⟨v, hv, rfl⟩ := val_inv he
  obtain ⟨p1, p2⟩ := parts_eval ht ps
  unfold buildF at hv
  split at hv
  · cases hv
  · rename_i ti hti
    have hto := tiOf_ok hti
    obtain ⟨z, z1, z2, z3, z4⟩ := hto.run_zero (w := w)
    split at hv
    · rename_i fs hd
      split at hv
      · cases hv
      · rename_i pl hpl
        cases hf : fillF (fun i => pl[i]?) ti.zero (partsF tm ps) with
        | none => rw [hf] at hv; cases hv
        | some cells =>
          rw [hf] at hv
          cases hv
          have hplr := run_places (w := w) fs.toList pl hpl
          obtain ⟨f1, f2⟩ := fill_ok (ρ := ρ) (place' := fun i => pl.toArray[i]?) (fun i => by simp) (partsF tm ps) ti.zero cells p2 (z4 ρ) hf
          refine OpOk.vs h ?_ (by rw [AV.Ok, oks_iff]; exact f2)
          have hu := hto.under
          rw [hd] at hu
          simp only [Instr.build, Sem.run_bind, z1, Result.andThen_ok, run_under hu]
          rw [Array.mapM_eq_mapM_toList]
          simp only [Sem.run_map, hplr, Result.andThen_ok, Sem.run_bind]
          rw [p1, z2 ρ]
          rw [show (List.map (AV.conc ρ) ti.zero).toArray = clos ρ ti.zero from rfl]
          simp only [f1, Sem.run_pure, AV.conc, concs_eq]
          rfl
    · rename_i n e hd
      split at hv
      · cases hv
      · rename_i te hte
        cases hf : fillF (fun i => some (i * te.size, te.size)) ti.zero (partsF tm ps) with
        | none => rw [hf] at hv; cases hv
        | some cells =>
          rw [hf] at hv
          cases hv
          obtain ⟨f1, f2⟩ := fill_ok (ρ := ρ) (place' := fun i => some (i * te.size, te.size)) (fun i => rfl) (partsF tm ps) ti.zero cells p2 (z4 ρ) hf
          refine OpOk.vs h ?_ (by rw [AV.Ok, oks_iff]; exact f2)
          have hu := hto.under
          rw [hd] at hu
          simp only [Instr.build, Sem.run_bind, z1, Result.andThen_ok, run_under hu, (tiOf_ok hte).run_size]
          rw [p1, z2 ρ]
          rw [show (List.map (AV.conc ρ) ti.zero).toArray = clos ρ ti.zero from rfl]
          simp only [f1, Sem.run_pure, AV.conc, concs_eq]
          rfl
    · cases hv

theorem op_buildSlice {t : TypeId} {n : Nat} {ps : Array (Nat × Operand)} {r : OR} (h : Rel C N ρ H w) (ht : TmOk ρ nt tm a.tmps) (he : opBuildSlice t n ps C tm H = some r) :
    OpOk C N ρ H w (vs (Instr.buildSlice t n (ps.map fun (i, x) => (i, a.eval x)))) r := by
  obtain ⟨v, H', hv, rfl⟩ := valH_inv he
  obtain ⟨p1, p2⟩ := parts_eval ht ps
  unfold buildSliceF at hv
  split at hv
  · rename_i e hu
    split at hv
    · cases hv
    · rename_i te hte
      split at hv
      · cases hv
      · rename_i hb
        simp only [Bool.and_eq_true] at hb
        have b1 := Nat.le_of_ble_eq_true hb.1.1
        have b2 := beq_size hb.1.2
        split at hv
        · cases hv
        · rename_i cells hf
          cases hv
          have hto := tiOf_ok hte
          obtain ⟨z, z1, z2, z3, z4⟩ := hto.run_zero (w := w)
          obtain ⟨f1, f2⟩ := fill_ok (ρ := ρ) (place' := fun i => some (i * te.size, te.size)) (fun i => rfl) (partsF tm ps) _ cells p2 (zeros_ok (z4 ρ) n) hf
          obtain ⟨β, e1, e2, e3, hs⟩ := alloc_row (C := C) (e := e) h f2
          refine ⟨_, _, run_vs ?_, ?_, hs⟩
          · have hz : (Array.range (n * te.size)).map (z.cells[· % z.cells.size]!) = clos ρ (zerosF te n) := by
              have : z.cells.size = te.size := by rw [z2 ρ]; simp [b2]
              rw [← this]
              exact zeros_eq (ρ := ρ) n (z2 ρ)
            have hbig : ¬ (n * te.size > 2 ^ 24) := by omega
            simp only [Instr.buildSlice, Sem.run_bind, run_under hu, Result.andThen_ok, hto.run_size]
            rw [if_neg hbig]
            by_cases h0 : n * te.size = 0
            · have hn0 : n = 0 := by
                rcases Nat.mul_eq_zero.1 h0 with q | q
                · exact q
                · rw [q] at hb; simp at hb
              subst hn0
              rw [if_pos h0]
              simp only [Sem.run_pure, Result.andThen_ok, Sem.run_bind]
              have : ((Array.range (0 * te.size)).map fun x => (#[] : Array Value)[x % (#[] : Array Value).size]!) = clos ρ (zerosF te 0) := by
                apply Array.ext_getElem?
                intro j
                simp [zerosF, clos]
              rw [this, p1, f1]
              simp [Go.newRow, run_newObj_al, AV.conc, Rho.put_b, e1, e2]
            · rw [if_neg h0]
              simp only [Sem.run_bind, z1, Result.andThen_ok, Sem.run_pure, hz]
              rw [p1, f1]
              simp [Go.newRow, run_newObj_al, AV.conc, Rho.put_b, e1, e2]
          · simp [AV.Ok, Rho.put]
  · cases hv

theorem copy_ok {t u : TypeId} {us : List TypeId} {d x : AV} {n : Nat} {H' : AH} {ty : TypeId} (h : Rel C N ρ H w) (hd : d.Ok ρ) (hx : x.Ok ρ) (he : copyF C H t d x = some (n, H')) :
    ∃ ρ' w', (Builtin.copy_ (t :: us).toArray ty #[d.conc ρ, x.conc ρ]).run C.P w = .ok (.int .i64 n) w' ∧ Steps' C N ρ H w ρ' H' w' := by
  unfold copyF at he
  split at he
  · rename_i e hu
    split at he
    · cases he
    · rename_i ti hti
      have hsz := (tiOf_ok hti).run_size (w := w)
      split at he
      · cases he
      · rename_i m hm
        have hlen := srcLen_ok (ρ := ρ) (w := w) (P := C.P) hm
        split at he
        · cases he
          refine ⟨ρ, w, ?_, Steps'.refl h⟩
          have hmin : Nat.min m 0 = 0 := by simp
          have hfc : (Builtin.firstCells ti.size 0 (x.conc ρ)).run C.P w = .ok #[] w := by
            unfold srcLen at hm
            split at hm <;> first | (cases hm; done) | simp [AV.conc, Builtin.firstCells, loadCells, loadCellsFrom]
          simp only [Builtin.copy_, List.getElem?_toArray, List.getElem?_cons_zero, Sem.run_bind, run_under hu, Result.andThen_ok, AV.conc, hlen, hsz, hmin, hfc, List.getElem?_cons_succ]
          simp [hlen, hsz, hfc, goInt, run_under hu]
        · cases he
          refine ⟨ρ, w, ?_, Steps'.refl h⟩
          have hfc : (Builtin.firstCells ti.size 0 (x.conc ρ)).run C.P w = .ok #[] w := by
            unfold srcLen at hm
            split at hm <;> first | (cases hm; done) | simp [AV.conc, Builtin.firstCells, loadCells, loadCellsFrom]
          simp [Builtin.copy_, run_under hu, AV.conc, hlen, hsz, hfc, goInt, storeCells]
        · rename_i i o l c
          split at he
          · cases he
          · rename_i new hnew
            split at he
            · cases he
            · rename_i hall
              cases hp : H.put i o new with
              | none => rw [hp] at he; cases he
              | some H1 =>
                rw [hp] at he
                cases he
                obtain ⟨g1, g2, g3⟩ := elems_ok h hx hnew (fun m' hm' => by rw [hm] at hm'; cases hm'; exact Nat.min_le_left _ _)
                cases hb : ρ i with
                | none => exact absurd hb hd
                | some β =>
                  have hbb : ρ.b i = β := by simp [Rho.b, hb]
                  obtain ⟨w', hw, hst⟩ := Steps'.put (P := C.P) h hp hb g2 (by simpa using hall)
                  refine ⟨ρ, w', ?_, hst⟩
                  simp [Builtin.copy_, run_under hu, AV.conc, hlen, hsz, g1, goInt, hbb]
                  simp only [clos]
                  rw [hw]
                  simp
        · cases he
  · cases he

theorem clear_ok {t ty : TypeId} {i o l : Nat} {c : Option Nat} {ti : TI} {H' : AH} (h : Rel C N ρ H w) (hd : ρ i ≠ none) {e : TypeId} (hu : C.P.underlying t = some (.slice e)) (hti : tiOf C.P e = some ti)
    (hcell : ∀ x ∈ ti.zero, x.isCell = true) (hp : H.put i o (zerosF ti l) = some H') :
    ∃ ρ' w', (Builtin.clear_ #[t] ty #[(AV.nslc i o l c).conc ρ]).run C.P w = .ok (.tuple #[]) w' ∧ Steps' C N ρ H w ρ' H' w' := by
  have hto := tiOf_ok hti
  obtain ⟨z, z1, z2, z3, z4⟩ := hto.run_zero (w := w)
  cases hb : ρ i with
  | none => exact absurd hb hd
  | some β =>
    have hbb : ρ.b i = β := by simp [Rho.b, hb]
    have hcl : ∀ n, ∀ x ∈ zerosF ti n, x.isCell = true := by
      intro n
      induction n with
      | zero => intro x hx; cases hx
      | succ n ih =>
        intro x hx
        rw [zerosF] at hx
        rcases List.mem_append.1 hx with q | q
        · exact hcell x q
        · exact ih x q
    obtain ⟨w', hw, hst⟩ := Steps'.put (P := C.P) h hp hb (zeros_ok (z4 ρ) l) (hcl l)
    cases l with
    | zero =>
      refine ⟨ρ, w', ?_, hst⟩
      have : w' = w := by
        simp [zerosF, storeCells] at hw
        exact hw.symm
      subst this
      simp [Builtin.clear_, run_under hu, AV.conc]
    | succ l =>
      refine ⟨ρ, w', ?_, hst⟩
      have hz : Builtin.zeroCells z.cells (l + 1) = clos ρ (zerosF ti (l + 1)) := by
        unfold Builtin.zeroCells
        exact zeros_eq (ρ := ρ) (l + 1) (z2 ρ)
      simp [Builtin.clear_, run_under hu, AV.conc, z1, hz, hbb]
      simp only [clos]
      rw [hw]
      simp

end Go.Ev

namespace Go.Ev

variable {C : Ctx} {N : Nat} {ρ : Rho} {H : AH} {w : World} {nt : Nat} {tm : Tr AV} {a : Act}

/-! ### Appending -/

theorem slicecap_le {need cap : Nat} (h : cap < need) : Builtin.nextslicecap need cap ≤ 3 * need + 4096 := by
  have g : ∀ r c, c ≤ 3 * need + 4096 → c < need ∨ c ≤ 3 * need + 4096 → Builtin.growBy need r c ≤ 3 * need + 4096 := by
    intro r
    induction r with
    | zero => intro c h1 _; exact h1
    | succ r ih =>
      intro c h1 _
      rw [Builtin.growBy]
      split
      · exact h1
      · rename_i hc
        have : c < need := by omega
        exact ih _ (by omega) (.inr (by omega))
  unfold Builtin.nextslicecap
  split
  · omega
  · split
    · omega
    · exact g 4 cap (by omega) (.inl h)

def OkUs (P : Program) (us : List TypeId) : Prop := ∀ u rest, us = u :: rest → ∃ d, P.underlying u = some d ∧ ∀ k, d ≠ .int k

theorem run_append_in {P : Program} {t e ty : TypeId} {us : List TypeId} {base : Option Addr} {sLen sCap size n : Nat} {x : Value}
    (hu : P.underlying t = some (.slice e)) (hus : OkUs P us) (hs : (sizeOf e).run P w = .ok size w)
    (hn : (Builtin.lenOf x).run P w = .ok n w) (hc : sLen + n ≤ sCap) :
    (Builtin.append_ (t :: us).toArray ty #[.slice base sLen sCap, x]).run P w = (do
        let new ← Builtin.firstCells size n x
        if let some a := base then storeCells (a.add (sLen * size)) new.toList
        pure (.slice base (sLen + n) sCap) : Sem Value).run P w := by
  cases us with
  | nil =>
    unfold Builtin.append_
    simp only [List.getElem?_toArray, List.getElem?_cons_zero, List.getElem?_cons_succ, List.getElem?_nil, Sem.run_bind, run_under hu, Result.andThen_ok, hs, Sem.run_pure, Bool.false_eq_true, if_false, hn, if_pos hc, Bool.not_false, if_true]
    cases base <;> rfl
  | cons u rest =>
    obtain ⟨d, h1, h2⟩ := hus u rest rfl
    have hd : (match d with | .int _ => true | _ => false : Bool) = false := by cases d <;> first | rfl | exact absurd rfl (h2 _)
    unfold Builtin.append_
    simp only [List.getElem?_toArray, List.getElem?_cons_zero, List.getElem?_cons_succ, List.getElem?_nil, Sem.run_bind, run_under hu, run_under h1, Result.andThen_ok, hs, Sem.run_pure, hd, Bool.false_eq_true, if_false, hn, if_pos hc, Bool.not_false, if_true]
    cases base <;> rfl

theorem run_append_grow {P : Program} {t e ty : TypeId} {us : List TypeId} {base : Option Addr} {sLen sCap size n : Nat} {x : Value} {ti : TypeInfo}
    (hu : P.underlying t = some (.slice e)) (hus : OkUs P us) (hs : (sizeOf e).run P w = .ok size w)
    (hn : (Builtin.lenOf x).run P w = .ok n w) (hi : ∀ w, (typeInfo e).run P w = .ok ti w) (hb : ti.bytes ≠ 0) (hc : ¬ sLen + n ≤ sCap)
    (hr : ¬ (Builtin.nextslicecap (sLen + n) sCap * ti.bytes > 2 ^ 48)) :
    (Builtin.append_ (t :: us).toArray ty #[.slice base sLen sCap, x]).run P w = (do
        let newCap ← choose (.appendCap (sLen + n) sCap e)
        let old ← Builtin.firstCells size sLen (.slice base sLen sCap)
        let new ← Builtin.firstCells size n x
        let rest := Builtin.zeroCells (← zeroValue e).cells (newCap - (sLen + n))
        pure (.slice (some (← Go.newRow e (old ++ new ++ rest))) (sLen + n) newCap) : Sem Value).run P w := by
  have hq : ¬ (((sLen + n : Nat) : Int) > IntKind.i64.max ∧ (False ∨ ti.bytes = 0)) := by
    rintro ⟨_, q | q⟩
    · exact q
    · exact hb q
  cases us with
  | nil =>
    unfold Builtin.append_
    simp only [List.getElem?_toArray, List.getElem?_cons_zero, List.getElem?_cons_succ, List.getElem?_nil, Sem.run_bind, run_under hu, Result.andThen_ok, hs, Sem.run_pure, Bool.false_eq_true, if_false, hn, if_neg hc, Bool.not_false, if_true, hi, if_neg hq, if_neg hr, run_askRoom]
  | cons u rest =>
    obtain ⟨d, h1, h2⟩ := hus u rest rfl
    have hd : (match d with | .int _ => true | _ => false : Bool) = false := by cases d <;> first | rfl | exact absurd rfl (h2 _)
    unfold Builtin.append_
    simp only [List.getElem?_toArray, List.getElem?_cons_zero, List.getElem?_cons_succ, List.getElem?_nil, Sem.run_bind, run_under hu, run_under h1, Result.andThen_ok, hs, Sem.run_pure, hd, Bool.false_eq_true, if_false, hn, if_neg hc, Bool.not_false, if_true, hi, if_neg hq, if_neg hr, run_askRoom]

theorem growF_some {ti : TI} {e : TypeId} {need : Nat} {old new : List AV} {v : AV} {H' : AH} (h : growF H ti e need old new = some (v, H')) :
    (3 * need + 4096) * ti.bytes ≤ 100000000000000 ∧ ti.zero.length = ti.size ∧ v = .nslc H.n 0 need none ∧ H' = H.new (.row (old ++ new) H.n 0 false false 0 e false false) := by
  unfold growF at h
  split at h
  · rename_i hb
    cases h
    simp only [Bool.and_eq_true] at hb
    exact ⟨Nat.le_of_ble_eq_true hb.1, beq_size hb.2, rfl, rfl⟩
  · cases h

theorem room_small {need cap by' : Nat} (hc : cap < need) (h : (3 * need + 4096) * by' ≤ 100000000000000) : ¬ (Builtin.nextslicecap need cap * by' > 2 ^ 48) := by
  have := Nat.mul_le_mul_right by' (slicecap_le hc)
  omega

theorem clos_append (ρ : Rho) (x y : List AV) : clos ρ (x ++ y) = clos ρ x ++ clos ρ y := by simp [clos]

/-- The block that an append makes. -/
theorem grow_ok {ti : TI} {e : TypeId} {sCap size sLen n : Nat} {old new : List AV} {s x : Value} (h : Rel C N ρ H w) (hti : tiOf C.P e = some ti) (hsz : size = ti.size)
    (hzl : ti.zero.length = ti.size) (hold : (Builtin.firstCells size sLen s).run C.P w.drew = .ok (clos ρ old) w.drew) (hnew : (Builtin.firstCells size n x).run C.P w.drew = .ok (clos ρ new) w.drew)
    (hol : old.length = sLen * ti.size) (hnl : new.length = n * ti.size) (ho : ∀ v ∈ old, v.Ok ρ) (hn : ∀ v ∈ new, v.Ok ρ) :
    ∃ cap rest, sLen + n ≤ cap ∧ rest.size = (cap - (sLen + n)) * ti.size ∧ (do
        let newCap ← choose (.appendCap (sLen + n) sCap e)
        let old ← Builtin.firstCells size sLen s
        let new ← Builtin.firstCells size n x
        let rest := Builtin.zeroCells (← zeroValue e).cells (newCap - (sLen + n))
        pure (.slice (some (← Go.newRow e (old ++ new ++ rest))) (sLen + n) newCap) : Sem Value).run C.P w =
          .ok (.slice (some ⟨w.heap.size, 0, none⟩) (sLen + n) cap) (w.drew.alloc (.cells (clos ρ (old ++ new) ++ rest) e)) := by
  have hto := tiOf_ok hti
  obtain ⟨z, z1, z2, z3, z4⟩ := hto.run_zero (w := w.drew)
  have hz : ∀ k, Builtin.zeroCells z.cells k = clos ρ (zerosF ti k) := fun k => by
    unfold Builtin.zeroCells
    exact zeros_eq (ρ := ρ) k (z2 ρ)
  refine ⟨(Question.appendCap (sLen + n) sCap e).cut (w.tape w.drawn (Question.appendCap (sLen + n) sCap e)), clos ρ (zerosF ti ((Question.appendCap (sLen + n) sCap e).cut (w.tape w.drawn (Question.appendCap (sLen + n) sCap e)) - (sLen + n))), cut_cap _ _ _ _, ?_, ?_⟩
  · simp [clos, zeros_length, hzl]
  · simp only [Sem.run_bind, run_choose_cap, Result.andThen_ok, hold, hnew, z1, Sem.run_pure, Go.newRow, run_newObj_al, hz, clos_append]
    rfl

theorem grow_steps {ti : TI} {e : TypeId} {need cap : Nat} {old new : List AV} {rest : Array Value} (h : Rel C N ρ H w) (hti : tiOf C.P e = some ti) (hc : need ≤ cap) (hr : rest.size = (cap - need) * ti.size)
    (hl : (old ++ new).length = need * ti.size) (ho : ∀ v ∈ old, v.Ok ρ) (hn : ∀ v ∈ new, v.Ok ρ) :
    Steps' C N ρ H w (ρ.put H.n ⟨w.heap.size, 0, cap, ti.size⟩) (H.new (.row (old ++ new) H.n 0 false false 0 e false false)) (w.drew.alloc (.cells (clos ρ (old ++ new) ++ rest) e)) := by
  have h1 := drew_steps h
  have h2 := alloc_grown (C := C) (ρ := ρ) (H := H) (w := w.drew) (c := old ++ new) (e := e) (rest := rest) (cap := cap) (sz := ti.size) (fr := (0, 0)) (sg := false) h1.rel
    (fun x hx => by rcases List.mem_append.1 hx with q | q; exact ho x q; exact hn x q) (tiOf_ok hti).cellsOf.symm
    (by rw [hl, hr, ← Nat.add_mul]; congr 1; omega) (.inl rfl)
  exact h1.trans h2

/-- An append that makes a new array. -/
theorem append_grow {ti : TI} {t e ty : TypeId} {us : List TypeId} {sCap sLen n : Nat} {old new : List AV} {base : Option Addr} {x : Value} {v : AV} {H' : AH} (h : Rel C N ρ H w)
    (hu : C.P.underlying t = some (.slice e)) (hus : OkUs C.P us) (hti : tiOf C.P e = some ti) (hbz : ti.bytes ≠ 0) (hx : ∀ w, (Builtin.lenOf x).run C.P w = .ok n w)
    (hold : (Builtin.firstCells ti.size sLen (.slice base sLen sCap)).run C.P w.drew = .ok (clos ρ old) w.drew) (hnew : (Builtin.firstCells ti.size n x).run C.P w.drew = .ok (clos ρ new) w.drew)
    (hol : old.length = sLen * ti.size) (hnl : new.length = n * ti.size) (ho : ∀ v ∈ old, v.Ok ρ) (hn : ∀ v ∈ new, v.Ok ρ) (hc : sCap < sLen + n) (hg : growF H ti e (sLen + n) old new = some (v, H')) :
    ∃ ρ' w', (Builtin.append_ (t :: us).toArray ty #[.slice base sLen sCap, x]).run C.P w = .ok (v.conc ρ') w' ∧ v.Ok ρ' ∧ Steps' C N ρ H w ρ' H' w' := by
  obtain ⟨g1, g2, rfl, rfl⟩ := growF_some hg
  have hto := tiOf_ok hti
  obtain ⟨i, z, i1, i2, i3, _⟩ := hto.info
  have hinfo : ∀ w, (typeInfo e).run C.P w = .ok i w := fun w => by simp [typeInfo, i1]
  obtain ⟨cap, rest, c1, c2, c3⟩ := grow_ok (sCap := sCap) (s := .slice base sLen sCap) h hti rfl g2 hold hnew hol hnl ho hn
  refine ⟨_, _, ?_, ?_, grow_steps h hti c1 c2 (by rw [List.length_append, hol, hnl, ← Nat.add_mul]) ho hn⟩
  · rw [run_append_grow (size := ti.size) (ti := i) hu hus hto.run_size (hx w) hinfo (by rw [i3]; exact hbz) (by omega) (by rw [i3]; exact room_small hc g1), c3]
    simp [AV.conc, Rho.put_b]
  · simp [AV.Ok, Rho.put]

end Go.Ev

namespace Go.Ev

variable {C : Ctx} {N : Nat} {ρ : Rho} {H : AH} {w : World} {nt : Nat} {tm : Tr AV} {a : Act}

/-- An append behind the last known cell of a row: the row as it was, and a longer one that shares its memory, or lies in a new block. -/
theorem Rel.behind {H' : AH} {w' : World} {i : Nat} {c cN : List AV} {g gen G frz frzN : Nat} {sh ext sg : Bool} {e : TypeId} {β β' : Base} (h : Rel C N ρ H w) (hi : ρ i = some β)
    (ho : H.o.get i = some (.row c g gen sh ext frz e false sg)) (hl : H.live g gen sh = true) (hG : G = if ext then H.gen g + 1 else H.gen g)
    (hn : H'.n = H.n + 1) (hget : ∀ j, H'.o.get j = if j = H.n then some (.row cN g G true false frzN e false sg) else if j = i then some (.row c g G true true frz e false sg) else H.o.get j)
    (hgen : ∀ x, H'.gen x = if x = g then G else H.gen x) (hsize : w.heap.size ≤ w'.heap.size) (hoth : ∀ b, b < w.heap.size → b ≠ β.blk → w'.heap[b]? = w.heap[b]?)
    (hri : RowOk C ρ β c frz e false sg w') (hrn : RowOk C (ρ.put H.n β') β' cN frzN e false sg w')
    (hblk : β'.blk = β.blk ∧ β.off + c.length ≤ β'.off + cN.length ∨ w.heap.size ≤ β'.blk ∧ β'.blk < w'.heap.size)
    (hrj : ext = false → ∀ γ c1 frz1 e1 wh1 sg1, RowOk C ρ γ c1 frz1 e1 wh1 sg1 w → γ.blk = β.blk → γ.off + c1.length ≤ β.off + c.length → RowOk C ρ γ c1 frz1 e1 wh1 sg1 w') :
    Rel C N (ρ.put H.n β') H' w' := by
  have hle : ρ.le (ρ.put H.n β') := Rho.le_put h.none_n
  obtain ⟨li1, li2, li3⟩ := h.lt i β hi
  have hne : i ≠ H.n := by omega
  have hold : ∀ j, j ≠ H.n → ∀ γ, (ρ.put H.n β') j = some γ → ρ j = some γ := fun j hj γ hh => by
    simp only [Rho.put, if_neg hj] at hh; exact hh
  have hnew : ∀ γ, (ρ.put H.n β') H.n = some γ → γ = β' := fun γ hh => by
    rw [Rho.put_same] at hh; exact (Option.some.inj hh).symm
  have hget_n : H'.o.get H.n = some (.row cN g G true false frzN e false sg) := by rw [hget, if_pos rfl]
  have hget_i : H'.o.get i = some (.row c g G true true frz e false sg) := by rw [hget, if_neg hne, if_pos rfl]
  have hget_o : ∀ j, j ≠ H.n → j ≠ i → H'.o.get j = H.o.get j := fun j h1 h2 => by rw [hget, if_neg h1, if_neg h2]
  -- a live row of the group, other than these two
  have live_old : ∀ j γ c1 gen1 ext1 frz1 e1 wh1 sg1, ρ j = some γ → H.o.get j = some (.row c1 g gen1 true ext1 frz1 e1 wh1 sg1) → G = gen1 → ext = false ∧ H.gen g = gen1 := by
    intro j γ c1 gen1 ext1 frz1 e1 wh1 sg1 hj hjo hq
    have ha := h.age j γ _ _ _ _ _ _ _ _ hj hjo
    cases ext with
    | true => simp only [if_true] at hG; omega
    | false => simp only [Bool.false_eq_true, if_false] at hG; exact ⟨rfl, by omega⟩
  -- one that lies in the block of the row
  have in_block : ∀ j γ, ρ j = some γ → j ≠ i → γ.blk = β.blk → ∃ c1 gen1 ext1 frz1 e1 wh1 sg1, H.o.get j = some (.row c1 g gen1 true ext1 frz1 e1 wh1 sg1) ∧ sh = true := by
    intro j γ hj hji hb
    obtain ⟨c1, g1, gen1, ext1, frz1, e1, wh1, sg1, c2, gen2, ext2, frz2, e2, wh2, sg2, r1, r2⟩ := h.sep j i γ β hj hi hji hb
    rw [ho] at r2
    cases r2
    exact ⟨_, _, _, _, _, _, _, r1, rfl⟩
  have genG : sh = true → H.gen g = gen := fun hs => by
    subst hs
    simpa [AH.live] using hl
  -- the tip among the live ones
  have tip_i : ∀ j γ c1 gen1 ext1 frz1 e1 wh1 sg1, ρ j = some γ → j ≠ i → γ.blk = β.blk → H.o.get j = some (.row c1 g gen1 true ext1 frz1 e1 wh1 sg1) → G = gen1 →
      ext = false ∧ ext1 = true ∧ γ.off + c1.length ≤ β.off + c.length := by
    intro j γ c1 gen1 ext1 frz1 e1 wh1 sg1 hj hji hb hjo hq
    obtain ⟨q1, q2⟩ := live_old j γ c1 gen1 ext1 frz1 e1 wh1 sg1 hj hjo hq
    obtain ⟨_, _, _, _, _, _, _, _, hs⟩ := in_block j γ hj hji hb
    subst hs
    subst q1
    have := h.tip i j β γ _ _ _ _ _ _ _ _ _ _ _ _ _ _ hi hj (Ne.symm hji) hb.symm ho hjo (genG rfl) q2
    exact ⟨rfl, this.1, this.2⟩
  refine ⟨fun j γ hj => ?_, fun j γ hj => ?_, fun j k βj βk hj hk hjk hbb => ?_, fun j k βj βk c1 g1 gen1 frz1 e1 wh1 sg1 c2 gen2 ext2 frz2 e2 wh2 sg2 hj hk hjk hbb r1 r2 q1 q2 => ?_,
    fun j γ c1 g1 gen1 ext1 frz1 e1 wh1 sg1 hj r1 => ?_, fun b o v hv => ?_, by have := h.base; omega⟩
  · by_cases hjn : j = H.n
    · subst hjn
      cases hnew γ hj
      rcases hblk with ⟨b1, _⟩ | ⟨b1, b2⟩
      · exact ⟨by omega, by omega, by omega⟩
      · have := h.base
        exact ⟨by omega, by omega, by omega⟩
    · obtain ⟨a1, a2, a3⟩ := h.lt j γ (hold j hjn γ hj)
      exact ⟨by omega, a2, by omega⟩
  · by_cases hjn : j = H.n
    · subst hjn
      cases hnew γ hj
      exact ⟨_, hget_n, fun _ => hrn⟩
    · have hj' := hold j hjn γ hj
      by_cases hji : j = i
      · subst hji
        rw [hi] at hj'
        cases hj'
        exact ⟨_, hget_i, fun _ => hri.le hle⟩
      · obtain ⟨x, hx, hxo⟩ := h.obj j γ hj'
        refine ⟨x, by rw [hget_o j hjn hji]; exact hx, ?_⟩
        by_cases hb : γ.blk = β.blk
        · obtain ⟨c1, gen1, ext1, frz1, e1, wh1, sg1, r1, hs⟩ := in_block j γ hj' hji hb
          rw [hx] at r1
          cases r1
          intro hlive
          have hq : G = gen1 := by
            simp only [AH.live] at hlive
            have := Nat.eq_of_beq_eq_true hlive
            rw [hgen, if_pos rfl] at this
            exact this
          obtain ⟨t1, t2, t3⟩ := tip_i j γ _ _ _ _ _ _ _ hj' hji hb hx hq
          obtain ⟨_, t4⟩ := live_old j γ _ _ _ _ _ _ _ hj' hx hq
          exact (hrj t1 γ _ _ _ _ _ (hxo (by simp only [AH.live]; rw [t4]; exact Nat.beq_refl _)) hb t3).le hle
        · have hxw := (hxo.world (hoth _ (h.lt j γ hj').2.2 hb)).le hle
          cases x with
          | row c1 g1 gen1 sh1 ext1 frz1 e1 wh1 sg1 =>
            intro hlive
            apply hxw
            cases sh1 with
            | false => rfl
            | true =>
              simp only [AH.live] at hlive ⊢
              have hq := Nat.eq_of_beq_eq_true hlive
              rw [hgen] at hq
              by_cases hgg : g1 = g
              · subst hgg
                rw [if_pos rfl] at hq
                obtain ⟨_, t4⟩ := live_old j γ _ _ _ _ _ _ _ hj' hx hq
                rw [t4]; exact Nat.beq_refl _
              · rw [if_neg hgg] at hq
                rw [hq]; exact Nat.beq_refl _
          | map es clock => exact hxw
          | siter s pos => exact hxw
          | miter m since seen stepped => exact hxw
          | loop st pend fn tm nt params assign body d => exact hxw
          | dfr b => exact hxw
  · -- who shares
    have row_of : ∀ k γ, (ρ.put H.n β') k = some γ → (k = H.n ∨ γ.blk = β.blk) → γ.blk = β.blk ∨ γ.blk = β'.blk → (k = H.n ∨ k = i ∨ ∃ c1 gen1 ext1 frz1 e1 wh1 sg1, H'.o.get k = some (.row c1 g gen1 true ext1 frz1 e1 wh1 sg1)) := by
      intro k γ hk hd _
      by_cases hkn : k = H.n
      · exact .inl hkn
      · by_cases hki : k = i
        · exact .inr (.inl hki)
        · rcases hd with q | q
          · exact absurd q hkn
          · obtain ⟨c1, gen1, ext1, frz1, e1, wh1, sg1, r1, hs⟩ := in_block k γ (hold k hkn γ hk) hki q
            exact .inr (.inr ⟨_, _, _, _, _, _, _, by rw [hget_o k hkn hki]; exact r1⟩)
    have any_row : ∀ k γ, (ρ.put H.n β') k = some γ → (k = H.n ∨ γ.blk = β.blk) → ∃ c1 gen1 ext1 frz1 e1 wh1 sg1, H'.o.get k = some (.row c1 g gen1 true ext1 frz1 e1 wh1 sg1) := by
      intro k γ hk hd
      by_cases hkn : k = H.n
      · subst hkn; exact ⟨_, _, _, _, _, _, _, hget_n⟩
      · by_cases hki : k = i
        · subst hki; exact ⟨_, _, _, _, _, _, _, hget_i⟩
        · rcases hd with q | q
          · exact absurd q hkn
          · obtain ⟨c1, gen1, ext1, frz1, e1, wh1, sg1, r1, hs⟩ := in_block k γ (hold k hkn γ hk) hki q
            exact ⟨_, _, _, _, _, _, _, by rw [hget_o k hkn hki]; exact r1⟩
    have blk_of : ∀ k γ, k ≠ H.n → (ρ.put H.n β') k = some γ → γ.blk = β'.blk → γ.blk = β.blk := by
      intro k γ hkn hk hb
      have := (h.lt k γ (hold k hkn γ hk)).2.2
      rcases hblk with ⟨b1, _⟩ | ⟨b1, b2⟩
      · rw [hb, b1]
      · omega
    have both : (∃ c1 gen1 ext1 frz1 e1 wh1 sg1, H'.o.get j = some (.row c1 g gen1 true ext1 frz1 e1 wh1 sg1)) → (∃ c1 gen1 ext1 frz1 e1 wh1 sg1, H'.o.get k = some (.row c1 g gen1 true ext1 frz1 e1 wh1 sg1)) → Shares H' j k := by
      rintro ⟨c1, gen1, ext1, frz1, e1, wh1, sg1, r1⟩ ⟨c2, gen2, ext2, frz2, e2, wh2, sg2, r2⟩
      exact ⟨_, _, _, _, _, _, _, _, _, _, _, _, _, _, _, r1, r2⟩
    by_cases hjn : j = H.n
    · have hkn : k ≠ H.n := fun q => hjk (hjn.trans q.symm)
      subst hjn
      have e1 := hnew _ hj
      subst e1
      exact both (any_row _ _ hj (.inl rfl)) (any_row _ _ hk (.inr (blk_of k _ hkn hk hbb.symm)))
    · by_cases hkn : k = H.n
      · subst hkn
        have e1 := hnew _ hk
        subst e1
        exact both (any_row _ _ hj (.inr (blk_of j _ hjn hj hbb))) (any_row _ _ hk (.inl rfl))
      · have hj' := hold j hjn _ hj
        have hk' := hold k hkn _ hk
        by_cases hji : j = i
        · subst hji
          rw [hi] at hj'
          cases hj'
          exact both (any_row _ _ hj (.inr rfl)) (any_row _ _ hk (.inr hbb.symm))
        · by_cases hki : k = i
          · subst hki
            rw [hi] at hk'
            cases hk'
            exact both (any_row _ _ hj (.inr hbb)) (any_row _ _ hk (.inr rfl))
          · obtain ⟨c1, g1, gen1, ext1, frz1, e1, wh1, sg1, c2, gen2, ext2, frz2, e2, wh2, sg2, r1, r2⟩ := h.sep j k βj βk hj' hk' hjk hbb
            exact ⟨_, _, _, _, _, _, _, _, _, _, _, _, _, _, _, by rw [hget_o j hjn hji]; exact r1, by rw [hget_o k hkn hki]; exact r2⟩
  · -- the tip
    rw [hgen] at q1 q2
    by_cases hjn : j = H.n
    · have hkn : k ≠ H.n := fun q => hjk (hjn.trans q.symm)
      subst hjn
      have e1' := hnew _ hj
      subst e1'
      rw [hget_n] at r1
      cases r1
      have hk' := hold k hkn _ hk
      have hkb : βk.blk = β.blk := by
        have := (h.lt k βk hk').2.2
        rcases hblk with ⟨b1, _⟩ | ⟨b1, b2⟩
        · rw [← hbb, b1]
        · omega
      have hend : β.off + c.length ≤ βj.off + cN.length := by
        have := (h.lt k βk hk').2.2
        rcases hblk with ⟨_, b1⟩ | ⟨b1, b2⟩
        · exact b1
        · omega
      by_cases hki : k = i
      · subst hki
        rw [hi] at hk'
        cases hk'
        rw [hget_i] at r2
        cases r2
        exact ⟨rfl, hend⟩
      · rw [hget_o k hkn hki] at r2
        rw [if_pos rfl] at q2
        obtain ⟨t1, t2, t3⟩ := tip_i k βk _ _ _ _ _ _ _ hk' hki hkb r2 q2
        exact ⟨t2, by omega⟩
    · have hj' := hold j hjn _ hj
      by_cases hji : j = i
      · subst hji
        rw [hget_i] at r1
        cases r1
      · rw [hget_o j hjn hji] at r1
        by_cases hkn : k = H.n
        · subst hkn
          have e1' := hnew _ hk
          subst e1'
          rw [hget_n] at r2
          cases r2
          have hjb : βj.blk = β.blk := by
            have := (h.lt j βj hj').2.2
            rcases hblk with ⟨b1, _⟩ | ⟨b1, b2⟩
            · rw [hbb, b1]
            · omega
          rw [if_pos rfl] at q1
          obtain ⟨t1, t2, t3⟩ := tip_i j βj _ _ _ _ _ _ _ hj' hji hjb r1 q1
          cases t2
        · have hk' := hold k hkn _ hk
          by_cases hki : k = i
          · subst hki
            rw [hi] at hk'
            cases hk'
            rw [hget_i] at r2
            cases r2
            rw [if_pos rfl] at q1
            obtain ⟨t1, t2, t3⟩ := tip_i j βj _ _ _ _ _ _ _ hj' hji hbb r1 q1
            cases t2
          · rw [hget_o k hkn hki] at r2
            by_cases hgg : g1 = g
            · subst hgg
              rw [if_pos rfl] at q1 q2
              obtain ⟨_, t4⟩ := live_old j βj _ _ _ _ _ _ _ hj' r1 q1
              obtain ⟨_, t5⟩ := live_old k βk _ _ _ _ _ _ _ hk' r2 q2
              exact h.tip j k βj βk _ _ _ _ _ _ _ _ _ _ _ _ _ _ hj' hk' hjk hbb r1 r2 t4 t5
            · rw [if_neg hgg] at q1 q2
              exact h.tip j k βj βk _ _ _ _ _ _ _ _ _ _ _ _ _ _ hj' hk' hjk hbb r1 r2 q1 q2
  · rw [hgen]
    by_cases hjn : j = H.n
    · subst hjn
      rw [hget_n] at r1
      cases r1
      rw [if_pos rfl]
      exact Nat.le_refl _
    · by_cases hji : j = i
      · subst hji
        rw [hget_i] at r1
        cases r1
        rw [if_pos rfl]
        exact Nat.le_refl _
      · rw [hget_o j hjn hji] at r1
        have ha := h.age j γ _ _ _ _ _ _ _ _ (hold j hjn γ hj) r1
        split
        · rename_i hgg
          subst hgg
          rw [hG]
          split <;> omega
        · exact ha
  · obtain ⟨p1, p2, p3⟩ := h.old b o v hv
    have hb := h.base
    refine ⟨?_, p2, p3⟩
    rw [cell?_world (hoth b (by omega) (by omega)), p1, (p3 (ρ.put H.n β')).2, (p3 ρ).2]

end Go.Ev
