/-
  A part of the evaluator by names: that what it answers is what the machine does. For every program and every world in which the given facts hold.
-/
import Derived.Test.YtaigaoiedjccgaaGreatDoorEvE
import Derived.OrdersIn
set_option linter.unusedVariables false
set_option linter.unusedSimpArgs false

namespace Go.Ev

/-! ### The order of a drawn region: what the tests say -/

theorem subset_spec {a b : Nat} (h : subset a b = true) (i : Nat) (k : a.testBit i = true) : b.testBit i = true := by
  have h1 : a &&& b = a := by simpa [subset, Nat.beq_eq] using h
  have : (a &&& b).testBit i = true := by rw [h1]; exact k
  rw [Nat.testBit_and] at this
  simp only [Bool.and_eq_true] at this
  exact this.2

theorem bit_or {d p i : Nat} : (d ||| 2 ^ p).testBit i = true ↔ d.testBit i = true ∨ i = p := by
  rw [Nat.testBit_or, Nat.testBit_two_pow]
  simp only [Bool.or_eq_true, decide_eq_true_eq]
  constructor
  · rintro (h | h)
    · exact .inl h
    · exact .inr h.symm
  · rintro (h | h)
    · exact .inl h
    · exact .inr h.symm

/-- An edge that binds. -/
def Edge' (ops : Array Oper) (i x : Nat) : Prop := ∃ o, ops[i]? = some o ∧ ∃ e ∈ o.after, Region.binds .any e = true ∧ e.on = x

/-- What a plan is. -/
structure PlanOk (P : Program) (ops : Array Oper) (b : List Nat) (L : List PStep) : Prop where
  lt : ∀ (j : Nat) (p : PStep), L[j]? = some p → p.i < ops.size
  inj : ∀ (j j' : Nat) (p p' : PStep), L[j]? = some p → L[j']? = some p' → p.i = p'.i → j = j'
  down : ∀ (j : Nat) (p : PStep), L[j]? = some p → ∀ x, (b.getD p.i 0).testBit x = true → ∃ (j' : Nat) (p' : PStep), j' < j ∧ L[j']? = some p' ∧ p'.i = x
  act : ∀ (j : Nat) (p : PStep), L[j]? = some p → Nat.blt (classAt P ops p.i) 3 = false → ∀ x, x < ops.size → (∃ (j' : Nat) (p' : PStep), j' < j ∧ L[j']? = some p' ∧ p'.i = x) ∨ x = p.i ∨ (b.getD x 0).testBit p.i = true
  again : ∀ (j : Nat) (p : PStep), L[j]? = some p → Nat.blt (classAt P ops p.i) 3 = false → ∀ (j' : Nat) (p' : PStep), j' < j → L[j']? = some p' → Nat.beq (classAt P ops p'.i) 2 = true → (b.getD p.i 0).testBit p'.i = true ∨ p'.i ∈ p.again
  all : ∀ x, x < ops.size → ∃ (j : Nat) (p : PStep), L[j]? = some p ∧ p.i = x

theorem planOk_spec {P : Program} {ops : Array Oper} {b : List Nat} : ∀ (L : List PStep) (d : Nat) (reads : List Nat), planOk P ops b L d reads = true →
    (∀ (j : Nat) (p : PStep), L[j]? = some p → p.i < ops.size ∧ d.testBit p.i = false ∧ (∀ (j' : Nat) (p' : PStep), j' < j → L[j']? = some p' → p'.i ≠ p.i) ∧
      (∀ x, (b.getD p.i 0).testBit x = true → d.testBit x = true ∨ ∃ (j' : Nat) (p' : PStep), j' < j ∧ L[j']? = some p' ∧ p'.i = x) ∧
      (Nat.blt (classAt P ops p.i) 3 = false →
        (∀ x, x < ops.size → d.testBit x = true ∨ (∃ (j' : Nat) (p' : PStep), j' < j ∧ L[j']? = some p' ∧ p'.i = x) ∨ x = p.i ∨ (b.getD x 0).testBit p.i = true) ∧
        (∀ r, r ∈ reads → (b.getD p.i 0).testBit r = true ∨ r ∈ p.again) ∧
        (∀ (j' : Nat) (p' : PStep), j' < j → L[j']? = some p' → Nat.beq (classAt P ops p'.i) 2 = true → (b.getD p.i 0).testBit p'.i = true ∨ p'.i ∈ p.again))) ∧
    (∀ x, x < ops.size → d.testBit x = true ∨ ∃ (j : Nat) (p : PStep), L[j]? = some p ∧ p.i = x)
  | [], d, reads, h => by
    refine ⟨fun j p hj => by simp at hj, fun x hx => .inl ?_⟩
    have hd : d = 2 ^ ops.size - 1 := by simpa [planOk, Nat.beq_eq] using h
    rw [hd, Nat.testBit_two_pow_sub_one]
    simp [hx]
  | p :: L, d, reads, h => by
    simp only [planOk, Bool.and_eq_true, Bool.not_eq_true'] at h
    obtain ⟨⟨⟨⟨h1, h2⟩, h3⟩, h4⟩, h5⟩ := h
    obtain ⟨ih1, ih2⟩ := planOk_spec L _ _ h5
    refine ⟨fun j q hj => ?_, fun x hx => ?_⟩
    · cases j with
      | zero =>
        simp only [List.getElem?_cons_zero, Option.some.injEq] at hj
        subst hj
        refine ⟨by simpa [Nat.blt_eq] using h2, h1, fun j' p' hj' => by omega, fun x hx => .inl (subset_spec h3 x hx), fun hc => ?_⟩
        rw [hc] at h4
        simp only [Bool.and_eq_true, List.all_eq_true, List.mem_range, Bool.or_eq_true, Nat.beq_eq] at h4
        refine ⟨fun x hx => ?_, fun r hr => ?_, fun j' p' hj' => by omega⟩
        · rcases h4.1 x hx with (q | q) | q
          · exact .inl q
          · exact .inr (.inr (.inl (by simpa [Nat.beq_eq] using q)))
          · exact .inr (.inr (.inr q))
        · rcases h4.2 r hr with q | q
          · exact .inl q
          · exact .inr (by simpa using q)
      | succ j =>
        simp only [List.getElem?_cons_succ] at hj
        obtain ⟨a1, a2, a3, a4, a5⟩ := ih1 j q hj
        have a2' : d.testBit q.i = false ∧ q.i ≠ p.i := by
          constructor
          · cases hd : d.testBit q.i with
            | false => rfl
            | true => rw [bit_or.2 (.inl hd)] at a2; cases a2
          · intro e
            rw [bit_or.2 (.inr e)] at a2; cases a2
        refine ⟨a1, a2'.1, fun j' p' hj' hp' => ?_, fun x hx => ?_, fun hc => ?_⟩
        · cases j' with
          | zero =>
            simp only [List.getElem?_cons_zero, Option.some.injEq] at hp'
            subst hp'
            exact fun e => a2'.2 e.symm
          | succ j' =>
            simp only [List.getElem?_cons_succ] at hp'
            exact a3 j' p' (by omega) hp'
        · rcases a4 x hx with q' | ⟨j', p', q1, q2, q3⟩
          · rcases bit_or.1 q' with q' | q'
            · exact .inl q'
            · exact .inr ⟨0, p, by omega, rfl, q'.symm⟩
          · exact .inr ⟨j' + 1, p', by omega, by simpa using q2, q3⟩
        · obtain ⟨b1, b2, b3⟩ := a5 hc
          refine ⟨fun x hx => ?_, fun r hr => ?_, fun j' p' hj' hp' hc' => ?_⟩
          · rcases b1 x hx with q' | ⟨j', p', q1, q2, q3⟩ | q' | q'
            · rcases bit_or.1 q' with q' | q'
              · exact .inl q'
              · exact .inr (.inl ⟨0, p, by omega, rfl, q'.symm⟩)
            · exact .inr (.inl ⟨j' + 1, p', by omega, by simpa using q2, q3⟩)
            · exact .inr (.inr (.inl q'))
            · exact .inr (.inr (.inr q'))
          · refine b2 r ?_
            split
            · exact List.mem_cons_of_mem _ hr
            · exact hr
          · cases j' with
            | zero =>
              simp only [List.getElem?_cons_zero, Option.some.injEq] at hp'
              subst hp'
              refine b2 p.i ?_
              rw [hc']
              simp
            | succ j' =>
              simp only [List.getElem?_cons_succ] at hp'
              exact b3 j' p' (by omega) hp' hc'
    · rcases ih2 x hx with q | ⟨j, q, q1, q2⟩
      · rcases bit_or.1 q with q | q
        · exact .inl q
        · exact .inr ⟨0, p, rfl, q.symm⟩
      · exact .inr ⟨j + 1, q, by simpa using q1, q2⟩

theorem planOk_ok {P : Program} {ops : Array Oper} {b : List Nat} {L : List PStep} (h : planOk P ops b L 0 [] = true) : PlanOk P ops b L := by
  obtain ⟨h1, h2⟩ := planOk_spec L 0 [] h
  have z : ∀ x, (0 : Nat).testBit x = true → False := fun x hx => by simp at hx
  refine ⟨fun j p hj => (h1 j p hj).1, fun j j' p p' hj hj' e => ?_, fun j p hj x hx => ?_, fun j p hj hc x hx => ?_, fun j p hj hc j' p' h' hp' hc' => ((h1 j p hj).2.2.2.2 hc).2.2 j' p' h' hp' hc', fun x hx => ?_⟩
  · rcases Nat.lt_trichotomy j j' with q | q | q
    · exact absurd e ((h1 j' p' hj').2.2.1 j p q hj)
    · exact q
    · exact absurd e.symm ((h1 j p hj).2.2.1 j' p' q hj')
  · rcases (h1 j p hj).2.2.2.1 x hx with q | q
    · exact (z _ q).elim
    · exact q
  · rcases ((h1 j p hj).2.2.2.2 hc).1 x hx with q | q
    · exact (z _ q).elim
    · exact q
  · rcases h2 x hx with q | q
    · exact (z _ q).elim
    · exact q

/-! ### Who comes before -/

theorem befs_len : ∀ (os : List Oper) (acc : List Nat), (befs os acc).length = acc.length + os.length
  | [], acc => by simp [befs]
  | o :: os, acc => by rw [befs, befs_len os]; simp; omega

theorem befs_keep : ∀ (os : List Oper) (acc : List Nat) (i : Nat), i < acc.length → (befs os acc).getD i 0 = acc.getD i 0
  | [], acc, i, h => rfl
  | o :: os, acc, i, h => by
    rw [befs, befs_keep os _ i (by simp; omega)]
    rw [List.getD_eq_getElem?_getD, List.getD_eq_getElem?_getD, List.getElem?_append_left h]

theorem befs_bits {es : List Edge} {acc : List Nat} {x : Nat} : ∀ (s : Nat), (es.foldl (fun s e => match Region.binds .any e with
    | true => s ||| 2 ^ e.on ||| acc.getD e.on 0
    | false => s) s).testBit x = true ↔ s.testBit x = true ∨ ∃ e ∈ es, Region.binds .any e = true ∧ (x = e.on ∨ (acc.getD e.on 0).testBit x = true) := by
  induction es with
  | nil => intro s; simp
  | cons e es ih =>
    intro s
    rw [List.foldl_cons, ih]
    cases hb : Region.binds .any e with
    | false =>
      simp only [List.mem_cons, exists_eq_or_imp, hb, Bool.false_eq_true, false_and, false_or]
    | true =>
      simp only [List.mem_cons, exists_eq_or_imp, hb, true_and]
      rw [Nat.testBit_or, Bool.or_eq_true, bit_or]
      constructor
      · rintro ((q | q) | q)
        · rcases q with q | q
          · exact .inl q
          · exact .inr (.inl (.inl q))
        · exact .inr (.inl (.inr q))
        · exact .inr (.inr q)
      · rintro (q | (q | q) | q)
        · exact .inl (.inl (.inl q))
        · exact .inl (.inl (.inr q))
        · exact .inl (.inr q)
        · exact .inr q

theorem befs_at {full : List Oper} : ∀ (os : List Oper) (acc : List Nat) (pre : List Oper), full = pre ++ os → acc.length = pre.length → edgesDown os acc.length = true →
    ∀ i o, acc.length ≤ i → full[i]? = some o → ∀ x, ((befs os acc).getD i 0).testBit x = true ↔ ∃ e ∈ o.after, Region.binds .any e = true ∧ (x = e.on ∨ ((befs os acc).getD e.on 0).testBit x = true)
  | [], acc, pre, hf, hl, _, i, o, hi, ho, x => by
    rw [hf] at ho
    rw [List.getElem?_eq_none (by simp; omega)] at ho
    cases ho
  | o1 :: os, acc, pre, hf, hl, hd, i, o, hi, ho, x => by
    simp only [edgesDown, Bool.and_eq_true] at hd
    obtain ⟨hd1, hd2⟩ := hd
    let m := o1.after.toList.foldl (fun s e => match Region.binds .any e with
      | true => s ||| 2 ^ e.on ||| acc.getD e.on 0
      | false => s) 0
    have eb : befs (o1 :: os) acc = befs os (acc ++ [m]) := rfl
    rw [eb]
    by_cases h : i = acc.length
    · subst h
      have ho1 : o1 = o := by
        rw [hf, hl, List.getElem?_append_right (Nat.le_refl _)] at ho
        simpa using ho
      subst ho1
      rw [befs_keep os _ _ (by simp)]
      have : (acc ++ [m]).getD acc.length 0 = m := by simp [List.getD_eq_getElem?_getD]
      rw [this, befs_bits]
      simp only [Nat.zero_testBit, Bool.false_eq_true, false_or]
      constructor
      · rintro ⟨e, he, hb, q⟩
        refine ⟨e, by simpa using he, hb, ?_⟩
        rcases q with q | q
        · exact .inl q
        · have hlt : e.on < acc.length := by
            have := (List.all_eq_true.1 hd1) e he
            simp only [hb, Bool.not_true, Bool.false_or, Nat.blt_eq] at this
            exact this
          refine .inr ?_
          rw [befs_keep os _ _ (by simp; omega), List.getD_eq_getElem?_getD, List.getElem?_append_left hlt, ← List.getD_eq_getElem?_getD]
          exact q
      · rintro ⟨e, he, hb, q⟩
        refine ⟨e, by simpa using he, hb, ?_⟩
        rcases q with q | q
        · exact .inl q
        · have hlt : e.on < acc.length := by
            have := (List.all_eq_true.1 hd1) e (by simpa using he)
            simp only [hb, Bool.not_true, Bool.false_or, Nat.blt_eq] at this
            exact this
          refine .inr ?_
          rw [befs_keep os _ _ (by simp; omega), List.getD_eq_getElem?_getD, List.getElem?_append_left hlt, ← List.getD_eq_getElem?_getD] at q
          exact q
    · exact befs_at os (acc ++ [m]) (pre ++ [o1]) (by simp [hf]) (by simp [hl]) (by simpa using hd2) i o (by simp; omega) ho x

theorem edgesDown_at : ∀ (os : List Oper) (n : Nat), edgesDown os n = true → ∀ i o, os[i]? = some o → ∀ e ∈ o.after, Region.binds .any e = true → e.on < n + i
  | [], n, h, i, o, ho, e, he, hb => by simp at ho
  | o1 :: os, n, h, i, o, ho, e, he, hb => by
    simp only [edgesDown, Bool.and_eq_true] at h
    cases i with
    | zero =>
      simp only [List.getElem?_cons_zero, Option.some.injEq] at ho
      subst ho
      have := (List.all_eq_true.1 h.1) e (by simpa using he)
      simp only [hb, Bool.not_true, Bool.false_or, Nat.blt_eq] at this
      omega
    | succ i =>
      simp only [List.getElem?_cons_succ] at ho
      have := edgesDown_at os (n + 1) h.2 i o ho e he hb
      omega

/-- The sets of those that come before. -/
structure BefOk (ops : Array Oper) (b : List Nat) : Prop where
  down : ∀ i o, ops[i]? = some o → ∀ e ∈ o.after, Region.binds .any e = true → e.on < i
  at_ : ∀ i o, ops[i]? = some o → ∀ x, (b.getD i 0).testBit x = true ↔ ∃ e ∈ o.after, Region.binds .any e = true ∧ (x = e.on ∨ (b.getD e.on 0).testBit x = true)

theorem befs_ok {ops : Array Oper} (h : edgesDown ops.toList 0 = true) : BefOk ops (befs ops.toList []) where
  down := fun i o ho e he hb => by
    have := edgesDown_at ops.toList 0 h i o (by simpa using ho) e he hb
    omega
  at_ := fun i o ho x => befs_at (full := ops.toList) ops.toList [] [] rfl rfl h i o (Nat.zero_le _) (by simpa using ho) x

theorem BefOk.lt {ops : Array Oper} {b : List Nat} (h : BefOk ops b) : ∀ i, i < ops.size → ∀ x, (b.getD i 0).testBit x = true → x < i := by
  intro i
  induction i using Nat.strongRecOn with
  | _ i ih =>
    intro hi x hx
    have ho : ops[i]? = some ops[i] := by simp [hi]
    obtain ⟨e, he, hb, q⟩ := (h.at_ i _ ho x).1 hx
    have hl := h.down i _ ho e he hb
    rcases q with q | q
    · omega
    · have := ih e.on hl (by omega) x q
      omega

/-- What holds along every edge holds of all that come before. -/
theorem BefOk.closed {ops : Array Oper} {b : List Nat} (h : BefOk ops b) {D : Nat → Prop} (hD : ∀ i o, ops[i]? = some o → D i → ∀ e ∈ o.after, Region.binds .any e = true → D e.on) :
    ∀ i o, ops[i]? = some o → (∀ e ∈ o.after, Region.binds .any e = true → D e.on) → ∀ x, (b.getD i 0).testBit x = true → D x := by
  intro i
  induction i using Nat.strongRecOn with
  | _ i ih =>
    intro o ho hr x hx
    obtain ⟨e, he, hb, q⟩ := (h.at_ i _ ho x).1 hx
    have hl := h.down i _ ho e he hb
    rcases q with q | q
    · subst q; exact hr e he hb
    · have hi : i < ops.size := (Array.getElem?_eq_some_iff.1 ho).1
      have ho' : ops[e.on]? = some ops[e.on] := by simp [show e.on < ops.size by omega]
      exact ih e.on hl _ ho' (hD e.on _ ho' (hr e he hb)) x q

/-! ### Slots -/

/-- Whoever names a slot that another one writes is ordered with it. -/
structure SlotsOk (ops : Array Oper) (b : List Nat) : Prop where
  read : ∀ i j o p t, i < j → ops[j]? = some o → ops[i]? = some p → p.dst = some t → t ∈ readsOf ops o → (b.getD j 0).testBit i = true
  write : ∀ i j o p t, i < j → ops[j]? = some o → ops[i]? = some p → o.dst = some t → (p.dst = some t ∨ t ∈ readsOf ops p) → (b.getD j 0).testBit i = true

theorem fold_use {j : Nat} {t : Tmp} : ∀ (l : List Tmp) (U : Tr Nat),
    ((∃ m, U.get t = some m ∧ m.testBit j = true) ∨ t ∈ l → ∃ m, (l.foldl (fun U t => U.set t (2 ^ j ||| match U.get t with | some m => m | none => 0)) U).get t = some m ∧ m.testBit j = true) ∧
    (∀ i, (∃ m, U.get t = some m ∧ m.testBit i = true) → ∃ m, (l.foldl (fun U t => U.set t (2 ^ j ||| match U.get t with | some m => m | none => 0)) U).get t = some m ∧ m.testBit i = true)
  | [], U => ⟨fun h => h.elim id (fun h => by cases h), fun i h => h⟩
  | s :: l, U => by
    obtain ⟨ih1, ih2⟩ := fold_use (j := j) (t := t) l (U.set s (2 ^ j ||| match U.get s with | some m => m | none => 0))
    have keep : ∀ i, (∃ m, U.get t = some m ∧ m.testBit i = true) → ∃ m, (U.set s (2 ^ j ||| match U.get s with | some m => m | none => 0)).get t = some m ∧ m.testBit i = true := by
      rintro i ⟨m, h1, h2⟩
      rw [Tr.get_set]
      by_cases e : t = s
      · subst e
        rw [if_pos rfl, h1]
        exact ⟨_, rfl, by rw [Nat.testBit_or, h2]; simp⟩
      · rw [if_neg e]
        exact ⟨m, h1, h2⟩
    refine ⟨fun h => ?_, fun i h => ih2 i (keep i h)⟩
    rw [List.foldl_cons]
    rcases h with h | h
    · exact ih1 (.inl (keep j h))
    · rcases List.mem_cons.1 h with h | h
      · subst h
        refine ih1 (.inl ?_)
        rw [Tr.get_set, if_pos rfl]
        exact ⟨_, rfl, by rw [Nat.testBit_or, Nat.testBit_two_pow]; simp⟩
      · exact ih1 (.inr h)

theorem slotsOk_spec {ops : Array Oper} {full : List Nat} : ∀ (os : List Oper) (j : Nat) (bs : List Nat) (W U : Tr Nat), slotsOk ops os j bs W U = true →
    (∀ k o, os[k]? = some o → ops[j + k]? = some o) → (∀ k, bs[k]? = full[j + k]?) →
    (∀ i p t, i < j → ops[i]? = some p → p.dst = some t → ∃ m, W.get t = some m ∧ m.testBit i = true) →
    (∀ i p t, i < j → ops[i]? = some p → (p.dst = some t ∨ t ∈ readsOf ops p) → ∃ m, U.get t = some m ∧ m.testBit i = true) →
    ∀ k o, os[k]? = some o → ∀ i p t, i < j + k → ops[i]? = some p →
      (p.dst = some t → t ∈ readsOf ops o → (full.getD (j + k) 0).testBit i = true) ∧ (o.dst = some t → (p.dst = some t ∨ t ∈ readsOf ops p) → (full.getD (j + k) 0).testBit i = true)
  | [], j, bs, W, U, h, _, _, _, _, k, o, ho => by simp at ho
  | o1 :: os, j, [], W, U, h, _, _, _, _, k, o, ho => by simp [slotsOk] at h
  | o1 :: os, j, b1 :: bs, W, U, h, hops, hbs, hW, hU, k, o, ho => by
    simp only [slotsOk, Bool.and_eq_true] at h
    obtain ⟨⟨h1, h2⟩, h3⟩ := h
    have ho1 : ops[j]? = some o1 := by simpa using hops 0 o1 rfl
    have hb1 : full.getD j 0 = b1 := by
      have := hbs 0
      simp only [List.getElem?_cons_zero, Nat.add_zero] at this
      rw [List.getD_eq_getElem?_getD, ← this]; rfl
    cases k with
    | zero =>
      simp only [List.getElem?_cons_zero, Option.some.injEq] at ho
      subst ho
      intro i p t hi hp
      simp only [Nat.add_zero] at hi ⊢
      rw [hb1]
      refine ⟨fun hd hr => ?_, fun hd hr => ?_⟩
      · obtain ⟨m, q1, q2⟩ := hW i p t hi hp hd
        have := (List.all_eq_true.1 h1) t hr
        rw [q1] at this
        exact subset_spec this i q2
      · obtain ⟨m, q1, q2⟩ := hU i p t hi hp hr
        rw [hd] at h2
        simp only [q1] at h2
        exact subset_spec h2 i q2
    | succ k =>
      simp only [List.getElem?_cons_succ] at ho
      have := slotsOk_spec os (j + 1) bs _ _ h3 (fun k o hk => by rw [show j + 1 + k = j + (k + 1) by omega]; exact hops (k + 1) o (by simpa using hk))
        (fun k => by rw [show j + 1 + k = j + (k + 1) by omega, ← hbs (k + 1)]; simp) (fun i p t hi hp hd => ?_) (fun i p t hi hp hd => ?_) k o ho
      · intro i p t hi hp
        rw [show j + (k + 1) = j + 1 + k by omega]
        exact this i p t (by omega) hp
      · by_cases e : i = j
        · subst e
          rw [ho1] at hp
          cases hp
          rw [hd]
          simp only [Tr.get_set, if_true]
          exact ⟨_, rfl, by rw [Nat.testBit_or, Nat.testBit_two_pow]; simp⟩
        · obtain ⟨m, q1, q2⟩ := hW i p t (by omega) hp hd
          cases hd1 : o1.dst with
          | none => exact ⟨m, q1, q2⟩
          | some t1 =>
            simp only [Tr.get_set]
            by_cases e' : t = t1
            · subst e'
              rw [if_pos rfl, q1]
              exact ⟨_, rfl, by rw [Nat.testBit_or, q2]; simp⟩
            · rw [if_neg e']
              exact ⟨m, q1, q2⟩
      · by_cases e : i = j
        · subst e
          rw [ho1] at hp
          cases hp
          refine (fold_use _ U).1 (.inr ?_)
          rcases hd with hd | hd
          · simp [hd]
          · simp [hd]
        · exact (fold_use _ U).2 i (hU i p t (by omega) hp hd)

theorem slotsOk_ok {ops : Array Oper} {b : List Nat} (h : slotsOk ops ops.toList 0 b .leaf .leaf = true) : SlotsOk ops b := by
  have := slotsOk_spec (full := b) ops.toList 0 b .leaf .leaf h (fun k o hk => by simpa using hk) (fun k => by simp) (fun i p t hi => by omega) (fun i p t hi => by omega)
  refine ⟨fun i j o p t hij ho hp hd hr => ?_, fun i j o p t hij ho hp hd hr => ?_⟩
  · have := (this j o (by simpa using ho) i p t (by omega) hp).1 hd hr
    simpa using this
  · have := (this j o (by simpa using ho) i p t (by omega) hp).2 hd hr
    simpa using this

theorem plan_ok {P : Program} {ops : Array Oper} {L : List PStep} (h : plan P ops = some L) : ∃ b, BefOk ops b ∧ SlotsOk ops b ∧ PlanOk P ops b L := by
  unfold plan at h
  simp only at h
  split at h
  · rename_i hh
    simp only [Bool.and_eq_true] at hh
    split at h
    · split at h
      · rename_i hp
        cases h
        exact ⟨_, befs_ok hh.1, slotsOk_ok hh.2, planOk_ok hp⟩
      · cases h
    · cases h
  · cases h

end Go.Ev

namespace Go.Ev

variable {C : Ctx} {N : Nat}

/-! ### What the evaluator did -/

inductive PStepOk (call : CallF) (C : Ctx) (nt : Nat) (ops : Array Oper) (p : PStep) (rd : List (Nat × Tr AV × AV)) (s : St) : St → AV → Prop
  | off {o : Oper} {tm : Tr AV} : ops[p.i]? = some o → wantedF ops s.tm o = false → putF nt s.tm o.dst .undef = some tm → PStepOk call C nt ops p rd s { s with tm } .undef
  | val {o : Oper} {v : AV} {H : AH} {tm : Tr AV} : ops[p.i]? = some o → wantedF ops s.tm o = true → evOp o.op C s.tm s.H = some (.val v H) → stillF C ops H p.again rd = true → freshF C.P o.op s.H = true →
      putF nt s.tm o.dst v = some tm → PStepOk call C nt ops p rd s { tm, H, df := s.df } v
  | skip {o : Oper} {H : AH} {tm : Tr AV} : ops[p.i]? = some o → wantedF ops s.tm o = true → evOp o.op C s.tm s.H = some (.skip H) → stillF C ops H p.again rd = true →
      putF nt s.tm o.dst .undef = some tm → PStepOk call C nt ops p rd s { tm, H, df := s.df } .undef
  | call {o : Oper} {c : AC} {args : List AV} {H H' : AH} {v : AV} {tm : Tr AV} : ops[p.i]? = some o → wantedF ops s.tm o = true → evOp o.op C s.tm s.H = some (.call c args H) → call c args H = some (.ret v, H') →
      stillF C ops H' p.again rd = true → putF nt s.tm o.dst v = some tm → PStepOk call C nt ops p rd s { tm, H := H', df := s.df } v

/-- The evaluator's states, values and readings, one behind the other. -/
structure Trace (call : CallF) (C : Ctx) (nt : Nat) (ops : Array Oper) (L : List PStep) (S : Nat → St) (V : Nat → AV) (R : Nat → List (Nat × Tr AV × AV)) : Prop where
  step : ∀ (j : Nat) (p : PStep), L[j]? = some p → PStepOk call C nt ops p (R j) (S j) (S (j + 1)) (V j)
  keep : ∀ (j : Nat) (p : PStep), L[j]? = some p → ∀ x ∈ R j, x ∈ R (j + 1)
  read : ∀ (j : Nat) (p : PStep), L[j]? = some p → ∀ o, ops[p.i]? = some o → wantedF ops (S j).tm o = true → opClass C.P o.op = 2 → (p.i, (S j).tm, V j) ∈ R (j + 1)

/-- One step put ahead. -/
def pre {α : Type} (x : α) (f : Nat → α) : Nat → α
  | 0 => x
  | j + 1 => f j

theorem Trace.cons {call : CallF} {nt : Nat} {ops : Array Oper} {L : List PStep} {S : Nat → St} {V : Nat → AV} {R : Nat → List (Nat × Tr AV × AV)} (h : Trace call C nt ops L S V R) {p : PStep} {rd : List (Nat × Tr AV × AV)}
    {s : St} {v : AV} (h1 : PStepOk call C nt ops p rd s (S 0) v) (h2 : ∀ x ∈ rd, x ∈ R 0) (h3 : ∀ o, ops[p.i]? = some o → wantedF ops s.tm o = true → opClass C.P o.op = 2 → (p.i, s.tm, v) ∈ R 0) :
    Trace call C nt ops (p :: L) (pre s S) (pre v V) (pre rd R) where
  step := fun j q hj => by
    cases j with
    | zero => cases hj; exact h1
    | succ j => exact h.step j q (by simpa using hj)
  keep := fun j q hj => by
    cases j with
    | zero => cases hj; exact h2
    | succ j => exact h.keep j q (by simpa using hj)
  read := fun j q hj => by
    cases j with
    | zero => cases hj; exact h3
    | succ j => exact h.read j q (by simpa using hj)

theorem evPlan_trace {call : CallF} {nt : Nat} {ops : Array Oper} : ∀ (L : List PStep) (rd : List (Nat × Tr AV × AV)) (s : St) (e : AE) (s' : St), evPlan call C nt ops L rd s = some (e, s') →
    e = .norm ∧ ∃ S V R, S 0 = s ∧ S L.length = s' ∧ R 0 = rd ∧ Trace call C nt ops L S V R
  | [], rd, s, e, s', h => by
    simp only [evPlan, Option.some.injEq, Prod.mk.injEq] at h
    obtain ⟨rfl, rfl⟩ := h
    exact ⟨rfl, fun _ => s, fun _ => .undef, fun _ => rd, rfl, rfl, rfl, ⟨fun j p hj => by simp at hj, fun j p hj => by simp at hj, fun j p hj => by simp at hj⟩⟩
  | p :: L, rd, s, e, s', h => by
    unfold evPlan at h
    split at h
    · cases h
    rename_i o ho
    split at h
    · rename_i hw
      split at h
      · cases h
      rename_i tm hp
      obtain ⟨he, S, V, R, q1, q2, q3, q4⟩ := evPlan_trace L rd _ e s' h
      refine ⟨he, pre s S, pre .undef V, pre rd R, rfl, q2, rfl, q4.cons ?_ (fun x hx => by rw [q3]; exact hx) (fun o' ho' hw' => ?_)⟩
      · rw [q1]; exact .off ho hw hp
      · rw [ho] at ho'; cases ho'; rw [hw] at hw'; cases hw'
    · rename_i hw
      split at h
      · cases h
      · rename_i v H hev
        split at h
        · cases h
        rename_i hs
        simp only [Bool.and_eq_true] at hs
        split at h
        · cases h
        rename_i tm hp
        obtain ⟨he, S, V, R, q1, q2, q3, q4⟩ := evPlan_trace L _ _ e s' h
        refine ⟨he, pre s S, pre v V, pre rd R, rfl, q2, rfl, q4.cons ?_ (fun x hx => ?_) (fun o' ho' hw' hc => ?_)⟩
        · rw [q1]; exact .val ho hw hev hs.1 hs.2 hp
        · rw [q3]
          split
          · exact List.mem_cons_of_mem _ hx
          · exact hx
        · rw [ho] at ho'
          cases ho'
          rw [q3, hc]
          simp
      · rename_i H hev
        split at h
        · cases h
        rename_i hs
        split at h
        · cases h
        rename_i tm hp
        obtain ⟨he, S, V, R, q1, q2, q3, q4⟩ := evPlan_trace L _ _ e s' h
        refine ⟨he, pre s S, pre .undef V, pre rd R, rfl, q2, rfl, q4.cons ?_ (fun x hx => by rw [q3]; exact hx) (fun o' ho' hw' hc => ?_)⟩
        · rw [q1]; exact .skip ho hw hev hs hp
        · rw [ho] at ho'
          cases ho'
          obtain ⟨v, hv, _⟩ := class2_le (H := s.H) (H' := s.H) ⟨fun i x hx => hx, rfl⟩ hc hev
          cases hv
      · cases h
      · cases h
      · rename_i c args H hev
        split at h
        · cases h
        · cases h
        · rename_i v H' hcr
          split at h
          · cases h
          rename_i hs
          split at h
          · cases h
          rename_i tm hp
          obtain ⟨he, S, V, R, q1, q2, q3, q4⟩ := evPlan_trace L _ _ e s' h
          refine ⟨he, pre s S, pre v V, pre rd R, rfl, q2, rfl, q4.cons ?_ (fun x hx => by rw [q3]; exact hx) (fun o' ho' hw' hc => ?_)⟩
          · rw [q1]; exact .call ho hw hev hcr hs hp
          · rw [ho] at ho'
            cases ho'
            obtain ⟨v, hv, _⟩ := class2_le (H := s.H) (H' := s.H) ⟨fun i x hx => hx, rfl⟩ hc hev
            cases hv

theorem PStepOk.df {call : CallF} {nt : Nat} {ops : Array Oper} {p : PStep} {rd : List (Nat × Tr AV × AV)} {s s' : St} {v : AV} (h : PStepOk call C nt ops p rd s s' v) : s'.df = s.df := by
  cases h <;> rfl

theorem Trace.df {call : CallF} {nt : Nat} {ops : Array Oper} {L : List PStep} {S : Nat → St} {V : Nat → AV} {R : Nat → List (Nat × Tr AV × AV)} (h : Trace call C nt ops L S V R) : ∀ j, j ≤ L.length → (S j).df = (S 0).df
  | 0, _ => rfl
  | j + 1, hj => by
    have hp : L[j]? = some L[j] := by simp
    rw [← h.df j (by omega)]
    exact (h.step j _ hp).df

theorem Trace.reads {call : CallF} {nt : Nat} {ops : Array Oper} {L : List PStep} {S : Nat → St} {V : Nat → AV} {R : Nat → List (Nat × Tr AV × AV)} (h : Trace call C nt ops L S V R) {j : Nat} {p : PStep} (hp : L[j]? = some p)
    {o : Oper} (ho : ops[p.i]? = some o) (hw : wantedF ops (S j).tm o = true) (hc : opClass C.P o.op = 2) : ∀ k, j < k → k ≤ L.length → (p.i, (S j).tm, V j) ∈ R k
  | 0, hk, _ => by omega
  | k + 1, hk, hl => by
    by_cases e : j = k
    · subst e
      exact h.read j p hp o ho hw hc
    · exact h.keep k L[k] (by simp) _ (h.reads hp ho hw hc k (by omega) (by omega))

theorem still_spec {ops : Array Oper} {H : AH} {again : List Nat} : ∀ {l : List (Nat × Tr AV × AV)}, stillF C ops H again l = true → ∀ {p : Nat} {tm : Tr AV} {v : AV}, (p, tm, v) ∈ l → p ∈ again → ∀ {o : Oper}, ops[p]? = some o →
    ∃ H1, evOp o.op C tm H = some (.val v H1)
  | [], _, p, tm, v, hm, _, o, _ => by cases hm
  | (p1, tm1, v1) :: l, h, p, tm, v, hm, ha, o, ho => by
    simp only [stillF, Bool.and_eq_true, Bool.or_eq_true, Bool.not_eq_true'] at h
    obtain ⟨h1, h2⟩ := h
    rcases List.mem_cons.1 hm with e | e
    · simp only [Prod.mk.injEq] at e
      obtain ⟨e1, e2, e3⟩ := e
      rw [← e1, ← e2, ← e3] at h1
      rcases h1 with h1 | h1
      · have : again.contains p = true := by simpa using ha
        rw [this] at h1; cases h1
      · rw [ho] at h1
        simp only at h1
        split at h1
        · rename_i v' H1 hev
          rw [sameA_eq h1]
          exact ⟨H1, hev⟩
        · cases h1
    · exact still_spec h2 e ha ho

theorem class1_new {op : Op} {tm : Tr AV} {H : AH} {r : OR} (hc : opClass C.P op = 1) (h : evOp op C tm H = some r) : ∃ v ob, r = .val v (H.new ob) := by
  cases op <;> simp only [opClass] at hc
  case alloc e =>
    simp only [evOp, opAlloc] at h
    split at h
    · cases h; exact ⟨_, _, rfl⟩
    · cases h
  case box e x => cases h; exact ⟨_, _, rfl⟩
  case buildSlice t n ps =>
    obtain ⟨v, H1, hv, rfl⟩ := valH_inv h
    unfold buildSliceF at hv
    split at hv
    · split at hv
      · cases hv
      · split at hv
        · cases hv
        · split at hv
          · cases hv
          · cases hv; exact ⟨_, _, rfl⟩
    · cases hv
  case makeMap t x =>
    simp only [evOp, opMakeMap] at h
    split at h
    · cases h; exact ⟨_, _, rfl⟩
    · cases h
  case makeSlice t l c =>
    obtain ⟨v, H1, hv, rfl⟩ := valH_inv h
    unfold makeSliceF at hv
    split at hv
    · split at hv
      · split at hv
        · cases hv; exact ⟨_, _, rfl⟩
        · cases hv
      · cases hv
    · cases hv
  case convert s d x =>
    obtain ⟨v, H1, hv, rfl⟩ := valH_inv h
    unfold convClass at hc
    split at hc
    · rename_i e hs hd
      unfold convertF at hv
      rw [hs, hd] at hv
      simp only at hv
      split at hv
      · split at hv
        · cases hv; exact ⟨_, _, rfl⟩
        · cases hv
      · cases hv
    · cases hc
    · cases hc
    · cases hc
    · cases hc
  case call c => split at hc <;> cases hc
  all_goals cases hc

theorem new_inj {H : AH} {o o' : AObj} (h : H.new o = H.new o') : o = o' := by
  have : (H.new o).o.get H.n = (H.new o').o.get H.n := by rw [h]
  simpa [AH.new, Tr.get_set] using this

theorem new_get {H : AH} {o : AObj} : (H.new o).o.get H.n = some o := by simp [AH.new, Tr.get_set]

theorem new_le {H : AH} {o : AObj} (h : (H.o.get H.n).isNone = true) : H.le (H.new o) := ⟨fun i x hx => by
  simp only [AH.new, Tr.get_set]
  rw [if_neg]
  · exact hx
  · rintro rfl
    rw [hx] at h
    simp at h, rfl⟩

/-! ### The slots -/

def dstOf (ops : Array Oper) (i : Nat) : Option Tmp := (ops[i]?).bind (·.dst)

/-- What stands in a slot when 'D' is done. -/
def SlotIs (ops : Array Oper) (L : List PStep) (V : Nat → AV) (tm0 : Tr AV) (D : Nat → Prop) (t : Tmp) (v : AV) : Prop :=
  ((∀ i, D i → dstOf ops i ≠ some t) ∧ v = slot tm0 t) ∨
  ∃ (j : Nat) (p : PStep), L[j]? = some p ∧ D p.i ∧ dstOf ops p.i = some t ∧ (∀ i, D i → dstOf ops i = some t → i ≤ p.i) ∧ v = V j

/-- Whoever is in it, those that come before are in it. -/
structure Closed (ops : Array Oper) (b : List Nat) (D : Nat → Prop) : Prop where
  lt : ∀ i, D i → i < ops.size
  bef : ∀ i, D i → ∀ x, (b.getD i 0).testBit x = true → D x

section
variable {ops : Array Oper} {b : List Nat} {L : List PStep} {V : Nat → AV} {tm0 : Tr AV} {D D' : Nat → Prop}

theorem SlotIs.eq (hL : PlanOk C.P ops b L) {t : Tmp} {v v' : AV} (h : SlotIs ops L V tm0 D t v) (h' : SlotIs ops L V tm0 D' t v') (hD : ∀ i, dstOf ops i = some t → (D i ↔ D' i)) : v = v' := by
  rcases h with ⟨a, rfl⟩ | ⟨j, p, a1, a2, a3, a4, rfl⟩ <;> rcases h' with ⟨c, rfl⟩ | ⟨k, q, c1, c2, c3, c4, rfl⟩
  · rfl
  · exact absurd c3 (a _ ((hD _ c3).2 c2))
  · exact absurd a3 (c _ ((hD _ a3).1 a2))
  · have e1 := a4 q.i ((hD _ c3).2 c2) c3
    have e2 := c4 p.i ((hD _ a3).1 a2) a3
    rw [hL.inj j k p q a1 c1 (by omega)]

theorem SlotIs.put {nt : Nat} {tm tm' : Tr AV} {o : Oper} {j : Nat} {p : PStep} (h : ∀ t, SlotIs ops L V tm0 D t (slot tm t)) (hp : L[j]? = some p) (ho : ops[p.i]? = some o)
    (hle : ∀ i t, D i → o.dst = some t → dstOf ops i = some t → i ≤ p.i) (hput : putF nt tm o.dst (V j) = some tm') (hD : ∀ i, D' i ↔ D i ∨ i = p.i) : ∀ t, SlotIs ops L V tm0 D' t (slot tm' t) := by
  have hdst : dstOf ops p.i = o.dst := by simp [dstOf, ho]
  intro t
  by_cases ht : o.dst = some t
  · rw [ht] at hput
    simp only [putF] at hput
    split at hput
    · cases hput
      refine .inr ⟨j, p, hp, (hD _).2 (.inr rfl), by rw [hdst, ht], fun i hi hd => ?_, by simp [slot_set]⟩
      rcases (hD i).1 hi with q | q
      · exact hle i t q ht hd
      · omega
    · cases hput
  · have hs : slot tm' t = slot tm t := by
      cases hd : o.dst with
      | none => rw [hd] at hput; cases hput; rfl
      | some d =>
        rw [hd] at hput
        simp only [putF] at hput
        split at hput
        · cases hput
          rw [slot_set, if_neg]
          rintro rfl
          exact ht hd
        · cases hput
    rw [hs]
    rcases h t with ⟨a, e⟩ | ⟨k, q, a1, a2, a3, a4, e⟩
    · refine .inl ⟨fun i hi => ?_, e⟩
      rcases (hD i).1 hi with q | q
      · exact a i q
      · subst q; rw [hdst]; exact ht
    · refine .inr ⟨k, q, a1, (hD _).2 (.inl a2), a3, fun i hi hd => ?_, e⟩
      rcases (hD i).1 hi with q' | q'
      · exact a4 i q' hd
      · subst q'; rw [hdst] at hd; exact absurd hd ht

theorem Closed.no (hc : Closed ops b D) {i : Nat} (hi : ¬ D i) {x : Nat} (hx : D x) : (b.getD x 0).testBit i = false := by
  cases h : (b.getD x 0).testBit i with
  | false => rfl
  | true => exact absurd (hc.bef x hx i h) hi

theorem Closed.le (hs : SlotsOk ops b) (hc : Closed ops b D) {i : Nat} {o : Oper} (hi : ¬ D i) (ho : ops[i]? = some o) : ∀ x t, D x → o.dst = some t → dstOf ops x = some t → x ≤ i := by
  intro x t hx hd hdx
  refine Nat.le_of_not_lt fun hlt => ?_
  have hlx := hc.lt x hx
  have hox : ops[x]? = some ops[x] := by simp [hlx]
  have := hs.write i x ops[x] o t hlt hox ho (by simpa [dstOf, hox] using hdx) (.inl hd)
  rw [hc.no hi hx] at this
  cases this

theorem Closed.same (hs : SlotsOk ops b) (hc : Closed ops b D) (hc' : Closed ops b D') {i : Nat} {o : Oper} (hi : ¬ D i) (hi' : ¬ D' i) (ho : ops[i]? = some o) (hb : ∀ x, (b.getD i 0).testBit x = true → D x)
    (hb' : ∀ x, (b.getD i 0).testBit x = true → D' x) {t : Tmp} (ht : t ∈ readsOf ops o) : ∀ x, dstOf ops x = some t → (D x ↔ D' x) := by
  have key : ∀ {E E' : Nat → Prop}, Closed ops b E → ¬ E i → (∀ x, (b.getD i 0).testBit x = true → E' x) → ∀ x, dstOf ops x = some t → E x → E' x := by
    intro E E' hE hEi hb' x hdx hx
    have hlx := hE.lt x hx
    have hox : ops[x]? = some ops[x] := by simp [hlx]
    have hd : ops[x].dst = some t := by simpa [dstOf, hox] using hdx
    rcases Nat.lt_trichotomy x i with q | q | q
    · exact hb' x (hs.read x i o ops[x] t q ho hox hd ht)
    · subst q; exact absurd hx hEi
    · have := hs.write i x ops[x] o t q hox ho hd (.inr ht)
      rw [hE.no hEi hx] at this
      cases this
  exact fun x hdx => ⟨key hc hi hb' x hdx, key hc' hi' hb x hdx⟩

/-- Those ahead of a place in the plan. -/
def Ahead (L : List PStep) (j : Nat) (i : Nat) : Prop := ∃ (j' : Nat) (p' : PStep), j' < j ∧ L[j']? = some p' ∧ p'.i = i

theorem Ahead.closed (hL : PlanOk C.P ops b L) (j : Nat) : Closed ops b (Ahead L j) where
  lt := fun i ⟨j', p', h1, h2, h3⟩ => h3 ▸ hL.lt j' p' h2
  bef := fun i ⟨j', p', h1, h2, h3⟩ x hx => by
    subst h3
    obtain ⟨k, q, q1, q2, q3⟩ := hL.down j' p' h2 x hx
    exact ⟨k, q, by omega, q2, q3⟩

theorem Ahead.not (hL : PlanOk C.P ops b L) {j : Nat} {p : PStep} (hp : L[j]? = some p) : ¬ Ahead L j p.i := by
  rintro ⟨j', p', h1, h2, h3⟩
  have := hL.inj j' j p' p h2 hp h3
  omega

theorem Ahead.succ {j : Nat} {p : PStep} (hp : L[j]? = some p) (i : Nat) : Ahead L (j + 1) i ↔ Ahead L j i ∨ i = p.i := by
  constructor
  · rintro ⟨j', p', h1, h2, h3⟩
    by_cases e : j' = j
    · subst e
      rw [hp] at h2
      cases h2
      exact .inr h3.symm
    · exact .inl ⟨j', p', by omega, h2, h3⟩
  · rintro (⟨j', p', h1, h2, h3⟩ | h)
    · exact ⟨j', p', by omega, h2, h3⟩
    · exact ⟨j, p, by omega, hp, h.symm⟩

theorem PStepOk.put {call : CallF} {nt : Nat} {p : PStep} {rd : List (Nat × Tr AV × AV)} {s s' : St} {v : AV} (h : PStepOk call C nt ops p rd s s' v) : ∃ o, ops[p.i]? = some o ∧ putF nt s.tm o.dst v = some s'.tm := by
  cases h <;> exact ⟨_, by assumption, by assumption⟩

theorem Trace.slots {call : CallF} {nt : Nat} {S : Nat → St} {R : Nat → List (Nat × Tr AV × AV)} (h : Trace call C nt ops L S V R) (hL : PlanOk C.P ops b L) (hs : SlotsOk ops b) :
    ∀ j, j ≤ L.length → ∀ t, SlotIs ops L V (S 0).tm (Ahead L j) t (slot (S j).tm t)
  | 0, _ => fun t => .inl ⟨fun i ⟨j', _, h1, _⟩ => by omega, rfl⟩
  | j + 1, hj => by
    have hp : L[j]? = some L[j] := by simp
    obtain ⟨o, ho, hput⟩ := (h.step j _ hp).put
    exact SlotIs.put (h.slots hL hs j (by omega)) hp ho (Closed.le hs (Ahead.closed hL j) (Ahead.not hL hp) ho) hput (Ahead.succ hp)

end

end Go.Ev

namespace Go.Ev

variable {C : Ctx} {N : Nat}

theorem putF_lt {nt : Nat} {tm tm' : Tr AV} {d : Option Tmp} {v : AV} (h : putF nt tm d v = some tm') : ∀ t, nt ≤ t → tm'.get t = tm.get t := by
  intro t ht
  cases d with
  | none => cases h; rfl
  | some d =>
    simp only [putF] at h
    split at h
    · rename_i hd
      cases h
      rw [Nat.blt_eq] at hd
      rw [Tr.get_set, if_neg (by omega)]
    · cases h

theorem putF_some {nt : Nat} {tm tm1 tm2 : Tr AV} {d : Option Tmp} {v v' : AV} (h : putF nt tm d v = some tm1) : ∃ tm3, putF nt tm2 d v' = some tm3 := by
  cases d with
  | none => exact ⟨_, rfl⟩
  | some d =>
    simp only [putF] at h ⊢
    split at h
    · exact ⟨_, rfl⟩
    · cases h

theorem wanted_congr {ops : Array Oper} {o : Oper} {tm tm' : Tr AV} (h : ∀ t ∈ readsOf ops o, slot tm t = slot tm' t) : wantedF ops tm o = wantedF ops tm' o := by
  unfold wantedF
  unfold readsOf at h
  cases hg : o.guard with
  | none => rfl
  | some jw =>
    obtain ⟨j, want⟩ := jw
    rw [hg] at h
    simp only at h ⊢
    cases hp : ops[j]? with
    | none => rfl
    | some p =>
      rw [hp] at h
      simp only at h ⊢
      cases hd : p.dst with
      | none => rfl
      | some d =>
        simp only
        have := h d (by simp [hd])
        simp only [slot] at this
        cases h1 : tm.get d <;> cases h2 : tm'.get d <;> rw [h1, h2] at this <;> simp only [AV.undef] at this <;> subst this <;> rfl

theorem ev_congr' {ops : Array Oper} {o : Oper} {tm tm' : Tr AV} (h : ∀ t ∈ readsOf ops o, slot tm t = slot tm' t) : ∀ x ∈ o.op.operands, ev tm x = ev tm' x := by
  intro x hx
  cases x with
  | tmp t =>
    have := h t (by
      unfold readsOf
      refine List.mem_append_right _ (List.mem_flatMap.2 ⟨.tmp t, by simpa using hx, by simp [slotOf]⟩))
    exact this
  | const v => rfl
  | global g => rfl
  | func f => rfl

/-- A pending object laid. -/
theorem Steps'.lay {ρ0 ρ : Rho} {H0 H : AH} {w0 w w' : World} {i : Nat} {β : Base} (h : Steps' C N ρ0 H0 w0 ρ H w) (hi : ρ i = none) (hn : H0.n ≤ i) (hr : Rel C N (ρ.put i β) H w') (hb : w.heap.size ≤ β.blk)
    (hs : w.heap.size ≤ w'.heap.size) (hk : ∀ b, b < w.heap.size → w'.heap[b]? = w.heap[b]?) (hout : w'.os = w.os ∧ w'.output = w.output) : Steps' C N ρ0 H0 w0 (ρ.put i β) H w' where
  out := ⟨hout.1.trans h.out.1, hout.2.trans h.out.2⟩
  le := Rho.le_trans h.le (Rho.le_put hi)
  rel := hr
  keeps := ⟨by have := h.keeps.1; omega, fun b hb' hm => by rw [hk b (by have := h.keeps.1; omega)]; exact h.keeps.2 b hb' hm⟩
  ro := h.ro
  n := h.n
  pend := fun j hj hr' => by
    obtain ⟨q1, q2⟩ := h.pend j hj hr'
    refine ⟨q1, ?_⟩
    simp only [Rho.put]
    rw [if_neg (by omega)]
    exact q2
  blks := fun j γ hj hr' => by
    simp only [Rho.put] at hj
    split at hj
    · cases hj
      have := h.keeps.1
      exact .inl (by omega)
    · exact h.blks j γ hj hr'

/-- A pending object made. -/
theorem Steps'.pending {ρ0 ρ : Rho} {H0 H : AH} {w0 w : World} {o : AObj} (h : Steps' C N ρ0 H0 w0 ρ H w) : Steps' C N ρ0 H0 w0 ρ (H.new o) w where
  le := h.le
  rel := h.rel.pend o
  out := h.out
  keeps := h.keeps
  ro := h.ro
  n := by have := h.n; simp only [AH.new]; omega
  pend := fun j hj hr' => by
    obtain ⟨q1, q2⟩ := h.pend j hj hr'
    have := h.n
    refine ⟨?_, q2⟩
    simp only [AH.new, Tr.get_set]
    rw [if_neg (by omega)]
    exact q1
  blks := h.blks

abbrev Done (listed : Array Bool) (i : Nat) : Prop := listed.getD i false = true

section
variable {call : CallF} {nt : Nat} {ops : Array Oper} {b : List Nat} {L : List PStep} {S : Nat → St} {V : Nat → AV} {R : Nat → List (Nat × Tr AV × AV)}

/-- What holds while the run's order goes ahead: 'k': so far the plan is reckoned. -/
structure Inv (C : Ctx) (N : Nat) (nt : Nat) (ops : Array Oper) (b : List Nat) (L : List PStep) (S : Nat → St) (V : Nat → AV) (ρ0 : Rho) (w0 : World) (listed : Array Bool) (k : Nat) (a : Act) (w : World) (ρ : Rho) : Prop where
  size : listed.size = ops.size
  closed : Closed ops b (Done listed)
  kle : k ≤ L.length
  before : ∀ (j : Nat) (p : PStep), j < k → L[j]? = some p → Nat.blt (classAt C.P ops p.i) 3 = false → Done listed p.i
  within : ∀ i, Done listed i → Ahead L k i
  st : Steps' C N ρ0 (S 0).H w0 ρ (S k).H w
  slots : ∃ tm, TmOk ρ nt tm a.tmps ∧ ∀ t, SlotIs ops L V (S 0).tm (Done listed) t (slot tm t)
  df : DfOk ρ (S 0).df a.defers
  mono : ∀ (j : Nat), j < k → (S j).H.n ≤ (S (j + 1)).H.n
  pend : ∀ (j : Nat) (p : PStep) (o : Oper), j < k → L[j]? = some p → ¬ Done listed p.i → ops[p.i]? = some o → opClass C.P o.op = 1 → wantedF ops (S j).tm o = true →
    ρ (S j).H.n = none ∧ (S 0).H.n ≤ (S j).H.n ∧ (S j).H.n < (S k).H.n ∧ ∀ ob, (S j).H.new ob = (S (j + 1)).H → (S k).H.o.get (S j).H.n = some ob
  read : ∀ (j : Nat) (p : PStep) (o : Oper), j < k → L[j]? = some p → ¬ Done listed p.i → ops[p.i]? = some o → opClass C.P o.op = 2 → wantedF ops (S j).tm o = true →
    evOp o.op C (S j).tm (S k).H = some (.val (V j) (S k).H)

theorem class_at {i : Nat} {o : Oper} (ho : ops[i]? = some o) : classAt C.P ops i = opClass C.P o.op := by simp [classAt, ho]

/-- The plan goes on over what does not act. -/
theorem Inv.skip {ρ0 ρ : Rho} {w0 w : World} {listed : Array Bool} {k : Nat} {a : Act} (hT : Trace call C nt ops L S V R) (hL : PlanOk C.P ops b L) (h : Inv C N nt ops b L S V ρ0 w0 listed k a w ρ) {p : PStep} (hp : L[k]? = some p)
    (hc : Nat.blt (classAt C.P ops p.i) 3 = true) : Inv C N nt ops b L S V ρ0 w0 listed (k + 1) a w ρ := by
  have hlt : k < L.length := (List.getElem?_eq_some_iff.1 hp).1
  have hnd : ¬ Done listed p.i := fun hd => Ahead.not hL hp (h.within _ hd)
  have hstep := hT.step k p hp
  -- the heap
  have hH : ((S (k + 1)).H = (S k).H ∧ ∀ o, ops[p.i]? = some o → wantedF ops (S k).tm o = true → opClass C.P o.op ≠ 1) ∨ (∃ ob, (S (k + 1)).H = (S k).H.new ob ∧ ((S k).H.o.get (S k).H.n).isNone = true) := by
    generalize S (k + 1) = s1 at hstep ⊢
    generalize V k = v1 at hstep
    cases hstep with
    | off ho hw hput => exact .inl ⟨rfl, fun o ho' hw' => by rw [ho] at ho'; cases ho'; rw [hw] at hw'; cases hw'⟩
    | @val o v H tm ho hw hev hst hfr hput =>
      rw [class_at ho] at hc
      rw [Nat.blt_eq] at hc
      have hcases : opClass C.P o.op = 0 ∨ opClass C.P o.op = 1 ∨ opClass C.P o.op = 2 := by omega
      rcases hcases with q | q | q
      · obtain ⟨v', e, _⟩ := class0_ok q hev
        cases e
        exact .inl ⟨rfl, fun o' ho' hw' => by rw [ho] at ho'; cases ho'; omega⟩
      · obtain ⟨v', ob, e⟩ := class1_new q hev
        cases e
        refine .inr ⟨ob, rfl, ?_⟩
        simpa [freshF, q] using hfr
      · obtain ⟨v', e, _⟩ := class2_le (H := (S k).H) (H' := (S k).H) ⟨fun i x hx => hx, rfl⟩ q hev
        cases e
        exact .inl ⟨rfl, fun o' ho' hw' => by rw [ho] at ho'; cases ho'; omega⟩
    | @skip o H tm ho hw hev hst hput =>
      exfalso
      rw [class_at ho] at hc
      rw [Nat.blt_eq] at hc
      have hcases : opClass C.P o.op = 0 ∨ opClass C.P o.op = 1 ∨ opClass C.P o.op = 2 := by omega
      rcases hcases with q | q | q
      · obtain ⟨v', e, _⟩ := class0_ok q hev; cases e
      · obtain ⟨v', ob, e⟩ := class1_new q hev; cases e
      · obtain ⟨v', e, _⟩ := class2_le (H := (S k).H) (H' := (S k).H) ⟨fun i x hx => hx, rfl⟩ q hev; cases e
    | @call o c args H H' v tm ho hw hev hcr hst hput =>
      exfalso
      rw [class_at ho] at hc
      rw [Nat.blt_eq] at hc
      have hcases : opClass C.P o.op = 0 ∨ opClass C.P o.op = 1 ∨ opClass C.P o.op = 2 := by omega
      rcases hcases with q | q | q
      · obtain ⟨v', e, _⟩ := class0_ok q hev; cases e
      · obtain ⟨v', ob, e⟩ := class1_new q hev; cases e
      · obtain ⟨v', e, _⟩ := class2_le (H := (S k).H) (H' := (S k).H) ⟨fun i x hx => hx, rfl⟩ q hev; cases e
  have hle : (S k).H.le (S (k + 1)).H := by
    rcases hH with ⟨e, _⟩ | ⟨ob, e, e'⟩
    · rw [e]; exact ⟨fun i x hx => hx, rfl⟩
    · rw [e]; exact new_le e'
  have hn : (S k).H.n ≤ (S (k + 1)).H.n := by
    rcases hH with ⟨e, _⟩ | ⟨ob, e, e'⟩
    · rw [e]; exact Nat.le_refl _
    · rw [e]; simp [AH.new]
  refine ⟨h.size, h.closed, hlt, fun j q hj hq hac => ?_, fun i hi => ?_, ?_, h.slots, h.df, fun j hj => (by
    by_cases e : j = k
    · subst e; exact hn
    · exact h.mono j (by omega)), fun j q o hj hq hd ho hcl hw => ?_, fun j q o hj hq hd ho hcl hw => ?_⟩
  · by_cases e : j = k
    · subst e
      rw [hp] at hq
      cases hq
      rw [hc] at hac
      cases hac
    · exact h.before j q (by omega) hq hac
  · exact (Ahead.succ hp i).2 (.inl (h.within i hi))
  · rcases hH with ⟨e, _⟩ | ⟨ob, e, _⟩
    · rw [e]; exact h.st
    · rw [e]; exact h.st.pending
  · by_cases e : j = k
    · subst e
      rw [hp] at hq
      cases hq
      rcases hH with ⟨e, hno⟩ | ⟨ob, e, _⟩
      · exact absurd hcl (hno o ho hw)
      · refine ⟨h.st.rel.none_n, h.st.n, by rw [e]; simp [AH.new], fun ob' he => ?_⟩
        rw [← he]
        exact new_get
    · obtain ⟨q1, q2, q3, q4⟩ := h.pend j q o (by omega) hq hd ho hcl hw
      exact ⟨q1, q2, by omega, fun ob he => hle.o _ _ (q4 ob he)⟩
  · by_cases e : j = k
    · subst e
      rw [hp] at hq
      cases hq
      have hstep := hT.step j p hp
      generalize hs1 : S (j + 1) = s1 at hstep ⊢
      generalize V j = v1 at hstep ⊢
      cases hstep with
      | off ho' hw' hput => rw [ho] at ho'; cases ho'; rw [hw] at hw'; cases hw'
      | @val o' v H tm ho' hw' hev hst hfr hput =>
        rw [ho] at ho'
        cases ho'
        obtain ⟨v', e, e2⟩ := class2_le (H := (S j).H) (H' := (S j).H) ⟨fun i x hx => hx, rfl⟩ hcl hev
        cases e
        exact e2
      | @skip o' H tm ho' hw' hev hst hput =>
        rw [ho] at ho'
        cases ho'
        obtain ⟨v', e, e2⟩ := class2_le (H := (S j).H) (H' := (S j).H) ⟨fun i x hx => hx, rfl⟩ hcl hev
        cases e
      | @call o' c args H H' v tm ho' hw' hev hcr hst hput =>
        rw [ho] at ho'
        cases ho'
        obtain ⟨v', e, e2⟩ := class2_le (H := (S j).H) (H' := (S j).H) ⟨fun i x hx => hx, rfl⟩ hcl hev
        cases e
    · have := h.read j q o (by omega) hq hd ho hcl hw
      obtain ⟨v', e1, e2⟩ := class2_le hle hcl this
      cases e1
      exact e2

/-- .. to the next that acts. -/
theorem Inv.ahead {ρ0 ρ : Rho} {w0 w : World} {listed : Array Bool} {a : Act} (hT : Trace call C nt ops L S V R) (hL : PlanOk C.P ops b L) : ∀ (m k : Nat), L.length - k ≤ m → Inv C N nt ops b L S V ρ0 w0 listed k a w ρ →
    ∃ k', Inv C N nt ops b L S V ρ0 w0 listed k' a w ρ ∧ ∀ p, L[k']? = some p → Nat.blt (classAt C.P ops p.i) 3 = false := by
  intro m
  induction m with
  | zero =>
    intro k hm h
    refine ⟨k, h, fun p hp => ?_⟩
    have := (List.getElem?_eq_some_iff.1 hp).1
    omega
  | succ m ih =>
    intro k hm h
    cases hp : L[k]? with
    | none => exact ⟨k, h, fun p hp' => by rw [hp] at hp'; cases hp'⟩
    | some p =>
      cases hc : Nat.blt (classAt C.P ops p.i) 3 with
      | false => exact ⟨k, h, fun p' hp' => by rw [hp] at hp'; cases hp'; exact hc⟩
      | true =>
        have hlt : k < L.length := (List.getElem?_eq_some_iff.1 hp).1
        exact ih (k + 1) (by omega) (h.skip hT hL hp hc)

/-- What makes memory at a place of the plan. -/
theorem Trace.made (hT : Trace call C nt ops L S V R) {j : Nat} {p : PStep} (hp : L[j]? = some p) {o : Oper} (ho : ops[p.i]? = some o) (hc : opClass C.P o.op = 1) (hw : wantedF ops (S j).tm o = true) : ∃ ob, (S (j + 1)).H = (S j).H.new ob := by
  have hstep := hT.step j p hp
  generalize S (j + 1) = s1 at hstep
  generalize V j = v1 at hstep
  cases hstep with
  | off ho' hw' hput => rw [ho] at ho'; cases ho'; rw [hw] at hw'; cases hw'
  | val ho' hw' hev hst hfr hput =>
    rw [ho] at ho'
    cases ho'
    obtain ⟨v', ob, e⟩ := class1_new hc hev
    cases e
    exact ⟨ob, rfl⟩
  | skip ho' hw' hev hst hput =>
    rw [ho] at ho'
    cases ho'
    obtain ⟨v', ob, e⟩ := class1_new hc hev
    cases e
  | call ho' hw' hev hcr hst hput =>
    rw [ho] at ho'
    cases ho'
    obtain ⟨v', ob, e⟩ := class1_new hc hev
    cases e

theorem Inv.monos {ρ0 ρ : Rho} {w0 w : World} {listed : Array Bool} {k : Nat} {a : Act} (h : Inv C N nt ops b L S V ρ0 w0 listed k a w ρ) {x : Nat} : ∀ y, x ≤ y → y ≤ k → (S x).H.n ≤ (S y).H.n
  | 0, hx, _ => by
    have : x = 0 := by omega
    subst this
    exact Nat.le_refl _
  | y + 1, hx, hy => by
    by_cases e : x = y + 1
    · subst e; exact Nat.le_refl _
    · exact Nat.le_trans (h.monos y (by omega) (by omega)) (h.mono y (by omega))

theorem done_set {listed : Array Bool} {i x : Nat} (hi : i < listed.size) : Done (listed.setIfInBounds i true) x ↔ Done listed x ∨ x = i := by
  simp only [Done, Array.getD_eq_getD_getElem?, Array.getElem?_setIfInBounds]
  by_cases e : i = x
  · subst e; simp [hi]
  · simp [e, Ne.symm e]

theorem closed_set {listed : Array Bool} (hb : BefOk ops b) (hs : listed.size = ops.size) (h : Closed ops b (Done listed)) {i : Nat} {o : Oper} (ho : ops[i]? = some o) (hbef : ∀ x, (b.getD i 0).testBit x = true → Done listed x) :
    Closed ops b (Done (listed.setIfInBounds i true)) := by
  have hi : i < ops.size := (Array.getElem?_eq_some_iff.1 ho).1
  refine ⟨fun x hx => ?_, fun x hx y hy => ?_⟩
  · rcases (done_set (by omega)).1 hx with q | q
    · exact h.lt x q
    · omega
  · refine (done_set (by omega)).2 (.inl ?_)
    rcases (done_set (by omega)).1 hx with q | q
    · exact h.bef x q y hy
    · subst q; exact hbef y hy

end
end Go.Ev

namespace Go.Ev

variable {C : Ctx} {N : Nat}

section
variable {call : CallF} {nt : Nat} {ops : Array Oper} {b : List Nat} {L : List PStep} {S : Nat → St} {V : Nat → AV} {R : Nat → List (Nat × Tr AV × AV)}

/-- The state when one operation more is done: its heap is that behind place 'k'. -/
theorem Inv.take {ρ0 ρ ρ' : Rho} {w0 w w' : World} {listed : Array Bool} {k k' : Nat} {a a' : Act} (hb : BefOk ops b) (hs : SlotsOk ops b) (hL : PlanOk C.P ops b L)
    (h : Inv C N nt ops b L S V ρ0 w0 listed k a w ρ) {j : Nat} {p : PStep} (hp : L[j]? = some p) {o : Oper} (ho : ops[p.i]? = some o) (hnd : ¬ Done listed p.i) (hbef : ∀ x, (b.getD p.i 0).testBit x = true → Done listed x)
    (hj : j < k') (hk : k ≤ k') (hkl : k' ≤ L.length) (hkk : k' = k ∨ k' = k + 1 ∧ j = k)
    (hst : Steps' C N ρ0 (S 0).H w0 ρ' (S k').H w') {tm tm' : Tr AV} (htm : ∀ t, SlotIs ops L V (S 0).tm (Done listed) t (slot tm t)) (hput : putF nt tm o.dst (V j) = some tm') (htok : TmOk ρ' nt tm' a'.tmps) (hdf : DfOk ρ' (S 0).df a'.defers) (hmono : (S k).H.n ≤ (S k').H.n)
    (hpend : ∀ (j' : Nat) (p' : PStep) (o' : Oper), j' < k → L[j']? = some p' → ¬ Done listed p'.i → j' ≠ j → ops[p'.i]? = some o' → opClass C.P o'.op = 1 → wantedF ops (S j').tm o' = true →
      ρ' (S j').H.n = none ∧ (S 0).H.n ≤ (S j').H.n ∧ (S j').H.n < (S k').H.n ∧ ∀ ob, (S j').H.new ob = (S (j' + 1)).H → (S k').H.o.get (S j').H.n = some ob)
    (hread : ∀ (j' : Nat) (p' : PStep) (o' : Oper), j' < k → L[j']? = some p' → ¬ Done listed p'.i → j' ≠ j → ops[p'.i]? = some o' → opClass C.P o'.op = 2 → wantedF ops (S j').tm o' = true →
      evOp o'.op C (S j').tm (S k').H = some (.val (V j') (S k').H)) :
    Inv C N nt ops b L S V ρ0 w0 (listed.setIfInBounds p.i true) k' a' w' ρ' := by
  have hi : p.i < listed.size := by rw [h.size]; exact (Array.getElem?_eq_some_iff.1 ho).1
  have hset : ∀ x, Done (listed.setIfInBounds p.i true) x ↔ Done listed x ∨ x = p.i := fun x => done_set hi
  have hkj : ∀ (j' : Nat) (p' : PStep), j' < k' → L[j']? = some p' → ¬ Done (listed.setIfInBounds p.i true) p'.i → j' < k ∧ ¬ Done listed p'.i ∧ j' ≠ j := by
    intro j' p' hj' hp' hn
    rw [hset] at hn
    have hne : j' ≠ j := by
      rintro rfl
      rw [hp] at hp'
      cases hp'
      exact hn (.inr rfl)
    refine ⟨?_, fun hd => hn (.inl hd), hne⟩
    rcases hkk with e | ⟨e, e'⟩ <;> omega
  refine ⟨by simpa using h.size, closed_set hb h.size h.closed ho hbef, hkl, fun j' p' hj' hp' hac => ?_, fun i hi' => ?_, hst, ⟨tm', htok, ?_⟩, hdf, fun j' hj' => ?_, fun j' p' o' hj' hp' hd ho' hc hw => ?_, fun j' p' o' hj' hp' hd ho' hc hw => ?_⟩
  · rw [hset]
    by_cases e : j' = j
    · subst e
      rw [hp] at hp'
      cases hp'
      exact .inr rfl
    · refine .inl (h.before j' p' ?_ hp' hac)
      rcases hkk with e | ⟨e, e'⟩ <;> omega
  · rcases (hset i).1 hi' with q | q
    · obtain ⟨j', p', q1, q2, q3⟩ := h.within i q
      exact ⟨j', p', by omega, q2, q3⟩
    · exact ⟨j, p, hj, hp, q.symm⟩
  · exact SlotIs.put htm hp ho (Closed.le hs h.closed hnd ho) hput hset
  · rcases hkk with e | ⟨e, e'⟩
    · exact h.mono j' (by omega)
    · by_cases e2 : j' = k
      · subst e2; rw [e] at hmono; exact hmono
      · exact h.mono j' (by omega)
  · obtain ⟨q1, q2, q3⟩ := hkj j' p' hj' hp' hd
    exact hpend j' p' o' q1 hp' q2 q3 ho' hc hw
  · obtain ⟨q1, q2, q3⟩ := hkj j' p' hj' hp' hd
    exact hread j' p' o' q1 hp' q2 q3 ho' hc hw

theorem noDefer {o : Oper} {tm : Tr AV} {H : AH} {r : OR} (hev : evOp o.op C tm H = some r) (hr : ∀ d H', r ≠ .defer d H') : ∀ c, o.op ≠ .defer c := by
  intro c hc
  rw [hc] at hev
  simp only [evOp, opDefer] at hev
  split at hev <;> (try cases hev)
  split at hev <;> (try cases hev)
  split at hev <;> (try cases hev)
  split at hev <;> (try cases hev)
  exact hr _ _ rfl

/-- One operation of the run's order. -/
theorem Inv.step (hC : Good C) (hcall : CallOk C call) {rb : Option Nat} {Q : Exit → Act → World → Prop} {ρ0 ρ : Rho} {w0 w : World} {listed : Array Bool} {k : Nat} {a : Act} (hT : Trace call C nt ops L S V R)
    (hb : BefOk ops b) (hs : SlotsOk ops b) (hL : PlanOk C.P ops b L) (h : Inv C N nt ops b L S V ρ0 w0 listed k a w ρ) (hk : ∀ p, L[k]? = some p → Nat.blt (classAt C.P ops p.i) 3 = false) {i : Nat}
    (hi : i ∈ Region.ready .any ops listed) :
    wpOpIn (FW rb) 0 C.P ops Q i (fun a' w' => ∃ k' ρ', Inv C N nt ops b L S V ρ0 w0 (listed.setIfInBounds i true) k' a' w' ρ') a w := by
  obtain ⟨hnl, o, ho, hedge⟩ := mem_ready.1 hi
  have hisz : i < ops.size := (Array.getElem?_eq_some_iff.1 ho).1
  have hnd : ¬ Done listed i := by
    intro hd
    simp only [Done] at hd
    have hlt : i < listed.size := by rw [h.size]; exact hisz
    simp [Array.getD_eq_getD_getElem?, hlt] at hd hnl
    rw [hnl] at hd
    cases hd
  have hbef : ∀ x, (b.getD i 0).testBit x = true → Done listed x := hb.closed (D := Done listed) (fun x ox hox hx e he hbd => h.closed.bef x hx e.on ((hb.at_ x ox hox e.on).2 ⟨e, he, hbd, .inl rfl⟩)) i o ho hedge
  obtain ⟨j, p, hp, rfl⟩ := hL.all i hisz
  have hjlt : j < L.length := (List.getElem?_eq_some_iff.1 hp).1
  -- its place in the plan
  have hjk : j ≤ k := by
    refine Nat.le_of_not_lt fun hlt => ?_
    have hkp : L[k]? = some L[k] := by simp
    have hka := hk _ hkp
    rcases hL.act k _ hkp hka p.i hisz with ⟨j', p', q1, q2, q3⟩ | q | q
    · have := hL.inj j' j p' p q2 hp q3
      omega
    · have := hL.inj j k p _ hp hkp q
      omega
    · have := hbef _ q
      exact Ahead.not hL hkp (h.within _ this)
  obtain ⟨tm, htm, hsl⟩ := h.slots
  -- the slots that it reads
  have hsame : ∀ t ∈ readsOf ops o, slot tm t = slot (S j).tm t := fun t ht =>
    SlotIs.eq hL (hsl t) (hT.slots hL hs j (by omega) t) (Closed.same hs h.closed (Ahead.closed hL j) hnd (Ahead.not hL hp) ho hbef (fun x hx => hL.down j p hp x hx) ht)
  have hwd : wantedF ops tm o = wantedF ops (S j).tm o := wanted_congr hsame
  have hevc : ∀ H, evOp o.op C tm H = evOp o.op C (S j).tm H := fun H => evOp_congr (ev_congr' hsame)
  have hop : ∀ x ∈ o.op.operands, a.eval x = (ev tm x).conc ρ ∧ (ev tm x).Ok ρ := fun x _ => ev_ok htm x
  have hstep := hT.step j p hp
  -- an operation that does not act is not the next one that acts
  have hac : Nat.blt (classAt C.P ops p.i) 3 = true → j < k := fun hc => by
    rcases Nat.lt_or_ge j k with q | q
    · exact q
    · have : j = k := by omega
      subst this
      rw [hk p hp] at hc
      cases hc
  have hact : Nat.blt (classAt C.P ops p.i) 3 = false → j = k := fun hc => by
    rcases Nat.lt_or_ge j k with q | q
    · exact absurd (h.before j p q hp hc) hnd
    · omega
  -- behind an operation that acts
  have behind : ∀ {ρ' : Rho} {w' : World} {H' : AH} {v : AV} {tm2 : Tr AV}, Nat.blt (classAt C.P ops p.i) 3 = false → Steps' C N ρ (S j).H w ρ' H' w' → v.Ok ρ' → putF nt tm o.dst v = some tm2 →
      stillF C ops H' p.again (R j) = true → (S (j + 1)).H = H' → V j = v → ∃ k' ρ'', Inv C N nt ops b L S V ρ0 w0 (listed.setIfInBounds p.i true) k' (a.put o.dst (v.conc ρ')) w' ρ'' := by
    intro ρ' w' H' v tm2 hc r3 r2 hput2 hst hs1 hv1
    have := hact hc
    subst this
    have htok := putF_ok (a := a) (htm.le r3.le) r2 hput2
    refine ⟨j + 1, ρ', h.take (k' := j + 1) hb hs hL hp ho hnd hbef (by omega) (by omega) (by omega) (.inr ⟨rfl, rfl⟩) (by rw [hs1]; exact h.st.trans r3) hsl (by rw [hv1]; exact hput2) htok.1 (by rw [htok.2]; exact h.df.le r3.le)
      (by rw [hs1]; exact r3.n) ?_ ?_⟩
    · intro j' p' o' q1 q2 q3 _ q4 q5 q6
      obtain ⟨a1, a2, a3, a4⟩ := h.pend j' p' o' q1 q2 q3 q4 q5 q6
      have := r3.pend _ a3 a1
      rw [hs1]
      exact ⟨this.2, a2, Nat.lt_of_lt_of_le a3 r3.n, fun ob hob => by rw [this.1]; exact a4 ob hob⟩
    · intro j' p' o' q1 q2 q3 _ q4 q5 q6
      rw [hs1]
      rcases hL.again j p hp hc j' p' q1 q2 (by rw [class_at q4, q5]; rfl) with g | g
      · exact absurd (hbef _ g) q3
      · obtain ⟨H1, e1⟩ := still_spec hst (hT.reads q2 q4 q6 q5 j q1 (by omega)) g q4
        obtain ⟨v', e2, e3⟩ := class2_le (H := H') (H' := H') ⟨fun i x hx => hx, rfl⟩ q5 e1
        injection e2 with e4 e5
        subst e4
        exact e3
  unfold wpOpIn
  simp only [ho, wanted_ok htm, hwd]
  generalize hs1 : S (j + 1) = s1 at hstep
  generalize hv1 : V j = v1 at hstep
  cases hstep with
  | @off o' tm1 ho' hw hput =>
    rw [ho] at ho'
    cases ho'
    rw [hw]
    simp only [Bool.false_eq_true, if_false]
    refine ⟨fun f _ => trivial, ?_⟩
    obtain ⟨tm2, hput2⟩ := putF_some (tm2 := tm) (v' := .undef) hput
    have htok := (putF_ok (a := a) htm (undef_ok ρ) hput2)
    rw [undef_conc] at htok
    by_cases hjk' : j = k
    · subst hjk'
      refine ⟨j + 1, ρ, h.take (k' := j + 1) hb hs hL hp ho hnd hbef (by omega) (by omega) (by omega) (.inr ⟨rfl, rfl⟩) ?_ hsl (by rw [hv1]; exact hput2) htok.1 (by rw [htok.2]; exact h.df) (by rw [hs1]; exact Nat.le_refl _) ?_ ?_⟩
      · rw [hs1]; exact h.st
      · intro j' p' o' q1 q2 q3 _ q4 q5 q6
        rw [hs1]
        exact h.pend j' p' o' q1 q2 q3 q4 q5 q6
      · intro j' p' o' q1 q2 q3 _ q4 q5 q6
        rw [hs1]
        exact h.read j' p' o' q1 q2 q3 q4 q5 q6
    · exact ⟨k, ρ, h.take (k' := k) hb hs hL hp ho hnd hbef (by omega) (by omega) h.kle (.inl rfl) h.st hsl (by rw [hv1]; exact hput2) htok.1 (by rw [htok.2]; exact h.df) (Nat.le_refl _)
        (fun j' p' o' q1 q2 q3 _ q4 q5 q6 => h.pend j' p' o' q1 q2 q3 q4 q5 q6) (fun j' p' o' q1 q2 q3 _ q4 q5 q6 => h.read j' p' o' q1 q2 q3 q4 q5 q6)⟩
  | @val o' v H tm1 ho' hw hev hst hfr hput =>
    rw [ho] at ho'
    cases ho'
    rw [hw]
    simp only [if_true]
    refine ⟨fun f _ => trivial, ?_⟩
    have hsem : Oper.semAt rb a.eval o = execOp a.eval o := semAt_defer (.inr (noDefer hev (fun d H' hh => by cases hh)))
    show Oper.uponIn _ _ _ _ _ _ _ ((Oper.semAt rb a.eval o).run C.P w)
    rw [hsem]
    obtain ⟨tm2, hput2⟩ := putF_some (tm2 := tm) (v' := v1) hput
    cases hc : Nat.blt (classAt C.P ops p.i) 3 with
    | true =>
      have hlt := hac hc
      rw [class_at ho, Nat.blt_eq] at hc
      -- no change of the heap
      have plain : evOp o.op C tm (S k).H = some (.val v1 (S k).H) → Oper.uponIn (FW rb) 0 C.P o a (fun a' w' => ∃ k' ρ', Inv C N nt ops b L S V ρ0 w0 (listed.setIfInBounds p.i true) k' a' w' ρ') Q ((execOp a.eval o).run C.P w) := by
        intro hev'
        obtain ⟨ρ', w', r1, r2, r3⟩ := op_ok hC h.st.rel htm hev'
        rw [r1, Oper.uponIn_value]
        have htok := putF_ok (a := a) (htm.le r3.le) r2 hput2
        refine ⟨k, ρ', h.take (k' := k) hb hs hL hp ho hnd hbef hlt (by omega) h.kle (.inl rfl) (h.st.trans r3) hsl (by rw [hv1]; exact hput2) htok.1 (by rw [htok.2]; exact h.df.le r3.le) (Nat.le_refl _) ?_ ?_⟩
        · intro j' p' o' q1 q2 q3 _ q4 q5 q6
          obtain ⟨a1, a2, a3, a4⟩ := h.pend j' p' o' q1 q2 q3 q4 q5 q6
          exact ⟨(r3.pend _ a3 a1).2, a2, a3, a4⟩
        · intro j' p' o' q1 q2 q3 _ q4 q5 q6
          exact h.read j' p' o' q1 q2 q3 q4 q5 q6
      have hcases : opClass C.P o.op = 0 ∨ opClass C.P o.op = 1 ∨ opClass C.P o.op = 2 := by omega
      rcases hcases with q | q | q
      · obtain ⟨v', e, hall⟩ := class0_ok q hev
        cases e
        exact plain (by rw [hevc]; exact hall _)
      · -- memory made at its pending index
        obtain ⟨a1, a2, a3, a4⟩ := h.pend j p o hlt hp hnd ho q hw
        obtain ⟨v', ob, e, hal⟩ := class1_ok (w := w) (ρ := ρ) (a := a) (tm := tm) q (by rw [hevc]; exact hev) hop a1
        injection e with e1 e2
        subst e1
        subst e2
        have hob := a4 ob (by rw [hs1])
        obtain ⟨β, w', r1, r2, r3, r4, r5, r6, r7⟩ := hal.map h.st.rel a1 a3 hob
        rw [r1, Oper.uponIn_value]
        have hle : ρ.le (ρ.put (S j).H.n β) := Rho.le_put a1
        have htok := putF_ok (a := a) (htm.le hle) r2 hput2
        refine ⟨k, _, h.take (k' := k) hb hs hL hp ho hnd hbef hlt (by omega) h.kle (.inl rfl) (h.st.lay a1 a2 r3 r4 r5 r6 r7) hsl (by rw [hv1]; exact hput2) htok.1 (by rw [htok.2]; exact h.df.le hle) (Nat.le_refl _) ?_ ?_⟩
        · intro j' p' o' q1 q2 q3 hne q4 q5 q6
          obtain ⟨b1, b2, b3, b4⟩ := h.pend j' p' o' q1 q2 q3 q4 q5 q6
          refine ⟨?_, b2, b3, b4⟩
          simp only [Rho.put]
          rw [if_neg]
          · exact b1
          · intro hh
            -- two objects of the plan have two numbers
            obtain ⟨ob1, e1⟩ := hT.made hp ho q hw
            obtain ⟨ob2, e2⟩ := hT.made q2 q4 q5 q6
            have f1 : (S (j + 1)).H.n = (S j).H.n + 1 := by rw [e1]; simp [AH.new]
            have f2 : (S (j' + 1)).H.n = (S j').H.n + 1 := by rw [e2]; simp [AH.new]
            rcases Nat.lt_or_ge j j' with g | g
            · have := h.monos (x := j + 1) j' (by omega) (by omega)
              omega
            · have := h.monos (x := j' + 1) j (by omega) (by omega)
              omega
        · intro j' p' o' q1 q2 q3 _ q4 q5 q6
          exact h.read j' p' o' q1 q2 q3 q4 q5 q6
      · have := h.read j p o hlt hp hnd ho q hw
        rw [hv1] at this
        exact plain (by rw [hevc]; exact this)
    | false =>
      have := hact hc
      subst this
      obtain ⟨ρ', w', r1, r2, r3⟩ := op_ok hC h.st.rel htm (by rw [hevc]; exact hev)
      rw [r1, Oper.uponIn_value]
      obtain ⟨k', ρ'', hI⟩ := behind hc r3 r2 hput2 hst (by rw [hs1]) (by rw [hv1])
      exact ⟨k', ρ'', hI⟩
  | @skip o' H tm1 ho' hw hev hst hput =>
    rw [ho] at ho'
    cases ho'
    rw [hw]
    simp only [if_true]
    refine ⟨fun f _ => trivial, ?_⟩
    have hsem : Oper.semAt rb a.eval o = execOp a.eval o := semAt_defer (.inr (noDefer hev (fun d H' hh => by cases hh)))
    show Oper.uponIn _ _ _ _ _ _ _ ((Oper.semAt rb a.eval o).run C.P w)
    rw [hsem]
    obtain ⟨tm2, hput2⟩ := putF_some (tm2 := tm) (v' := .undef) hput
    have hc : Nat.blt (classAt C.P ops p.i) 3 = false := by
      cases hc : Nat.blt (classAt C.P ops p.i) 3 with
      | false => rfl
      | true =>
        rw [class_at ho, Nat.blt_eq] at hc
        have hcases : opClass C.P o.op = 0 ∨ opClass C.P o.op = 1 ∨ opClass C.P o.op = 2 := by omega
        rcases hcases with q | q | q
        · obtain ⟨v', e, _⟩ := class0_ok q hev; cases e
        · obtain ⟨v', ob, e⟩ := class1_new q hev; cases e
        · obtain ⟨v', e, _⟩ := class2_le (H := (S j).H) (H' := (S j).H) ⟨fun i x hx => hx, rfl⟩ q hev; cases e
    have := hact hc
    subst this
    obtain ⟨ρ', w', r1, r3⟩ := op_ok hC h.st.rel htm (by rw [hevc]; exact hev)
    rw [r1, Oper.uponIn_skip, ← undef_conc ρ']
    exact behind hc r3 (undef_ok ρ') hput2 hst (by rw [hs1]) (by rw [hv1])
  | @call o' c args H H' v tm1 ho' hw hev hcr hst hput =>
    rw [ho] at ho'
    cases ho'
    rw [hw]
    simp only [if_true]
    refine ⟨fun f _ => trivial, ?_⟩
    have hsem : Oper.semAt rb a.eval o = execOp a.eval o := semAt_defer (.inr (noDefer hev (fun d H' hh => by cases hh)))
    show Oper.uponIn _ _ _ _ _ _ _ ((Oper.semAt rb a.eval o).run C.P w)
    rw [hsem]
    obtain ⟨tm2, hput2⟩ := putF_some (tm2 := tm) (v' := v1) hput
    have hc : Nat.blt (classAt C.P ops p.i) 3 = false := by
      cases hc : Nat.blt (classAt C.P ops p.i) 3 with
      | false => rfl
      | true =>
        rw [class_at ho, Nat.blt_eq] at hc
        have hcases : opClass C.P o.op = 0 ∨ opClass C.P o.op = 1 ∨ opClass C.P o.op = 2 := by omega
        rcases hcases with q | q | q
        · obtain ⟨v', e, _⟩ := class0_ok q hev; cases e
        · obtain ⟨v', ob, e⟩ := class1_new q hev; cases e
        · obtain ⟨v', e, _⟩ := class2_le (H := (S j).H) (H' := (S j).H) ⟨fun i x hx => hx, rfl⟩ q hev; cases e
    have := hact hc
    subst this
    have hok := op_ok hC h.st.rel htm (by rw [hevc]; exact hev)
    -- behind the call
    have key : ∀ en w', RetOk C N ρ (S j).H w (.ret v1) H' en w' → (match (generalizing := false) en with
        | .returned v => ∃ k' ρ', Inv C N nt ops b L S V ρ0 w0 (listed.setIfInBounds p.i true) k' (a.put o.dst v) w' ρ'
        | .panicked chain => Q (.panic chain) a w'
        | .outgrown => LetsOut Q) := by
      intro en w' hret
      obtain ⟨ρ', r3, rfl, r2⟩ := hret
      obtain ⟨k', ρ'', hI⟩ := behind hc r3 r2 hput2 hst (by rw [hs1]) (by rw [hv1])
      exact ⟨k', ρ'', hI⟩
    cases c with
    | fn f =>
      obtain ⟨r1, r2, rfl⟩ := hok
      rw [r1, Oper.uponIn_enter]
      refine ⟨fun hh => (by cases hh), ?_⟩
      have := hcall (.fn f) args _ _ _ hcr N ρ w h.st.rel r2
      refine ⟨trivial, fun cs hroom => ?_⟩
      obtain ⟨en, w', fr, q1, q2, q3⟩ := this.2 cs hroom
      refine ⟨en, w', fr, ?_, q2, q3⟩
      have := key en w' q1
      cases en <;> exact this
    | yield i =>
      obtain ⟨r1, r2, r3, rfl⟩ := hok
      obtain ⟨fn, tmps, assign, body, y1, y2⟩ := hcall (.yield i) args _ _ _ hcr N ρ w h.st.rel r3 r2
      rw [r1, y1, Oper.uponIn_round]
      refine ⟨fun hh => (by cases hh), trivial, fun c cs hroom => ?_⟩
      obtain ⟨en, w', q1, q2⟩ := y2.2 c cs hroom
      refine ⟨en, w', ?_, q2⟩
      have := key en w' q1
      cases en <;> exact this

theorem Trace.out (hT : Trace call C nt ops L S V R) : ∀ j, j ≤ L.length → ∀ t, nt ≤ t → (S j).tm.get t = (S 0).tm.get t
  | 0, _, _, _ => rfl
  | j + 1, hj, t, ht => by
    obtain ⟨o, ho, hput⟩ := (hT.step j L[j] (by simp)).put
    rw [putF_lt hput t ht]
    exact hT.out j (by omega) t ht

/-- All is done: the state is the evaluator's. -/
theorem Inv.done {a0 : Act} {ρ0 ρ : Rho} {w0 w : World} {listed : Array Bool} {k : Nat} {a : Act} (hT : Trace call C nt ops L S V R) (hs : SlotsOk ops b) (hL : PlanOk C.P ops b L) (h : Inv C N nt ops b L S V ρ0 w0 listed k a w ρ)
    (h0 : StOk ρ0 nt (S 0) a0) (hall : ∀ i, i < ops.size → Done listed i) : Steps' C N ρ0 (S 0).H w0 ρ (S L.length).H w ∧ StOk ρ nt (S L.length) a := by
  have hk : k = L.length := by
    refine Nat.le_antisymm h.kle (Nat.le_of_not_lt fun hlt => ?_)
    have hp : L[k]? = some L[k] := by simp
    exact Ahead.not hL hp (h.within _ (hall _ (hL.lt k _ hp)))
  subst hk
  refine ⟨h.st, ⟨?_, by rw [hT.df _ (Nat.le_refl _)]; exact h.df⟩⟩
  obtain ⟨tm, htm, hsl⟩ := h.slots
  have heq : ∀ t, slot tm t = slot (S L.length).tm t := fun t => SlotIs.eq hL (hsl t) (hT.slots hL hs _ (Nat.le_refl _) t) fun i hd =>
    ⟨fun hi => h.within i hi, fun hi => hall i ((Ahead.closed hL _).lt i hi)⟩
  exact ⟨htm.size, fun t ht => by rw [← heq t]; exact htm.get t ht, fun t ht => by rw [hT.out _ (Nat.le_refl _) t ht]; exact h0.tm.out t ht⟩

theorem ready_nil {listed : Array Bool} (hb : BefOk ops b) (hsz : listed.size = ops.size) (h : Region.ready .any ops listed = []) : ∀ i, i < ops.size → Done listed i := by
  intro i
  induction i using Nat.strongRecOn with
  | _ i ih =>
    intro hi
    refine Classical.byContradiction fun hn => ?_
    have ho : ops[i]? = some ops[i] := by simp [hi]
    have : i ∈ Region.ready .any ops listed := by
      refine mem_ready.2 ⟨?_, _, ho, fun e he hbd => ?_⟩
      · have hlt : i < listed.size := by omega
        simp only [Done, Array.getD_eq_getD_getElem?] at hn ⊢
        simp [hlt] at hn ⊢
        exact hn
      · have := hb.down i _ ho e he hbd
        exact ih e.on this (by omega)
    rw [h] at this
    cases this

/-- How many are not done. -/
def undone (listed : Array Bool) (n : Nat) : Nat := (List.range n).countP fun i => !listed.getD i true

theorem count_lt {α : Type} {p q : α → Bool} : ∀ {l : List α}, (∀ x ∈ l, p x = true → q x = true) → ∀ {y : α}, y ∈ l → q y = true → p y = false → l.countP p < l.countP q
  | [], _, y, hy, _, _ => by cases hy
  | z :: l, h, y, hy, hq, hp => by
    have hle : l.countP p ≤ l.countP q := List.countP_mono_left fun x hx => h x (List.mem_cons_of_mem _ hx)
    rcases List.mem_cons.1 hy with e | e
    · subst e
      rw [List.countP_cons_of_pos hq, List.countP_cons_of_neg (by rw [hp]; simp)]
      omega
    · have ih := count_lt (fun x hx => h x (List.mem_cons_of_mem _ hx)) e hq hp
      cases hpz : p z with
      | true =>
        rw [List.countP_cons_of_pos hpz, List.countP_cons_of_pos (h z (by simp) hpz)]
        omega
      | false =>
        rw [List.countP_cons_of_neg (by rw [hpz]; simp)]
        cases hqz : q z with
        | true => rw [List.countP_cons_of_pos hqz]; omega
        | false => rw [List.countP_cons_of_neg (by rw [hqz]; simp)]; exact ih

theorem undone_lt {listed : Array Bool} {n i : Nat} (hi : i < n) (hs : i < listed.size) (h : listed.getD i true = false) : undone (listed.setIfInBounds i true) n < undone listed n := by
  refine count_lt (fun x _ hx => ?_) (List.mem_range.2 hi) (by rw [h]; rfl) ?_
  · by_cases e : i = x
    · subst e; rw [h]; rfl
    · rw [getD_set_ne true e] at hx; exact hx
  · simp [Array.getD_eq_getD_getElem?, hs]

/-- The run's order, whatever it is. -/
theorem Inv.any (hC : Good C) (hcall : CallOk C call) {rb : Option Nat} {Q : Exit → Act → World → Prop} {ρ0 : Rho} {w0 : World} {a0 : Act} (hT : Trace call C nt ops L S V R)
    (hb : BefOk ops b) (hs : SlotsOk ops b) (hL : PlanOk C.P ops b L) (h0 : StOk ρ0 nt (S 0) a0) (hQ : ∀ a' w' ρ', Steps' C N ρ0 (S 0).H w0 ρ' (S L.length).H w' → StOk ρ' nt (S L.length) a' → Q .normal a' w') :
    ∀ (fuel : Nat) (listed : Array Bool) (k : Nat) (a : Act) (w : World) (ρ : Rho), undone listed ops.size ≤ fuel → Inv C N nt ops b L S V ρ0 w0 listed k a w ρ → wpAnyIn (FW rb) 0 C.P .any ops Q fuel listed a w
  | 0, listed, k, a, w, ρ, hf, h => by
    have hr : Region.ready .any ops listed = [] := by
      refine List.eq_nil_iff_forall_not_mem.2 fun i hi => ?_
      obtain ⟨h1, o, ho, _⟩ := mem_ready.1 hi
      have hi' : i < ops.size := (Array.getElem?_eq_some_iff.1 ho).1
      have := undone_lt hi' (by rw [h.size]; exact hi') h1
      omega
    obtain ⟨q1, q2⟩ := h.done hT hs hL h0 (ready_nil hb h.size hr)
    exact ⟨hr, hQ _ _ _ q1 q2⟩
  | fuel + 1, listed, k, a, w, ρ, hf, h => by
    refine ⟨fun hr => ?_, fun i hi => ?_⟩
    · obtain ⟨q1, q2⟩ := h.done hT hs hL h0 (ready_nil hb h.size hr)
      exact hQ _ _ _ q1 q2
    · obtain ⟨k', h', hk'⟩ := Inv.ahead hT hL (L.length - k) k (Nat.le_refl _) h
      refine wpOpIn_mono (fun a' w' hI => ?_) (h'.step hC hcall (rb := rb) (Q := Q) hT hb hs hL hk' hi)
      obtain ⟨k2, ρ2, h2⟩ := hI
      obtain ⟨h1, o, ho, _⟩ := mem_ready.1 hi
      have hi' : i < ops.size := (Array.getElem?_eq_some_iff.1 ho).1
      have := undone_lt hi' (by rw [h.size]; exact hi') h1
      exact Inv.any hC hcall hT hb hs hL h0 hQ fuel _ k2 a' w' ρ2 (by omega) h2

theorem undone_le (listed : Array Bool) (n : Nat) : undone listed n ≤ n := by
  unfold undone
  have := List.countP_le_length (p := fun i => !listed.getD i true) (l := List.range n)
  simpa using this

end

/-- A region that draws its order: what the evaluator says of it, the model does. -/
theorem draw_ok (hC : Good C) (hmix : C.P.follows .mixedOrders = true) {call : CallF} (hcall : CallOk C call) : DrawOk C call := by
  intro N nt id ops s e s' he rb Q ρ a w hr hst hQ
  unfold evDraw at he
  split at he
  · cases he
  rename_i L hp
  obtain ⟨b, hb, hs, hL⟩ := plan_ok hp
  obtain ⟨rfl, S, V, R, hS0, hSn, hR, hT⟩ := evPlan_trace L [] s e s' he
  refine wpIn_region_any hmix ?_
  have hw : Rel C N ρ (S 0).H w.drew := by rw [hS0]; exact hr.drew
  have hdrew : Steps' C N ρ (S 0).H w ρ (S 0).H w.drew := Steps'.world (by rw [hS0]; exact hr) (Nat.le_refl _) (fun _ _ => rfl)
  have hst0 : StOk ρ nt (S 0) a := by rw [hS0]; exact hst
  have hno : ∀ i, ¬ Done (Array.replicate ops.size false) i := fun i hd => by
    simp only [Done, Array.getD_eq_getD_getElem?] at hd
    by_cases hi : i < ops.size
    · simp [hi] at hd
    · simp [hi] at hd
  refine Inv.any (ρ0 := ρ) (w0 := w) (N := N) hC hcall hT hb hs hL hst0 (fun a' w' ρ' q1 q2 => ?_) ops.size _ 0 a _ ρ (undone_le _ _) ?_
  · refine hQ _ _ _ ⟨ρ', ?_, rfl, ?_⟩
    · rw [hS0, hSn] at q1; exact q1
    · rw [hSn] at q2; exact q2
  · exact ⟨by simp, ⟨fun i hi => absurd hi (hno i), fun i hi => absurd hi (hno i)⟩, Nat.zero_le _, fun j p hj => by omega, fun i hi => absurd hi (hno i), hdrew, ⟨(S 0).tm, hst0.tm, fun t => .inl ⟨fun i hi => absurd hi (hno i), rfl⟩⟩,
      hst0.df, fun j hj => by omega, fun j p o hj => by omega, fun j p o hj => by omega⟩

end Go.Ev
