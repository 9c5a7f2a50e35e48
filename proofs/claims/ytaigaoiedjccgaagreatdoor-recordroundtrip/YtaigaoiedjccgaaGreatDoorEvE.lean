/-
  A part of the evaluator by names: that what it answers is what the machine does. For every program and every world in which the given facts hold.
-/
import Derived.Test.YtaigaoiedjccgaaGreatDoorEvD
import Derived.LoopNIn
import Derived.RangeFuncIn
import Derived.Scope
import Derived.RangeFuncLeaves
import Derived.RecoverIn
set_option linter.unusedVariables false
set_option linter.unusedSimpArgs false

namespace Go.Ev

variable {C : Ctx} {N : Nat}

/-- What the evaluator says of a region that draws its order, the model does. -/
def DrawOk (C : Ctx) (call : CallF) : Prop := ∀ (N : Nat) (nt id : Nat) (ops : Array Oper) (s : St) (e : AE) (s' : St), evDraw call C nt ops s = some (e, s') →
  ∀ (rb : Option Nat) (Q : Exit → Act → World → Prop) (ρ : Rho) (a : Act) (w : World), Rel C N ρ s.H w → StOk ρ nt s a → (∀ x a' w', EndOk C N ρ s.H w nt e s' x a' w' → Q x a' w') →
    (Code.region id ops true).wpIn (FW rb) 0 C.P Q a w

/-- The round that the code runs in. -/
def RoOk (ρ : Rho) : Option Nat → Option Nat → Prop
  | none, none => True
  | some i, some b => ρ i ≠ none ∧ b = (ρ.b i).blk
  | _, _ => False

theorem RoOk.le {ρ ρ' : Rho} {ro rb : Option Nat} (h : ρ.le ρ') (k : RoOk ρ ro rb) : RoOk ρ' ro rb := by
  cases ro <;> cases rb <;> first | exact k | exact ⟨by rw [h _ k.1]; exact k.1, by rw [Rho.le_b h k.1]; exact k.2⟩

theorem RoOk.some {ρ : Rho} {ro rb : Option Nat} (k : RoOk ρ ro rb) : rb.isSome = ro.isSome := by
  cases ro <;> cases rb <;> first | rfl | exact k.elim

theorem ev_bool {ρ : Rho} {nt : Nat} {tm : Tr AV} {a : Act} {c : Operand} {b : Bool} (h : TmOk ρ nt tm a.tmps) (hb : ev tm c = .bool b) : a.eval c = .bool b := by
  rw [(ev_ok h c).1, hb]; rfl

/-- The loop, where the body is so. -/
theorem evLoop_ok {step : St → Option (AE × St)} {rb ro : Option Nat} {nt : Nat} {b : Code} {Q : Exit → Act → World → Prop}
    (hb : ∀ (s : St) (e : AE) (s' : St), step s = some (e, s') → ∀ (Q : Exit → Act → World → Prop) (ρ : Rho) (a : Act) (w : World), Rel C N ρ s.H w → StOk ρ nt s a → RoOk ρ ro rb →
      (∀ x a' w', EndOk C N ρ s.H w nt e s' x a' w' → Q x a' w') → b.wpIn (FW rb) 0 C.P Q a w) :
    ∀ (m : Nat) (s : St) (e : AE) (s' : St), loopF step m s = some (e, s') → ∀ (ρ : Rho) (a : Act) (w : World), Rel C N ρ s.H w → StOk ρ nt s a → RoOk ρ ro rb →
      (∀ x a' w', EndOk C N ρ s.H w nt e s' x a' w' → Q x a' w') → Code.roundsIn (FW rb) 0 C.P b Q m a w
  | 0, s, e, s', he, ρ, a, w, hr, hs, hro, hQ => by cases he
  | m + 1, s, e, s', he, ρ, a, w, hr, hs, hro, hQ => by
    rw [roundsIn_succ]
    simp only [loopF] at he
    split at he
    · rename_i s1 h1
      refine hb s .norm s1 h1 _ ρ a w hr hs hro fun x a' w' hq => ?_
      obtain ⟨ρ', q1, q2, q3⟩ := hq
      cases q2
      exact evLoop_ok hb m s1 e s' he ρ' a' w' q1.rel q3 (hro.le q1.le) fun x a'' w'' hq => hQ x a'' w'' (hq.trans q1)
    · rename_i h1
      have hne : e ≠ .norm := by rintro rfl; exact h1 s' he
      refine hb s e s' he _ ρ a w hr hs hro fun x a' w' hq => ?_
      have := hQ x a' w' hq
      obtain ⟨ρ', q1, q2, q3⟩ := hq
      cases e with
      | norm => exact absurd rfl hne
      | exit id => cases q2; exact this
      | goto l => cases q2; exact this
      | ret => cases q2; exact this
      | pan v => obtain ⟨rfl, _⟩ := q2; exact this

theorem run_getLoop {P : Program} {w : World} {b : Nat} {L : Loop} (h : w.heap[b]? = some (.loop L)) : (Instr.getLoop b).run P w = .ok L w := by
  simp [Instr.getLoop, run_get h rfl]

/-- What is left of the pending jump. -/
theorem jump_ok {rb : Option Nat} {ρ : Rho} {s s' : St} {pend : Option Code} {e : AE} {nt : Nat} {Q : Exit → Act → World → Prop} {a : Act} {w : World} (hj : jumpF s pend = some (e, s')) (hr : Rel C N ρ s.H w) (hs : StOk ρ nt s a)
    (hQ : ∀ x a' w', EndOk C N ρ s.H w nt e s' x a' w' → Q x a' w') : (match (generalizing := false) pend with
       | none => Q .normal a w
       | some c => c.wpIn (FW rb) 0 C.P Q a w) := by
  unfold jumpF at hj
  split at hj
  · cases hj; exact hQ _ _ _ ⟨ρ, Steps'.refl hr, rfl, hs⟩
  · cases hj; exact wpIn_ret (hQ _ _ _ ⟨ρ, Steps'.refl hr, rfl, hs⟩)
  · cases hj; exact wpIn_exit (hQ _ _ _ ⟨ρ, Steps'.refl hr, rfl, hs⟩)
  · cases hj; exact wpIn_goto (hQ _ _ _ ⟨ρ, Steps'.refl hr, rfl, hs⟩)
  · cases hj

theorem range_ok (hC : Good C) {call : CallF} (hcall : CallOk C call) {ro rb : Option Nat} {fn nt : Nat} {f : Operand} {ps : Array Tmp} {assign body : Code} {s : St} {e : AE} {s' : St}
    (he : rangeF call C ro fn nt f ps assign body s = some (e, s')) {Q : Exit → Act → World → Prop} {ρ : Rho} {a : Act} {w : World} (hr : Rel C N ρ s.H w) (hs : StOk ρ nt s a) (hro : RoOk ρ ro rb)
    (hQ : ∀ x a' w', EndOk C N ρ s.H w nt e s' x a' w' → Q x a' w') : (Code.rangeFunc f ps assign body).wpIn (FW rb) 0 C.P Q a w := by
  refine wpIn_rangeFunc fun fn' _ => ?_
  unfold rangeF at he
  split at he
  · cases he
  rename_i d df H1 hent
  -- the block for the deferred calls
  obtain ⟨ρ1, w1, hst1, hd, mark, hmark, hdf, henter⟩ : ∃ ρ1 w1, Steps' C N ρ s.H w ρ1 H1 w1 ∧ ρ1 d ≠ none ∧ ∃ mark, True ∧ DfOk ρ1 df (mark ++ a.defers) ∧
      (Instr.enterLoop fn' a.tmps ps assign body rb).run C.P w = .ok (w1.heap.size, mark) (w1.alloc (.loop { state := .ready, pending := none, fn := fn', tmps := a.tmps, params := ps, assign, body, defers := (ρ1.b d).blk })) := by
    unfold enterF at hent
    split at hent
    · cases hent
      cases rb with
      | some _ => exact hro.elim
      | none =>
        have hst := alloc_obj (o := .dfr true) (ob := .deferred (some [])) hr rfl (fun β hβ => by subst hβ; exact alloc_new)
        refine ⟨_, _, hst, by simp [Rho.put], [{ target := .collected w.heap.size, args := #[] }], trivial, .cons ⟨by simp [Rho.put_b], by simp [Rho.put]⟩ (hs.df.le hst.le), ?_⟩
        simp [Instr.enterLoop, run_newObj_al, Rho.put_b]
    · rename_i l
      split at hent
      · rename_i st pend fn0 tm0 nt0 ps0 a0 b0 d0 hl
        cases hent
        cases rb with
        | none => exact hro.elim
        | some b =>
          obtain ⟨hl1, rfl⟩ := hro
          obtain ⟨tmps, fn1, q1, q2, q3⟩ := hr.at hl1 hl
          refine ⟨ρ, w, Steps'.refl hr, q3, [], trivial, hs.df, ?_⟩
          simp [Instr.enterLoop, run_newObj_al, run_getLoop q1]
      · cases hent
  have hs1 : TmOk ρ1 nt s.tm a.tmps := hs.tm.le hst1.le
  have hle2 : ρ1.le (ρ1.put H1.n ⟨w1.heap.size, 0, 0, 0⟩) := Rho.le_put hst1.rel.none_n
  have hst2 := alloc_obj (o := .loop .ready none fn s.tm nt ps assign body d) (ob := .loop { state := .ready, pending := none, fn := fn', tmps := a.tmps, params := ps, assign, body, defers := (ρ1.b d).blk }) hst1.rel rfl
    (fun β hβ => by
      subst hβ
      refine ⟨a.tmps, fn', ?_, hs1.le hle2, by rw [hle2 d hd]; exact hd⟩
      rw [Rho.le_b hle2 hd]
      exact alloc_new)
  have hst12 := hst1.trans hst2
  obtain ⟨hf1, hf2⟩ := ev_ok (a := a) (hs1.le hle2) f
  simp only at he
  split at he
  case h_2 => cases he
  rename_i g args H3 hcv
  have hyok : ∀ x ∈ [AV.yield H1.n], x.Ok (ρ1.put H1.n ⟨w1.heap.size, 0, 0, 0⟩) := by simp [AV.Ok, Rho.put]
  have hcvok := callVal_ok (ty := 0) hC hst2.rel hf2 hyok hcv
  obtain ⟨r1, r2, rfl⟩ := hcvok
  have hargs : clos (ρ1.put H1.n ⟨w1.heap.size, 0, 0, 0⟩) [AV.yield H1.n] = #[.func (.yield w1.heap.size) #[] #[]] := by simp [clos, AV.conc, Rho.put_b]
  rw [hargs, ← hf1] at r1
  obtain ⟨dd, hdd, hinv⟩ : ∃ dd, (Deferred.ofValue (a.eval f) #[.func (.yield w1.heap.size) #[] #[]]).run C.P (w1.alloc (.loop { state := .ready, pending := none, fn := fn', tmps := a.tmps, params := ps, assign, body, defers := (ρ1.b d).blk })) =
      .ok dd (w1.alloc (.loop { state := .ready, pending := none, fn := fn', tmps := a.tmps, params := ps, assign, body, defers := (ρ1.b d).blk })) ∧ (invoke dd.target dd.args).run C.P (w1.alloc (.loop { state := .ready, pending := none, fn := fn', tmps := a.tmps, params := ps, assign, body, defers := (ρ1.b d).blk })) =
        .ok (.enter g (clos (ρ1.put H1.n ⟨w1.heap.size, 0, 0, 0⟩) args)) (w1.alloc (.loop { state := .ready, pending := none, fn := fn', tmps := a.tmps, params := ps, assign, body, defers := (ρ1.b d).blk })) := by
    simp only [Sem.run_bind] at r1
    cases hv : a.eval f <;> rw [hv] at r1 <;> simp only [Deferred.ofValue, Sem.run_pure, run_stuck, Result.andThen_ok, Result.andThen] at r1 ⊢ <;> first | exact ⟨_, rfl, r1⟩ | cases r1
  refine ⟨w1.heap.size, mark, _, dd, _, g, _, _, henter, ?_, fun _ _ => trivial, hinv, fun hh => (by cases hh), ?_⟩
  · simp only [resolve, rangeCall]
    have : (#[Operand.const (.func (.yield w1.heap.size) #[] #[])].map a.eval) = #[.func (.yield w1.heap.size) #[] #[]] := by simp [Act.eval]
    rw [this]
    exact hdd
  · cases hcr : call (.fn g) args (H1.new (.loop .ready none fn s.tm nt ps assign body d)) with
    | none => rw [hcr] at he; cases he
    | some rH =>
      obtain ⟨rr, H4⟩ := rH
      rw [hcr] at he
      have := hcall (.fn g) args _ rr H4 hcr N _ _ hst2.rel r2
      refine ⟨trivial, fun cs hroom => ?_⟩
      obtain ⟨en, w', fr, q1, q2, q3⟩ := this.2 cs hroom
      refine ⟨en, w', fr, ?_, q2, q3⟩
      cases rr with
      | pan v => cases he
      | ret v =>
        obtain ⟨ρ4, st4, rfl, hv4⟩ := q1
        simp only at he
        split at he
        case h_2 => cases he
        rename_i st pend fn0 tm0 nt0 ps0 a0 b0 d0 hl
        have hl4 : ρ4 H1.n ≠ none := by rw [st4.le H1.n (by simp [Rho.put])]; simp [Rho.put]
        have hb4 : (ρ4.b H1.n).blk = w1.heap.size := by rw [Rho.le_b st4.le (by simp [Rho.put]), Rho.put_b]
        obtain ⟨tmps4, fn4, l1, l2, l3⟩ := st4.rel.at hl4 hl
        split at he
        · cases he
        · rename_i hnb
          split at he
          case h_2 => cases he
          rename_i H5 hset
          have hst5 := Steps'.setO (ob := .loop { state := .exhausted, pending := pend, fn := fn4, tmps := tmps4, params := ps0, assign := a0, body := b0, defers := (ρ4.b d0).blk }) st4.rel hl4 hl rfl rfl hset
            ⟨tmps4, fn4, put_same st4.rel hl4, l2, l3⟩
          have hall := (hst12.trans st4).trans hst5
          refine ⟨pend, wput w' (ρ4.b H1.n).blk (.loop { state := .exhausted, pending := pend, fn := fn4, tmps := tmps4, params := ps0, assign := a0, body := b0, defers := (ρ4.b d0).blk }), ?_, ?_⟩
          · rw [hb4] at l1
            have hnb' : (st == LoopState.busy) = false := by cases st <;> first | rfl | exact absurd rfl (hnb)
            simp only [Instr.endLoop, Sem.run_bind, run_getLoop l1, Result.andThen_ok, hnb', Bool.false_eq_true, if_false, Sem.run_pure, run_set l1 rfl, hb4]
          · have hsf : StOk ρ4 nt { tm := s.tm, H := H5, df } { tmps := a.tmps, defers := mark ++ a.defers } := ⟨((hs1.le hle2).le st4.le), (hdf.le hle2).le st4.le⟩
            exact jump_ok he hall.rel hsf fun x a' w'' hq => hQ x a' w'' (hq.trans hall)

section
variable {F : Fence} {n : Nat} {P : Program} {Q : Exit → Act → World → Prop} {b : Frame} {a : Act} {k : List Item} {cs : List Frame} {w : World}

theorem stepR_scope {c : Code} : step P (lone (b.atR a (.code (.scope c) :: k)) cs w) = .next (lone (b.atR a (.code c :: .inScope c :: k)) cs w) :=
  step_lone_go (by simp [stepG, stepG.exec, Frame.atR])
theorem stepR_inScope {c : Code} : step P (lone (b.atR a (.inScope c :: k)) cs w) = .next (lone (b.atR a k) cs w) :=
  step_lone_go (by simp [stepG, stepG.exec, Frame.atR])

theorem wpIn_scope_straight {c : Code} (h : c.wpIn F n P (Exit.noGoto Q) a w) : (Code.scope c).wpIn F n P Q a w := by
  intro b k cs hro hb hr
  have h0 : (lone (b.atR a (.code (.scope c) :: k)) cs w).fenced P F := fenced_calm hb hr rfl
  obtain ⟨e, a₁, w₁, hq, harr⟩ := h b (.inScope c :: k) cs hro hb hr
  cases e with
  | normal => exact ⟨.normal, a₁, w₁, hq, .head h0 stepR_scope (StepsIn.trans harr (.one (fenced_calm hb hr rfl) stepR_inScope))⟩
  | exit id =>
    have hx : exitTo id (.inScope c :: k) = exitTo id k := by simp [exitTo]
    exact ⟨.exit id, a₁, w₁, hq, fun k' hk => .head h0 stepR_scope (harr.1 k' (by rw [hx]; exact hk)),
      fun hr' hk => let ⟨k₁, h1, h2⟩ := harr.2 hr' (by rw [hx]; exact hk); ⟨k₁, h1, .head h0 stepR_scope h2⟩⟩
  | goto l => exact hq.elim
  | ret => exact ⟨_, a₁, w₁, hq, .of_steps (.one h0 stepR_scope) harr⟩
  | panic ch => exact ⟨_, a₁, w₁, hq, .of_steps (.one h0 stepR_scope) harr⟩
  | outgrown => exact ⟨_, a₁, w₁, hq, .of_steps (.one h0 stepR_scope) harr⟩
end

/-- Code: what the evaluator says, the model does. -/
theorem evCode_ok (hC : Good C) {call : CallF} (hcall : CallOk C call) (hdraw : DrawOk C call) {m : Nat} {ro : Option Nat} {fn nt : Nat} {rb : Option Nat} : ∀ (c : Code) (s : St) (e : AE) (s' : St),
    evCode call C m ro fn nt c s = some (e, s') → ∀ (Q : Exit → Act → World → Prop) (ρ : Rho) (a : Act) (w : World), Rel C N ρ s.H w → StOk ρ nt s a → RoOk ρ ro rb →
      (∀ x a' w', EndOk C N ρ s.H w nt e s' x a' w' → Q x a' w') → c.wpIn (FW rb) 0 C.P Q a w
  | .skip, s, e, s', he, Q, ρ, a, w, hr, hs, hro, hQ => by
    simp only [evCode, Option.some.injEq, Prod.mk.injEq] at he
    obtain ⟨rfl, rfl⟩ := he
    exact wpIn_skip (hQ _ _ _ ⟨ρ, Steps'.refl hr, rfl, hs⟩)
  | .region id ops draw, s, e, s', he, Q, ρ, a, w, hr, hs, hro, hQ => by
    simp only [evCode] at he
    cases draw with
    | false =>
      simp only at he
      rw [← hro.some] at he
      have := evOps_ok (N := N) hC hcall (ro := rb) (nt := nt) (ops := ops) (Q := Q) ops.toList 0 s e s' (fun j hj => by simp at hj ⊢) he ρ a w hr hs hQ
      refine wpIn_region ?_
      rw [List.range_eq_range']
      simpa using this
    | true => exact hdraw N nt id ops s e s' he rb Q ρ a w hr hs hQ
  | .seq x y, s, e, s', he, Q, ρ, a, w, hr, hs, hro, hQ => by
    simp only [evCode] at he
    refine wpIn_seq ?_
    split at he
    · rename_i s1 h1
      refine evCode_ok hC hcall hdraw x s .norm s1 h1 _ ρ a w hr hs hro fun xx a' w' hq => ?_
      obtain ⟨ρ', q1, q2, q3⟩ := hq
      cases q2
      exact evCode_ok hC hcall hdraw y s1 e s' he Q ρ' a' w' q1.rel q3 (hro.le q1.le) fun x a'' w'' hq => hQ x a'' w'' (hq.trans q1)
    · rename_i h1
      have hne : e ≠ .norm := by rintro rfl; exact h1 s' he
      refine evCode_ok hC hcall hdraw x s e s' he _ ρ a w hr hs hro fun xx a' w' hq => ?_
      have := hQ xx a' w' hq
      obtain ⟨ρ', q1, q2, q3⟩ := hq
      cases e with
      | norm => exact absurd rfl hne
      | exit id => cases q2; exact this
      | goto l => cases q2; exact this
      | ret => cases q2; exact this
      | pan v => obtain ⟨rfl, _⟩ := q2; exact this
  | .cond c x y, s, e, s', he, Q, ρ, a, w, hr, hs, hro, hQ => by
    simp only [evCode] at he
    split at he
    · rename_i hb
      exact wpIn_cond (ev_bool hs.tm hb) (evCode_ok hC hcall hdraw x s e s' he Q ρ a w hr hs hro hQ)
    · rename_i hb
      exact wpIn_cond (ev_bool hs.tm hb) (evCode_ok hC hcall hdraw y s e s' he Q ρ a w hr hs hro hQ)
    · cases he
  | .block id b, s, e, s', he, Q, ρ, a, w, hr, hs, hro, hQ => by
    simp only [evCode] at he
    refine wpIn_block ?_
    split at he
    · rename_i j s1 h1
      split at he
      · rename_i hj
        have hj' := beq_size hj
        subst hj'
        cases he
        refine evCode_ok hC hcall hdraw b s _ _ h1 _ ρ a w hr hs hro fun xx a' w' hq => ?_
        obtain ⟨ρ', q1, q2, q3⟩ := hq
        cases q2
        simp only [Exit.inBlock, if_true]
        exact hQ _ _ _ ⟨ρ', q1, rfl, q3⟩
      · rename_i hj
        have hj' : j ≠ id := fun q => by subst q; simp at hj
        cases he
        refine evCode_ok hC hcall hdraw b s _ _ h1 _ ρ a w hr hs hro fun xx a' w' hq => ?_
        have := hQ xx a' w' hq
        obtain ⟨ρ', q1, q2, q3⟩ := hq
        cases q2
        simp only [Exit.inBlock, if_neg hj']
        exact this
    · rename_i h1
      refine evCode_ok hC hcall hdraw b s e s' he _ ρ a w hr hs hro fun xx a' w' hq => ?_
      have := hQ xx a' w' hq
      obtain ⟨ρ', q1, q2, q3⟩ := hq
      cases e with
      | norm => cases q2; exact this
      | exit id' => exact absurd he (h1 id' s')
      | goto l => cases q2; exact this
      | ret => cases q2; exact this
      | pan v => obtain ⟨rfl, _⟩ := q2; exact this
  | .loop b, s, e, s', he, Q, ρ, a, w, hr, hs, hro, hQ => by
    simp only [evCode] at he
    exact wpIn_loop_rounds m (evLoop_ok (fun s e s' h Q ρ a w hr hs hro hQ => evCode_ok hC hcall hdraw b s e s' h Q ρ a w hr hs hro hQ) m s e s' he ρ a w hr hs hro hQ)
  | .rangeFunc f ps x y, s, e, s', he, Q, ρ, a, w, hr, hs, hro, hQ => by
    simp only [evCode] at he
    exact range_ok hC hcall he hr hs hro hQ
  | .exit id, s, e, s', he, Q, ρ, a, w, hr, hs, hro, hQ => by
    simp only [evCode, Option.some.injEq, Prod.mk.injEq] at he
    obtain ⟨rfl, rfl⟩ := he
    exact wpIn_exit (hQ _ _ _ ⟨ρ, Steps'.refl hr, rfl, hs⟩)
  | .scope b, s, e, s', he, Q, ρ, a, w, hr, hs, hro, hQ => by
    simp only [evCode] at he
    refine wpIn_scope_straight ?_
    split at he
    · cases he
    · rename_i h1
      refine evCode_ok hC hcall hdraw b s e s' he _ ρ a w hr hs hro fun xx a' w' hq => ?_
      have := hQ xx a' w' hq
      obtain ⟨ρ', q1, q2, q3⟩ := hq
      cases e with
      | norm => cases q2; exact this
      | exit id' => cases q2; exact this
      | goto l => exact absurd he (h1 l s')
      | ret => cases q2; exact this
      | pan v => obtain ⟨rfl, _⟩ := q2; exact this
  | .label l, s, e, s', he, Q, ρ, a, w, hr, hs, hro, hQ => by
    simp only [evCode, Option.some.injEq, Prod.mk.injEq] at he
    obtain ⟨rfl, rfl⟩ := he
    exact wpIn_label (hQ _ _ _ ⟨ρ, Steps'.refl hr, rfl, hs⟩)
  | .goto l, s, e, s', he, Q, ρ, a, w, hr, hs, hro, hQ => by
    simp only [evCode, Option.some.injEq, Prod.mk.injEq] at he
    obtain ⟨rfl, rfl⟩ := he
    exact wpIn_goto (hQ _ _ _ ⟨ρ, Steps'.refl hr, rfl, hs⟩)
  | .ret, s, e, s', he, Q, ρ, a, w, hr, hs, hro, hQ => by
    simp only [evCode, Option.some.injEq, Prod.mk.injEq] at he
    obtain ⟨rfl, rfl⟩ := he
    exact wpIn_ret (hQ _ _ _ ⟨ρ, Steps'.refl hr, rfl, hs⟩)
  | .refuse u, s, e, s', he, Q, ρ, a, w, hr, hs, hro, hQ => by
    simp [evCode] at he

end Go.Ev

namespace Go.Ev

variable {C : Ctx} {N : Nat}

/-! ### A round -/

theorem zip_ok {ρ : Rho} {nt : Nat} : ∀ (ps : List Tmp) (vs : List AV) (tm : Tr AV) (tmps : Array Value), ps.length = vs.length → (∀ t ∈ ps, t < nt) → (∀ v ∈ vs, v.Ok ρ) → TmOk ρ nt tm tmps →
    TmOk ρ nt (zipTm ps vs tm) ((ps.zip (vs.map (AV.conc ρ))).foldl (fun tmps (x : Tmp × Value) => tmps.setIfInBounds x.1 x.2) tmps)
  | [], [], tm, tmps, _, _, _, h => h
  | [], _ :: _, tm, tmps, hl, _, _, _ => by simp at hl
  | _ :: _, [], tm, tmps, hl, _, _, _ => by simp at hl
  | t :: ps, v :: vs, tm, tmps, hl, ht, hv, h => by
    simp only [zipTm, List.map_cons, List.zip_cons_cons, List.foldl_cons]
    refine zip_ok ps vs _ _ (by simpa using hl) (fun t ht' => ht t (by simp [ht'])) (fun v hv' => hv v (by simp [hv'])) ?_
    have htn : t < nt := ht t (by simp)
    have hvo := hv v (by simp)
    refine ⟨by simp [h.size], fun t' ht' => ?_, fun t' ht' => ?_⟩
    · simp only [slot_set, Array.getElem?_setIfInBounds]
      by_cases e : t = t'
      · subst e; simp [h.size, htn, hvo]
      · rw [if_neg e, if_neg (Ne.symm e)]; exact h.get t' ht'
    · rw [Tr.get_set, if_neg (fun e => by subst e; exact absurd htn (Nat.not_lt.2 ht'))]
      exact h.out t' ht'

/-- A round's end. -/
theorem end_ok {ρ : Rho} {H H' : AH} {w : World} {i : Nat} {st : LoopState} {jump : Option Code} {r : ARet} (h : Rel C N ρ H w) (hi : ρ i ≠ none) (he : endF i st jump H = some (r, H'))
    (hst : st = if jump.isNone then .ready else .done) : ∃ w', (Instr.endRound (ρ.b i).blk jump).run C.P w = .ok (.bool jump.isNone) w' ∧ r = .ret (.bool jump.isNone) ∧ Steps' C N ρ H w ρ H' w' := by
  unfold endF at he
  split at he
  · rename_i st0 pend fn tm nt ps a b d hl
    split at he
    · rename_i H1 hs
      cases he
      obtain ⟨tmps, fn', l1, l2, l3⟩ := h.at hi hl
      have := Steps'.setO (ob := .loop { state := st, pending := jump, fn := fn', tmps := tmps, params := ps, assign := a, body := b, defers := (ρ.b d).blk }) h hi hl rfl rfl hs ⟨tmps, fn', put_same h hi, l2, l3⟩
      refine ⟨_, ?_, rfl, this⟩
      simp only [Instr.endRound, Sem.run_bind, run_getLoop l1, Result.andThen_ok, run_set l1 rfl, Sem.run_pure, hst]
    · cases he
  · cases he

theorem yield_ok (hC : Good C) {call : CallF} (hcall : CallOk C call) (hdraw : DrawOk C call) {m : Nat} {i : Nat} {args : List AV} {H H' : AH} {r : ARet} (he : evYield call C m i args H = some (r, H'))
    {ρ : Rho} {w : World} (h : Rel C N ρ H w) (ha : ∀ v ∈ args, v.Ok ρ) (hi : ρ i ≠ none) :
    ∃ fn tmps assign body, (Instr.yield (ρ.b i).blk (clos ρ args)).run C.P w = .ok (.round (ρ.b i).blk fn tmps assign body) w ∧
      RoundIn Fence.wide 0 C.P (ρ.b i).blk fn tmps assign body w (RetOk C N ρ H w r H') := by
  unfold evYield at he
  split at he
  case h_2 => cases he
  rename_i st0 pend0 fn tm nt ps assign body d0 hl
  split at he
  · cases he
  rename_i hc
  simp only [Bool.and_eq_true, List.all_eq_true] at hc
  have hlen := beq_size hc.1
  obtain ⟨tmps, fn', l1, l2, l3⟩ := h.at hi hl
  refine ⟨fn', (ps.zip (clos ρ args)).foldl (fun tmps (x : Tmp × Value) => tmps.setIfInBounds x.1 x.2) tmps, assign, body, ?_, ?_⟩
  · simp only [Instr.yield, Sem.run_bind, run_getLoop l1, Result.andThen_ok]
    have : ¬ ((clos ρ args).size ≠ ps.size) := by simp [clos, hlen]
    rw [if_neg this]
    simp only [Sem.run_pure, Result.andThen_ok]
  · refine roundIn_of_wpIn trivial ?_
    have hz := zip_ok ps.toList args tm tmps (by simp [hlen]) (fun t ht => blt_lt (hc.2 t ht)) ha l2
    have hzz : (ps.zip (clos ρ args)).foldl (fun tmps (x : Tmp × Value) => tmps.setIfInBounds x.1 x.2) tmps = (ps.toList.zip (args.map (AV.conc ρ))).foldl (fun tmps (x : Tmp × Value) => tmps.setIfInBounds x.1 x.2) tmps := by
      rw [← Array.foldl_toList]
      simp [clos]
    split at he
    case h_2 => cases he
    rename_i s1 h1
    refine evCode_ok (rb := some (ρ.b i).blk) hC hcall hdraw assign _ _ _ h1 _ ρ _ w h ⟨by rw [← hzz] at hz; exact hz, .nil⟩ ⟨hi, rfl⟩ fun x a1 w1 hq => ?_
    obtain ⟨ρ1, st1, q2, q3⟩ := hq
    cases q2
    have hi1 : ρ1 i ≠ none := by rw [st1.le i hi]; exact hi
    have hb1 : (ρ1.b i).blk = (ρ.b i).blk := by rw [Rho.le_b st1.le hi]
    split at he
    case h_2 => cases he
    rename_i pend1 fn1 tm1 nt1 ps1 a1' b1' d1 hdf hl1
    split at he
    · cases he
    rename_i H2 hset
    obtain ⟨tmps1, fn1', m1, m2, m3⟩ := st1.rel.at hi1 hl1
    have st2 := Steps'.setO (ob := .loop { state := .busy, pending := pend1, fn := fn1', tmps := tmps1, params := ps1, assign := a1', body := b1', defers := (ρ1.b d1).blk }) st1.rel hi1 hl1 rfl rfl hset ⟨tmps1, fn1', put_same st1.rel hi1, m2, m3⟩
    refine ⟨wput w1 (ρ1.b i).blk (.loop { state := .busy, pending := pend1, fn := fn1', tmps := tmps1, params := ps1, assign := a1', body := b1', defers := (ρ1.b d1).blk }), ?_, ?_⟩
    · rw [← hb1]
      simp only [Instr.beginRound, Sem.run_bind, run_getLoop m1, Result.andThen_ok, run_set m1 rfl, Sem.run_pure]
    · cases hcb : evCode call C m (some i) fn nt body { tm := s1.tm, H := H2, df := [] } with
      | none => rw [hcb] at he; cases he
      | some es =>
        obtain ⟨e2, s2⟩ := es
        rw [hcb] at he
        simp only at he
        split at he
        case h_2 => cases he
        rename_i hdf2
        have hq3 : StOk ρ1 nt { tm := s1.tm, H := H2, df := [] } a1 := ⟨q3.tm, by have := q3.df; rw [hdf] at this; exact this⟩
        refine evCode_ok (rb := some (ρ.b i).blk) hC hcall hdraw body _ _ _ hcb _ ρ1 a1 _ st2.rel hq3 ⟨hi1, hb1.symm⟩ fun x a2 w2 hq => ?_
        obtain ⟨ρ2, st3, p2, p3⟩ := hq
        have hi2 : ρ2 i ≠ none := by rw [st3.le i hi1]; exact hi1
        have hb2 : (ρ2.b i).blk = (ρ.b i).blk := by rw [Rho.le_b st3.le hi1, hb1]
        have hall := (st1.trans st2).trans st3
        have fin : ∀ {st : LoopState} {jump : Option Code}, endF i st jump s2.H = some (r, H') → (st = if jump.isNone then .ready else .done) →
            ∃ v w', (Instr.endRound (ρ.b i).blk jump).run C.P w2 = .ok v w' ∧ RetOk C N ρ H w r H' (.returned v) w' := by
          intro st jump hj hst
          obtain ⟨w', e1, rfl, e3⟩ := end_ok hall.rel hi2 hj hst
          rw [hb2] at e1
          exact ⟨_, w', e1, ρ2, hall.trans e3, rfl, by simp [AV.Ok]⟩
        cases e2 with
        | norm => cases p2; exact fin he rfl
        | exit id => cases p2; exact fin he rfl
        | goto l => cases he
        | ret => cases p2; exact fin he rfl
        | pan v => cases he

/-! ### A function's results -/

def resS (tmps : Array Value) : ResultVar → Sem Value
  | .tmp t => pure (tmps.getD t undef)
  | .cell x t => do loadVar t (← asAddr (tmps.getD x undef))

theorem results_eq (fn : Func) (tmps : Array Value) : results fn tmps = (do
    let vs ← List.toArray <$> fn.results.toList.mapM (resS tmps)
    pure (if h : vs.size = 1 then vs[0] else .tuple vs)) := by
  unfold results
  rw [Array.mapM_eq_mapM_toList]
  rfl

theorem run_results {ρ : Rho} {H : AH} {w : World} {nt : Nat} {tm : Tr AV} {a : Act} {fn : Func} {v : AV} (h : Rel C N ρ H w) (ht : TmOk ρ nt tm a.tmps) (he : resultsF C fn tm H = some v) :
    (results fn a.tmps).run C.P w = .ok (v.conc ρ) w ∧ v.Ok ρ := by
  unfold resultsF at he
  have key : ∀ (rs : List ResultVar) (l : List AV), rs.mapM (resultF C tm H) = some l →
      (rs.mapM (resS a.tmps)).run C.P w = .ok (l.map (AV.conc ρ)) w ∧ ∀ v ∈ l, v.Ok ρ := by
    intro rs
    induction rs with
    | nil => intro l hl; simp at hl; subst hl; simp
    | cons x rs ih =>
      intro l hl
      rw [List.mapM_cons] at hl
      cases hx : resultF C tm H x with
      | none => rw [hx] at hl; cases hl
      | some y =>
        rw [hx] at hl
        cases hrs : rs.mapM (resultF C tm H) with
        | none => rw [hrs] at hl; cases hl
        | some ys =>
          rw [hrs] at hl
          cases hl
          obtain ⟨i1, i2⟩ := ih ys hrs
          have hy : (resS a.tmps x).run C.P w = .ok (y.conc ρ) w ∧ y.Ok ρ := by
            cases x with
            | tmp t =>
              simp only [resultF, Option.some.injEq] at hx
              subst hx
              obtain ⟨q1, q2⟩ := ev_ok ht (.tmp t)
              refine ⟨?_, q2⟩
              simp only [resS, Sem.run_pure]
              rw [← q1]
              rfl
            | cell x t =>
              simp only [resultF] at hx
              obtain ⟨q1, q2⟩ := ev_ok ht (.tmp x)
              obtain ⟨q3, q4⟩ := load_ok h q2 hx
              refine ⟨?_, q4⟩
              have hx' : a.tmps.getD x undef = (ev tm (.tmp x)).conc ρ := by rw [← q1]; rfl
              simp only [resS, hx']
              unfold Instr.loadAt at q3
              cases hc : (ev tm (.tmp x)).conc ρ <;> rw [hc] at q3 <;> simp only [Instr.sureAddr, asAddr] at q3 ⊢
              all_goals first
                | exact q3
                | (rename_i p; cases p <;> first | exact q3 | simp at q3)
                | simp at q3
          rw [List.mapM_cons]
          simp only [Sem.run_bind, hy.1, Result.andThen_ok, i1, Sem.run_pure]
          refine ⟨rfl, fun v hv => ?_⟩
          rcases List.mem_cons.1 hv with rfl | hv
          · exact hy.2
          · exact i2 v hv
  split at he
  · cases he
  · rename_i x hx
    cases he
    obtain ⟨k1, k2⟩ := key _ _ hx
    refine ⟨?_, k2 _ (by simp)⟩
    rw [results_eq]
    simp only [Sem.run_bind, Sem.run_map, k1, Result.andThen_ok]
    simp
  · rename_i l hne hx
    cases he
    obtain ⟨k1, k2⟩ := key _ _ hx
    refine ⟨?_, by rw [AV.Ok, oks_iff]; exact k2⟩
    rw [results_eq]
    simp only [Sem.run_bind, Sem.run_map, k1, Result.andThen_ok]
    have hl1 : l.length ≠ 1 := by
      intro q
      match l, q with
      | [y], _ => exact hne y rfl
    simp [AV.conc, concs_eq, hl1]

end Go.Ev

namespace Go.Ev

variable {C : Ctx} {N : Nat}

theorem argTm_get : ∀ (args : List AV) (i : Nat) (tm : Tr AV) (t : Nat), (argTm args i tm).get t = if i ≤ t ∧ t < i + args.length then args[t - i]? else tm.get t
  | [], i, tm, t => by simp only [argTm, List.length_nil, Nat.add_zero]; rw [if_neg (by omega)]
  | x :: args, i, tm, t => by
    rw [argTm, argTm_get args (i + 1) _ t, Tr.get_set]
    simp only [List.length_cons]
    by_cases h1 : i + 1 ≤ t ∧ t < i + 1 + args.length
    · rw [if_pos h1, if_pos (by omega)]
      rw [show t - i = (t - (i + 1)) + 1 by omega]
      simp
    · rw [if_neg h1]
      by_cases h2 : t = i
      · subst h2
        rw [if_pos rfl, if_pos (by omega)]
        simp
      · rw [if_neg h2, if_neg (by omega)]

theorem args_ok {ρ : Rho} {args : List AV} (ha : ∀ v ∈ args, v.Ok ρ) (k : Nat) : TmOk ρ (args.length + k) (argTm args 0 .leaf) (clos ρ args ++ Array.replicate k undef) where
  size := by simp [clos]
  get := fun t ht => by
    simp only [slot, argTm_get, Nat.zero_le, true_and, Nat.zero_add, Nat.sub_zero]
    by_cases h : t < args.length
    · rw [if_pos h, List.getElem?_eq_getElem h]
      have : t < (clos ρ args).size := by simp [clos, h]
      rw [Array.getElem?_append_left this]
      exact ⟨by simp [clos, h], ha _ (List.getElem_mem h)⟩
    · rw [if_neg h]
      simp only [Tr.get, undef_conc]
      refine ⟨?_, undef_ok ρ⟩
      have hs : (clos ρ args).size = args.length := by simp [clos]
      rw [Array.getElem?_append_right (by rw [hs]; omega), hs, Array.getElem?_replicate, if_pos (by omega)]
  out := fun t ht => by
    rw [argTm_get, if_neg (by omega)]
    rfl

/-! ### A deferred function that may recover -/

def ModeOk (ρ : Rho) : Option Value → Option AV → FrameMode → Prop
  | none, none, m => m = .returning
  | some X, some v, m => v.Ok ρ ∧ v.conc ρ = X ∧ m = .panicking [{ v := X, recovered := false }]
  | some X, none, m => m = .panicking [{ v := X, recovered := true }]
  | none, some _, _ => False

theorem ModeOk.le {ρ ρ' : Rho} {pc : Option Value} {p : Option AV} {m : FrameMode} (h : ρ.le ρ') (k : ModeOk ρ pc p m) : ModeOk ρ' pc p m := by
  cases pc <;> cases p <;> first | exact k | exact ⟨(conc_le h _ k.1).2, by rw [(conc_le h _ k.1).1]; exact k.2.1, k.2.2⟩

theorem evOpsS_ok (hC : Good C) {nt : Nat} {ops : Array Oper} {Q : Exit → Act → List Frame → World → Prop} {pc : Option Value} {cs : List Frame} :
    ∀ (l : List Oper) (k : Nat) (tm : Tr AV) (H : AH) (p : Option AV) (tm' : Tr AV) (H' : AH) (p' : Option AV), (∀ j (h : j < l.length), ops[k + j]? = some l[j]) → evOpsS C nt ops l tm H p = some (tm', H', p') →
      ∀ (ρ : Rho) (a : Act) (c₀ : Frame) (w : World), Rel C N ρ H w → TmOk ρ nt tm a.tmps → ModeOk ρ pc p c₀.mode → a.defers = [] →
        (∀ ρ' a' m' w', Steps' C N ρ H w ρ' H' w' → TmOk ρ' nt tm' a'.tmps → ModeOk ρ' pc p' m' → a'.defers = [] → Q .normal a' ({ c₀ with mode := m' } :: cs) w') →
        wpOpsSIn (FW none) 0 C.P ops Q (List.range' k l.length) a (c₀ :: cs) w
  | [], k, tm, H, p, tm', H', p', _, he, ρ, a, c₀, w, hr, ht, hm, hd, hQ => by
    simp only [evOpsS, Option.some.injEq, Prod.mk.injEq] at he
    obtain ⟨rfl, rfl, rfl⟩ := he
    exact hQ ρ a c₀.mode w (Steps'.refl hr) ht hm hd
  | o :: l, k, tm, H, p, tm', H', p', hl, he, ρ, a, c₀, w, hr, ht, hm, hd, hQ => by
    have hk : ops[k]? = some o := by have := hl 0 (by simp); simpa using this
    have hl' : ∀ j (h : j < l.length), ops[k + 1 + j]? = some l[j] := fun j hj => by
      have := hl (j + 1) (by simpa using hj)
      rw [show k + 1 + j = k + (j + 1) by omega]
      simpa using this
    have hdp : ∀ {d : Option Tmp} {v : Value}, (a.put d v).defers = [] := fun {d v} => by cases d <;> exact hd
    have put : ∀ {ρ' : Rho} {tm1 : Tr AV} {v : AV}, ρ.le ρ' → v.Ok ρ' → putF nt tm o.dst v = some tm1 → TmOk ρ' nt tm1 (a.put o.dst (v.conc ρ')).tmps := fun h1 h2 h3 => (putF_ok (ht.le h1) h2 h3).1
    simp only [List.length_cons, List.range'_succ, wpOpsSIn, hk, wanted_ok ht]
    refine ⟨fun _ _ => trivial, ?_⟩
    simp only [evOpsS] at he
    split at he
    · rename_i hw
      rw [hw]
      simp only [Bool.false_eq_true, if_false]
      split at he
      · cases he
      · rename_i tm1 hp
        have := put (Rho.le_refl _) (undef_ok ρ) hp
        rw [undef_conc] at this
        exact evOpsS_ok hC l (k + 1) tm1 H p tm' H' p' hl' he ρ _ c₀ w hr this hm hdp hQ
    · rename_i hw
      rw [hw]
      simp only [if_true]
      split at he
      · -- recover
        rename_i hrec
        have hrun : (execOp a.eval o).run C.P w = .ok .recover w := by
          unfold execOp
          split at hrec
          · rename_i c args ts hop
            rw [hop]
            simp [resolve, invoke, builtin]
          · cases hrec
        rw [hrun]
        simp only
        split at he
        · cases he
        · rename_i tm1 hp
          cases p with
          | some v =>
            cases pc with
            | none => exact hm.elim
            | some X =>
              obtain ⟨m1, m2, m3⟩ := hm
              have : recoverD (c₀ :: cs) = some (X, { c₀ with mode := .panicking [{ v := X, recovered := true }] } :: cs) := by simp [recoverD, m3]
              rw [this]
              simp only
              have ht1 := put (Rho.le_refl _) m1 hp
              rw [m2] at ht1
              exact evOpsS_ok hC l (k + 1) tm1 H none tm' H' p' hl' he ρ _ { c₀ with mode := .panicking [{ v := X, recovered := true }] } w hr ht1 (show ModeOk ρ (some X) none _ from rfl) hdp fun ρ' a' m' w' h1 h2 h3 h4 => hQ ρ' a' m' w' h1 h2 h3 h4
          | none =>
            have : recoverD (c₀ :: cs) = none := by
              cases pc with
              | none => have hm' : c₀.mode = .returning := hm; simp [recoverD, hm']
              | some X => have hm' : c₀.mode = .panicking [{ v := X, recovered := true }] := hm; simp [recoverD, hm']
            rw [this]
            simp only
            have ht1 := put (v := .raw .nilIface) (Rho.le_refl _) (by simp [AV.Ok]) hp
            exact evOpsS_ok hC l (k + 1) tm1 H none tm' H' p' hl' he ρ _ c₀ w hr (by simpa [AV.conc] using ht1) hm hdp hQ
      · split at he
        · rename_i v H1 hev
          obtain ⟨ρ', w', r1, r2, r3⟩ := op_ok hC hr ht hev
          rw [r1]
          simp only
          split at he
          · cases he
          · rename_i tm1 hp
            exact evOpsS_ok hC l (k + 1) tm1 H1 p tm' H' p' hl' he ρ' _ c₀ w' r3.rel (put r3.le r2 hp) (hm.le r3.le) hdp fun ρ'' a' m' w'' h1 h2 h3 h4 => hQ ρ'' a' m' w'' (r3.trans h1) h2 h3 h4
        · rename_i H1 hev
          obtain ⟨ρ', w', r1, r3⟩ := op_ok hC hr ht hev
          rw [r1]
          simp only
          split at he
          · cases he
          · rename_i tm1 hp
            have := put r3.le (undef_ok ρ') hp
            rw [undef_conc] at this
            exact evOpsS_ok hC l (k + 1) tm1 H1 p tm' H' p' hl' he ρ' _ c₀ w' r3.rel this (hm.le r3.le) hdp fun ρ'' a' m' w'' h1 h2 h3 h4 => hQ ρ'' a' m' w'' (r3.trans h1) h2 h3 h4
        · cases he

def inBlockS (id : Nat) (Q : Exit → Act → List Frame → World → Prop) : Exit → Act → List Frame → World → Prop
  | .exit id', a, cs, w => if id' = id then Q .normal a cs w else Q (.exit id') a cs w
  | e, a, cs, w => Q e a cs w

theorem wpSIn_block {F : Fence} {n : Nat} {P : Program} {Q : Exit → Act → List Frame → World → Prop} {a : Act} {cs : List Frame} {w : World} {id : Nat} {c : Code} (h : c.wpSIn F n P (inBlockS id Q) a cs w) :
    (Code.block id c).wpSIn F n P Q a cs w := by
  intro b k hk hro hb hr
  have h0 : (lone (b.atR a (.code (.block id c) :: k)) cs w).fenced P F := fenced_calm hb hr rfl
  obtain ⟨e, a₁, cs₁, w₁, hl, hq, harr⟩ := h b (.inBlock id :: k) hk hro hb hr
  have hr₁ : F.room (cs₁.length + 1 + n) := by rw [hl]; exact hr
  cases e with
  | normal => exact ⟨.normal, a₁, cs₁, w₁, hl, hq, .head h0 stepR_block (StepsIn.trans harr (.one (fenced_calm hb hr₁ rfl) stepR_inBlock))⟩
  | exit id' =>
    by_cases hid : id' = id
    · simp only [inBlockS, hid, if_true] at hq
      exact ⟨.normal, a₁, cs₁, w₁, hl, hq, .head h0 stepR_block (harr.1 k (by simp [exitTo, hid]))⟩
    · simp only [inBlockS, hid, if_false] at hq
      have this : (id == id') = false := by simp; exact fun h => hid h.symm
      have hx : exitTo id' (.inBlock id :: k) = exitTo id' k := by simp [exitTo, this]
      exact ⟨.exit id', a₁, cs₁, w₁, hl, hq, fun k' hk => .head h0 stepR_block (harr.1 k' (by rw [hx]; exact hk)),
        fun hr' hk => let ⟨k₁, h1, h2⟩ := harr.2 hr' (by rw [hx]; exact hk); ⟨k₁, h1, .head h0 stepR_block h2⟩⟩
  | goto l =>
    have hx : gotoIn l (.inBlock id :: k) = gotoIn l k := by simp [gotoIn]
    exact ⟨_, a₁, cs₁, w₁, hl, hq, fun k' hk => .head h0 stepR_block (harr.1 k' (by rw [hx]; exact hk)),
      fun hr' hk => let ⟨k₁, h1, h2⟩ := harr.2 hr' (by rw [hx]; exact hk); ⟨k₁, h1, .head h0 stepR_block h2⟩⟩
  | ret => exact ⟨_, a₁, cs₁, w₁, hl, hq, .of_steps (.one h0 stepR_block) harr⟩
  | panic ch => exact ⟨_, a₁, cs₁, w₁, hl, hq, .of_steps (.one h0 stepR_block) harr⟩
  | outgrown => exact ⟨_, a₁, cs₁, w₁, hl, hq, .of_steps (.one h0 stepR_block) harr⟩

theorem evCodeS_ok (hC : Good C) {nt : Nat} {pc : Option Value} {cs : List Frame} : ∀ (c : Code) (tm : Tr AV) (H : AH) (p : Option AV) (e : AE) (tm' : Tr AV) (H' : AH) (p' : Option AV),
    evCodeS C nt c tm H p = some (e, tm', H', p') → ∀ (Q : Exit → Act → List Frame → World → Prop) (ρ : Rho) (a : Act) (c₀ : Frame) (w : World), Rel C N ρ H w → TmOk ρ nt tm a.tmps → ModeOk ρ pc p c₀.mode → a.defers = [] →
      (∀ x ρ' a' m' w', ExitOk ρ' e x → Steps' C N ρ H w ρ' H' w' → TmOk ρ' nt tm' a'.tmps → ModeOk ρ' pc p' m' → a'.defers = [] → Q x a' ({ c₀ with mode := m' } :: cs) w') →
      c.wpSIn (FW none) 0 C.P Q a (c₀ :: cs) w
  | .skip, tm, H, p, e, tm', H', p', he, Q, ρ, a, c₀, w, hr, ht, hm, hd, hQ => by
    simp only [evCodeS, Option.some.injEq, Prod.mk.injEq] at he
    obtain ⟨rfl, rfl, rfl, rfl⟩ := he
    exact wpSIn_of_wpIn rfl (wpIn_skip (hQ _ ρ a c₀.mode w rfl (Steps'.refl hr) ht hm hd))
  | .region id ops draw, tm, H, p, e, tm', H', p', he, Q, ρ, a, c₀, w, hr, ht, hm, hd, hQ => by
    simp only [evCodeS] at he
    split at he
    · cases he
    · split at he
      · rename_i tm1 H1 p1 h1
        cases he
        have := evOpsS_ok (N := N) hC (Q := Q) (pc := pc) (cs := cs) ops.toList 0 tm H p tm' H' p' (fun j hj => by simp at hj ⊢) h1 ρ a c₀ w hr ht hm hd fun ρ' a' m' w' q1 q2 q3 q4 => hQ _ ρ' a' m' w' rfl q1 q2 q3 q4
        refine wpSIn_region ?_
        rw [List.range_eq_range']
        simpa using this
      · cases he
  | .seq x y, tm, H, p, e, tm', H', p', he, Q, ρ, a, c₀, w, hr, ht, hm, hd, hQ => by
    simp only [evCodeS] at he
    refine wpSIn_seq ?_
    split at he
    · rename_i tm1 H1 p1 h1
      refine evCodeS_ok hC x tm H p .norm tm1 H1 p1 h1 _ ρ a c₀ w hr ht hm hd fun xx ρ1 a1 m1 w1 e1 q1 q2 q3 q4 => ?_
      cases e1
      exact evCodeS_ok hC y tm1 H1 p1 e tm' H' p' he Q ρ1 a1 { c₀ with mode := m1 } w1 q1.rel q2 q3 q4 fun x ρ2 a2 m2 w2 f1 f2 f3 f4 f5 => hQ x ρ2 a2 m2 w2 f1 (q1.trans f2) f3 f4 f5
    · rename_i h1
      have hne : e ≠ .norm := by rintro rfl; exact h1 _ _ _ he
      refine evCodeS_ok hC x tm H p e tm' H' p' he _ ρ a c₀ w hr ht hm hd fun xx ρ1 a1 m1 w1 e1 q1 q2 q3 q4 => ?_
      have := hQ xx ρ1 a1 m1 w1 e1 q1 q2 q3 q4
      cases e with
      | norm => exact absurd rfl hne
      | exit id => cases e1; exact this
      | goto l => cases e1; exact this
      | ret => cases e1; exact this
      | pan v => obtain ⟨rfl, _⟩ := e1; exact this
  | .cond c x y, tm, H, p, e, tm', H', p', he, Q, ρ, a, c₀, w, hr, ht, hm, hd, hQ => by
    simp only [evCodeS] at he
    split at he
    · rename_i hb
      exact wpSIn_cond (ev_bool ht hb) (evCodeS_ok hC x tm H p e tm' H' p' he Q ρ a c₀ w hr ht hm hd hQ)
    · rename_i hb
      exact wpSIn_cond (ev_bool ht hb) (evCodeS_ok hC y tm H p e tm' H' p' he Q ρ a c₀ w hr ht hm hd hQ)
    · cases he
  | .ret, tm, H, p, e, tm', H', p', he, Q, ρ, a, c₀, w, hr, ht, hm, hd, hQ => by
    simp only [evCodeS, Option.some.injEq, Prod.mk.injEq] at he
    obtain ⟨rfl, rfl, rfl, rfl⟩ := he
    exact wpSIn_of_wpIn rfl (wpIn_ret (hQ _ ρ a c₀.mode w rfl (Steps'.refl hr) ht hm hd))
  | .block id b, tm, H, p, e, tm', H', p', he, Q, ρ, a, c₀, w, hr, ht, hm, hd, hQ => by
    simp only [evCodeS] at he
    refine wpSIn_block ?_
    split at he
    · rename_i j rr h1
      obtain ⟨tm1, H1, p1⟩ := rr
      split at he
      · rename_i hj
        have hj' := beq_size hj
        subst hj'
        cases he
        refine evCodeS_ok hC b tm H p _ _ _ _ h1 _ ρ a c₀ w hr ht hm hd fun xx ρ1 a1 m1 w1 e1 q1 q2 q3 q4 => ?_
        cases e1
        simp only [inBlockS, if_true]
        exact hQ _ ρ1 a1 m1 w1 rfl q1 q2 q3 q4
      · rename_i hj
        have hj' : j ≠ id := fun q => by subst q; simp at hj
        cases he
        refine evCodeS_ok hC b tm H p _ _ _ _ h1 _ ρ a c₀ w hr ht hm hd fun xx ρ1 a1 m1 w1 e1 q1 q2 q3 q4 => ?_
        have := hQ xx ρ1 a1 m1 w1 e1 q1 q2 q3 q4
        cases e1
        simp only [inBlockS, if_neg hj']
        exact this
    · rename_i h1
      refine evCodeS_ok hC b tm H p e tm' H' p' he _ ρ a c₀ w hr ht hm hd fun xx ρ1 a1 m1 w1 e1 q1 q2 q3 q4 => ?_
      have := hQ xx ρ1 a1 m1 w1 e1 q1 q2 q3 q4
      cases e with
      | norm => cases e1; exact this
      | exit id' => exact absurd he (h1 id' _)
      | goto l => cases e1; exact this
      | ret => cases e1; exact this
      | pan v => obtain ⟨rfl, _⟩ := e1; exact this
  | .loop _, tm, H, p, e, tm', H', p', he, Q, ρ, a, c₀, w, hr, ht, hm, hd, hQ => by simp [evCodeS] at he
  | .rangeFunc _ _ _ _, tm, H, p, e, tm', H', p', he, Q, ρ, a, c₀, w, hr, ht, hm, hd, hQ => by simp [evCodeS] at he
  | .exit id, tm, H, p, e, tm', H', p', he, Q, ρ, a, c₀, w, hr, ht, hm, hd, hQ => by
    simp only [evCodeS, Option.some.injEq, Prod.mk.injEq] at he
    obtain ⟨rfl, rfl, rfl, rfl⟩ := he
    exact wpSIn_of_wpIn rfl (wpIn_exit (hQ _ ρ a c₀.mode w rfl (Steps'.refl hr) ht hm hd))
  | .scope _, tm, H, p, e, tm', H', p', he, Q, ρ, a, c₀, w, hr, ht, hm, hd, hQ => by simp [evCodeS] at he
  | .label _, tm, H, p, e, tm', H', p', he, Q, ρ, a, c₀, w, hr, ht, hm, hd, hQ => by simp [evCodeS] at he
  | .goto _, tm, H, p, e, tm', H', p', he, Q, ρ, a, c₀, w, hr, ht, hm, hd, hQ => by simp [evCodeS] at he
  | .refuse _, tm, H, p, e, tm', H', p', he, Q, ρ, a, c₀, w, hr, ht, hm, hd, hQ => by simp [evCodeS] at he

/-- The mode in which a frame leaves. -/
def LeaveMode (ρ : Rho) : Option AV → FrameMode
  | none => .returning
  | some v => .panicking [{ v := v.conc ρ, recovered := false }]

/-- A frame on its way out. -/
theorem leave_ok (hC : Good C) {fn : Func} {nt : Nat} {tm : Tr AV} {a : Act} {r : ARet} {H' : AH} : ∀ (df : List AD) (ds : List Deferred) (p : Option AV) (H : AH), leaveF C fn tm df p H = some (r, H') →
    ∀ (ρ : Rho) (w : World) (R : Ending → World → Prop), Rel C N ρ H w → TmOk ρ nt tm a.tmps → DfOk ρ df ds → (∀ v, p = some v → v.Ok ρ) → (∀ e w', RetOk C N ρ H w r H' e w' → R e w') →
      LeavesInM Fence.wide 0 C.P fn a.tmps R ds (LeaveMode ρ p) w
  | [], ds, none, H, he, ρ, w, R, hr, ht, hd, hp, hR => by
    cases hd
    simp only [leaveF] at he
    split at he
    · rename_i v hv
      cases he
      obtain ⟨q1, q2⟩ := run_results hr ht hv
      exact ⟨_, q1, hR _ _ ⟨ρ, Steps'.refl hr, rfl, q2⟩⟩
    · cases he
  | [], ds, some v, H, he, ρ, w, R, hr, ht, hd, hp, hR => by
    cases hd
    simp only [leaveF, Option.some.injEq, Prod.mk.injEq] at he
    obtain ⟨rfl, rfl⟩ := he
    exact hR _ _ ⟨ρ, Steps'.refl hr, rfl, hp v rfl⟩
  | .coll i :: df, ds, p, H, he, ρ, w, R, hr, ht, hd, hp, hR => by
    cases hd with
    | cons hx hds =>
      obtain ⟨rfl, hi⟩ := hx
      simp only [leaveF] at he
      split at he
      · rename_i hl
        split at he
        · rename_i H1 hs
          have hob := hr.at hi hl
          have hst := Steps'.setO (ob := .deferred none) hr hi hl rfl rfl hs (by show _ = _; rw [put_same hr hi]; rfl)
          refine ⟨by cases p <;> simp [LeaveMode], .inl ⟨_, _, rfl, ?_, leave_ok hC df _ p H1 he ρ _ R hst.rel ht hds hp fun e w' hq => hR e w' ?_⟩⟩
          · have hob' : w.heap[(ρ.b i).blk]? = some (.deferred (some [])) := hob
            simp only [Instr.takeDeferred, Sem.run_bind, run_get hob' rfl, Result.andThen_ok, run_set hob' rfl, Sem.run_pure]
          · obtain ⟨ρ', q1, q2⟩ := hq
            exact ⟨ρ', hst.trans q1, q2⟩
        · cases he
      · cases he
  | .call g args :: df, ds, p, H, he, ρ, w, R, hr, ht, hd, hp, hR => by
    cases hd with
    | cons hx hds =>
      rename_i dss
      obtain ⟨as, cs, rfl, hac, hao⟩ := hx
      simp only [leaveF] at he
      split at he
      · cases he
      · rename_i gn hg
        split at he
        · cases he
        · rename_i c hbody
          have hinv : (invoke (.fn (.func g) cs) as).run C.P w = .ok (.enter g (clos ρ args)) w := by
            simp only [invoke, hac]
            exact run_enter hC hg hbody
          have hsz : (clos ρ args).size = args.length := by simp [clos]
          -- behind the deferred function
          have key : ∀ (e1 : AE) (tm1 : Tr AV) (H1 : AH) (p1 : Option AV), evCodeS C (args.length + (gn.ntmps - args.length)) c (argTm args 0 .leaf) H p = some (e1, tm1, H1, p1) → (e1 = .norm ∨ e1 = .ret) →
              (match resultsF C gn tm1 H1 with
                | some _ => leaveF C fn tm df p1 H1
                | none => none) = some (r, H') → LeavesInM Fence.wide 0 C.P fn a.tmps R ({ target := .fn (.func g) cs, args := as } :: dss) (LeaveMode ρ p) w := by
            intro e1 tm1 H1 p1 hev he1 hrest
            refine ⟨by cases p <;> simp [LeaveMode], .inr ⟨fun hh => (by cases hh), _, _, g, _, rfl, hinv, fun _ _ => trivial, ?_⟩⟩
            split at hrest
            case h_2 => cases hrest
            rename_i rv hrv
            refine callsDIn_of_wpSIn hg hbody trivial fun c₀ cs0 hmode => ?_
            refine evCodeS_ok (pc := p.map (AV.conc ρ)) hC c _ H p e1 tm1 H1 p1 hev _ ρ _ c₀ w hr (by rw [hsz]; exact args_ok hao _) ?_ rfl fun x ρ1 a1 m1 w1 x1 q1 q2 q3 q4 => ?_
            · rw [hmode]
              cases p with
              | none => rfl
              | some v => exact ⟨hp v rfl, rfl, rfl⟩
            · obtain ⟨g1, g2⟩ := run_results (fn := gn) q1.rel q2 hrv
              have hmode1 : settle m1 = LeaveMode ρ1 p1 ∧ ∀ v, p1 = some v → v.Ok ρ1 := by
                cases p with
                | none =>
                  cases p1 with
                  | none => have : m1 = .returning := q3; subst this; exact ⟨rfl, fun v hv => by cases hv⟩
                  | some v => exact q3.elim
                | some v0 =>
                  cases p1 with
                  | none => have : m1 = .panicking [{ v := v0.conc ρ, recovered := true }] := q3; subst this; exact ⟨rfl, fun v hv => by cases hv⟩
                  | some v =>
                    obtain ⟨k1, k2, k3⟩ := q3
                    subst k3
                    refine ⟨?_, fun v' hv => by cases hv; exact k1⟩
                    simp only [LeaveMode, k2]
                    rfl
              have hrec := leave_ok hC df _ p1 H1 hrest ρ1 w1 R q1.rel (ht.le q1.le) (hds.le q1.le) hmode1.2 fun e w' hq => hR e w' (by
                obtain ⟨ρ', s1, s2⟩ := hq
                exact ⟨ρ', q1.trans s1, s2⟩)
              rw [← hmode1.1] at hrec
              rcases he1 with rfl | rfl
              · cases x1
                exact ⟨q4, m1, rfl, _, g1, hrec⟩
              · cases x1
                exact ⟨q4, m1, rfl, _, g1, hrec⟩
          split at he
          · rename_i tm1 H1 p1 hev
            exact key _ _ _ _ hev (.inl rfl) he
          · rename_i tm1 H1 p1 hev
            exact key _ _ _ _ hev (.inr rfl) he
          · cases he

/-- A function. -/
theorem fn_ok (hC : Good C) {call : CallF} (hcall : CallOk C call) (hdraw : DrawOk C call) {m f : Nat} {args : List AV} {H H' : AH} {r : ARet} (he : evFn call C m f args H = some (r, H')) {ρ : Rho} {w : World}
    (h : Rel C N ρ H w) (ha : ∀ v ∈ args, v.Ok ρ) : CallsIn Fence.wide 0 C.P f (clos ρ args) w (RetOk C N ρ H w r H') := by
  unfold evFn at he
  split at he
  · cases he
  · rename_i fn hf
    split at he
    · cases he
    · rename_i c hb
      have hsz : (clos ρ args).size = args.length := by simp [clos]
      refine callsIn_of_wp_marks hf hb trivial ?_
      cases hev : evCode call C m none f (args.length + (fn.ntmps - args.length)) c { tm := argTm args 0 .leaf, H, df := [] } with
      | none => rw [hev] at he; cases he
      | some es =>
        obtain ⟨e, s⟩ := es
        rw [hev] at he
        refine evCode_ok (rb := none) hC hcall hdraw c _ _ _ hev _ ρ _ w h ⟨by rw [hsz]; exact args_ok ha _, .nil⟩ trivial fun x a' w' hq => ?_
        obtain ⟨ρ', q1, q2, q3⟩ := hq
        have lift : ∀ e w'', RetOk C N ρ' s.H w' r H' e w'' → RetOk C N ρ H w r H' e w'' := fun e w'' hq => by
          obtain ⟨ρ'', s1, s2⟩ := hq
          exact ⟨ρ'', q1.trans s1, s2⟩
        cases e with
        | norm => cases q2; exact leave_ok hC s.df _ none s.H he ρ' w' _ q1.rel q3.tm q3.df (fun v hv => by cases hv) lift
        | ret => cases q2; exact leave_ok hC s.df _ none s.H he ρ' w' _ q1.rel q3.tm q3.df (fun v hv => by cases hv) lift
        | pan v =>
          obtain ⟨rfl, hv⟩ := q2
          exact leave_ok hC s.df _ (some v) s.H he ρ' w' _ q1.rel q3.tm q3.df (fun v' hv' => by cases hv'; exact hv) lift
        | exit id => cases he
        | goto l => cases he

/-- Calls within calls. -/
theorem evCall_ok (hC : Good C) (hdraw : ∀ call, CallOk C call → DrawOk C call) (m : Nat) : ∀ n, CallOk C (evCall C m n)
  | 0 => fun c args H r H' he => by cases c <;> cases he
  | n + 1 => fun c args H r H' he N ρ w h ha => by
    have ih := evCall_ok hC hdraw m n
    cases c with
    | fn f => exact fn_ok hC ih (hdraw _ ih) he h ha
    | yield i => exact fun hi => yield_ok hC ih (hdraw _ ih) he h ha hi

end Go.Ev

namespace Go.Ev

variable {C : Ctx} {N : Nat}

/-! ### What an operation depends on -/

theorem map_congr_ev {tm tm' : Tr AV} {xs : Array Operand} (h : ∀ x ∈ xs, ev tm x = ev tm' x) : xs.toList.map (ev tm) = xs.toList.map (ev tm') :=
  List.map_congr_left fun x hx => h x (by simpa using hx)

theorem parts_congr {tm tm' : Tr AV} {ps : Array (Nat × Operand)} (h : ∀ x ∈ (ps.toList.map (·.2)).toArray, ev tm x = ev tm' x) : partsF tm ps = partsF tm' ps := by
  unfold partsF
  refine List.map_congr_left fun p hp => ?_
  have := h p.2 (by simp only [List.mem_toArray, List.mem_map]; exact ⟨p, hp, rfl⟩)
  rw [this]

theorem opt_congr {tm tm' : Tr AV} {o : Option Operand} (h : ∀ x ∈ o.toArray, ev tm x = ev tm' x) : o.map (ev tm) = o.map (ev tm') := by
  cases o with
  | none => rfl
  | some x => simp [h x (by simp)]

theorem builtin_congr {b : Builtin} {ts : Array TypeId} {xs : Array Operand} {tm tm' : Tr AV} {H : AH} (h : ∀ x ∈ xs, ev tm x = ev tm' x) : opBuiltin b ts xs C tm H = opBuiltin b ts xs C tm' H := by
  unfold opBuiltin
  cases hx : xs.toList with
  | nil =>
    cases hts : ts.toList with
    | nil => cases b <;> rfl
    | cons t us => cases us <;> cases b <;> rfl
  | cons x l =>
    have e1 : ev tm x = ev tm' x := h x (by rw [← Array.mem_toList_iff, hx]; simp)
    cases hl : l with
    | nil =>
      cases hts : ts.toList with
      | nil => cases b <;> first | rfl | simp only [e1]
      | cons t us => cases us <;> cases b <;> first | rfl | simp only [e1]
    | cons y l' =>
      have e2 : ev tm y = ev tm' y := h y (by rw [← Array.mem_toList_iff, hx, hl]; simp)
      cases l' with
      | nil =>
        cases hts : ts.toList with
        | nil => cases b <;> first | rfl | simp only [e1, e2]
        | cons t us => cases us <;> cases b <;> first | rfl | simp only [e1, e2]
      | cons z l'' =>
        cases hts : ts.toList with
        | nil => cases b <;> rfl
        | cons t us => cases us <;> cases b <;> rfl

theorem call_congr {c : Call} {tm tm' : Tr AV} {H : AH} (h : ∀ x ∈ c.operands, ev tm x = ev tm' x) : opCall c C tm H = opCall c C tm' H := by
  unfold opCall
  cases hc : c.callee with
  | value f =>
    have e1 : ev tm f = ev tm' f := h f (by simp [Call.operands, hc])
    have e2 := map_congr_ev (xs := c.args) (fun x hx => h x (by simp [Call.operands, hc, hx]))
    simp only [e1, e2]
  | invoke r name =>
    have e1 : ev tm r = ev tm' r := h r (by simp [Call.operands, hc])
    have e2 := map_congr_ev (xs := c.args) (fun x hx => h x (by simp [Call.operands, hc, hx]))
    simp only [opInvoke, e1, e2]
  | builtin b =>
    exact builtin_congr fun x hx => h x (by simp [Call.operands, hc, hx])

theorem evOp_congr {op : Op} {tm tm' : Tr AV} {H : AH} (h : ∀ x ∈ op.operands, ev tm x = ev tm' x) : evOp op C tm H = evOp op C tm' H := by
  cases op
  case build t ps => simp only [evOp, opBuild, parts_congr h]
  case buildSlice t n ps => simp only [evOp, opBuildSlice, parts_congr h]
  case call c => exact call_congr h
  case defer c =>
    simp only [evOp, opDefer]
    cases hc : c.callee with
    | value f =>
      have e1 : ev tm f = ev tm' f := h f (by simp [Op.operands, Call.operands, hc])
      have e2 := map_congr_ev (xs := c.args) (fun x hx => h x (by simp [Op.operands, Call.operands, hc, hx]))
      simp only [e1, e2]
    | invoke r name => rfl
    | builtin b => rfl
  case makeFunc f a b =>
    have e1 := map_congr_ev (xs := a) (fun x hx => h x (by simp [Op.operands, hx]))
    have e2 := map_congr_ev (xs := b) (fun x hx => h x (by simp [Op.operands, hx]))
    simp only [evOp, opMakeFunc, e1, e2]
  case slice t x l hh m =>
    have e1 : ev tm x = ev tm' x := h x (by simp [Op.operands])
    have e2 := opt_congr (o := l) (fun x hx => h x (by simp only [Op.operands, Array.mem_append]; exact .inl (.inl (.inr hx))))
    have e3 := opt_congr (o := hh) (fun x hx => h x (by simp only [Op.operands, Array.mem_append]; exact .inl (.inr hx)))
    have e4 := opt_congr (o := m) (fun x hx => h x (by simp only [Op.operands, Array.mem_append]; exact .inr hx))
    simp only [evOp, opSlice, e1, e2, e3, e4]
  all_goals first
    | rfl
    | (simp only [Op.operands] at h
       simp only [evOp, opMove, opPick, opBox, opLoad, opStore, opNilCheck, opBin, opUn, opConvert, opMakeInterface, opMakeSlice, opFieldAddr, opField, opIndexAddr, opIndex, opLookup, opMapUpdate, opTypeAssert, opExtract, opPanic, opRange, opNext, opArrayAt, opMakeMap]
       simp (disch := simp) only [h])
    | (simp only [Op.operands] at h
       simp only [evOp, opMove, opPick, opBox, opLoad, opStore, opNilCheck, opBin, opUn, opConvert, opMakeInterface, opMakeSlice, opFieldAddr, opField, opIndexAddr, opIndex, opLookup, opMapUpdate, opTypeAssert, opExtract, opPanic, opRange, opNext, opArrayAt, opMakeMap]
       rename_i x
       rw [h x (by simp)])

/-! ### Surely the same -/

theorem same_eq {a b : AV} (h : a.same b = true) : a = b := by
  unfold AV.same at h
  split at h <;> simp_all

theorem sames_eq : ∀ {l m : List AV}, AV.sames l m = true → l = m
  | [], [], _ => rfl
  | [], _ :: _, h => by simp [AV.sames] at h
  | _ :: _, [], h => by simp [AV.sames] at h
  | a :: l, b :: m, h => by
    simp only [AV.sames, Bool.and_eq_true] at h
    rw [same_eq h.1, sames_eq h.2]

theorem sameA_eq {a b : AV} (h : a.sameA b = true) : a = b := by
  unfold AV.sameA at h
  split at h
  · rw [sames_eq h]
  · rw [sames_eq h]
  · simp only [Bool.and_eq_true] at h
    rw [sames_eq h.1.2, sames_eq h.2, eq_of_beq h.1.1]
  · exact same_eq h

end Go.Ev

namespace Go.Ev

variable {C : Ctx} {N : Nat}

/-! ### Operations that only compute -/

theorem val_all {H : AH} {v : Option AV} {r : OR} (h : val H v = some r) : ∃ x, r = .val x H ∧ ∀ H', val H' v = some (.val x H') := by
  obtain ⟨x, rfl, rfl⟩ := val_inv h
  exact ⟨x, rfl, fun _ => rfl⟩

theorem convert0 {s d : TypeId} {x : AV} {H H1 : AH} {v : AV} (hc : convClass C.P s d = 0) (h : convertF C H s d x = some (v, H1)) : H1 = H ∧ ∀ H', convertF C H' s d x = some (v, H') := by
  unfold convClass at hc
  split at hc
  · cases hc
  · cases hc
  · rename_i k k' hs hd
    unfold convertF at h ⊢
    rw [hs, hd] at h
    simp only [hs, hd]
    simp only at h
    split at h
    · cases h; exact ⟨rfl, fun _ => rfl⟩
    · cases h
  · rename_i hs hd
    unfold convertF at h ⊢
    rw [hs, hd] at h
    simp only [hs, hd]
    simp only at h
    split at h
    · cases h; exact ⟨rfl, fun _ => rfl⟩
    · cases h
  · cases hc

theorem class0_ok {op : Op} {tm : Tr AV} {H : AH} {r : OR} (hc : opClass C.P op = 0) (h : evOp op C tm H = some r) : ∃ v, r = .val v H ∧ ∀ H', evOp op C tm H' = some (.val v H') := by
  cases op <;> simp only [opClass] at hc
  case move x => cases h; exact ⟨_, rfl, fun _ => rfl⟩
  case assign x => cases h; exact ⟨_, rfl, fun _ => rfl⟩
  case pick c a b =>
    simp only [evOp, opPick] at h ⊢
    split at h
    · rename_i hb; cases h; exact ⟨_, rfl, fun _ => rfl⟩
    · rename_i hb; cases h; exact ⟨_, rfl, fun _ => rfl⟩
    · cases h
  case build => exact val_all h
  case nilCheck => exact val_all h
  case binOp => exact val_all h
  case unOp => exact val_all h
  case convert s d x =>
    obtain ⟨v, H1, hv, rfl⟩ := valH_inv h
    obtain ⟨rfl, k⟩ := convert0 hc hv
    exact ⟨v, rfl, fun H' => by simp only [evOp, opConvert, k H']; rfl⟩
  case sliceToArrayPointer => exact val_all h
  case makeInterface t x =>
    simp only [evOp, opMakeInterface] at h ⊢
    split at h
    · cases h
    · rename_i d hni hd
      cases h
      refine ⟨_, rfl, fun _ => ?_⟩
      first | rfl | simp [hd]
    · cases h
  case makeFunc f a b =>
    simp only [evOp, opMakeFunc] at h ⊢
    split at h
    · cases h
    · cases h; exact ⟨_, rfl, fun _ => rfl⟩
  case fieldAddr => exact val_all h
  case field => exact val_all h
  case indexAddr => exact val_all h
  case index => exact val_all h
  case typeAssert => exact val_all h
  case extract t i =>
    simp only [evOp, opExtract] at h ⊢
    split at h
    · rename_i l hl
      exact val_all h
    · cases h
  case call c =>
    split at hc
    · cases hc
    · rename_i hb
      simp only [evOp, opCall, hb, opBuiltin] at h ⊢
      rcases hx : c.args.toList with _ | ⟨x, _ | ⟨y, _ | ⟨z, l⟩⟩⟩ <;> rcases hts : c.argTypes.toList with _ | ⟨t, _ | ⟨u, us⟩⟩ <;> rw [hx, hts] at h <;> first | exact val_all h | cases h
    · rename_i hb
      simp only [evOp, opCall, hb, opBuiltin] at h ⊢
      rcases hx : c.args.toList with _ | ⟨x, _ | ⟨y, _ | ⟨z, l⟩⟩⟩ <;> rcases hts : c.argTypes.toList with _ | ⟨t, _ | ⟨u, us⟩⟩ <;> rw [hx, hts] at h <;> first | exact val_all h | cases h
    · rename_i hb
      simp only [evOp, opCall, hb, opBuiltin] at h ⊢
      rcases hx : c.args.toList with _ | ⟨x, _ | ⟨y, _ | ⟨z, l⟩⟩⟩ <;> rcases hts : c.argTypes.toList with _ | ⟨t, _ | ⟨u, us⟩⟩ <;> rw [hx, hts] at h <;> first
        | (cases h; done)
        | (simp only at h ⊢
           split at h <;> first | (cases h; exact ⟨_, rfl, fun _ => rfl⟩) | cases h)
    · cases hc
    · cases hc
  all_goals cases hc

/-! ### Operations that read -/

structure AH.le (H H' : AH) : Prop where
  o : ∀ i x, H.o.get i = some x → H'.o.get i = some x
  g : H'.g = H.g

theorem live_le {H H' : AH} (h : H.le H') (g gen : Nat) (sh : Bool) : H'.live g gen sh = H.live g gen sh := by
  unfold AH.live AH.gen
  rw [h.g]

theorem cells_le {H H' : AH} (h : H.le H') {i : Nat} {c : List AV} (k : H.cells i = some c) : H'.cells i = some c := by
  unfold AH.cells at k ⊢
  cases ho : H.o.get i with
  | none => rw [ho] at k; cases k
  | some o =>
    rw [ho] at k
    rw [h.o i o ho]
    cases o <;> first | (simp only [live_le h]; exact k) | cases k

theorem rowG_le {H H' : AH} (h : H.le H') {i : Nat} {c : List AV × TypeId} (k : H.rowG i = some c) : H'.rowG i = some c := by
  unfold AH.rowG at k ⊢
  cases ho : H.o.get i with
  | none => rw [ho] at k; cases k
  | some o =>
    rw [ho] at k
    rw [h.o i o ho]
    simp only [live_le h]
    exact k

theorem readN_le {H H' : AH} (h : H.le H') {a : AV} {k n : Nat} {l : List AV} (r : readN C H a k n = some l) : readN C H' a k n = some l := by
  unfold readN at r ⊢
  split at r
  · split at r
    · rename_i c hc
      simp only [cells_le h hc]
      exact r
    · cases r
  · exact r
  · cases r

theorem read1_le {H H' : AH} (h : H.le H') {a v : AV} (r : read1 C H a = some v) : read1 C H' a = some v := by
  unfold read1 at r ⊢
  split at r
  · split at r
    · rename_i c hc
      simp only [cells_le h hc]
      exact r
    · cases r
  · exact r
  · cases r

theorem loadF_le {H H' : AH} (h : H.le H') {t : TypeId} {a v : AV} (r : loadF C H t a = some v) : loadF C H' t a = some v := by
  unfold loadF at r ⊢
  split at r
  · cases r
  · rename_i ti hti
    split at r
    · rename_i hag
      cases hn : readN C H a 0 ti.size with
      | none => rw [hn] at r; cases r
      | some l =>
        rw [hn] at r
        simp only [readN_le h hn]
        exact r
    · exact read1_le h r

theorem elemsF_le {H H' : AH} (h : H.le H') {sz n : Nat} {x : AV} {l : List AV} (r : elemsF C H sz n x = some l) : elemsF C H' sz n x = some l := by
  unfold elemsF at r ⊢
  split at r
  · exact r
  · exact r
  · split at r
    · exact readN_le h r
    · cases r
  · split at r
    · exact readN_le h r
    · cases r
  · exact r
  · cases r

theorem lenF_le {H H' : AH} (h : H.le H') {t : TypeId} {x : AV} {n : Nat} (r : lenF C H t x = some n) : lenF C H' t x = some n := by
  unfold lenF at r ⊢
  split at r
  case h_8 =>
    rename_i i hu
    cases ho : H.o.get i with
    | none => rw [ho] at r; cases r
    | some o => rw [ho] at r; simp only [h.o i o ho]; exact r
  all_goals exact r

theorem sliceF_le {H H' : AH} (h : H.le H') {t : TypeId} {x v : AV} {lo hi mx : Option AV} (r : sliceF C H t x lo hi mx = some v) : sliceF C H' t x lo hi mx = some v := by
  unfold sliceF at r ⊢
  split at r
  · exact r
  · exact r
  · split at r
    · cases r
    · split at r
      · cases r
      · split at r
        case h_4 =>
          rename_i i o len
          split at r
          · cases r
          · rename_i c e' hc
            simp only [rowG_le h hc]
            exact r
        all_goals exact r
  · cases r

theorem lookupF_le {H H' : AH} (h : H.le H') {t : TypeId} {x k v : AV} {ok : Bool} (r : lookupF C H t x k ok = some v) : lookupF C H' t x k ok = some v := by
  unfold lookupF at r ⊢
  split at r
  · split at r
    · cases r
    · split at r
      · cases r
      · rename_i es hes
        split at hes
        · simp only; cases hes; exact r
        · rename_i i
          cases ho : H.o.get i with
          | none => rw [ho] at hes; cases hes
          | some o =>
            rw [ho] at hes
            simp only [h.o i o ho]
            split at hes
            · cases hes; exact r
            · cases hes
        · cases hes
  · cases r

theorem convert2 {H H' : AH} (h : H.le H') {s d : TypeId} {x v : AV} {H1 : AH} (hc : convClass C.P s d = 2) (r : convertF C H s d x = some (v, H1)) : H1 = H ∧ convertF C H' s d x = some (v, H') := by
  unfold convClass at hc
  split at hc
  · cases hc
  · rename_i e hs hd
    unfold convertF at r ⊢
    rw [hs, hd] at r
    simp only [hs, hd]
    simp only at r
    split at r
    · cases r; exact ⟨rfl, rfl⟩
    · split at r
      · split at r
        · cases r
        · rename_i n hn
          split at r
          · cases r
          · rename_i l hl
            split at r
            · cases r
              rename_i hm
              refine ⟨rfl, ?_⟩
              simp only [elemsF_le h hl, hm]
            · cases r
      · cases r
  · cases hc
  · cases hc
  · cases hc

theorem val_le {H H' : AH} {v v' : Option AV} (k : ∀ x, v = some x → v' = some x) {r : OR} (h : val H v = some r) : ∃ x, r = .val x H ∧ val H' v' = some (.val x H') := by
  obtain ⟨x, rfl, rfl⟩ := val_inv h
  exact ⟨x, rfl, by rw [k x rfl]; rfl⟩

theorem class2_le {op : Op} {tm : Tr AV} {H H' : AH} {r : OR} (hle : H.le H') (hc : opClass C.P op = 2) (h : evOp op C tm H = some r) : ∃ v, r = .val v H ∧ evOp op C tm H' = some (.val v H') := by
  cases op <;> simp only [opClass] at hc
  case load t a => exact val_le (fun x hx => loadF_le hle hx) h
  case slice t x l hh m => exact val_le (fun x hx => sliceF_le hle hx) h
  case lookup t x i ok => exact val_le (fun x hx => lookupF_le hle hx) h
  case convert s d x =>
    obtain ⟨v, H1, hv, rfl⟩ := valH_inv h
    obtain ⟨rfl, k⟩ := convert2 hle hc hv
    exact ⟨v, rfl, by simp only [evOp, opConvert, k]; rfl⟩
  case call c =>
    split at hc
    · rename_i hb
      simp only [evOp, opCall, hb, opBuiltin] at h ⊢
      rcases hx : c.args.toList with _ | ⟨x, _ | ⟨y, _ | ⟨z, l⟩⟩⟩ <;> rcases hts : c.argTypes.toList with _ | ⟨t, _ | ⟨u, us⟩⟩ <;> rw [hx, hts] at h <;> first
        | (cases h; done)
        | (simp only at h ⊢
           split at h
           · rename_i n hn
             cases h
             exact ⟨_, rfl, by rw [lenF_le hle hn]⟩
           · cases h)
    · cases hc
    · cases hc
    · cases hc
    · rename_i hb
      simp only [evOp, opCall, hb, opBuiltin] at h ⊢
      rcases hx : c.args.toList with _ | ⟨x, _ | ⟨y, _ | ⟨z, l⟩⟩⟩ <;> rcases hts : c.argTypes.toList with _ | ⟨t, _ | ⟨u, us⟩⟩ <;> rw [hx, hts] at h <;> first
        | (cases h; done)
        | (simp only at h ⊢
           split at h
           · cases h; exact ⟨_, rfl, rfl⟩
           · split at h
             · cases h; exact ⟨_, rfl, rfl⟩
             · cases h
           · split at h
             · rename_i c e hc'
               split at h
               · cases h
                 refine ⟨_, rfl, ?_⟩
                 rename_i hlt
                 simp only [rowG_le hle hc', hlt]
               · cases h
             · cases h
           · cases h)
    · cases hc
  all_goals cases hc

end Go.Ev

namespace Go.Ev

variable {C : Ctx} {N : Nat} {ρ : Rho} {H : AH} {w : World} {nt : Nat} {tm : Tr AV} {a : Act}

/-- A run that makes one block: the value, the object, at whatever index. -/
def AllocOk (C : Ctx) (ρ : Rho) (w : World) (s : Sem Next) (i : Nat) (v : AV) (o : AObj) : Prop :=
  ∃ (β : Base) (ob : Obj) (w1 : World), β.blk = w.heap.size ∧ (w1.heap = w.heap ∧ w1.os = w.os ∧ w1.output = w.output) ∧ s.run C.P w = .ok (.value (v.conc (ρ.put i β))) (w1.alloc ob) ∧ v.Ok (ρ.put i β) ∧
    (∀ c g gen ext frz e wh sg, o ≠ .row c g gen true ext frz e wh sg) ∧ ∀ H', ObjOk C (ρ.put i β) H' β (w1.alloc ob) o

theorem row_new {c : List AV} {e : TypeId} {i g gen : Nat} (hi : ρ i = none) (hc : ∀ x ∈ c, x.Ok ρ) (H' : AH) :
    ObjOk C (ρ.put i ⟨w.heap.size, 0, 0, C.P.cellsOf e⟩) H' ⟨w.heap.size, 0, 0, C.P.cellsOf e⟩ (w.alloc (.cells (clos ρ c) e)) (.row c g gen false false 0 e true false) := by
  have hl : ρ.le (ρ.put i ⟨w.heap.size, 0, 0, C.P.cellsOf e⟩) := Rho.le_put hi
  intro _
  refine ⟨⟨clos ρ c, (0, 0), alloc_new, by simp [clos], fun j hj => ?_, fun _ => ⟨rfl, by simp [clos]⟩, fun hh => (by cases hh), fun j _ _ hh => (by simp at hh), fun _ => .inl rfl⟩, fun x hx => (conc_le hl x (hc x hx)).2, rfl⟩
  simp [clos, hj, (conc_le hl _ (hc _ (List.getElem_mem hj))).1]

theorem at_alloc {e : TypeId} {r : OR} (he : opAlloc e C tm H = some r) (hi : ρ H.n = none) :
    ∃ v o, r = .val v (H.new o) ∧ AllocOk C ρ w (vs (Instr.alloc e true (.tuple #[]))) H.n v o := by
  unfold opAlloc zeroOf at he
  cases ht : tiOf C.P e with
  | none => rw [ht] at he; cases he
  | some ti =>
    rw [ht] at he
    cases he
    obtain ⟨z, hz, hzc, _, hzo⟩ := (tiOf_ok ht).run_zero (w := w)
    refine ⟨_, _, rfl, ⟨w.heap.size, 0, 0, C.P.cellsOf e⟩, .cells (clos ρ ti.zero) e, w, rfl, ⟨rfl, rfl, rfl⟩, run_vs ?_, by simp [AV.Ok, Rho.put], (fun _ _ _ _ _ _ _ _ hh => by cases hh), row_new hi (hzo ρ)⟩
    simp [Instr.alloc, hz, newVar, Go.newRow, hzc ρ, AV.conc, Rho.put_b, clos, run_newObj_al]

theorem at_box {e : TypeId} {x : Operand} {r : OR} (he : opBox e x C tm H = some r) (hx : a.eval x = (ev tm x).conc ρ ∧ (ev tm x).Ok ρ) (hi : ρ H.n = none) :
    ∃ v o, r = .val v (H.new o) ∧ AllocOk C ρ w (vs (Instr.box e (a.eval x))) H.n v o := by
  cases he
  obtain ⟨hv, hok⟩ := hx
  refine ⟨_, _, rfl, ⟨w.heap.size, 0, 0, C.P.cellsOf e⟩, .cells (clos ρ (ev tm x).cells) e, w, rfl, ⟨rfl, rfl, rfl⟩, run_vs ?_, by simp [AV.Ok, Rho.put], (fun _ _ _ _ _ _ _ _ hh => by cases hh), row_new hi (cells_ok hok)⟩
  simp [Instr.box, newVar, Go.newRow, hv, cells_conc, AV.conc, Rho.put_b, run_newObj_al]

theorem at_makeMap {t : TypeId} {x : Option Operand} {r : OR} (he : opMakeMap t x C tm H = some r) (hi : ρ H.n = none) :
    ∃ v o, r = .val v (H.new o) ∧ AllocOk C ρ w (vs (Instr.makeMap t (x.map a.eval))) H.n v o := by
  unfold opMakeMap at he
  split at he
  · cases he
    refine ⟨_, _, rfl, ⟨w.heap.size, 0, 0, 0⟩, .map #[] 0, w, rfl, ⟨rfl, rfl, rfl⟩, run_vs ?_, by simp [AV.Ok, Rho.put], (fun _ _ _ _ _ _ _ _ hh => by cases hh), fun H' => ⟨by simpa using alloc_new, (fun e he => by cases he)⟩⟩
    simp [Instr.makeMap, AV.conc, Rho.put_b, run_newObj_al]
  · cases he

theorem at_makeSlice {t : TypeId} {l c : Operand} {r : OR} (he : opMakeSlice t l c C tm H = some r) (hl' : a.eval l = (ev tm l).conc ρ ∧ (ev tm l).Ok ρ) (hc' : a.eval c = (ev tm c).conc ρ ∧ (ev tm c).Ok ρ) (hi : ρ H.n = none) :
    ∃ v o, r = .val v (H.new o) ∧ AllocOk C ρ w (vs (Instr.makeSlice t (a.eval l) (a.eval c))) H.n v o := by
  obtain ⟨v, H', hv, rfl⟩ := valH_inv he
  obtain ⟨h1, _⟩ := hl'
  obtain ⟨h3, _⟩ := hc'
  unfold makeSliceF at hv
  split at hv
  · rename_i e hu
    split at hv
    · rename_i ti ln cn hti hl hc
      split at hv
      · rename_i hb
        cases hv
        simp only [Bool.and_eq_true] at hb
        obtain ⟨⟨⟨⟨b1, b2⟩, b3⟩, b4⟩, b5⟩ := hb
        have c1 := Nat.le_of_ble_eq_true b1
        have c2 := Nat.le_of_ble_eq_true b2
        have c3 := Nat.le_of_ble_eq_true b3
        have c4 := beq_size b4
        obtain ⟨k, hk⟩ := natOf_some hl
        obtain ⟨k', hk'⟩ := natOf_some hc
        have hto := tiOf_ok hti
        obtain ⟨i, i1, i2, i3⟩ := hto.run_info (w := w)
        obtain ⟨z, z1, z2, z3, z4⟩ := hto.run_zero (w := w)
        refine ⟨_, _, rfl, ⟨w.heap.size, 0, 0, C.P.cellsOf e⟩, .cells (clos ρ (zerosF ti cn)) e, w, rfl, ⟨rfl, rfl, rfl⟩, run_vs ?_, ?_, (fun _ _ _ _ _ _ _ _ hh => by cases hh), row_new hi (zeros_ok (z4 ρ) cn)⟩
        · rw [h1, hk, h3, hk']
          have w1 : IntKind.i64.wrap (Int.ofNat ln) = Int.ofNat ln := i64_small (by omega)
          have w2 : IntKind.i64.wrap (Int.ofNat cn) = Int.ofNat cn := i64_small c3
          have q1 : ¬ (Int.ofNat ln < 0) := by simp only [Int.ofNat_eq_natCast]; omega
          have q2 : ¬ (Int.ofNat cn < 0) := by simp only [Int.ofNat_eq_natCast]; omega
          have q3 : ¬ (Int.ofNat ln > Int.ofNat cn) := by simp only [Int.ofNat_eq_natCast]; omega
          have q4 : ¬ ((i.bytes : Int) * Int.ofNat cn > 281474976710656) := by
            rw [i3]
            have : (ti.bytes : Int) * Int.ofNat cn = ((cn * ti.bytes : Nat) : Int) := by simp [Int.mul_comm]
            rw [this]
            omega
          simp only [AV.conc, Instr.makeSlice, Sem.run_bind, run_under hu, Result.andThen_ok, run_asInt, i1, w1, w2]
          have hz : (Array.range (cn * ti.size)).map (z.cells[· % z.cells.size]!) = clos ρ (zerosF ti cn) := by
            have : z.cells.size = ti.size := by rw [z2 ρ]; simp [c4]
            rw [← this]
            exact zeros_eq (ρ := ρ) cn (z2 ρ)
          have hn : (Int.ofNat cn).toNat = cn := rfl
          have hn' : (Int.ofNat ln).toNat = ln := rfl
          have cond : (decide (Int.ofNat cn < 0) || decide ((i.bytes : Int) * Int.ofNat cn > 2 ^ 48)) = false := by
            simp only [Bool.or_eq_false_iff, decide_eq_false_iff_not]
            exact ⟨q2, by simpa using q4⟩
          have cond2 : ¬ (((decide (Int.ofNat cn < 0) || decide ((i.bytes : Int) * Int.ofNat cn > 2 ^ 48)) = true ∨ Int.ofNat ln < 0) ∨ Int.ofNat ln > Int.ofNat cn) := by
            rw [cond]
            simp only [Bool.false_eq_true, false_or]
            exact fun hh => hh.elim q1 q3
          simp only [Bool.or_eq_true, decide_eq_true_eq] at cond2 ⊢
          rw [if_neg cond2]
          simp only [Sem.run_bind, Sem.run_pure, Result.andThen_ok, run_askRoom, hto.run_size, hn, hn']
          by_cases h0 : cn * ti.size = 0
          · rw [if_pos h0]
            have : cn = 0 := by
              rcases Nat.mul_eq_zero.1 h0 with q | q
              · exact q
              · rw [q] at b5; cases b5
            subst this
            simp [Go.newRow, run_newObj_al, zerosF, clos, Rho.put_b]
            congr 2
            apply Array.ext_getElem?
            intro j
            simp
          · rw [if_neg h0]
            simp only [Sem.run_bind, z1, Result.andThen_ok, Sem.run_pure, hz, Go.newRow, run_newObj_al, Rho.put_b, Option.getD_some]
        · simp [AV.Ok, Rho.put]
      · cases hv
    · cases hv
  · cases hv

theorem at_buildSlice {t : TypeId} {n : Nat} {ps : Array (Nat × Operand)} {r : OR} (he : opBuildSlice t n ps C tm H = some r) (hps : (ps.map fun (i, x) => (i, a.eval x)).toList = (partsF tm ps).map (fun p => (p.1, p.2.conc ρ)) ∧ ∀ p ∈ partsF tm ps, p.2.Ok ρ) (hi : ρ H.n = none) :
    ∃ v o, r = .val v (H.new o) ∧ AllocOk C ρ w (vs (Instr.buildSlice t n (ps.map fun (i, x) => (i, a.eval x)))) H.n v o := by
  obtain ⟨v, H', hv, rfl⟩ := valH_inv he
  obtain ⟨p1, p2⟩ := hps
  unfold buildSliceF at hv
  split at hv
  · rename_i e hu
    split at hv
    · cases hv
    · rename_i te hte
      split at hv
      · cases hv
      · rename_i hb
        simp only [Bool.and_eq_true] at hb
        have b1 := Nat.le_of_ble_eq_true hb.1.1
        have b2 := beq_size hb.1.2
        split at hv
        · cases hv
        · rename_i cells hf
          cases hv
          have hto := tiOf_ok hte
          obtain ⟨z, z1, z2, z3, z4⟩ := hto.run_zero (w := w)
          obtain ⟨f1, f2⟩ := fill_ok (ρ := ρ) (place' := fun i => some (i * te.size, te.size)) (fun i => rfl) (partsF tm ps) _ cells p2 (zeros_ok (z4 ρ) n) hf
          refine ⟨_, _, rfl, ⟨w.heap.size, 0, 0, C.P.cellsOf e⟩, .cells (clos ρ cells) e, w, rfl, ⟨rfl, rfl, rfl⟩, run_vs ?_, ?_, (fun _ _ _ _ _ _ _ _ hh => by cases hh), row_new hi f2⟩
          · have hz : (Array.range (n * te.size)).map (z.cells[· % z.cells.size]!) = clos ρ (zerosF te n) := by
              have : z.cells.size = te.size := by rw [z2 ρ]; simp [b2]
              rw [← this]
              exact zeros_eq (ρ := ρ) n (z2 ρ)
            have hbig : ¬ (n * te.size > 2 ^ 24) := by omega
            simp only [Instr.buildSlice, Sem.run_bind, run_under hu, Result.andThen_ok, hto.run_size]
            rw [if_neg hbig]
            by_cases h0 : n * te.size = 0
            · have hn0 : n = 0 := by
                rcases Nat.mul_eq_zero.1 h0 with q | q
                · exact q
                · rw [q] at hb; simp at hb
              subst hn0
              rw [if_pos h0]
              simp only [Sem.run_pure, Result.andThen_ok, Sem.run_bind]
              have : ((Array.range (0 * te.size)).map fun x => (#[] : Array Value)[x % (#[] : Array Value).size]!) = clos ρ (zerosF te 0) := by
                apply Array.ext_getElem?
                intro j
                simp [zerosF, clos]
              rw [this, p1, f1]
              simp [Go.newRow, run_newObj_al, AV.conc, Rho.put_b]
            · rw [if_neg h0]
              simp only [Sem.run_bind, z1, Result.andThen_ok, Sem.run_pure, hz]
              rw [p1, f1]
              simp [Go.newRow, run_newObj_al, AV.conc, Rho.put_b]
          · simp [AV.Ok, Rho.put]
  · cases hv

theorem grown_new {c : List AV} {e : TypeId} {rest : Array Value} {cap sz i g gen : Nat} {fr : Nat × Nat} {sg : Bool} {w1 : World} (hw : w1.heap = w.heap) (hi : ρ i = none) (hc : ∀ x ∈ c, x.Ok ρ) (hsz : sz = C.P.cellsOf e)
    (hcap : c.length + rest.size = cap * sz) (hfr : fr.1 = fr.2 ∨ sg = true ∧ fr.1 = c.length + rest.size) (H' : AH) :
    ObjOk C (ρ.put i ⟨w.heap.size, 0, cap, sz⟩) H' ⟨w.heap.size, 0, cap, sz⟩ (w1.alloc (.cells (clos ρ c ++ rest) e fr)) (.row c g gen false false 0 e false sg) := by
  have hl : ρ.le (ρ.put i ⟨w.heap.size, 0, cap, sz⟩) := Rho.le_put hi
  intro _
  refine ⟨⟨clos ρ c ++ rest, fr, by rw [← hw]; exact alloc_new, by simp [clos], fun j hj => ?_, fun hh => (by cases hh), fun _ => by simp [clos, hcap], fun j _ hj hh => ?_, fun hh => ?_⟩, fun x hx => (conc_le hl x (hc x hx)).2, hsz⟩
  · have : (0 : Nat) + j < (clos ρ c).size := by simp [clos, hj]
    rw [Array.getElem?_append_left this]
    simp [clos, hj, (conc_le hl _ (hc _ (List.getElem_mem hj))).1]
  · simp only [Nat.zero_add] at hj hh
    have : j < c.length + rest.size := by simpa [clos] using hj
    rcases hfr with e | ⟨_, e⟩ <;> omega
  · rcases hfr with e | ⟨e, _⟩
    · exact .inl e
    · rw [hh] at e; cases e

theorem at_convert {s d : TypeId} {x : Operand} {r : OR} (hcl : convClass C.P s d = 1) (he : opConvert s d x C tm H = some r) (hx : a.eval x = (ev tm x).conc ρ ∧ (ev tm x).Ok ρ) (hi : ρ H.n = none) :
    ∃ v o, r = .val v (H.new o) ∧ AllocOk C ρ w (vs (convert s d (a.eval x))) H.n v o := by
  obtain ⟨v, H', hv, rfl⟩ := valH_inv he
  obtain ⟨h1, h2⟩ := hx
  rw [h1]
  generalize ev tm x = X at *
  have hsd : ∃ e, C.P.underlying s = some .string ∧ C.P.underlying d = some (.slice e) := by
    unfold convClass at hcl
    split at hcl
    · rename_i e q1 q2; exact ⟨e, q1, q2⟩
    · cases hcl
    · cases hcl
    · cases hcl
    · cases hcl
  obtain ⟨e, hu, hud⟩ := hsd
  unfold convertF at hv
  rw [hu, hud] at hv
  simp only at hv
  split at hv
  · rename_i z ti hue hti
    split at hv
    · rename_i hsz
      have hsz' := beq_size hsz
      cases hv
      let cap := (Question.appendCap z.length 0 e).cut (w.tape w.drawn (Question.appendCap z.length 0 e))
      have hcap : z.length ≤ cap := cut_cap _ _ _ _
      have hobj := fun H' => grown_new (C := C) (ρ := ρ) (w := w) (w1 := w.drew) (i := H.n) (g := H.n) (gen := 0) (c := z.map fun b => .int .u8 b.toNat) (e := e) (rest := Array.replicate (cap - z.length) (.int .u8 0)) (cap := cap) (sz := 1)
        (fr := (cap, cap + 1)) (sg := true) rfl hi (fun x hx => by obtain ⟨b, _, rfl⟩ := List.mem_map.1 hx; simp [AV.Ok]) (by rw [(tiOf_ok hti).cellsOf, hsz']) (by simp; omega)
        (.inr ⟨rfl, by simp; omega⟩) H'
      have hval : ∀ v : AV, v = strRow H.n z → v.conc (ρ.put H.n ⟨w.heap.size, 0, cap, 1⟩) = .slice (some ⟨w.heap.size, 0, none⟩) z.length cap ∧ v.Ok (ρ.put H.n ⟨w.heap.size, 0, cap, 1⟩) := by
        intro v hv
        cases z with
        | nil => subst hv; exact ⟨by simp [strRow, AV.conc, Rho.put_b], by simp [strRow, AV.Ok, Rho.put]⟩
        | cons b z => subst hv; exact ⟨by simp [strRow, AV.conc, Rho.put_b], by simp [strRow, AV.Ok, Rho.put]⟩
      obtain ⟨v1, v2⟩ := hval _ rfl
      refine ⟨_, _, rfl, ⟨w.heap.size, 0, cap, 1⟩, _, w.drew, rfl, ⟨rfl, rfl, rfl⟩, run_vs ?_, v2, (fun _ _ _ _ _ _ _ _ hh => by cases hh), hobj⟩
      have hsize : (clos ρ (z.map fun b => AV.int .u8 b.toNat) ++ Array.replicate (cap - z.length) (Value.int .u8 0)).size = cap := by simp [clos]; omega
      have helems : (Array.map (fun b : UInt8 => Value.int .u8 b.toNat) z.toArray) = clos ρ (z.map fun b => AV.int .u8 b.toNat) := by simp [clos, AV.conc]
      have hconv : (convert s d (.string ⟨z.toArray⟩)).run C.P w = (Conv.stringToBytes e ⟨z.toArray⟩).run C.P w := by
        simp only [convert, Sem.run_bind, run_under hu, run_under hud, Result.andThen_ok, run_under hue]
      simp only [AV.conc]
      rw [hconv, v1]
      simp only [Conv.stringToBytes, Sem.run_bind, ba_size, run_choose_cap, Result.andThen_ok, Go.newRow, run_newObj_al, Sem.run_pure, markStringish, run_shape]
      have hsh : (w.drew.alloc (.cells (clos ρ (z.map fun b => AV.int .u8 b.toNat) ++ Array.replicate (cap - z.length) (Value.int .u8 0)) e (0, 0))).shape? w.drew.heap.size = some (e, cap) := by
        simp only [World.shape?, alloc_new, hsize]
      rw [helems]
      rw [hsh]
      simp only [run_freeze, Result.andThen_ok]
      rw [alloc_freeze (by simp)]
      rfl
    · cases hv
  · cases hv

/-- An allocation run at a pending index. -/
theorem AllocOk.map {s : Sem Next} {i : Nat} {v : AV} {o : AObj} (h : Rel C N ρ H w) (k : AllocOk C ρ w s i v o) (hi : ρ i = none) (hn : i < H.n) (ho : H.o.get i = some o) :
    ∃ β w', s.run C.P w = .ok (.value (v.conc (ρ.put i β))) w' ∧ v.Ok (ρ.put i β) ∧ Rel C N (ρ.put i β) H w' ∧ w.heap.size ≤ β.blk ∧ w.heap.size ≤ w'.heap.size ∧ (∀ b, b < w.heap.size → w'.heap[b]? = w.heap[b]?) ∧ (w'.os = w.os ∧ w'.output = w.output) := by
  obtain ⟨β, ob, w1, b1, ⟨b2, b7⟩, b3, b4, b5, b6⟩ := k
  have h1 : Rel C N ρ H w1 := h.world (by rw [b2]; exact Nat.le_refl _) (fun b _ => by rw [b2])
  refine ⟨β, w1.alloc ob, b3, b4, h1.map hi hn ho (by rw [b1, b2]) (fun c g gen ext frz e wh sg hh => absurd hh (b5 c g gen ext frz e wh sg)) (b6 H), by omega, by simp [b2], fun b hb => ?_, b7⟩
  rw [alloc_lt (by rw [b2]; exact hb), b2]

/-- Every operation that makes memory. -/
theorem class1_ok {o : Oper} {r : OR} (hc : opClass C.P o.op = 1) (h : evOp o.op C tm H = some r) (hx : ∀ x ∈ o.op.operands, a.eval x = (ev tm x).conc ρ ∧ (ev tm x).Ok ρ) (hi : ρ H.n = none) :
    ∃ v ob, r = .val v (H.new ob) ∧ AllocOk C ρ w (execOp a.eval o) H.n v ob := by
  unfold execOp
  cases hop : o.op <;> rw [hop] at hc h hx <;> simp only [opClass] at hc
  case alloc e => exact at_alloc (tm := tm) h hi
  case box e x => exact at_box h (hx x (by simp [Op.operands])) hi
  case buildSlice t n ps =>
    refine at_buildSlice h ⟨?_, fun p hp => ?_⟩ hi
    · simp only [partsF, Array.toList_map, List.map_map]
      refine List.map_congr_left fun p hp => ?_
      have := (hx p.2 (by simp only [Op.operands, List.mem_toArray, List.mem_map]; exact ⟨p, hp, rfl⟩)).1
      simp [this]
    · obtain ⟨q, hq, rfl⟩ := List.mem_map.1 hp
      exact (hx q.2 (by simp only [Op.operands, List.mem_toArray, List.mem_map]; exact ⟨q, hq, rfl⟩)).2
  case makeMap t x => exact at_makeMap (tm := tm) h hi
  case makeSlice t l c => exact at_makeSlice h (hx l (by simp [Op.operands])) (hx c (by simp [Op.operands])) hi
  case convert s d x => exact at_convert hc h (hx x (by simp [Op.operands])) hi
  case call c => split at hc <;> cases hc
  all_goals cases hc

end Go.Ev
