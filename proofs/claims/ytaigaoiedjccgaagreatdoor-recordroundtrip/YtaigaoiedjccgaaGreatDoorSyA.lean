/-
  A part of the laws of calls and regions that the walks use. For every program.
-/
import Derived.Test.YtaigaoiedjccgaaGreatDoorEvG
set_option linter.unusedVariables false
set_option linter.unusedSimpArgs false

/-! Runs of the evaluator over values that are not known: temporaries as a function; forward rules. -/
namespace Go.Ev

/-- One slot turned. -/
def upd (f : Nat → AV) (d : Nat) (v : AV) : Nat → AV := fun t => match Nat.beq t d with
  | true => v
  | false => f t

theorem upd_self {f : Nat → AV} {d : Nat} {v : AV} (h : f d = v) : upd f d v = f := by
  funext t
  unfold upd
  cases hb : Nat.beq t d with
  | true => have : t = d := by simpa [Nat.beq_eq] using hb
            subst this; exact h.symm
  | false => rfl

def TMg (nt : Nat) (f : Nat → AV) : Nat → Nat → Nat → Tr AV
  | 0, _, _ => .leaf
  | d + 1, a, b => .node (TMg nt f d (2 * a) (a + b)) (match Nat.blt b nt with | true => some (f b) | false => none) (TMg nt f d (2 * a) (2 * a + b))

/-- The temporaries of a frame as a trie. -/
def TM (nt : Nat) (f : Nat → AV) : Tr AV := TMg nt f 8 1 0

theorem TMg_get (nt : Nat) (f : Nat → AV) : ∀ (d a b n : Nat), (TMg nt f d a b).get n = if n < 2 ^ d - 1 ∧ a * n + b < nt then some (f (a * n + b)) else none
  | 0, a, b, n => by simp [TMg, Tr.get]
  | d + 1, a, b, n => by
    have hp : 0 < 2 ^ d := Nat.two_pow_pos d
    have hp2 : 2 ^ (d + 1) = 2 * 2 ^ d := by rw [Nat.pow_succ]; omega
    cases n with
    | zero =>
      have : Nat.beq 0 0 = true := rfl
      simp only [TMg, Tr.get, this, Nat.mul_zero, Nat.zero_add]
      by_cases hb : b < nt
      · have : Nat.blt b nt = true := by rw [Nat.blt_eq]; exact hb
        rw [this, if_pos ⟨by omega, hb⟩]
      · have : Nat.blt b nt = false := by
          cases h : Nat.blt b nt with
          | false => rfl
          | true => rw [Nat.blt_eq] at h; exact absurd h hb
        rw [this, if_neg (fun h => hb h.2)]
    | succ n =>
      have : Nat.beq (n + 1) 0 = false := rfl
      simp only [TMg, Tr.get, this]
      by_cases ho : (n + 1) % 2 = 1
      · have h1 : Nat.beq (Nat.mod (n + 1) 2) 1 = true := by show Nat.beq ((n + 1) % 2) 1 = true; rw [ho]; rfl
        simp only [h1]
        rw [TMg_get nt f d]
        have e : 2 * a * (Nat.div (n + 1) 2) + (a + b) = a * (n + 1) + b := by
          show 2 * a * ((n + 1) / 2) + (a + b) = a * (n + 1) + b
          have : n + 1 = 2 * ((n + 1) / 2) + 1 := by omega
          conv => rhs; rw [this, Nat.mul_add, Nat.mul_one, ← Nat.mul_assoc, Nat.mul_comm a 2]
          omega
        rw [e]
        have e2 : (Nat.div (n + 1) 2 < 2 ^ d - 1 ↔ n + 1 < 2 ^ (d + 1) - 1) := by
          show ((n + 1) / 2 < 2 ^ d - 1 ↔ _)
          omega
        simp only [e2]
      · have ho' : (n + 1) % 2 = 0 := by omega
        have h1 : Nat.beq (Nat.mod (n + 1) 2) 1 = false := by show Nat.beq ((n + 1) % 2) 1 = false; rw [ho']; rfl
        simp only [h1]
        rw [TMg_get nt f d]
        have e : 2 * a * (Nat.sub (Nat.div (n + 1) 2) 1) + (2 * a + b) = a * (n + 1) + b := by
          show 2 * a * ((n + 1) / 2 - 1) + (2 * a + b) = a * (n + 1) + b
          have : n + 1 = 2 * ((n + 1) / 2 - 1) + 2 := by omega
          conv => rhs; rw [this, Nat.mul_add, ← Nat.mul_assoc, Nat.mul_comm a 2]
          omega
        rw [e]
        have e2 : (Nat.sub (Nat.div (n + 1) 2) 1 < 2 ^ d - 1 ↔ n + 1 < 2 ^ (d + 1) - 1) := by
          show ((n + 1) / 2 - 1 < 2 ^ d - 1 ↔ _)
          omega
        simp only [e2]

theorem TMg_congr (nt : Nat) {f g : Nat → AV} : ∀ (d a b : Nat), (∀ n, n < 2 ^ d - 1 → f (a * n + b) = g (a * n + b)) → TMg nt f d a b = TMg nt g d a b
  | 0, a, b, h => rfl
  | d + 1, a, b, h => by
    have hp : 0 < 2 ^ d := Nat.two_pow_pos d
    have hp2 : 2 ^ (d + 1) = 2 * 2 ^ d := by rw [Nat.pow_succ]; omega
    simp only [TMg]
    have h0 : f b = g b := by have := h 0 (by omega); simpa using this
    rw [TMg_congr nt d (2 * a) (a + b) (fun n hn => ?_), TMg_congr nt d (2 * a) (2 * a + b) (fun n hn => ?_), h0]
    · have := h (2 * n + 2) (by omega)
      rw [Nat.mul_add, ← Nat.mul_assoc, Nat.mul_comm a 2] at this
      rw [Nat.add_assoc] at this
      exact this
    · have := h (2 * n + 1) (by omega)
      rw [Nat.mul_add, Nat.mul_one, ← Nat.mul_assoc, Nat.mul_comm a 2] at this
      rw [Nat.add_assoc] at this
      exact this

theorem TMg_set (nt : Nat) {f : Nat → AV} {v : AV} : ∀ (d a b n : Nat), 0 < a → n < 2 ^ d - 1 → a * n + b < nt → (TMg nt f d a b).set n v = TMg nt (upd f (a * n + b) v) d a b
  | 0, a, b, n, _, h, _ => by simp at h
  | d + 1, a, b, n, ha, h, hnt => by
    have hp : 0 < 2 ^ d := Nat.two_pow_pos d
    have hp2 : 2 ^ (d + 1) = 2 * 2 ^ d := by rw [Nat.pow_succ]; omega
    have key : ∀ (x y : Nat), x ≠ y → upd f x v y = f y := by
      intro x y hne
      unfold upd
      have : Nat.beq y x = false := by
        cases hb : Nat.beq y x with
        | false => rfl
        | true => exact absurd (by simpa [Nat.beq_eq] using hb : y = x) (Ne.symm hne)
      rw [this]
    have inj : ∀ x y, a * x + b = a * y + b → x = y := by
      intro x y e
      exact Nat.eq_of_mul_eq_mul_left ha (by omega)
    cases n with
    | zero =>
      have h00 : Nat.beq 0 0 = true := rfl
      simp only [TMg, Tr.set, h00, Nat.mul_zero, Nat.zero_add]
      have hb : Nat.blt b nt = true := by rw [Nat.blt_eq]; simpa using hnt
      have e0 : upd f b v b = v := by unfold upd; have : Nat.beq b b = true := by simp [Nat.beq_eq]
                                      rw [this]
      rw [hb, e0]
      rw [TMg_congr nt (f := upd f b v) (g := f) d (2 * a) (a + b) (fun n _ => key _ _ (by have : 0 ≤ 2 * a * n := Nat.zero_le _; omega)),
        TMg_congr nt (f := upd f b v) (g := f) d (2 * a) (2 * a + b) (fun n _ => key _ _ (by have : 0 ≤ 2 * a * n := Nat.zero_le _; omega))]
    | succ n =>
      have h1 : Nat.beq (n + 1) 0 = false := rfl
      simp only [TMg, Tr.set, h1]
      have hroot : upd f (a * (n + 1) + b) v b = f b := key _ _ (by
        intro e
        have : a * (n + 1) = 0 := by omega
        rcases Nat.mul_eq_zero.1 this with q | q <;> omega)
      rw [hroot]
      by_cases ho : (n + 1) % 2 = 1
      · have h2 : Nat.beq (Nat.mod (n + 1) 2) 1 = true := by show Nat.beq ((n + 1) % 2) 1 = true; rw [ho]; rfl
        simp only [h2]
        have e : 2 * a * ((n + 1) / 2) + (a + b) = a * (n + 1) + b := by
          have : n + 1 = 2 * ((n + 1) / 2) + 1 := by omega
          conv => rhs; rw [this, Nat.mul_add, Nat.mul_one, ← Nat.mul_assoc, Nat.mul_comm a 2]
          omega
        have hlt : (n + 1) / 2 < 2 ^ d - 1 := by omega
        have := TMg_set nt (f := f) (v := v) d (2 * a) (a + b) ((n + 1) / 2) (by omega) hlt (by rw [e]; exact hnt)
        rw [e] at this
        have h3 : Nat.div (n + 1) 2 = (n + 1) / 2 := rfl
        rw [h3, this, TMg_congr nt (f := upd f (a * (n + 1) + b) v) (g := f) d (2 * a) (2 * a + b) (fun k _ => key _ _ (by
          intro e2
          have : a * (n + 1) + b = a * (2 * k + 2) + b := by rw [Nat.mul_add a (2 * k) 2, ← Nat.mul_assoc, Nat.mul_comm a 2]; omega
          have := inj _ _ this
          omega))]
      · have ho' : (n + 1) % 2 = 0 := by omega
        have h2 : Nat.beq (Nat.mod (n + 1) 2) 1 = false := by show Nat.beq ((n + 1) % 2) 1 = false; rw [ho']; rfl
        simp only [h2]
        have e : 2 * a * ((n + 1) / 2 - 1) + (2 * a + b) = a * (n + 1) + b := by
          have : n + 1 = 2 * ((n + 1) / 2 - 1) + 2 := by omega
          conv => rhs; rw [this, Nat.mul_add, ← Nat.mul_assoc, Nat.mul_comm a 2]
          omega
        have hlt : (n + 1) / 2 - 1 < 2 ^ d - 1 := by omega
        have := TMg_set nt (f := f) (v := v) d (2 * a) (2 * a + b) ((n + 1) / 2 - 1) (by omega) hlt (by rw [e]; exact hnt)
        rw [e] at this
        have h3 : Nat.sub (Nat.div (n + 1) 2) 1 = (n + 1) / 2 - 1 := rfl
        rw [h3, this, TMg_congr nt (f := upd f (a * (n + 1) + b) v) (g := f) d (2 * a) (a + b) (fun k _ => key _ _ (by
          intro e2
          have : a * (n + 1) + b = a * (2 * k + 1) + b := by rw [Nat.mul_add a (2 * k) 1, ← Nat.mul_assoc, Nat.mul_comm a 2]; omega
          have := inj _ _ this
          omega))]

theorem TM_get {nt : Nat} {f : Nat → AV} (h : nt ≤ 255) (n : Nat) : (TM nt f).get n = if n < nt then some (f n) else none := by
  unfold TM
  rw [TMg_get]
  simp only [Nat.one_mul, Nat.add_zero]
  by_cases hn : n < nt
  · rw [if_pos ⟨by omega, hn⟩, if_pos hn]
  · rw [if_neg (fun h => hn h.2), if_neg hn]

theorem TM_set {nt : Nat} {f : Nat → AV} (h : nt ≤ 255) {n : Nat} {v : AV} (hn : n < nt) : (TM nt f).set n v = TM nt (upd f n v) := by
  unfold TM
  have := TMg_set nt (f := f) (v := v) 8 1 0 n (by omega) (by omega) (by omega)
  simpa using this

theorem putF_TM {nt : Nat} {f : Nat → AV} (h : nt ≤ 255) {d : Nat} {v : AV} (hd : Nat.blt d nt = true) : putF nt (TM nt f) (some d) v = some (TM nt (upd f d v)) := by
  simp only [putF, hd]
  rw [TM_set h (by rwa [Nat.blt_eq] at hd)]

/-! ### Functions, their temporaries filled -/

def argF (args : List AV) : Nat → AV := fun t => args.getD t .undef

def ntOf (args : List AV) (fn : Func) : Nat := args.length + (fn.ntmps - args.length)

def evFnP (call : CallF) (C : Ctx) (m : Nat) (f : FuncId) (args : List AV) (H : AH) : Option (ARet × AH) :=
  match C.P.funcs[f]? with
  | none => none
  | some fn => match fn.body with
    | none => none
    | some c => match evCode call C m none f (ntOf args fn) c { tm := TM (ntOf args fn) (argF args), H, df := [] } with
      | some (.norm, s) => leaveF C fn s.tm s.df none s.H
      | some (.ret, s) => leaveF C fn s.tm s.df none s.H
      | some (.pan v, s) => leaveF C fn s.tm s.df (some v) s.H
      | _ => none

theorem TmOk.slots {ρ : Rho} {nt : Nat} {tm tm' : Tr AV} {tmps : Array Value} (h : TmOk ρ nt tm tmps) (hs : ∀ t, t < nt → slot tm' t = slot tm t) (ho : ∀ t, nt ≤ t → tm'.get t = none) : TmOk ρ nt tm' tmps :=
  ⟨h.size, fun t ht => by rw [hs t ht]; exact h.get t ht, ho⟩

variable {C : Ctx} {N : Nat}

theorem fnP_ok (hC : Fit C) {call : CallF} (hcall : CallOk C call) {m f : Nat} {args : List AV} {H H' : AH} {r : ARet} (hnt : ∀ fn, C.P.funcs[f]? = some fn → ntOf args fn ≤ 255) (he : evFnP call C m f args H = some (r, H')) {ρ : Rho} {w : World}
    (h : Rel C N ρ H w) (ha : ∀ v ∈ args, v.Ok ρ) : CallsIn Fence.wide 0 C.P f (clos ρ args) w (RetOk C N ρ H w r H') := by
  unfold evFnP at he
  split at he
  · cases he
  · rename_i fn hf
    split at he
    · cases he
    · rename_i c hb
      have hsz : (clos ρ args).size = args.length := by simp [clos]
      refine callsIn_of_wp_marks hf hb trivial ?_
      cases hev : evCode call C m none f (ntOf args fn) c { tm := TM (ntOf args fn) (argF args), H, df := [] } with
      | none => rw [hev] at he; cases he
      | some es =>
        obtain ⟨e, s⟩ := es
        rw [hev] at he
        have hn := hnt fn hf
        have htm : TmOk ρ (ntOf args fn) (TM (ntOf args fn) (argF args)) (clos ρ args ++ Array.replicate (fn.ntmps - args.length) undef) := by
          have h0 := args_ok ha (fn.ntmps - args.length)
          refine TmOk.slots h0 (fun t ht => ?_) (fun t ht => by rw [TM_get hn, if_neg (by omega)])
          simp only [slot, TM_get hn, if_pos ht, argTm_get, argF, Tr.get]
          by_cases hlt : t < args.length
          · rw [if_pos ⟨Nat.zero_le _, by omega⟩]
            simp [List.getD_eq_getElem?_getD, hlt]
          · rw [if_neg (by omega)]
            simp [List.getD_eq_getElem?_getD, List.getElem?_eq_none (Nat.le_of_not_lt hlt)]
        refine evCode_ok (rb := none) hC.good hcall (draw_ok hC.good hC.mix hcall) c _ _ _ hev _ ρ _ w h ⟨by rw [hsz]; exact htm, .nil⟩ trivial fun x a' w' hq => ?_
        obtain ⟨ρ', q1, q2, q3⟩ := hq
        have lift : ∀ e w'', RetOk C N ρ' s.H w' r H' e w'' → RetOk C N ρ H w r H' e w'' := fun e w'' hq => by
          obtain ⟨ρ'', s1, s2⟩ := hq
          exact ⟨ρ'', q1.trans s1, s2⟩
        cases e with
        | norm => cases q2; exact leave_ok hC.good s.df _ none s.H he ρ' w' _ q1.rel q3.tm q3.df (fun v hv => by cases hv) lift
        | ret => cases q2; exact leave_ok hC.good s.df _ none s.H he ρ' w' _ q1.rel q3.tm q3.df (fun v hv => by cases hv) lift
        | pan v =>
          obtain ⟨rfl, hv⟩ := q2
          exact leave_ok hC.good s.df _ (some v) s.H he ρ' w' _ q1.rel q3.tm q3.df (fun v' hv' => by cases hv'; exact hv) lift
        | exit id => cases he
        | goto l => cases he

end Go.Ev

namespace Go.Ev

/-- What a run of code stands in. -/
structure Env where
  call : CallF
  C : Ctx
  m : Nat
  ro : Option Nat
  fn : FuncId
  nt : Nat

abbrev Post := AE → (Nat → AV) → AH → List AD → Prop

/-- The code runs to its end, and there 'K' holds. -/
def W (X : Env) (c : Code) (f : Nat → AV) (H : AH) (df : List AD) (K : Post) : Prop :=
  ∃ e f' H' df', evCode X.call X.C X.m X.ro X.fn X.nt c ⟨TM X.nt f, H, df⟩ = some (e, ⟨TM X.nt f', H', df'⟩) ∧ K e f' H' df'

def WO (X : Env) (ops : Array Oper) (l : List Oper) (f : Nat → AV) (H : AH) (df : List AD) (K : Post) : Prop :=
  ∃ e f' H' df', evOps X.call X.C X.ro.isSome X.nt ops l ⟨TM X.nt f, H, df⟩ = some (e, ⟨TM X.nt f', H', df'⟩) ∧ K e f' H' df'

def seqK (X : Env) (b : Code) (K : Post) : Post := fun e f H df => match e with
  | .norm => W X b f H df K
  | e => K e f H df

def blockK (id : Nat) (K : Post) : Post := fun e f H df => match e with
  | .exit j => match Nat.beq j id with
    | true => K .norm f H df
    | false => K (.exit j) f H df
  | e => K e f H df

section
variable {X : Env} {f : Nat → AV} {H : AH} {df : List AD} {K : Post}

theorem W.mono {c : Code} {K' : Post} (h : W X c f H df K) (k : ∀ e f H df, K e f H df → K' e f H df) : W X c f H df K' := by
  obtain ⟨e, f', H', df', h1, h2⟩ := h
  exact ⟨e, f', H', df', h1, k _ _ _ _ h2⟩

theorem W_seq {a b : Code} (h : W X a f H df (seqK X b K)) : W X (.seq a b) f H df K := by
  obtain ⟨e, f', H', df', h1, h2⟩ := h
  cases e with
  | norm =>
    obtain ⟨e2, f2, H2, df2, g1, g2⟩ := h2
    exact ⟨e2, f2, H2, df2, by simp only [evCode, h1]; exact g1, g2⟩
  | exit id => exact ⟨_, f', H', df', by simp only [evCode, h1], h2⟩
  | goto l => exact ⟨_, f', H', df', by simp only [evCode, h1], h2⟩
  | ret => exact ⟨_, f', H', df', by simp only [evCode, h1], h2⟩
  | pan v => exact ⟨_, f', H', df', by simp only [evCode, h1], h2⟩

theorem W_region {id : Nat} {ops : Array Oper} (h : WO X ops ops.toList f H df K) : W X (.region id ops false) f H df K := h

theorem W_cond {c : Operand} {a b : Code} (v : Bool) (hv : ev (TM X.nt f) c = .bool v) (ht : v = true → W X a f H df K) (hf : v = false → W X b f H df K) : W X (.cond c a b) f H df K := by
  cases v with
  | true =>
    obtain ⟨e, f', H', df', h1, h2⟩ := ht rfl
    exact ⟨e, f', H', df', by simp only [evCode, hv]; exact h1, h2⟩
  | false =>
    obtain ⟨e, f', H', df', h1, h2⟩ := hf rfl
    exact ⟨e, f', H', df', by simp only [evCode, hv]; exact h1, h2⟩

theorem W_condT {c : Operand} {a b : Code} (hv : ev (TM X.nt f) c = .bool true) (ht : W X a f H df K) : W X (.cond c a b) f H df K := W_cond true hv (fun _ => ht) (fun h => by cases h)
theorem W_condF {c : Operand} {a b : Code} (hv : ev (TM X.nt f) c = .bool false) (hf : W X b f H df K) : W X (.cond c a b) f H df K := W_cond false hv (fun h => by cases h) (fun _ => hf)

theorem W_block {id : Nat} {b : Code} (h : W X b f H df (blockK id K)) : W X (.block id b) f H df K := by
  obtain ⟨e, f', H', df', h1, h2⟩ := h
  cases e with
  | exit j =>
    simp only [blockK] at h2
    split at h2
    · rename_i hj
      exact ⟨_, f', H', df', by simp only [evCode, h1, hj], h2⟩
    · rename_i hj
      exact ⟨_, f', H', df', by simp only [evCode, h1, hj], h2⟩
  | norm => exact ⟨_, f', H', df', by simp only [evCode, h1], h2⟩
  | goto l => exact ⟨_, f', H', df', by simp only [evCode, h1], h2⟩
  | ret => exact ⟨_, f', H', df', by simp only [evCode, h1], h2⟩
  | pan v => exact ⟨_, f', H', df', by simp only [evCode, h1], h2⟩

theorem W_skip (h : K .norm f H df) : W X .skip f H df K := ⟨_, _, _, _, rfl, h⟩
theorem W_exit {id : Nat} (h : K (.exit id) f H df) : W X (.exit id) f H df K := ⟨_, _, _, _, rfl, h⟩
theorem W_ret (h : K .ret f H df) : W X .ret f H df K := ⟨_, _, _, _, rfl, h⟩

/-- A loop: 'I n': so many rounds are left at most. -/
theorem W_loop {b : Code} {I : Nat → (Nat → AV) → AH → List AD → Prop} (n : Nat) (hn : n < X.m) (h0 : I n f H df)
    (step : ∀ k f H df, I k f H df → W X b f H df (fun e f' H' df' => match e with
      | .norm => ∃ j, k = j + 1 ∧ I j f' H' df'
      | e => K e f' H' df')) : W X (.loop b) f H df K := by
  have key : ∀ (m k : Nat) (f : Nat → AV) (H : AH) (df : List AD), k < m → I k f H df → ∃ e f' H' df', loopF (evCode X.call X.C X.m X.ro X.fn X.nt b) m ⟨TM X.nt f, H, df⟩ = some (e, ⟨TM X.nt f', H', df'⟩) ∧ K e f' H' df' := by
    intro m
    induction m with
    | zero => intro k f H df h; omega
    | succ m ih =>
      intro k f H df hk hI
      obtain ⟨e, f', H', df', h1, h2⟩ := step k f H df hI
      cases e with
      | norm =>
        obtain ⟨j, rfl, hj⟩ := h2
        obtain ⟨e2, f2, H2, df2, g1, g2⟩ := ih j f' H' df' (by omega) hj
        exact ⟨e2, f2, H2, df2, by simp only [loopF, h1]; exact g1, g2⟩
      | exit id => exact ⟨_, f', H', df', by simp only [loopF, h1], h2⟩
      | goto l => exact ⟨_, f', H', df', by simp only [loopF, h1], h2⟩
      | ret => exact ⟨_, f', H', df', by simp only [loopF, h1], h2⟩
      | pan v => exact ⟨_, f', H', df', by simp only [loopF, h1], h2⟩
  exact key X.m n f H df hn h0

/-! ### Operations -/
variable {ops : Array Oper} {o : Oper} {l : List Oper}

theorem WO_nil (h : K .norm f H df) : WO X ops [] f H df K := ⟨_, _, _, _, rfl, h⟩

theorem WO_val {d : Nat} {v : AV} {H' : AH} (hnt : Nat.ble X.nt 255 = true) (hw : wantedF ops (TM X.nt f) o = true) (hd : o.dst = some d) (hlt : Nat.blt d X.nt = true) (he : evOp o.op X.C (TM X.nt f) H = some (.val v H'))
    (k : WO X ops l (upd f d v) H' df K) : WO X ops (o :: l) f H df K := by
  obtain ⟨e, f', H1, df', h1, h2⟩ := k
  refine ⟨e, f', H1, df', ?_, h2⟩
  simp only [evOps, hw, he, hd]
  rw [putF_TM (Nat.le_of_ble_eq_true hnt) hlt]
  exact h1

theorem WO_off {d : Nat} (hnt : Nat.ble X.nt 255 = true) (hw : wantedF ops (TM X.nt f) o = false) (hd : o.dst = some d) (hlt : Nat.blt d X.nt = true)
    (k : WO X ops l (upd f d .undef) H df K) : WO X ops (o :: l) f H df K := by
  obtain ⟨e, f', H1, df', h1, h2⟩ := k
  refine ⟨e, f', H1, df', ?_, h2⟩
  simp only [evOps, hw, hd]
  rw [putF_TM (Nat.le_of_ble_eq_true hnt) hlt]
  exact h1

theorem WO_off0 (hw : wantedF ops (TM X.nt f) o = false) (hd : o.dst = none) (k : WO X ops l f H df K) : WO X ops (o :: l) f H df K := by
  obtain ⟨e, f', H1, df', h1, h2⟩ := k
  refine ⟨e, f', H1, df', ?_, h2⟩
  simp only [evOps, hw, hd, putF]
  exact h1

theorem WO_skip {H' : AH} (hw : wantedF ops (TM X.nt f) o = true) (hd : o.dst = none) (he : evOp o.op X.C (TM X.nt f) H = some (.skip H')) (k : WO X ops l f H' df K) : WO X ops (o :: l) f H df K := by
  obtain ⟨e, f', H1, df', h1, h2⟩ := k
  refine ⟨e, f', H1, df', ?_, h2⟩
  simp only [evOps, hw, he, hd, putF]
  exact h1

theorem WO_val0 {v : AV} {H' : AH} (hw : wantedF ops (TM X.nt f) o = true) (hd : o.dst = none) (he : evOp o.op X.C (TM X.nt f) H = some (.val v H')) (k : WO X ops l f H' df K) : WO X ops (o :: l) f H df K := by
  obtain ⟨e, f', H1, df', h1, h2⟩ := k
  refine ⟨e, f', H1, df', ?_, h2⟩
  simp only [evOps, hw, he, hd, putF]
  exact h1

theorem WO_call {d : Nat} {c : AC} {args : List AV} {v : AV} {H1 H' : AH} (hnt : Nat.ble X.nt 255 = true) (hw : wantedF ops (TM X.nt f) o = true) (hd : o.dst = some d) (hlt : Nat.blt d X.nt = true)
    (he : evOp o.op X.C (TM X.nt f) H = some (.call c args H1)) (hc : X.call c args H1 = some (.ret v, H'))
    (k : WO X ops l (upd f d v) H' df K) : WO X ops (o :: l) f H df K := by
  obtain ⟨e, f', H2, df', h1, h2⟩ := k
  refine ⟨e, f', H2, df', ?_, h2⟩
  simp only [evOps, hw, he, hd, hc]
  rw [putF_TM (Nat.le_of_ble_eq_true hnt) hlt]
  exact h1

theorem WO_call0 {c : AC} {args : List AV} {v : AV} {H1 H' : AH} (hw : wantedF ops (TM X.nt f) o = true) (hd : o.dst = none)
    (he : evOp o.op X.C (TM X.nt f) H = some (.call c args H1)) (hc : X.call c args H1 = some (.ret v, H'))
    (k : WO X ops l f H' df K) : WO X ops (o :: l) f H df K := by
  obtain ⟨e, f', H2, df', h1, h2⟩ := k
  refine ⟨e, f', H2, df', ?_, h2⟩
  simp only [evOps, hw, he, hd, hc, putF]
  exact h1

/-! ### Functions -/

/-- At a function's end. -/
def endK (C : Ctx) (fn : Func) (nt : Nat) (Q : AV → AH → Prop) : Post := fun e f H df => (e = .norm ∨ e = .ret) ∧ ∃ v H', leaveF C fn (TM nt f) df none H = some (.ret v, H') ∧ Q v H'

theorem fn_W {call : CallF} {C : Ctx} {m : Nat} {g : FuncId} {args : List AV} {fn : Func} {c : Code} {nt : Nat} {Q : AV → AH → Prop} (hf : C.P.funcs[g]? = some fn) (hb : fn.body = some c) (hn : ntOf args fn = nt)
    (h : W ⟨call, C, m, none, g, nt⟩ c (argF args) H [] (endK C fn nt Q)) : ∃ v H', evFnP call C m g args H = some (.ret v, H') ∧ Q v H' := by
  obtain ⟨e, f', H1, df', h1, h2, v, H2, h3, h4⟩ := h
  refine ⟨v, H2, ?_, h4⟩
  simp only [evFnP, hf, hb, hn]
  simp only at h1
  rcases h2 with rfl | rfl <;> simp only [h1, h3]

theorem endK_nil {C : Ctx} {fn : Func} {nt : Nat} {Q : AV → AH → Prop} {e : AE} {v : AV} (he : e = .norm ∨ e = .ret) (hr : resultsF C fn (TM nt f) H = some v) (hq : Q v H) : endK C fn nt Q e f H [] :=
  ⟨he, v, H, by simp only [leaveF, hr], hq⟩

end
end Go.Ev
