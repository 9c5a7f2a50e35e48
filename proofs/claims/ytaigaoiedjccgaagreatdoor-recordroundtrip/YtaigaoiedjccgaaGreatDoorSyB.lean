/-
  A part of the laws of calls and regions that the walks use. For every program.
-/
import Derived.Test.YtaigaoiedjccgaaGreatDoorSyA
set_option linter.unusedVariables false
set_option linter.unusedSimpArgs false

namespace Go.Ev

/-! ### What is known of a heap -/

/-- Nothing lies beyond a heap's number. -/
structure Wf (H : AH) : Prop where
  ron : H.ro ≤ H.n
  fresh : ∀ i, H.n ≤ i → H.o.get i = none

/-- What a call leaves of the heap that it finds: all but the objects of a list. -/
structure Fr (H : AH) (W : List Nat) (H' : AH) : Prop where
  n : H.n ≤ H'.n
  ro : H'.ro = H.ro
  wf : Wf H → Wf H'
  get : ∀ i, i < H.n → i ∉ W → H'.o.get i = H.o.get i
  gen : ∀ g, g < H.n → H'.gen g = H.gen g

theorem Fr.refl (H : AH) (W : List Nat) : Fr H W H := ⟨Nat.le_refl _, rfl, id, fun _ _ _ => rfl, fun _ _ => rfl⟩

theorem Fr.trans {H H1 H2 : AH} {W W1 : List Nat} (a : Fr H W H1) (b : Fr H1 W1 H2) (h : ∀ i, i ∈ W1 → i < H.n → i ∈ W) : Fr H W H2 :=
  ⟨Nat.le_trans a.n b.n, b.ro.trans a.ro, fun h => b.wf (a.wf h), fun i hi hw => by rw [b.get i (Nat.lt_of_lt_of_le hi a.n) (fun hm => hw (h i hm hi)), a.get i hi hw],
    fun g hg => by rw [b.gen g (Nat.lt_of_lt_of_le hg a.n), a.gen g hg]⟩

/-- An object that is known. -/
structure Slot where
  i : Nat
  wr : Bool
  gl : Bool
  o : AObj

abbrev Kn := List Slot

def rowOk (H : AH) : AObj → Prop
  | .row _ g gen sh _ _ _ _ _ => H.live g gen sh = true ∧ g < H.n
  | _ => True

def rowGroup : AObj → Option Nat
  | .row _ g _ _ _ _ _ _ _ => some g
  | _ => none

/-- The group of a row that was made since the start. -/
def ownGroup (s : Slot) : Option Nat :=
  match s.gl with
  | true => rowGroup s.o
  | false => none

structure SlotOk (H0 : AH) (W : List Nat) (H : AH) (s : Slot) : Prop where
  get : H.o.get s.i = some s.o
  lt : s.i < H.n
  wr : s.wr = true → H.ro ≤ s.i ∧ (s.i ∈ W ∨ H0.n ≤ s.i)
  row : rowOk H s.o
  grp : ∀ g, rowGroup s.o = some g → (s.gl = true → H0.n ≤ g) ∧ (s.gl = false → g < H0.n)

/-- The heap: it is framed by the one at the start, and these objects are in it. -/
structure Hs (H0 : AH) (W : List Nat) (H : AH) (L : Kn) : Prop where
  fr : Fr H0 W H
  wf : Wf H
  ok : ∀ s ∈ L, SlotOk H0 W H s
  nodup : (L.map Slot.i).Nodup
  own : (L.filterMap ownGroup).Nodup

theorem live_eq {H H' : AH} {g gen : Nat} {sh : Bool} (h : H'.gen g = H.gen g) : H'.live g gen sh = H.live g gen sh := by
  unfold AH.live
  rw [h]

theorem rowOk_le {H H' : AH} {o : AObj} (h : rowOk H o) (hn : H.n ≤ H'.n) (hg : ∀ g, g < H.n → H'.gen g = H.gen g) : rowOk H' o := by
  cases o with
  | row c g gen sh ext frz e wh sg => exact ⟨by rw [live_eq (hg g h.2)]; exact h.1, Nat.lt_of_lt_of_le h.2 hn⟩
  | _ => trivial

/-- Behind a call that leaves all that is known as it was. -/
theorem Hs.call {H0 H H' : AH} {W W1 : List Nat} {L : Kn} (h : Hs H0 W H L) (f : Fr H W1 H') (hw : ∀ s ∈ L, s.i ∉ W1) (hw1 : ∀ i, i ∈ W1 → i < H0.n → i ∈ W) : Hs H0 W H' L where
  fr := h.fr.trans f hw1
  wf := f.wf h.wf
  ok := fun s hs => by
    have k := h.ok s hs
    exact ⟨by rw [f.get s.i k.lt (hw s hs)]; exact k.get, Nat.lt_of_lt_of_le k.lt f.n, fun hwr => by rw [f.ro]; exact k.wr hwr, rowOk_le k.row f.n f.gen, k.grp⟩
  nodup := h.nodup
  own := h.own

theorem Hs.call0 {H0 H H' : AH} {W : List Nat} {L : Kn} (h : Hs H0 W H L) (f : Fr H [] H') : Hs H0 W H' L :=
  h.call f (fun _ _ hm => by cases hm) (fun _ hm => by cases hm)

/-- An object is made. -/
theorem Hs.new {H0 H : AH} {W : List Nat} {L : Kn} (h : Hs H0 W H L) (o : AObj) (ho : ∀ g, rowGroup o = some g → g = H.n) (hr : rowOk (H.new o) o) : Hs H0 W (H.new o) (L ++ [⟨H.n, true, true, o⟩]) := by
  have f : Fr H [] (H.new o) := ⟨by simp [AH.new], rfl, fun hw => ⟨by have := hw.ron; simp only [AH.new]; omega, fun i hi => by
    simp only [AH.new] at hi
    simp only [AH.new, Tr.get_set]
    rw [if_neg (by omega)]
    exact hw.fresh i (by omega)⟩, fun i hi _ => by simp only [AH.new, Tr.get_set]; rw [if_neg (by omega)], fun g _ => rfl⟩
  have h1 := h.call0 f
  refine ⟨h1.fr, h1.wf, fun s hs => ?_, ?_, ?_⟩
  · rcases List.mem_append.1 hs with hs | hs
    · exact h1.ok s hs
    · rw [List.mem_singleton] at hs
      subst hs
      exact ⟨new_get, by simp [AH.new], fun _ => ⟨h.wf.ron, .inr h.fr.n⟩, hr, fun g hg => ⟨fun _ => by rw [ho g hg]; exact h.fr.n, fun hh => by cases hh⟩⟩
  · rw [List.map_append, List.nodup_append]
    refine ⟨h.nodup, by simp, fun a ha b hb => ?_⟩
    simp only [List.map_cons, List.map_nil, List.mem_singleton] at hb
    subst hb
    obtain ⟨s, hs, rfl⟩ := List.mem_map.1 ha
    exact Nat.ne_of_lt (h.ok s hs).lt
  · rw [List.filterMap_append, List.nodup_append]
    refine ⟨h.own, ?_, fun a ha b hb => ?_⟩
    · cases hg : ownGroup ⟨H.n, true, true, o⟩ <;> simp [List.filterMap_cons, hg]
    · obtain ⟨s, hs, hsg⟩ := List.mem_filterMap.1 ha
      obtain ⟨t, ht, htg⟩ := List.mem_filterMap.1 hb
      rw [List.mem_singleton] at ht
      subst ht
      have e1 : b = H.n := ho b htg
      have e2 : a < H.n := by
        have k := (h.ok s hs).row
        unfold ownGroup at hsg
        split at hsg
        · unfold rowGroup at hsg
          split at hsg
          · rename_i hso
            cases hsg
            rw [hso] at k
            exact k.2
          · cases hsg
        · cases hsg
      omega

theorem rowOk_new {H : AH} {c : List AV} {ext : Bool} {frz e : Nat} {wh sg : Bool} : rowOk (H.new (.row c H.n 0 false ext frz e wh sg)) (.row c H.n 0 false ext frz e wh sg) := ⟨rfl, by simp [AH.new]⟩

theorem Hs.newRow {H0 H : AH} {W : List Nat} {L : Kn} (h : Hs H0 W H L) (c : List AV) (e : TypeId) : Hs H0 W (newRow H c e) (L ++ [⟨H.n, true, true, .row c H.n 0 false false 0 e true false⟩]) :=
  h.new _ (fun g hg => by cases hg; rfl) rowOk_new

theorem set_mem {L : Kn} {p : Nat} {x s : Slot} (h : s ∈ L.set p x) (hn : (L.map Slot.i).Nodup) {y : Slot} (hy : L[p]? = some y) : s = x ∨ (s ∈ L ∧ s.i ≠ y.i) := by
  obtain ⟨q, hq⟩ := List.mem_iff_getElem?.1 h
  rw [List.getElem?_set] at hq
  split at hq
  · rename_i e
    split at hq
    · cases hq; exact .inl rfl
    · cases hq
  · rename_i e
    refine .inr ⟨List.mem_of_getElem? hq, fun hi => e ?_⟩
    have h1 : (L.map Slot.i)[p]? = some y.i := by simp [hy]
    have h2 : (L.map Slot.i)[q]? = some s.i := by simp [hq]
    have hlt : p < (L.map Slot.i).length := (List.getElem?_eq_some_iff.1 h1).1
    exact (List.getElem?_inj hlt hn).1 (by rw [h1, h2, hi])

theorem map_set_i {L : Kn} {p i : Nat} {gl : Bool} {o o' : AObj} (hp : L[p]? = some ⟨i, true, gl, o⟩) : (L.set p ⟨i, true, gl, o'⟩).map Slot.i = L.map Slot.i := by
  rw [List.map_set]
  refine List.ext_getElem? fun q => ?_
  rw [List.getElem?_set]
  split
  · rename_i e
    subst e
    split
    · simp [hp]
    · rename_i hl
      rw [List.getElem?_eq_none (by omega)]
  · rfl

theorem own_set {o o' : AObj} {i : Nat} {gl : Bool} (hg : rowGroup o' = rowGroup o) : ∀ {M : Kn} {q : Nat}, M[q]? = some ⟨i, true, gl, o⟩ → (M.set q ⟨i, true, gl, o'⟩).filterMap ownGroup = M.filterMap ownGroup
  | [], q, hq => by simp at hq
  | m :: M, 0, hq => by
    simp only [List.getElem?_cons_zero, Option.some.injEq] at hq
    subst hq
    have : ownGroup ⟨i, true, gl, o'⟩ = ownGroup ⟨i, true, gl, o⟩ := by simp only [ownGroup, hg]
    simp only [List.set_cons_zero, List.filterMap_cons, this]
  | m :: M, q + 1, hq => by
    simp only [List.getElem?_cons_succ] at hq
    simp only [List.set_cons_succ, List.filterMap_cons, own_set hg hq]

/-- An object that is known is turned. -/
theorem Hs.setObj {H0 H : AH} {W : List Nat} {L : Kn} (h : Hs H0 W H L) {p : Nat} {i : Nat} {gl : Bool} {o o' : AObj} (hp : L[p]? = some ⟨i, true, gl, o⟩) (hr : rowOk H o') (hg : rowGroup o' = rowGroup o) :
    Hs H0 W (H.setObj i o') (L.set p ⟨i, true, gl, o'⟩) := by
  have hm := List.mem_of_getElem? hp
  have k := h.ok _ hm
  have kw := k.wr rfl
  have hwf : Wf (H.setObj i o') := ⟨h.wf.ron, fun j hj => by
    simp only [AH.setObj] at hj
    simp only [AH.setObj, Tr.get_set]
    rw [if_neg (by have := k.lt; simp only at this; omega)]
    exact h.wf.fresh j hj⟩
  refine ⟨⟨h.fr.n, h.fr.ro, fun _ => hwf, fun j hj hjw => ?_, h.fr.gen⟩, hwf, fun s hs => ?_, ?_, ?_⟩
  · simp only [AH.setObj, Tr.get_set]
    rw [if_neg]
    · exact h.fr.get j hj hjw
    · rintro rfl
      rcases kw.2 with q | q
      · exact hjw q
      · simp only at q; omega
  · rcases set_mem hs h.nodup hp with rfl | ⟨hs', hne⟩
    · exact ⟨by simp [AH.setObj, Tr.get_set], k.lt, fun _ => kw, rowOk_le hr (Nat.le_refl _) fun _ _ => rfl, fun g hgg => k.grp g (by rw [← hg]; exact hgg)⟩
    · have ks := h.ok s hs'
      refine ⟨?_, ks.lt, ks.wr, rowOk_le ks.row (Nat.le_refl _) fun _ _ => rfl, ks.grp⟩
      simp only [AH.setObj, Tr.get_set]
      rw [if_neg hne]
      exact ks.get
  · rw [map_set_i hp]; exact h.nodup
  · rw [own_set hg hp]; exact h.own

/-- What is forgotten. -/
theorem Hs.drop {H0 H : AH} {W : List Nat} {L M : Kn} (h : Hs H0 W H L) (hs : M.Sublist L) : Hs H0 W H M :=
  ⟨h.fr, h.wf, fun s k => h.ok s (hs.subset k), h.nodup.sublist (hs.map _), h.own.sublist (hs.filterMap _)⟩

theorem Hs.cells {H0 H : AH} {W : List Nat} {L : Kn} (h : Hs H0 W H L) {p : Nat} {i : Nat} {wr gl : Bool} {c : List AV} {g gen : Nat} {sh ext : Bool} {frz e : Nat} {wh sg : Bool} (hp : L[p]? = some ⟨i, wr, gl, .row c g gen sh ext frz e wh sg⟩) :
    H.cells i = some c := by
  have k := h.ok _ (List.mem_of_getElem? hp)
  have hg := k.get
  have hr := k.row
  simp only at hg hr
  simp only [AH.cells, hg, hr.1]

/-! ### The judgement -/

structure JE extends Env where
  H0 : AH
  Wr : List Nat

abbrev PostL := AE → (Nat → AV) → Kn → List AD → Prop

def lift (Y : JE) (K : PostL) : Post := fun e f H df => ∃ L, Hs Y.H0 Y.Wr H L ∧ K e f L df

def JW (Y : JE) (c : Code) (f : Nat → AV) (L : Kn) (df : List AD) (K : PostL) : Prop := ∀ H, Hs Y.H0 Y.Wr H L → W Y.toEnv c f H df (lift Y K)

def JO (Y : JE) (ops : Array Oper) (l : List Oper) (f : Nat → AV) (L : Kn) (df : List AD) (K : PostL) : Prop := ∀ H, Hs Y.H0 Y.Wr H L → WO Y.toEnv ops l f H df (lift Y K)

def seqJ (Y : JE) (b : Code) (K : PostL) : PostL := fun e f L df => match e with
  | .norm => JW Y b f L df K
  | e => K e f L df

def blockJ (id : Nat) (K : PostL) : PostL := fun e f L df => match e with
  | .exit j => match Nat.beq j id with
    | true => K .norm f L df
    | false => K (.exit j) f L df
  | e => K e f L df

section
variable {Y : JE} {f : Nat → AV} {L : Kn} {df : List AD} {K : PostL}

theorem J_seq {a b : Code} (h : JW Y a f L df (seqJ Y b K)) : JW Y (.seq a b) f L df K := fun H hH => W_seq ((h H hH).mono fun e f' H' df' hk => by
  obtain ⟨L', q1, q2⟩ := hk
  cases e with
  | norm => exact q2 H' q1
  | _ => exact ⟨L', q1, q2⟩)

theorem J_region {id : Nat} {ops : Array Oper} (h : JO Y ops ops.toList f L df K) : JW Y (.region id ops false) f L df K := fun H hH => W_region (h H hH)

theorem J_cond {c : Operand} {a b : Code} (v : Bool) (hv : ev (TM Y.nt f) c = .bool v) (ht : v = true → JW Y a f L df K) (hf : v = false → JW Y b f L df K) : JW Y (.cond c a b) f L df K :=
  fun H hH => W_cond v hv (fun q => ht q H hH) (fun q => hf q H hH)

theorem J_block {id : Nat} {b : Code} (h : JW Y b f L df (blockJ id K)) : JW Y (.block id b) f L df K := fun H hH => W_block ((h H hH).mono fun e f' H' df' hk => by
  obtain ⟨L', q1, q2⟩ := hk
  cases e with
  | exit j =>
    simp only [blockJ, blockK] at q2 ⊢
    split at q2
    · rename_i hj; simp only [hj]; exact ⟨L', q1, q2⟩
    · rename_i hj; simp only [hj]; exact ⟨L', q1, q2⟩
  | _ => exact ⟨L', q1, q2⟩)

theorem J_skip (h : K .norm f L df) : JW Y .skip f L df K := fun H hH => W_skip ⟨L, hH, h⟩
theorem J_exit {id : Nat} (h : K (.exit id) f L df) : JW Y (.exit id) f L df K := fun H hH => W_exit ⟨L, hH, h⟩
theorem J_ret (h : K .ret f L df) : JW Y .ret f L df K := fun H hH => W_ret ⟨L, hH, h⟩

/-- A loop: 'I n': so many rounds are left at most. -/
theorem J_loop {b : Code} (I : Nat → (Nat → AV) → Kn → List AD → Prop) (n : Nat) (hn : n < Y.m) (h0 : I n f L df)
    (step : ∀ k f L df, I k f L df → JW Y b f L df (fun e f' L' df' => match e with
      | .norm => ∃ j, k = j + 1 ∧ I j f' L' df'
      | e => K e f' L' df')) : JW Y (.loop b) f L df K := fun H hH =>
  W_loop (I := fun k f H df => ∃ L, Hs Y.H0 Y.Wr H L ∧ I k f L df) n hn ⟨L, hH, h0⟩ fun k f H df hI => by
    obtain ⟨L, q1, q2⟩ := hI
    refine (step k f L df q2 H q1).mono fun e f' H' df' hk => ?_
    obtain ⟨L', g1, g2⟩ := hk
    cases e with
    | norm =>
      obtain ⟨j, e1, e2⟩ := g2
      exact ⟨j, e1, L', g1, e2⟩
    | _ => exact ⟨L', g1, g2⟩

theorem JW.mono {c : Code} {K' : PostL} (h : JW Y c f L df K) (k : ∀ e f L df, K e f L df → K' e f L df) : JW Y c f L df K' := fun H hH =>
  (h H hH).mono fun e f' H' df' hk => by
    obtain ⟨L', q1, q2⟩ := hk
    exact ⟨L', q1, k _ _ _ _ q2⟩

/-- Some of what is known is forgotten. -/
theorem J_forget {c : Code} (M : Kn) (hs : M.Sublist L) (h : JW Y c f M df K) : JW Y c f L df K := fun H hH => h H (hH.drop hs)
theorem JO_forget {ops : Array Oper} {l : List Oper} (M : Kn) (hs : M.Sublist L) (h : JO Y ops l f M df K) : JO Y ops l f L df K := fun H hH => h H (hH.drop hs)

/-! ### One operation -/
variable {ops : Array Oper} {o : Oper} {l : List Oper}

def updO (f : Nat → AV) : Option Tmp → AV → (Nat → AV)
  | none, _ => f
  | some d, v => upd f d v

/-- What one operation does. -/
inductive Does (X : Env) (ops : Array Oper) (o : Oper) (f : Nat → AV) (H : AH) : (Nat → AV) → AH → AV → Prop
  | off : wantedF ops (TM X.nt f) o = false → Does X ops o f H (updO f o.dst .undef) H .undef
  | val {v : AV} {H' : AH} : wantedF ops (TM X.nt f) o = true → evOp o.op X.C (TM X.nt f) H = some (.val v H') → Does X ops o f H (updO f o.dst v) H' v
  | skip {H' : AH} : wantedF ops (TM X.nt f) o = true → evOp o.op X.C (TM X.nt f) H = some (.skip H') → Does X ops o f H (updO f o.dst .undef) H' .undef
  | call {c : AC} {args : List AV} {H1 : AH} {v : AV} {H' : AH} : wantedF ops (TM X.nt f) o = true → evOp o.op X.C (TM X.nt f) H = some (.call c args H1) → X.call c args H1 = some (.ret v, H') → Does X ops o f H (updO f o.dst v) H' v

def dstOk (nt : Nat) (o : Oper) : Bool := Nat.ble nt 255 && (match o.dst with
  | none => true
  | some d => Nat.blt d nt)

theorem putF_O {nt : Nat} {o : Oper} (h : dstOk nt o = true) (v : AV) : putF nt (TM nt f) o.dst v = some (TM nt (updO f o.dst v)) := by
  unfold dstOk at h
  simp only [Bool.and_eq_true] at h
  cases hd : o.dst with
  | none => rfl
  | some d =>
    rw [hd] at h
    exact putF_TM (Nat.le_of_ble_eq_true h.1) h.2

/-- An operation, from what is known to what is known. -/
def SJ (Y : JE) (ops : Array Oper) (o : Oper) (f : Nat → AV) (L : Kn) (Q : (Nat → AV) → Kn → AV → Prop) : Prop :=
  dstOk Y.nt o = true ∧ ∀ H, Hs Y.H0 Y.Wr H L → ∃ f' H' L' v, Does Y.toEnv ops o f H f' H' v ∧ Hs Y.H0 Y.Wr H' L' ∧ Q f' L' v

theorem SJ_mk {Q : (Nat → AV) → Kn → AV → Prop} (h1 : dstOk Y.nt o = true) (h2 : ∀ H, Hs Y.H0 Y.Wr H L → ∃ f' H' L' v, Does Y.toEnv ops o f H f' H' v ∧ Hs Y.H0 Y.Wr H' L' ∧ Q f' L' v) : SJ Y ops o f L Q := ⟨h1, h2⟩

theorem O_nil (h : K .norm f L df) : JO Y ops [] f L df K := fun H hH => WO_nil ⟨L, hH, h⟩

theorem O_cons (h : SJ Y ops o f L fun f' L' _ => JO Y ops l f' L' df K) : JO Y ops (o :: l) f L df K := by
  obtain ⟨hd, h⟩ := h
  intro H hH
  obtain ⟨f', H', L', v, q1, q2, q3⟩ := h H hH
  obtain ⟨e, f2, H2, df2, g1, g2⟩ := q3 H' q2
  refine ⟨e, f2, H2, df2, ?_, g2⟩
  cases q1 with
  | off hw => simp only [evOps, hw, putF_O hd]; exact g1
  | val hw he => simp only [evOps, hw, he, putF_O hd]; exact g1
  | skip hw he => simp only [evOps, hw, he, putF_O hd]; exact g1
  | call hw he hc => simp only [evOps, hw, he, hc, putF_O hd]; exact g1

/-! ### A region that draws its order -/

def JP (Y : JE) (ops : Array Oper) (l : List PStep) (rd : List (Nat × Tr AV × AV)) (f : Nat → AV) (L : Kn) (df : List AD) (K : PostL) : Prop := ∀ H, Hs Y.H0 Y.Wr H L →
  ∃ f' H' df', evPlan Y.call Y.C Y.nt ops l rd ⟨TM Y.nt f, H, df⟩ = some (.norm, ⟨TM Y.nt f', H', df'⟩) ∧ ∃ L', Hs Y.H0 Y.Wr H' L' ∧ K .norm f' L' df'

theorem P_nil {rd : List (Nat × Tr AV × AV)} (h : K .norm f L df) : JP Y ops [] rd f L df K := fun H hH => ⟨f, H, df, rfl, L, hH, h⟩

def rdOf (P : Program) (nt : Nat) (o : Oper) (i : Nat) (f : Nat → AV) (v : AV) (off : Bool) (rd : List (Nat × Tr AV × AV)) : List (Nat × Tr AV × AV) :=
  match off with
  | true => rd
  | false => match Nat.beq (opClass P o.op) 2 with
    | true => (i, TM nt f, v) :: rd
    | false => rd

theorem P_cons {p : PStep} {l : List PStep} {rd : List (Nat × Tr AV × AV)} (ho : ops[p.i]? = some o) (hst : ∀ f' H' L' v, Hs Y.H0 Y.Wr H' L' → (∃ H, Hs Y.H0 Y.Wr H L ∧ Does Y.toEnv ops o f H f' H' v) → stillF Y.C ops H' p.again rd = true)
    (h : SJ Y ops o f L fun f' L' v => JP Y ops l (rdOf Y.C.P Y.nt o p.i f v (!wantedF ops (TM Y.nt f) o) rd) f' L' df K) : JP Y ops (p :: l) rd f L df K := by
  obtain ⟨hd, h⟩ := h
  intro H hH
  obtain ⟨f', H', L', v, q1, q2, q3⟩ := h H hH
  obtain ⟨f2, H2, df2, g1, g2⟩ := q3 H' q2
  refine ⟨f2, H2, df2, ?_, g2⟩
  have hs := hst f' H' L' v q2 ⟨H, hH, q1⟩
  have hfr : freshF Y.C.P o.op H = true := by
    unfold freshF
    split
    · simp [hH.wf.fresh H.n (Nat.le_refl _)]
    · rfl
  cases q1 with
  | off hw =>
    simp only [hw, Bool.not_false, rdOf] at g1
    simp only [evPlan, ho, hw, putF_O hd]
    exact g1
  | val hw he =>
    simp only [hw, Bool.not_true, rdOf] at g1
    simp only [evPlan, ho, hw, he, hs, hfr, Bool.and_self, putF_O hd]
    exact g1
  | skip hw he =>
    have hc : Nat.beq (opClass Y.C.P o.op) 2 = false := by
      cases hb : Nat.beq (opClass Y.C.P o.op) 2 with
      | false => rfl
      | true =>
        obtain ⟨v, e, _⟩ := class2_le (H := H) (H' := H) ⟨fun i x hx => hx, rfl⟩ (by simpa [Nat.beq_eq] using hb) he
        cases e
    simp only [hw, Bool.not_true, rdOf, hc] at g1
    simp only [evPlan, ho, hw, he, hs, putF_O hd]
    exact g1
  | call hw he hc =>
    have hcl : Nat.beq (opClass Y.C.P o.op) 2 = false := by
      cases hb : Nat.beq (opClass Y.C.P o.op) 2 with
      | false => rfl
      | true =>
        obtain ⟨v, e, _⟩ := class2_le (H := H) (H' := H) ⟨fun i x hx => hx, rfl⟩ (by simpa [Nat.beq_eq] using hb) he
        cases e
    simp only [hw, Bool.not_true, rdOf, hcl] at g1
    simp only [evPlan, ho, hw, he, hc, hs, putF_O hd]
    exact g1

theorem still_nil (C : Ctx) (ops : Array Oper) (H : AH) : ∀ rd, stillF C ops H [] rd = true
  | [] => rfl
  | (p, tm, v) :: l => by simp only [stillF, still_nil C ops H l]; rfl

theorem P_cons0 {i : Nat} {l : List PStep} {rd : List (Nat × Tr AV × AV)} (ho : ops[i]? = some o)
    (h : SJ Y ops o f L fun f' L' v => ∀ rd, JP Y ops l rd f' L' df K) : JP Y ops ({ i, again := [] } :: l) rd f L df K :=
  P_cons ho (fun _ _ _ _ _ _ => still_nil _ _ _ _) ⟨h.1, fun H hH => by
    obtain ⟨f', H', L', v, q1, q2, q3⟩ := h.2 H hH
    exact ⟨f', H', L', v, q1, q2, q3 _⟩⟩

theorem J_draw {id : Nat} {l : List PStep} (hp : plan Y.C.P ops = some l) (h : JP Y ops l [] f L df K) : JW Y (.region id ops true) f L df K := fun H hH => by
  obtain ⟨f', H', df', g1, g2⟩ := h H hH
  exact ⟨.norm, f', H', df', by simp only [evCode, evDraw, hp]; exact g1, g2⟩

/-! ### What operations do -/
variable {Q : (Nat → AV) → Kn → AV → Prop}

theorem dst_some {nt d : Nat} (hnt : Nat.ble nt 255 = true) (hd : o.dst = some d) (hlt : Nat.blt d nt = true) : dstOk nt o = true := by simp [dstOk, hnt, hd, hlt]
theorem dst_none {nt : Nat} (hnt : Nat.ble nt 255 = true) (hd : o.dst = none) : dstOk nt o = true := by simp [dstOk, hnt, hd]

theorem S_off {d : Nat} (hnt : Nat.ble Y.nt 255 = true) (hd : o.dst = some d) (hlt : Nat.blt d Y.nt = true) (hw : wantedF ops (TM Y.nt f) o = false) (k : Q (upd f d .undef) L .undef) : SJ Y ops o f L Q :=
  ⟨dst_some hnt hd hlt, fun H hH => ⟨_, H, L, _, .off hw, hH, by rw [hd]; exact k⟩⟩

theorem S_off0 (hnt : Nat.ble Y.nt 255 = true) (hd : o.dst = none) (hw : wantedF ops (TM Y.nt f) o = false) (k : Q f L .undef) : SJ Y ops o f L Q :=
  ⟨dst_none hnt hd, fun H hH => ⟨_, H, L, _, .off hw, hH, by rw [hd]; exact k⟩⟩

/-- A value, whatever the heap. -/
theorem S_pure {d : Nat} {v : AV} (hnt : Nat.ble Y.nt 255 = true) (hd : o.dst = some d) (hlt : Nat.blt d Y.nt = true) (hw : wantedF ops (TM Y.nt f) o = true) (he : ∀ H, evOp o.op Y.C (TM Y.nt f) H = some (.val v H)) (k : Q (upd f d v) L v) : SJ Y ops o f L Q :=
  ⟨dst_some hnt hd hlt, fun H hH => ⟨_, H, L, _, .val hw (he H), hH, by rw [hd]; exact k⟩⟩

/-- A value; the heap stays. -/
theorem S_read {d : Nat} {v : AV} (hnt : Nat.ble Y.nt 255 = true) (hd : o.dst = some d) (hlt : Nat.blt d Y.nt = true) (hw : wantedF ops (TM Y.nt f) o = true) (he : ∀ H, Hs Y.H0 Y.Wr H L → evOp o.op Y.C (TM Y.nt f) H = some (.val v H)) (k : Q (upd f d v) L v) : SJ Y ops o f L Q :=
  ⟨dst_some hnt hd hlt, fun H hH => ⟨_, H, L, _, .val hw (he H hH), hH, by rw [hd]; exact k⟩⟩

theorem S_load (p : Nat) {d : Nat} {t : TypeId} {a : Operand} {i k : Nat} {wr gl : Bool} {c : List AV} {g gen : Nat} {sh ext : Bool} {frz e : Nat} {wh sg : Bool} {ti : TI} {v : AV} (hnt : Nat.ble Y.nt 255 = true) (hd : o.dst = some d) (hlt : Nat.blt d Y.nt = true) (hw : wantedF ops (TM Y.nt f) o = true)
    (ho : o.op = .load t a) (ha : ev (TM Y.nt f) a = .nptr i k) (hp : L[p]? = some ⟨i, wr, gl, .row c g gen sh ext frz e wh sg⟩) (ht : tiOf Y.C.P t = some ti) (hg : ti.agg = false) (hc : c[k]? = some v)
    (kk : Q (upd f d v) L v) : SJ Y ops o f L Q :=
  S_read hnt hd hlt hw (fun H hH => by
    rw [ho]
    simp only [evOp, opLoad, ha, loadF, ht, hg, read1, hH.cells hp, hc]
    rfl) kk

theorem S_loadA (p : Nat) {d : Nat} {t : TypeId} {a : Operand} {i k : Nat} {wr gl : Bool} {c : List AV} {g gen : Nat} {sh ext : Bool} {frz e : Nat} {wh sg : Bool} {ti : TI} {v : List AV} (hnt : Nat.ble Y.nt 255 = true) (hd : o.dst = some d) (hlt : Nat.blt d Y.nt = true) (hw : wantedF ops (TM Y.nt f) o = true)
    (ho : o.op = .load t a) (ha : ev (TM Y.nt f) a = .nptr i k) (hp : L[p]? = some ⟨i, wr, gl, .row c g gen sh ext frz e wh sg⟩) (ht : tiOf Y.C.P t = some ti) (hg : ti.agg = true) (hc : slice c k ti.size = some v)
    (kk : Q (upd f d (.agg v)) L (.agg v)) : SJ Y ops o f L Q :=
  S_read hnt hd hlt hw (fun H hH => by
    rw [ho]
    simp only [evOp, opLoad, ha, loadF, ht, hg, readN, hH.cells hp, Nat.add_zero, hc]
    rfl) kk

/-- A store into an object that is known and shares nothing. -/
theorem S_store (p : Nat) {t : TypeId} {a x : Operand} {i k : Nat} {gl : Bool} {c : List AV} {g gen : Nat} {ext : Bool} {frz e : Nat} {wh sg : Bool} {ti : TI} {v : AV} (hnt : Nat.ble Y.nt 255 = true) (hd : o.dst = none) (hw : wantedF ops (TM Y.nt f) o = true)
    (ho : o.op = .store t a x) (ha : ev (TM Y.nt f) a = .nptr i k) (hx : ev (TM Y.nt f) x = v) (hp : L[p]? = some ⟨i, true, gl, .row c g gen false ext frz e wh sg⟩) (ht : tiOf Y.C.P t = some ti)
    (hs : (Nat.beq v.cells.length ti.size && v.cells.all AV.isCell) = true) (hb : (Nat.ble (k + v.cells.length) c.length && Nat.ble frz k) = true)
    (kk : Q f (L.set p ⟨i, true, gl, .row (over c k v.cells) g gen false ext frz e wh sg⟩) .undef) : SJ Y ops o f L Q := ⟨dst_none hnt hd, fun H hH => by
  have hm := hH.ok _ (List.mem_of_getElem? hp)
  have hget := hm.get
  have hrow := hm.row
  have hwr := (hm.wr rfl).1
  simp only [Bool.and_eq_true] at hb
  refine ⟨_, H.setObj i (.row (over c k v.cells) g gen false ext frz e wh sg), _, _, .skip hw ?_, hH.setObj hp hrow rfl, by rw [hd]; exact kk⟩
  rw [ho]
  simp only at hget hrow hwr
  have hro : Nat.ble H.ro i = true := Nat.ble_eq_true_of_le hwr
  simp only [evOp, opStore, ha, hx, storeF, ht, hs, AH.put, hget, hrow.1, hb.1, hb.2, hro, Bool.and_self]⟩

/-- Memory made. -/
theorem S_alloc {d : Nat} {e : TypeId} {z : List AV} (hnt : Nat.ble Y.nt 255 = true) (hd : o.dst = some d) (hlt : Nat.blt d Y.nt = true) (hw : wantedF ops (TM Y.nt f) o = true) (ho : o.op = .alloc e) (hz : zeroOf Y.C e = some z)
    (kk : ∀ i, Q (upd f d (.nptr i 0)) (L ++ [⟨i, true, true, .row z i 0 false false 0 e true false⟩]) (.nptr i 0)) : SJ Y ops o f L Q := ⟨dst_some hnt hd hlt, fun H hH => by
  refine ⟨_, newRow H z e, _, .nptr H.n 0, .val hw ?_, hH.newRow z e, by rw [hd]; exact kk H.n⟩
  rw [ho]
  simp only [evOp, opAlloc, hz]⟩

theorem S_box {d : Nat} {e : TypeId} {x : Operand} {v : AV} (hnt : Nat.ble Y.nt 255 = true) (hd : o.dst = some d) (hlt : Nat.blt d Y.nt = true) (hw : wantedF ops (TM Y.nt f) o = true) (ho : o.op = .box e x) (hx : ev (TM Y.nt f) x = v)
    (kk : ∀ i, Q (upd f d (.nptr i 0)) (L ++ [⟨i, true, true, .row v.cells i 0 false false 0 e true false⟩]) (.nptr i 0)) : SJ Y ops o f L Q := ⟨dst_some hnt hd hlt, fun H hH => by
  refine ⟨_, newRow H v.cells e, _, .nptr H.n 0, .val hw ?_, hH.newRow v.cells e, by rw [hd]; exact kk H.n⟩
  rw [ho]
  simp only [evOp, opBox, hx]⟩

/-- A call that leaves all that is known as it was. -/
theorem S_call {d : Nat} {c : AC} {args : List AV} {v : AV} (hnt : Nat.ble Y.nt 255 = true) (hd : o.dst = some d) (hlt : Nat.blt d Y.nt = true) (hw : wantedF ops (TM Y.nt f) o = true)
    (he : ∀ H, evOp o.op Y.C (TM Y.nt f) H = some (.call c args H)) (hc : ∀ H, Hs Y.H0 Y.Wr H L → ∃ v' H', Y.call c args H = some (.ret v', H') ∧ v' = v ∧ Fr H [] H')
    (k : Q (upd f d v) L v) : SJ Y ops o f L Q := ⟨dst_some hnt hd hlt, fun H hH => by
  obtain ⟨v', H', q1, rfl, q2⟩ := hc H hH
  exact ⟨_, H', L, v', .call hw (he H) q1, hH.call0 q2, by rw [hd]; exact k⟩⟩

/-- A call, whatever it does. -/
theorem S_callX {d : Nat} {c : AC} {args : List AV} {P : AV → Kn → Prop} (hnt : Nat.ble Y.nt 255 = true) (hd : o.dst = some d) (hlt : Nat.blt d Y.nt = true) (hw : wantedF ops (TM Y.nt f) o = true)
    (he : ∀ H, evOp o.op Y.C (TM Y.nt f) H = some (.call c args H)) (hc : ∀ H, Hs Y.H0 Y.Wr H L → ∃ v H' L', Y.call c args H = some (.ret v, H') ∧ Hs Y.H0 Y.Wr H' L' ∧ P v L')
    (k : ∀ v L', P v L' → Q (upd f d v) L' v) : SJ Y ops o f L Q := ⟨dst_some hnt hd hlt, fun H hH => by
  obtain ⟨v, H', L', q1, q2, q3⟩ := hc H hH
  exact ⟨_, H', L', v, .call hw (he H) q1, q2, by rw [hd]; exact k v L' q3⟩⟩

/-- The condition of an operation, known from now on. -/
theorem O_guard {j d : Nat} {want b : Bool} (hg : o.guard = some (j, want)) (hj : (ops[j]?).bind (·.dst) = some d) (hv : f d = .bool b) (ht : b = true → JO Y ops (o :: l) (upd f d (.bool true)) L df K)
    (hf : b = false → JO Y ops (o :: l) (upd f d (.bool false)) L df K) : JO Y ops (o :: l) f L df K := by
  have := upd_self hv
  cases b with
  | true => rw [← this]; exact ht rfl
  | false => rw [← this]; exact hf rfl

theorem SJ_guard {j d : Nat} {want b : Bool} (hg : o.guard = some (j, want)) (hj : (ops[j]?).bind (·.dst) = some d) (hv : f d = .bool b) (ht : b = true → SJ Y ops o (upd f d (.bool true)) L Q)
    (hf : b = false → SJ Y ops o (upd f d (.bool false)) L Q) : SJ Y ops o f L Q := by
  have := upd_self hv
  cases b with
  | true => rw [← this]; exact ht rfl
  | false => rw [← this]; exact hf rfl

end
attribute [irreducible] JW JO JP SJ
end Go.Ev

namespace Go.Ev

/-! ### Calls -/

def evFnQ (call : CallF) (C : Ctx) (m : Nat) (f : FuncId) (args : List AV) (H : AH) : Option (ARet × AH) :=
  match C.P.funcs[f]? with
  | none => none
  | some fn => match Nat.ble (ntOf args fn) 255 with
    | true => evFnP call C m f args H
    | false => none

/-- Calls within calls: the table first; temporaries filled. -/
def evCallP (T : List Entry) (C : Ctx) (m : Nat) : Nat → CallF
  | 0, _, _, _ => none
  | n + 1, c, args, H => match tabF T c args H with
    | some r => some r
    | none => match c with
      | .fn f => evFnQ (evCallP T C m n) C m f args H
      | .yield i => evYield (evCallP T C m n) C m i args H

theorem evCallP_ok {C : Ctx} (hC : Fit C) {T : List Entry} (hT : TabOk C T) (m : Nat) : ∀ n, CallOk C (evCallP T C m n)
  | 0 => fun c args H r H' he => by cases he
  | n + 1 => fun c args H r H' he N ρ w h ha => by
    have ih := evCallP_ok hC hT m n
    simp only [evCallP] at he
    split at he
    · rename_i r' ht
      cases he
      exact tab_ok hT c args H _ _ ht N ρ w h ha
    · cases c with
      | fn f =>
        simp only [evFnQ] at he
        split at he
        · cases he
        · rename_i fn hf
          split at he
          · rename_i hle
            exact fnP_ok hC ih (fun fn' hf' => by rw [hf] at hf'; cases hf'; exact Nat.le_of_ble_eq_true hle) he h ha
          · cases he
      | yield i => exact fun hi => yield_ok hC.good ih (draw_ok hC.good hC.mix ih) he h ha hi

/-- From a depth on, the call answers so. -/
def Con (T : List Entry) (C : Ctx) (m k : Nat) (c : AC) (args : List AV) (H : AH) (P : AV → AH → Prop) : Prop :=
  ∀ n, k ≤ n → ∃ v H', evCallP T C m n c args H = some (.ret v, H') ∧ P v H'

theorem Con.mono {T : List Entry} {C : Ctx} {m k k' : Nat} {c : AC} {args : List AV} {H : AH} {P P' : AV → AH → Prop} (h : Con T C m k c args H P) (hk : k ≤ k') (hp : ∀ v H', P v H' → P' v H') : Con T C m k' c args H P' :=
  fun n hn => by
    obtain ⟨v, H', q1, q2⟩ := h n (Nat.le_trans hk hn)
    exact ⟨v, H', q1, hp v H' q2⟩

theorem tab_none {T : List Entry} {g : FuncId} {args : List AV} {H : AH} (h : hasF g T = false) : tabF T (.fn g) args H = none := by
  simp only [tabF, h]

/-- At a function's end. -/
def endJ (C : Ctx) (fn : Func) (nt : Nat) (H0 : AH) (Wr : List Nat) (P : AV → AH → Prop) : PostL := fun e f L df => (e = .norm ∨ e = .ret) ∧ ∀ H, Hs H0 Wr H L → ∃ v H', leaveF C fn (TM nt f) df none H = some (.ret v, H') ∧ P v H'

theorem end_tmp {C : Ctx} {fn : Func} {nt : Nat} {H0 : AH} {Wr : List Nat} {P : AV → AH → Prop} {e : AE} {f : Nat → AV} {L : Kn} {v : AV} (he : e = .norm ∨ e = .ret) (hr : ∀ H, resultsF C fn (TM nt f) H = some v) (hp : ∀ H, Hs H0 Wr H L → P v H) :
    endJ C fn nt H0 Wr P e f L [] := ⟨he, fun H hH => ⟨v, H, by simp only [leaveF, hr], hp H hH⟩⟩

theorem end_read {C : Ctx} {fn : Func} {nt : Nat} {H0 : AH} {Wr : List Nat} {P : AV → AH → Prop} {e : AE} {f : Nat → AV} {L : Kn} {v : AV} (he : e = .norm ∨ e = .ret) (hr : ∀ H, Hs H0 Wr H L → resultsF C fn (TM nt f) H = some v) (hp : ∀ H, Hs H0 Wr H L → P v H) :
    endJ C fn nt H0 Wr P e f L [] := ⟨he, fun H hH => ⟨v, H, by simp only [leaveF, hr H hH], hp H hH⟩⟩

/-- A function, by a run of its body. -/
theorem con_fn {T : List Entry} {C : Ctx} {m k : Nat} {g : FuncId} {args : List AV} {H : AH} {P : AV → AH → Prop} {fn : Func} {c : Code} {nt : Nat} (Wr : List Nat) (L : Kn) (hT : hasF g T = false) (hf : C.P.funcs[g]? = some fn) (hb : fn.body = some c) (hn : ntOf args fn = nt) (hle : Nat.ble nt 255 = true)
    (hH : Hs H Wr H L) (h : ∀ n, k ≤ n → JW ⟨⟨evCallP T C m n, C, m, none, g, nt⟩, H, Wr⟩ c (argF args) L [] (endJ C fn nt H Wr P)) : Con T C m (k + 1) (.fn g) args H P := by
  intro n hkn
  cases n with
  | zero => omega
  | succ n =>
    have hw := h n (by omega)
    rw [JW] at hw
    obtain ⟨v, H', q1, q2⟩ := fn_W (Q := P) hf hb hn (W.mono (hw H hH) fun e f' H' df' hk => by
      obtain ⟨L', g1, g2, g3⟩ := hk
      exact ⟨g2, g3 H' g1⟩)
    refine ⟨v, H', ?_, q2⟩
    simp only [evCallP, tab_none hT, evFnQ, hf, hn, hle]
    exact q1

theorem Hs.start {H : AH} {Wr : List Nat} (h : Wf H) : Hs H Wr H [] := ⟨Fr.refl _ _, h, fun s hs => (by cases hs), List.nodup_nil, List.nodup_nil⟩

theorem Hs.one {H : AH} {Wr : List Nat} {s : Slot} (h : Wf H) (hs : SlotOk H Wr H s) : Hs H Wr H [s] := ⟨Fr.refl _ _, h, fun t ht => by rw [List.mem_singleton] at ht; subst ht; exact hs, by simp, by
  cases hg : ownGroup s <;> simp [List.filterMap_cons, hg]⟩

/-- Behind a call that turns one object. -/
theorem Hs.callM {H0 H H' : AH} {W : List Nat} {L : Kn} (h : Hs H0 W H L) {p i : Nat} {gl gl' : Bool} {o o' : AObj} (hp : L[p]? = some ⟨i, true, gl, o⟩) (f : Fr H [i] H') (hs : SlotOk H [i] H' ⟨i, true, gl', o'⟩) (hg : rowGroup o' = rowGroup o) : Hs H0 W H' (L.set p ⟨i, true, gl, o'⟩) := by
  have k := h.ok _ (List.mem_of_getElem? hp)
  have kw := k.wr rfl
  refine ⟨h.fr.trans f (fun j hj hlt => ?_), f.wf h.wf, fun s hs' => ?_, ?_, ?_⟩
  · rw [List.mem_singleton] at hj
    subst hj
    rcases kw.2 with q | q
    · exact q
    · simp only at q; omega
  · rcases set_mem hs' h.nodup hp with rfl | ⟨hm, hne⟩
    · exact ⟨hs.get, hs.lt, fun _ => ⟨by rw [f.ro]; exact kw.1, kw.2⟩, hs.row, fun g hgg => k.grp g (by rw [← hg]; exact hgg)⟩
    · have ks := h.ok s hm
      exact ⟨by rw [f.get s.i ks.lt (by simpa using hne)]; exact ks.get, Nat.lt_of_lt_of_le ks.lt f.n, fun hwr => by rw [f.ro]; exact ks.wr hwr, rowOk_le ks.row f.n f.gen, ks.grp⟩
  · rw [map_set_i hp]; exact h.nodup
  · rw [own_set hg hp]; exact h.own

theorem rowOk_grp {H : AH} {o : AObj} (h : rowOk H o) (g : Nat) (hg : rowGroup o = some g) : g < H.n := by
  unfold rowGroup at hg
  split at hg
  · cases hg; exact h.2
  · cases hg

theorem slot_enter {H0 H : AH} {W : List Nat} {L : Kn} (h : Hs H0 W H L) {p i : Nat} {gl : Bool} {o : AObj} (hp : L[p]? = some ⟨i, true, gl, o⟩) : SlotOk H [i] H ⟨i, true, false, o⟩ := by
  have k := h.ok _ (List.mem_of_getElem? hp)
  exact ⟨k.get, k.lt, fun _ => ⟨(k.wr rfl).1, .inl (by simp)⟩, k.row, fun g hg => ⟨fun hh => (by cases hh), fun _ => rowOk_grp k.row g hg⟩⟩

section
variable {Y : JE} {f : Nat → AV} {L : Kn} {df : List AD} {K : PostL} {ops : Array Oper} {o : Oper} {l : List Oper} {Q : (Nat → AV) → Kn → AV → Prop}

/-- The address of a field, at a whole object. -/
theorem S_field0 {d : Nat} {s : TypeId} {a : Operand} {fi i m ty : Nat} {nm tg pk : String} {em : Bool} {bo : Nat} {ti : TI} (hnt : Nat.ble Y.nt 255 = true) (hd : o.dst = some d) (hlt : Nat.blt d Y.nt = true) (hw : wantedF ops (TM Y.nt f) o = true)
    (ho : o.op = .fieldAddr s a fi) (ha : ev (TM Y.nt f) a = .nptr i 0) (hf : fieldOf Y.C s fi = some ⟨nm, ty, m, em, tg, pk, bo⟩) (ht : tiOf Y.C.P ty = some ti) (hz : Nat.beq ti.size 0 = false)
    (k : Q (upd f d (.nptr i m)) L (.nptr i m)) : SJ Y ops o f L Q :=
  S_pure hnt hd hlt hw (fun H => by
    rw [ho]
    simp only [evOp, opFieldAddr, fieldAddrF, ha, hf, ht, hz, offAddr, Nat.zero_add]
    rfl) k

theorem over_one {α : Type} (v : α) : ∀ (c : List α) (k : Nat), k < c.length → over c k [v] = c.set k v
  | [], k, h => by simp at h
  | x :: c, 0, h => by simp [over]
  | x :: c, k + 1, h => by
    simp only [List.length_cons] at h
    simp only [over, List.set_cons_succ, over_one v c k (by omega)]

theorem over_all {α : Type} {v c : List α} (h : v.length = c.length) : over c 0 v = v := by
  simp [over, h]

/-- One cell stored. -/
theorem S_store1 (p : Nat) {t : TypeId} {a x : Operand} {i k : Nat} {gl : Bool} {c : List AV} {g gen : Nat} {ext : Bool} {frz e : Nat} {wh sg : Bool} {ti : TI} {v : AV} (hnt : Nat.ble Y.nt 255 = true) (hd : o.dst = none) (hw : wantedF ops (TM Y.nt f) o = true)
    (ho : o.op = .store t a x) (ha : ev (TM Y.nt f) a = .nptr i k) (hx : ev (TM Y.nt f) x = v) (hv : v.cells = [v]) (hp : L[p]? = some ⟨i, true, gl, .row c g gen false ext frz e wh sg⟩) (ht : tiOf Y.C.P t = some ti)
    (hs : (Nat.beq 1 ti.size && v.isCell) = true) (hb : (Nat.blt k c.length && Nat.ble frz k) = true)
    (kk : Q f (L.set p ⟨i, true, gl, .row (c.set k v) g gen false ext frz e wh sg⟩) .undef) : SJ Y ops o f L Q := by
  simp only [Bool.and_eq_true, Nat.blt_eq] at hs hb
  refine S_store p hnt hd hw ho ha hx hp ht ?_ ?_ ?_
  · rw [hv]; simp [hs.1, hs.2]
  · rw [hv]; simp only [List.length_singleton, Bool.and_eq_true]; exact ⟨Nat.ble_eq_true_of_le hb.1, hb.2⟩
  · rw [hv, over_one v c k hb.1]; exact kk

/-- A whole object stored. -/
theorem S_storeW (p : Nat) {t : TypeId} {a x : Operand} {i : Nat} {gl : Bool} {c l' : List AV} {g gen : Nat} {ext : Bool} {e : Nat} {wh sg : Bool} {ti : TI} (hnt : Nat.ble Y.nt 255 = true) (hd : o.dst = none) (hw : wantedF ops (TM Y.nt f) o = true)
    (ho : o.op = .store t a x) (ha : ev (TM Y.nt f) a = .nptr i 0) (hx : ev (TM Y.nt f) x = .agg l') (hp : L[p]? = some ⟨i, true, gl, .row c g gen false ext 0 e wh sg⟩) (ht : tiOf Y.C.P t = some ti)
    (hs : (Nat.beq l'.length ti.size && l'.all AV.isCell) = true) (hb : Nat.beq l'.length c.length = true)
    (kk : Q f (L.set p ⟨i, true, gl, .row l' g gen false ext 0 e wh sg⟩) .undef) : SJ Y ops o f L Q := by
  have hl : l'.length = c.length := by simpa [Nat.beq_eq] using hb
  refine S_store p hnt hd hw ho ha hx hp ht hs ?_ ?_
  · simp only [AV.cells, hl, Nat.zero_add, Bool.and_eq_true]
    exact ⟨Nat.ble_eq_true_of_le (Nat.le_refl _), rfl⟩
  · simp only [AV.cells]; rw [over_all hl]; exact kk

/-- A call that turns one object. -/
theorem S_callM (p : Nat) {d : Nat} {c : AC} {args : List AV} {v : AV} {i : Nat} {gl : Bool} {ob ob' : AObj} (hnt : Nat.ble Y.nt 255 = true) (hd : o.dst = some d) (hlt : Nat.blt d Y.nt = true) (hw : wantedF ops (TM Y.nt f) o = true)
    (he : ∀ H, evOp o.op Y.C (TM Y.nt f) H = some (.call c args H)) (hp : L[p]? = some ⟨i, true, gl, ob⟩)
    (hc : ∀ H, Wf H → SlotOk H [i] H ⟨i, true, false, ob⟩ → ∃ v' H', Y.call c args H = some (.ret v', H') ∧ v' = v ∧ Fr H [i] H' ∧ SlotOk H [i] H' ⟨i, true, false, ob'⟩) (hg : rowGroup ob' = rowGroup ob)
    (k : Q (upd f d v) (L.set p ⟨i, true, gl, ob'⟩) v) : SJ Y ops o f L Q := by
  refine S_callX (P := fun v' L' => v' = v ∧ L' = L.set p ⟨i, true, gl, ob'⟩) hnt hd hlt hw he (fun H hH => ?_) (fun v' L' h => by obtain ⟨rfl, rfl⟩ := h; exact k)
  obtain ⟨v', H', q1, q2, q3, q4⟩ := hc H hH.wf (slot_enter hH hp)
  exact ⟨v', H', _, q1, hH.callM hp q3 q4 hg, q2, rfl⟩
end

end Go.Ev

namespace Go.Ev

/-- A number that stays within a word. -/
theorem wrap_small {n : Int} (h1 : -9223372036854775808 ≤ n) (h2 : n < 9223372036854775808) : wrapF .i64 n = n := by
  cases n with
  | ofNat m =>
    have : Nat.ble m 9223372036854775807 = true := Nat.ble_eq_true_of_le (by simp only [Int.ofNat_eq_natCast] at h2; omega)
    simp [wrapF, this]
  | negSucc m =>
    have : Nat.ble m 9223372036854775807 = true := Nat.ble_eq_true_of_le (by
      have : Int.negSucc m = -(m : Int) - 1 := Int.negSucc_eq m ▸ (by omega)
      omega)
    simp [wrapF, this]

section
variable {Y : JE} {f : Nat → AV} {L : Kn} {df : List AD} {K : PostL} {ops : Array Oper} {o : Oper} {l : List Oper} {Q : (Nat → AV) → Kn → AV → Prop}

/-- A drawn region whose readings need no second look. -/
def JP0 (Y : JE) (ops : Array Oper) (l : List PStep) (f : Nat → AV) (L : Kn) (df : List AD) (K : PostL) : Prop := ∀ rd, JP Y ops l rd f L df K

theorem P0_nil (h : K .norm f L df) : JP0 Y ops [] f L df K := fun rd => P_nil h
theorem P0_cons {i : Nat} {l : List PStep} (ho : ops[i]? = some o) (h : SJ Y ops o f L fun f' L' _ => JP0 Y ops l f' L' df K) : JP0 Y ops ({ i, again := [] } :: l) f L df K := fun rd => P_cons0 ho h
theorem J_draw0 {id : Nat} {l : List PStep} (hp : plan Y.C.P ops = some l) (h : JP0 Y ops l f L df K) : JW Y (.region id ops true) f L df K := J_draw hp (h [])

theorem P0_guard {i : Nat} {l : List PStep} {j d : Nat} {want b : Bool} (ho : ops[i]? = some o) (hg : o.guard = some (j, want)) (hj : (ops[j]?).bind (·.dst) = some d) (hv : f d = .bool b) (ht : b = true → JP0 Y ops ({ i, again := [] } :: l) (upd f d (.bool true)) L df K)
    (hf : b = false → JP0 Y ops ({ i, again := [] } :: l) (upd f d (.bool false)) L df K) : JP0 Y ops ({ i, again := [] } :: l) f L df K := by
  have := upd_self hv
  cases b with
  | true => rw [← this]; exact ht rfl
  | false => rw [← this]; exact hf rfl

/-- A byte of a text. -/
theorem S_index {d : Nat} {t : TypeId} {x y : Operand} {s : List UInt8} {k : IntKind} {p : Nat} {b : UInt8} (hnt : Nat.ble Y.nt 255 = true) (hd : o.dst = some d) (hlt : Nat.blt d Y.nt = true) (hw : wantedF ops (TM Y.nt f) o = true)
    (ho : o.op = .index t x y) (ht : Y.C.P.underlying t = some .string) (hx : ev (TM Y.nt f) x = .str s) (hy : ev (TM Y.nt f) y = .int k (.ofNat p)) (hb : s[p]? = some b)
    (kk : Q (upd f d (.int .u8 b.toNat)) L (.int .u8 b.toNat)) : SJ Y ops o f L Q :=
  S_pure hnt hd hlt hw (fun H => by
    rw [ho]
    simp only [evOp, opIndex, hx, hy, indexF, natOf, ht, hb]
    rfl) kk

end
attribute [irreducible] JP0
end Go.Ev

namespace Go.Ev

/-- Bytes as cells. -/
def bytesV (s : List UInt8) : List AV := s.map fun b => AV.int .u8 b.toNat

theorem bytes_mapM : ∀ (s : List UInt8), (bytesV s).mapM byteOf' = some s
  | [] => rfl
  | b :: s => by
    have := bytes_mapM s
    simp only [bytesV, List.map_cons, List.mapM_cons] at this ⊢
    rw [this]
    have hb : byteOf' (AV.int .u8 (b.toNat : Int)) = some b := by
      show some (UInt8.ofNat b.toNat) = some b
      simp
    rw [hb]
    rfl

theorem bytes_cell (s : List UInt8) : (bytesV s).all AV.isCell = true := by
  simp only [bytesV, List.all_map, List.all_eq_true]
  intro b _
  rfl

section
variable {Y : JE} {f : Nat → AV} {L : Kn} {df : List AD} {K : PostL} {ops : Array Oper} {o : Oper} {l : List Oper} {Q : (Nat → AV) → Kn → AV → Prop}

/-- A new row, by whatever operation. -/
theorem S_newRow {d : Nat} {v : Nat → AV} {c : List AV} {e : TypeId} {wh : Bool} (hnt : Nat.ble Y.nt 255 = true) (hd : o.dst = some d) (hlt : Nat.blt d Y.nt = true) (hw : wantedF ops (TM Y.nt f) o = true)
    (he : ∀ H, Hs Y.H0 Y.Wr H L → evOp o.op Y.C (TM Y.nt f) H = some (.val (v H.n) (H.new (.row c H.n 0 false false 0 e wh false)))) (kk : ∀ i, Q (upd f d (v i)) (L ++ [⟨i, true, true, .row c i 0 false false 0 e wh false⟩]) (v i)) : SJ Y ops o f L Q :=
  SJ_mk (dst_some hnt hd hlt) fun H hH => ⟨_, _, _, v H.n, .val hw (he H hH), hH.new _ (fun g hg => by cases hg; rfl) rowOk_new, by rw [hd]; exact kk H.n⟩

/-- A slice of one cell. -/
theorem S_bs1 {d : Nat} {t : TypeId} {x : Operand} {e : TypeId} {te : TI} {z v : AV} (hnt : Nat.ble Y.nt 255 = true) (hd : o.dst = some d) (hlt : Nat.blt d Y.nt = true) (hw : wantedF ops (TM Y.nt f) o = true)
    (ho : o.op = .buildSlice t 1 #[(0, x)]) (hx : ev (TM Y.nt f) x = v) (hv : v.cells = [v]) (hu : Y.C.P.underlying t = some (.slice e)) (ht : tiOf Y.C.P e = some te) (hz : te.zero = [z]) (hs : te.size = 1)
    (kk : ∀ i, Q (upd f d (.nslc i 0 1 (some 1))) (L ++ [⟨i, true, true, .row [v] i 0 false false 0 e true false⟩]) (.nslc i 0 1 (some 1))) : SJ Y ops o f L Q :=
  S_newRow (v := fun i => .nslc i 0 1 (some 1)) hnt hd hlt hw (fun H hH => by
    rw [ho]
    have hp : partsF (TM Y.nt f) #[(0, x)] = [(0, v)] := by simp [partsF, hx]
    simp only [evOp, opBuildSlice, hp, buildSliceF, hu, ht, hz, hs]
    simp [zerosF, fillF, hz, hv, over, valH, newRow]
    rfl) kk

theorem S_bs3 {d : Nat} {t : TypeId} {x y w : Operand} {e : TypeId} {te : TI} {z a b c : AV} (hnt : Nat.ble Y.nt 255 = true) (hd : o.dst = some d) (hlt : Nat.blt d Y.nt = true) (hw : wantedF ops (TM Y.nt f) o = true)
    (ho : o.op = .buildSlice t 3 #[(0, x), (1, y), (2, w)]) (hx : ev (TM Y.nt f) x = a) (hy : ev (TM Y.nt f) y = b) (hww : ev (TM Y.nt f) w = c) (ha : a.cells = [a]) (hb : b.cells = [b]) (hc : c.cells = [c])
    (hu : Y.C.P.underlying t = some (.slice e)) (ht : tiOf Y.C.P e = some te) (hz : te.zero = [z]) (hs : te.size = 1)
    (kk : ∀ i, Q (upd f d (.nslc i 0 3 (some 3))) (L ++ [⟨i, true, true, .row [a, b, c] i 0 false false 0 e true false⟩]) (.nslc i 0 3 (some 3))) : SJ Y ops o f L Q :=
  S_newRow (v := fun i => .nslc i 0 3 (some 3)) hnt hd hlt hw (fun H hH => by
    rw [ho]
    have hp : partsF (TM Y.nt f) #[(0, x), (1, y), (2, w)] = [(0, a), (1, b), (2, c)] := by simp [partsF, hx, hy, hww]
    simp only [evOp, opBuildSlice, hp, buildSliceF, hu, ht, hz, hs]
    simp [zerosF, fillF, hz, ha, hb, hc, over, valH, newRow]
    rfl) kk

/-- A slice of one struct of two cells. -/
theorem S_bsP {d : Nat} {t : TypeId} {x : Operand} {e : TypeId} {te : TI} {z1 z2 a b : AV} (hnt : Nat.ble Y.nt 255 = true) (hd : o.dst = some d) (hlt : Nat.blt d Y.nt = true) (hw : wantedF ops (TM Y.nt f) o = true)
    (ho : o.op = .buildSlice t 1 #[(0, x)]) (hx : ev (TM Y.nt f) x = .agg [a, b]) (hu : Y.C.P.underlying t = some (.slice e)) (ht : tiOf Y.C.P e = some te) (hz : te.zero = [z1, z2]) (hs : te.size = 2)
    (kk : ∀ i, Q (upd f d (.nslc i 0 1 (some 1))) (L ++ [⟨i, true, true, .row [a, b] i 0 false false 0 e true false⟩]) (.nslc i 0 1 (some 1))) : SJ Y ops o f L Q :=
  S_newRow (v := fun i => .nslc i 0 1 (some 1)) hnt hd hlt hw (fun H hH => by
    rw [ho]
    have hp : partsF (TM Y.nt f) #[(0, x)] = [(0, .agg [a, b])] := by simp [partsF, hx]
    simp only [evOp, opBuildSlice, hp, buildSliceF, hu, ht, hz, hs]
    simp [zerosF, fillF, hz, AV.cells, over, valH, newRow]
    rfl) kk

/-! ### Appends -/

/-- What is appended. -/
structure Src (Y : JE) (L : Kn) (x : AV) (sz n : Nat) (new : List AV) : Prop where
  len : srcLen x = some n
  el : ∀ H, Hs Y.H0 Y.Wr H L → elemsF Y.C H sz n x = some new
  cell : new.all AV.isCell = true

theorem slice_all {α : Type} (c : List α) : slice c 0 c.length = some c := by
  have : Nat.ble (0 + c.length) c.length = true := Nat.ble_eq_true_of_le (by omega)
  simp only [slice, this]
  simp

theorem Src.row {L : Kn} {p i n sz : Nat} {wr gl : Bool} {c : List AV} {g gen : Nat} {sh ext : Bool} {frz e : Nat} {wh sg : Bool} {cap : Option Nat} (hp : L[p]? = some ⟨i, wr, gl, .row c g gen sh ext frz e wh sg⟩) (hl : c.length = n * sz) (hc : c.all AV.isCell = true) :
    Src Y L (.nslc i 0 n cap) sz n c :=
  ⟨rfl, fun H hH => by
    have : Nat.ble n n = true := Nat.ble_eq_true_of_le (Nat.le_refl _)
    simp only [elemsF, this, readN, hH.cells hp, ← hl]
    exact slice_all c, hc⟩

theorem Src.str {s : List UInt8} : Src Y L (.str s) 1 s.length (bytesV s) :=
  ⟨rfl, fun H hH => by simp [elemsF, bytesV], bytes_cell s⟩

theorem opAppend_eq {C : Ctx} {tm : Tr AV} {H : AH} {t u : TypeId} {s x : Operand} {c : Call} (hc : c.callee = .builtin .append) (ha : c.argTypes = #[t, u]) (hx : c.args = #[s, x]) (hn : noNum C [u] = true) :
    evOp (.call c) C tm H = valH (appendF C H t (ev tm s) (ev tm x)) := by
  simp only [evOp, opCall, hc, opBuiltin, ha, hx, hn]

/-- To nothing. -/
theorem S_app0 {d : Nat} {c : Call} {t u : TypeId} {s x : Operand} {X : AV} {e : TypeId} {ti : TI} {n : Nat} {new : List AV} (hnt : Nat.ble Y.nt 255 = true) (hd : o.dst = some d) (hlt : Nat.blt d Y.nt = true) (hw : wantedF ops (TM Y.nt f) o = true)
    (ho : o.op = .call c) (hc : c.callee = .builtin .append) (ha : c.argTypes = #[t, u]) (hx : c.args = #[s, x]) (hn : noNum Y.C [u] = true) (hu : Y.C.P.underlying t = some (.slice e)) (ht : tiOf Y.C.P e = some ti) (hsz : (Nat.beq ti.size 0 || Nat.beq ti.bytes 0) = false)
    (hz : Nat.beq ti.zero.length ti.size = true) (hs : ev (TM Y.nt f) s = .raw (.slice none 0 0)) (hX : ev (TM Y.nt f) x = X) (hsrc : Src Y L X ti.size n new) (hn0 : n ≠ 0) (hbig : (3 * n + 4096) * ti.bytes ≤ 100000000000000)
    (kk : ∀ i, Q (upd f d (.nslc i 0 n none)) (L ++ [⟨i, true, true, .row new i 0 false false 0 e false false⟩]) (.nslc i 0 n none)) : SJ Y ops o f L Q :=
  S_newRow (v := fun i => .nslc i 0 n none) hnt hd hlt hw (fun H hH => by
    rw [ho, opAppend_eq hc ha hx hn]
    have h0 : Nat.beq n 0 = false := by cases n with | zero => exact absurd rfl hn0 | succ n => rfl
    have hb : Nat.ble ((3 * n + 4096) * ti.bytes) 100000000000000 = true := Nat.ble_eq_true_of_le hbig
    simp only [appendF, hu, ht, hsz, hX, hsrc.len, hsrc.el H hH, h0, hsrc.cell, hs, growF, hb, hz, Bool.and_self, valH, List.nil_append]) kk

/-- Beyond the room that is known. -/
theorem S_appG (p : Nat) {d : Nat} {c : Call} {t u : TypeId} {s x : Operand} {X : AV} {e : TypeId} {ti : TI} {n i k cap : Nat} {wr gl : Bool} {cs new : List AV} {g gen : Nat} {sh ext : Bool} {frz e' : Nat} {wh sg : Bool} (hnt : Nat.ble Y.nt 255 = true) (hd : o.dst = some d) (hlt : Nat.blt d Y.nt = true) (hw : wantedF ops (TM Y.nt f) o = true)
    (ho : o.op = .call c) (hc : c.callee = .builtin .append) (ha : c.argTypes = #[t, u]) (hx : c.args = #[s, x]) (hn : noNum Y.C [u] = true) (hu : Y.C.P.underlying t = some (.slice e)) (ht : tiOf Y.C.P e = some ti) (hsz : (Nat.beq ti.size 0 || Nat.beq ti.bytes 0) = false)
    (hz : Nat.beq ti.zero.length ti.size = true) (hs : ev (TM Y.nt f) s = .nslc i 0 k (some cap)) (hp : L[p]? = some ⟨i, wr, gl, .row cs g gen sh ext frz e' wh sg⟩) (hl : cs.length = k * ti.size) (hX : ev (TM Y.nt f) x = X) (hsrc : Src Y L X ti.size n new) (hn0 : n ≠ 0) (hcap : cap < k + n) (hbig : (3 * (k + n) + 4096) * ti.bytes ≤ 100000000000000)
    (kk : ∀ j, Q (upd f d (.nslc j 0 (k + n) none)) (L ++ [⟨j, true, true, .row (cs ++ new) j 0 false false 0 e false false⟩]) (.nslc j 0 (k + n) none)) : SJ Y ops o f L Q :=
  S_newRow (v := fun i => .nslc i 0 (k + n) none) hnt hd hlt hw (fun H hH => by
    rw [ho, opAppend_eq hc ha hx hn]
    have h0 : Nat.beq n 0 = false := by cases n with | zero => exact absurd rfl hn0 | succ n => rfl
    have hb : Nat.ble ((3 * (k + n) + 4096) * ti.bytes) 100000000000000 = true := Nat.ble_eq_true_of_le hbig
    have hcp : Nat.ble (k + n) cap = false := by
      cases hh : Nat.ble (k + n) cap with
      | false => rfl
      | true => have := Nat.le_of_ble_eq_true hh; omega
    have hrd : readN Y.C H (.nptr i 0) 0 (k * ti.size) = some cs := by
      simp only [readN, hH.cells hp, ← hl]
      exact slice_all cs
    simp only [appendF, hu, ht, hsz, hX, hsrc.len, hsrc.el H hH, h0, hsrc.cell, hs, hcp, hrd, growF, hb, hz, Bool.and_self, valH]) kk

theorem erase_mem {L : Kn} {p : Nat} {s y : Slot} (h : s ∈ L.eraseIdx p) (hn : (L.map Slot.i).Nodup) (hy : L[p]? = some y) : s ∈ L ∧ s.i ≠ y.i := by
  obtain ⟨q, hq⟩ := List.mem_iff_getElem?.1 h
  rw [List.getElem?_eraseIdx] at hq
  have key : ∀ r, L[r]? = some s → r ≠ p → s ∈ L ∧ s.i ≠ y.i := by
    intro r hr hne
    refine ⟨List.mem_of_getElem? hr, fun hi => hne ?_⟩
    have h1 : (L.map Slot.i)[p]? = some y.i := by simp [hy]
    have h2 : (L.map Slot.i)[r]? = some s.i := by simp [hr]
    have hlt : p < (L.map Slot.i).length := (List.getElem?_eq_some_iff.1 h1).1
    exact ((List.getElem?_inj hlt hn).1 (by rw [h1, h2, hi])).symm
  split at hq
  · exact key q hq (by omega)
  · exact key (q + 1) hq (by omega)

/-- Behind the end of a row whose room is not known. -/
theorem S_appB (p : Nat) {d : Nat} {c : Call} {t u : TypeId} {s x : Operand} {X : AV} {e : TypeId} {ti : TI} {n i k : Nat} {cs new : List AV} {g gen : Nat} {sh : Bool} {frz : Nat} {sg : Bool} (hnt : Nat.ble Y.nt 255 = true) (hd : o.dst = some d) (hlt : Nat.blt d Y.nt = true) (hw : wantedF ops (TM Y.nt f) o = true)
    (ho : o.op = .call c) (hc : c.callee = .builtin .append) (ha : c.argTypes = #[t, u]) (hx : c.args = #[s, x]) (hn : noNum Y.C [u] = true) (hu : Y.C.P.underlying t = some (.slice e)) (ht : tiOf Y.C.P e = some ti) (hsz : (Nat.beq ti.size 0 || Nat.beq ti.bytes 0) = false)
    (hz : Nat.beq ti.zero.length ti.size = true) (hs : ev (TM Y.nt f) s = .nslc i 0 k none) (hp : L[p]? = some ⟨i, true, true, .row cs g gen sh false frz e false sg⟩) (hl : cs.length = k * ti.size) (hX : ev (TM Y.nt f) x = X) (hsrc : Src Y L X ti.size n new) (hn0 : n ≠ 0) (hfr : frz ≤ cs.length) (hbig : (3 * (k + n) + 4096) * ti.bytes ≤ 100000000000000)
    (kk : ∀ j G, Q (upd f d (.nslc j 0 (k + n) none)) (L.eraseIdx p ++ [⟨j, true, true, .row (cs ++ new) g G true false frz e false sg⟩]) (.nslc j 0 (k + n) none)) : SJ Y ops o f L Q :=
  SJ_mk (dst_some hnt hd hlt) fun H hH => by
    have hm := hH.ok _ (List.mem_of_getElem? hp)
    have hget := hm.get
    have hrow := hm.row
    have hwr := hm.wr rfl
    simp only at hget hrow hwr
    have h0 : Nat.beq n 0 = false := by cases n with | zero => exact absurd rfl hn0 | succ n => rfl
    have hb : Nat.ble ((3 * (k + n) + 4096) * ti.bytes) 100000000000000 = true := Nat.ble_eq_true_of_le hbig
    have hee : Nat.beq e e = true := by simp [Nat.beq_eq]
    have hend : Nat.beq (0 + k * ti.size) cs.length = true := by rw [Nat.beq_eq]; omega
    have hro : Nat.ble H.ro i = true := Nat.ble_eq_true_of_le hwr.1
    have hfz : Nat.ble frz cs.length = true := Nat.ble_eq_true_of_le hfr
    have hm0 : Nat.beq (Nat.mod 0 ti.size) 0 = true := by rw [Nat.beq_eq]; show 0 % ti.size = 0; simp
    let H1 : AH := { n := H.n, ro := H.ro, o := H.o.set i (.row cs g (H.gen g) true true frz e false sg), g := H.g }
    have hev : evOp o.op Y.C (TM Y.nt f) H = some (.val (.nslc H.n 0 (k + n) none) (H1.new (.row (cs ++ new) g (H.gen g) true false frz e false sg))) := by
      rw [ho, opAppend_eq hc ha hx hn]
      simp only [appendF, hu, ht, hsz, hX, hsrc.len, hsrc.el H hH, h0, hsrc.cell, hs, behindF, hb, hget, hrow.1, hee, Bool.not_false, Bool.and_self, hend, hro, hfz, hm0, hz, List.drop_zero, Nat.sub_zero, valH]
      rfl
    refine ⟨_, _, L.eraseIdx p ++ [⟨H.n, true, true, .row (cs ++ new) g (H.gen g) true false frz e false sg⟩], _, .val hw hev, ?_, by rw [hd]; exact kk H.n (H.gen g)⟩
    have hlt' := hm.lt
    simp only at hlt'
    have hgen : ∀ x, (H1.new (.row (cs ++ new) g (H.gen g) true false frz e false sg)).gen x = H.gen x := fun x => rfl
    have hget' : ∀ j, j < H.n → j ≠ i → (H1.new (.row (cs ++ new) g (H.gen g) true false frz e false sg)).o.get j = H.o.get j := by
      intro j hj hne
      simp only [AH.new, H1, Tr.get_set]
      rw [if_neg (by omega), if_neg hne]
    have hwf : Wf (H1.new (.row (cs ++ new) g (H.gen g) true false frz e false sg)) := ⟨by have := hH.wf.ron; simp only [AH.new, H1]; omega, fun j hj => by
      simp only [AH.new, H1] at hj
      simp only [AH.new, H1, Tr.get_set]
      rw [if_neg (by omega), if_neg (by omega)]
      exact hH.wf.fresh j (by omega)⟩
    refine ⟨⟨by have := hH.fr.n; simp only [AH.new, H1]; omega, hH.fr.ro, fun _ => hwf, fun j hj hjw => ?_, fun x hx => ?_⟩, hwf, fun y hy => ?_, ?_, ?_⟩
    · rw [hget' j (by have := hH.fr.n; omega) ?_]
      · exact hH.fr.get j hj hjw
      · rintro rfl
        rcases hwr.2 with q | q
        · exact hjw q
        · omega
    · rw [hgen]; exact hH.fr.gen x hx
    · rcases List.mem_append.1 hy with hy | hy
      · obtain ⟨hy1, hy2⟩ := erase_mem hy hH.nodup hp
        have ks := hH.ok y hy1
        refine ⟨by rw [hget' y.i ks.lt hy2]; exact ks.get, by have := ks.lt; simp only [AH.new, H1]; omega, ks.wr, rowOk_le ks.row (by simp only [AH.new, H1]; omega) fun x _ => hgen x, ks.grp⟩
      · rw [List.mem_singleton] at hy
        subst hy
        refine ⟨new_get, by simp [AH.new, H1], fun _ => ⟨hH.wf.ron, .inr hH.fr.n⟩, ⟨live_self (hgen g), by have := hrow.2; simp only [AH.new, H1]; omega⟩, fun x hx => ?_⟩
        have := hm.grp x hx
        exact ⟨fun _ => this.1 rfl, fun hh => by cases hh⟩
    · rw [List.map_append, List.nodup_append]
      refine ⟨hH.nodup.sublist ((List.eraseIdx_sublist L p).map _), by simp, fun a ha b hb => ?_⟩
      simp only [List.map_cons, List.map_nil, List.mem_singleton] at hb
      subst hb
      obtain ⟨y, hy, rfl⟩ := List.mem_map.1 ha
      exact Nat.ne_of_lt (hH.ok y (erase_mem hy hH.nodup hp).1).lt
    · -- the groups
      have hperm : ∀ (M : Kn) (q : Nat) (y : Slot), M[q]? = some y → (M.filterMap ownGroup).Nodup → ∀ y', ownGroup y' = ownGroup y → ((M.eraseIdx q ++ [y']).filterMap ownGroup).Nodup := by
        intro M q y hq hnd y' hy'
        have h1 : (M.eraseIdx q ++ [y]).Perm M := by
          have : M = M.take q ++ y :: M.drop (q + 1) := by
            obtain ⟨hl, rfl⟩ := List.getElem?_eq_some_iff.1 hq
            rw [List.getElem_cons_drop, List.take_append_drop]
          conv => rhs; rw [this]
          rw [List.eraseIdx_eq_take_drop_succ, List.append_assoc]
          exact List.Perm.append_left _ (List.perm_append_comm)
        have h2 := h1.filterMap ownGroup
        have h3 : ((M.eraseIdx q ++ [y]).filterMap ownGroup).Nodup := h2.nodup_iff.2 hnd
        rw [List.filterMap_append] at h3 ⊢
        have : [y'].filterMap ownGroup = [y].filterMap ownGroup := by simp [List.filterMap_cons, hy']
        rw [this]
        exact h3
      exact hperm L p _ hp hH.own _ rfl

/-- The text of bytes. -/
theorem S_bytesStr (p : Nat) {d : Nat} {src dst e : TypeId} {x : Operand} {i n : Nat} {wr gl : Bool} {s : List UInt8} {g gen : Nat} {sh ext : Bool} {frz e' : Nat} {wh sg : Bool} {cap : Option Nat} (hnt : Nat.ble Y.nt 255 = true) (hd : o.dst = some d) (hlt : Nat.blt d Y.nt = true) (hw : wantedF ops (TM Y.nt f) o = true)
    (ho : o.op = .convert src dst x) (hs : Y.C.P.underlying src = some (.slice e)) (hdd : Y.C.P.underlying dst = some .string) (he : Y.C.P.underlying e = some (.int .u8)) (hx : ev (TM Y.nt f) x = .nslc i 0 n cap)
    (hp : L[p]? = some ⟨i, wr, gl, .row (bytesV s) g gen sh ext frz e' wh sg⟩) (hn : s.length = n) (kk : Q (upd f d (.str s)) L (.str s)) : SJ Y ops o f L Q :=
  S_read hnt hd hlt hw (fun H hH => by
    rw [ho]
    have hle : Nat.ble n n = true := Nat.ble_eq_true_of_le (Nat.le_refl _)
    have hl : (bytesV s).length = n * 1 := by simp [bytesV, hn]
    have hel : elemsF Y.C H 1 n (.nslc i 0 n cap) = some (bytesV s) := by
      simp only [elemsF, hle, readN, hH.cells hp, ← hl]
      exact slice_all _
    simp only [evOp, opConvert, hx, convertF, hs, hdd, he, srcLen, hel, bytes_mapM]
    rfl) kk

end
end Go.Ev
