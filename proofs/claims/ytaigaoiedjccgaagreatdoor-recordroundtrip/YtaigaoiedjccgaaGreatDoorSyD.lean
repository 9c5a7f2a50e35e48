/-
  A part of the laws of calls and regions that the walks use. For every program.
-/
import Derived.Test.YtaigaoiedjccgaaGreatDoorSyC
import Derived.Test.YtaigaoiedjccgaaGreatDoorPlA
set_option linter.unusedVariables false
set_option linter.unusedSimpArgs false

/-! Slices that are only read: old memory, rows of the heap, nothing. -/
namespace Go.Ev

/-- What lies in the heap. -/
def At (H : AH) (i : Nat) (o : AObj) : Prop := H.o.get i = some o ∧ i < H.n ∧ rowOk H o

/-- What lies in the heap outside some objects. -/
def AtO (H : AH) (W : List Nat) (i : Nat) (o : AObj) : Prop := At H i o ∧ i ∉ W

inductive Rd (old : Nat → Nat → Option AV) (e sz : Nat) (R : Nat → AObj → Prop) : AV → Nat → List AV → Prop
  | nil : Rd old e sz R (.raw (.slice none 0 0)) 0 []
  | old {b o n cap : Nat} {c : List AV} : n ≤ cap → c.length = n * sz → (∀ j (h : j < c.length), old b (o + j) = some c[j]) → Rd old e sz R (.oslc b o n cap) n c
  | new {i a n : Nat} {cap : Option Nat} {c row : List AV} {g gen : Nat} {sh ext : Bool} {frz : Nat} {wh sg : Bool} : R i (.row row g gen sh ext frz e wh sg) → c.length = n * sz → slice row a (n * sz) = some c → (cap = none → wh = false) → (∀ k, cap = some k → n ≤ k) → Rd old e sz R (.nslc i a n cap) n c
  | emp {i b o : Nat} : Rd old e sz R (.nemp i b o) 0 []

theorem Rd.mono {old : Nat → Nat → Option AV} {e sz : Nat} {R R' : Nat → AObj → Prop} {v : AV} {n : Nat} {c : List AV} (h : Rd old e sz R v n c) (k : ∀ i o, R i o → R' i o) : Rd old e sz R' v n c := by
  cases h with
  | nil => exact .nil
  | old a b d => exact .old a b d
  | new a b d f g => exact .new (k _ _ a) b d f g
  | emp => exact .emp

theorem Rd.len {old : Nat → Nat → Option AV} {e sz : Nat} {R : Nat → AObj → Prop} {v : AV} {n : Nat} {c : List AV} (h : Rd old e sz R v n c) : c.length = n * sz := by
  cases h with
  | nil => simp
  | old a b d => exact b
  | new a b d f g => exact b
  | emp => simp

/-- The rows stay as long as what is known. -/
def HoldsR (Y : JE) (L : Kn) (R : Nat → AObj → Prop) : Prop := ∀ i o, R i o → ∀ H, Hs Y.H0 Y.Wr H L → At H i o

theorem holds_at {Y : JE} {L : Kn} : HoldsR Y L (AtO Y.H0 Y.Wr) := fun i o h H hH =>
  ⟨by rw [hH.fr.get i h.1.2.1 h.2]; exact h.1.1, Nat.lt_of_lt_of_le h.1.2.1 hH.fr.n, rowOk_le h.1.2.2 hH.fr.n hH.fr.gen⟩

/-- Rows that are known. -/
def InL (S : Kn) (i : Nat) (o : AObj) : Prop := ∃ s ∈ S, s.i = i ∧ s.o = o

theorem holds_in {Y : JE} {L S : Kn} (h : ∀ s ∈ S, s ∈ L) : HoldsR Y L (InL S) := fun i o hi H hH => by
  obtain ⟨s, hs, rfl, rfl⟩ := hi
  have k := hH.ok s (h s hs)
  exact ⟨k.get, k.lt, k.row⟩

theorem Rd.at {Y : JE} {L : Kn} {R : Nat → AObj → Prop} {old : Nat → Nat → Option AV} {e sz : Nat} {v : AV} {n : Nat} {c : List AV} (h : Rd old e sz R v n c) (hR : HoldsR Y L R) {H : AH} (hH : Hs Y.H0 Y.Wr H L) : Rd old e sz (AtO H []) v n c :=
  h.mono fun i o hi => ⟨hR i o hi H hH, by simp⟩

theorem At.cells {H : AH} {i : Nat} {c : List AV} {g gen : Nat} {sh ext : Bool} {frz e : Nat} {wh sg : Bool} (h : At H i (.row c g gen sh ext frz e wh sg)) : H.cells i = some c := by
  obtain ⟨q1, q2, q3⟩ := h
  simp only [AH.cells, q1, q3.1]

theorem slice_is {α : Type} {l c : List α} {k n : Nat} (h : slice l k n = some c) : k + n ≤ l.length ∧ c = (l.drop k).take n := by
  unfold slice at h
  split at h
  · rename_i hb
    cases h
    exact ⟨Nat.le_of_ble_eq_true hb, rfl⟩
  · cases h

theorem slice_mk {α : Type} {l : List α} {k n : Nat} (h : k + n ≤ l.length) : slice l k n = some ((l.drop k).take n) := by
  unfold slice
  rw [Nat.ble_eq_true_of_le h]

theorem slice_slice {α : Type} {l c d : List α} {a n k m : Nat} (h : slice l a n = some c) (k' : slice c k m = some d) : slice l (a + k) m = some d := by
  obtain ⟨h1, rfl⟩ := slice_is h
  obtain ⟨h2, rfl⟩ := slice_is k'
  simp only [List.length_take, List.length_drop] at h2
  rw [slice_mk (by omega)]
  congr 1
  rw [List.drop_take, List.take_take, List.drop_drop]
  congr 1
  omega

theorem mapM_range {old : Nat → Option AV} : ∀ (n o : Nat) (c : List AV), c.length = n → (∀ j (h : j < c.length), old (o + j) = some c[j]) → (List.range' o n).mapM (fun j => old j) = some c
  | 0, o, c, hc, _ => by
    have := List.eq_nil_of_length_eq_zero hc
    subst this
    rfl
  | n + 1, o, [], hc, _ => by simp at hc
  | n + 1, o, x :: c, hc, h => by
    have ih := mapM_range (old := old) n (o + 1) c (by simpa using hc) (fun j hj => by
      have := h (j + 1) (by simp; omega)
      rw [show o + 1 + j = o + (j + 1) by omega, this]
      rfl)
    have h0 := h 0 (by simp)
    rw [List.range'_succ, List.mapM_cons]
    rw [show old o = some x from h0]
    show (Option.bind (some x) fun a => Option.bind ((List.range' (o + 1) n).mapM fun j => old j) fun b => some (a :: b)) = _
    rw [ih]
    rfl

theorem old_slice {old : Nat → Option AV} {o k m : Nat} {c d : List AV} (h : ∀ j (h : j < c.length), old (o + j) = some c[j]) (hs : slice c k m = some d) : (List.range' (o + k) m).mapM (fun j => old j) = some d := by
  obtain ⟨h1, rfl⟩ := slice_is hs
  refine mapM_range m (o + k) _ (by simp; omega) fun j hj => ?_
  simp only [List.length_take, List.length_drop] at hj
  rw [Nat.add_assoc, h (k + j) (by omega)]
  simp

/-- Where a slice's cell lies. -/
def adrR : AV → Nat → AV
  | .nslc i a _ _, k => .nptr i (a + k)
  | .oslc b o _ _, k => .optr b (o + k)
  | _, _ => .undef

section
variable {Y : JE} {ops : Array Oper} {o : Oper} {l : List Oper} {f : Nat → AV} {L : Kn} {df : List AD} {K : PostL} {Q : (Nat → AV) → Kn → AV → Prop} {old : Nat → Nat → Option AV} {e sz n : Nat} {R : Nat → AObj → Prop} {v : AV} {c : List AV}

theorem S_lenR {d : Nat} {cl : Call} {t : TypeId} {x : Operand} {e' : TypeId} (hr : Rd old e sz R v n c) (hnt : Nat.ble Y.nt 255 = true) (hd : o.dst = some d) (hlt : Nat.blt d Y.nt = true) (hw : wantedF ops (TM Y.nt f) o = true)
    (ho : o.op = .call cl) (hc : cl.callee = .builtin .len) (ha : cl.argTypes = #[t]) (hxx : cl.args = #[x]) (hu : Y.C.P.underlying t = some (.slice e')) (hx : ev (TM Y.nt f) x = v)
    (kk : Q (upd f d (.int .i64 (n : Int))) L (.int .i64 (n : Int))) : SJ Y ops o f L Q :=
  S_pure hnt hd hlt hw (fun H => by
    rw [ho]
    have : lenF Y.C H t v = some n := by cases hr <;> simp only [lenF, hu]
    simp only [evOp, opCall, hc, opBuiltin, ha, hxx, hx, this]) kk

theorem S_elemR {d : Nat} {t : TypeId} {x y : Operand} {e' : TypeId} {ti : TI} {ix : Nat} {ik : IntKind} (hr : Rd old e sz R v n c) (hnt : Nat.ble Y.nt 255 = true) (hd : o.dst = some d) (hlt : Nat.blt d Y.nt = true) (hw : wantedF ops (TM Y.nt f) o = true)
    (ho : o.op = .indexAddr t x y) (hu : Y.C.P.underlying t = some (.slice e')) (ht : tiOf Y.C.P e' = some ti) (hsz : ti.size = sz) (hx : ev (TM Y.nt f) x = v) (hy : ev (TM Y.nt f) y = .int ik (.ofNat ix)) (hi : ix < n)
    (kk : Q (upd f d (adrR v (ix * sz))) L (adrR v (ix * sz))) : SJ Y ops o f L Q :=
  S_pure hnt hd hlt hw (fun H => by
    rw [ho]
    have hb : Nat.blt ix n = true := by rw [Nat.blt_eq]; exact hi
    have : indexAddrF Y.C t v (.int ik (.ofNat ix)) = some (adrR v (ix * sz)) := by
      cases hr with
      | nil => omega
      | emp => omega
      | old a b d => simp only [indexAddrF, natOf, hu, ht, hb, hsz, adrR]
      | new a b d f g => simp only [indexAddrF, natOf, hu, ht, hb, hsz, adrR]
    simp only [evOp, opIndexAddr, hx, hy, this]
    rfl) kk

theorem rd_readN {H : AH} {C : Ctx} {k m : Nat} {dd : List AV} (hold : C.old = old) (hr : Rd old e sz R v n c) (hR : ∀ i o, R i o → At H i o) (hs : slice c k m = some dd) (hm : m ≠ 0) : readN C H (adrR v k) 0 m = some dd := by
  cases hr with
  | nil => obtain ⟨h1, _⟩ := slice_is hs; simp at h1; omega
  | emp => obtain ⟨h1, _⟩ := slice_is hs; simp at h1; omega
  | old a b d =>
    simp only [adrR, readN, Nat.add_zero, hold]
    exact old_slice d hs
  | new a b d f g =>
    have hc := (hR _ _ a).cells
    simp only [adrR, readN, hc, Nat.add_zero]
    exact slice_slice d hs

theorem rd_read1 {H : AH} {C : Ctx} {k : Nat} {x : AV} (hold : C.old = old) (hr : Rd old e sz R v n c) (hR : ∀ i o, R i o → At H i o) (hs : c[k]? = some x) : read1 C H (adrR v k) = some x := by
  obtain ⟨hk, he⟩ := List.getElem?_eq_some_iff.1 hs
  cases hr with
  | nil => simp at hk
  | emp => simp at hk
  | old a b d =>
    simp only [adrR, read1, hold]
    rw [d k hk, he]
  | new a b d f g =>
    have hc := (hR _ _ a).cells
    simp only [adrR, read1, hc]
    obtain ⟨h1, h2⟩ := slice_is d
    subst h2
    simp only [List.length_take, List.length_drop] at hk
    rw [List.getElem?_take, if_pos (by omega), List.getElem?_drop] at hs
    exact hs

theorem S_loadR {d k : Nat} {t : TypeId} {a : Operand} {ti : TI} {dd : List AV} (hold : Y.C.old = old) (hr : Rd old e sz R v n c) (hR : HoldsR Y L R) (hnt : Nat.ble Y.nt 255 = true) (hd : o.dst = some d) (hlt : Nat.blt d Y.nt = true) (hw : wantedF ops (TM Y.nt f) o = true)
    (ho : o.op = .load t a) (ha : ev (TM Y.nt f) a = adrR v k) (ht : tiOf Y.C.P t = some ti) (hg : ti.agg = true) (hz : Nat.beq ti.size 0 = false) (hs : slice c k ti.size = some dd)
    (kk : Q (upd f d (.agg dd)) L (.agg dd)) : SJ Y ops o f L Q :=
  S_read hnt hd hlt hw (fun H hH => by
    rw [ho]
    have := rd_readN (C := Y.C) hold hr (fun i o h => hR i o h H hH) hs (by intro h0; rw [h0] at hz; cases hz)
    simp only [evOp, opLoad, ha, loadF, ht, hg, this]
    rfl) kk

theorem S_load1R {d k : Nat} {t : TypeId} {a : Operand} {ti : TI} {x : AV} (hold : Y.C.old = old) (hr : Rd old e sz R v n c) (hR : HoldsR Y L R) (hnt : Nat.ble Y.nt 255 = true) (hd : o.dst = some d) (hlt : Nat.blt d Y.nt = true) (hw : wantedF ops (TM Y.nt f) o = true)
    (ho : o.op = .load t a) (ha : ev (TM Y.nt f) a = adrR v k) (ht : tiOf Y.C.P t = some ti) (hg : ti.agg = false) (hs : c[k]? = some x)
    (kk : Q (upd f d x) L x) : SJ Y ops o f L Q :=
  S_read hnt hd hlt hw (fun H hH => by
    rw [ho]
    have := rd_read1 (C := Y.C) hold hr (fun i o h => hR i o h H hH) hs
    simp only [evOp, opLoad, ha, loadF, ht, hg, this]
    rfl) kk

theorem boundsL {len kc a b : Nat} {lo hi : Option AV} (h : boundsF len len lo hi none = some (a, b, len)) (hk : len ≤ kc) : boundsF len kc lo hi none = some (a, b, kc) ∧ a ≤ b ∧ b ≤ len := by
  unfold boundsF at h ⊢
  simp only at h ⊢
  cases h1 : boundF hi len with
  | none => rw [h1] at h; cases h
  | some x =>
    cases h2 : boundF lo 0 with
    | none => rw [h1, h2] at h; cases h
    | some y =>
      rw [h1, h2] at h
      simp only at h ⊢
      split at h
      · rename_i hb
        cases h
        simp only [Bool.and_eq_true, Nat.ble_eq] at hb
        have : (Nat.ble a b && Nat.ble b kc) = true := by simp only [Bool.and_eq_true, Nat.ble_eq]; omega
        rw [this]
        exact ⟨rfl, hb⟩
      · cases h

theorem S_sliceR {d a b : Nat} {t : TypeId} {x : Operand} {lo hi : Option Operand} {ti : TI} (hr : Rd old e sz R v n c) (hR : HoldsR Y L R) (hnt : Nat.ble Y.nt 255 = true) (hd : o.dst = some d) (hlt : Nat.blt d Y.nt = true) (hw : wantedF ops (TM Y.nt f) o = true)
    (ho : o.op = .slice t x lo hi none) (hu : Y.C.P.underlying t = some (.slice e)) (ht : tiOf Y.C.P e = some ti) (hsz : ti.size = sz) (hz : sz ≠ 0) (hx : ev (TM Y.nt f) x = v)
    (hb : boundsF n n (lo.map (ev (TM Y.nt f))) (hi.map (ev (TM Y.nt f))) none = some (a, b, n))
    (kk : ∀ v', Rd old e sz R v' (b - a) ((c.drop (a * sz)).take ((b - a) * sz)) → Q (upd f d v') L v') : SJ Y ops o f L Q := by
  subst hsz
  have hz' : Nat.beq ti.size 0 = false := by
    cases hh : Nat.beq ti.size 0 with
    | false => rfl
    | true => exact absurd (by simpa [Nat.beq_eq] using hh) hz
  have hle := (boundsL hb (Nat.le_refl n)).2
  obtain ⟨hab, hbn⟩ := hle
  have hmul : (b - a) * ti.size + a * ti.size ≤ n * ti.size := by
    rw [← Nat.add_mul]
    exact Nat.mul_le_mul_right _ (by omega)
  have hlen := hr.len
  have hcl : ((c.drop (a * ti.size)).take ((b - a) * ti.size)).length = (b - a) * ti.size := by simp; omega
  have key : ∀ v', (∀ H, Hs Y.H0 Y.Wr H L → sliceF Y.C H t v (lo.map (ev (TM Y.nt f))) (hi.map (ev (TM Y.nt f))) none = some v') → Rd old e ti.size R v' (b - a) ((c.drop (a * ti.size)).take ((b - a) * ti.size)) → SJ Y ops o f L Q := fun v' hv hr' =>
    S_read hnt hd hlt hw (fun H hH => by
      rw [ho]
      simp only [evOp, opSlice, hx, Option.map_none, hv H hH]
      rfl) (kk v' hr')
  cases hr with
  | nil =>
    have h0 : a = 0 ∧ b = 0 := by omega
    obtain ⟨rfl, rfl⟩ := h0
    refine key (.raw (.slice none 0 0)) (fun H _ => ?_) (by simpa using (Rd.nil : Rd old e ti.size R _ _ _))
    simp only [sliceF, hu, ht, hz', hb]
  | emp =>
    rename_i i b0 o0
    have h0 : a = 0 ∧ b = 0 := by omega
    obtain ⟨rfl, rfl⟩ := h0
    refine key (.nemp i b0 o0) (fun H _ => ?_) (by simpa using (Rd.emp : Rd old e ti.size R _ _ _))
    simp only [sliceF, hu, ht, hz', hb]
  | old q1 q2 q3 =>
    rename_i b0 o0 cap
    obtain ⟨hb1, _⟩ := boundsL hb q1
    refine key (.oslc b0 (if cap = a then o0 else o0 + a * ti.size) (b - a) (cap - a)) (fun H _ => ?_) (.old (by omega) hcl fun j hj => ?_)
    · simp only [sliceF, hu, ht, hz', hb1]
    · rw [hcl] at hj
      have hne : cap ≠ a := by
        rintro rfl
        have : b - cap = 0 := by omega
        rw [this] at hj
        simp at hj
      rw [if_neg hne, Nat.add_assoc, q3 (a * ti.size + j) (by omega)]
      simp
  | new q1 q2 q3 q4 q5 =>
    rename_i i a0 cap row g gen sh ext frz wh sg
    obtain ⟨hs1, hs2⟩ := slice_is q3
    have hsl : slice row (a0 + a * ti.size) ((b - a) * ti.size) = some ((c.drop (a * ti.size)).take ((b - a) * ti.size)) := slice_slice q3 (slice_mk (by omega))
    cases cap with
    | some k =>
      obtain ⟨hb1, _⟩ := boundsL hb (q5 k rfl)
      refine key (.nslc i (if k = a then a0 else a0 + a * ti.size) (b - a) (some (k - a))) (fun H _ => ?_) ?_
      · simp only [sliceF, hu, ht, hz', hb1]
      · by_cases hk : k = a
        · rw [if_pos hk]
          have := q5 k rfl
          have h0 : b - a = 0 := by omega
          rw [h0] at hcl hsl ⊢
          rw [Nat.zero_mul] at *
          exact .new q1 (by simp) (by rw [Nat.zero_mul, slice_mk (by omega)]; simp) (fun h => by cases h) (fun k' hk' => by omega)
        · rw [if_neg hk]
          exact .new q1 hcl hsl (fun h => by cases h) (fun k' hk' => by cases hk'; have := q5 k rfl; omega)
    | none =>
      have hwh : wh = false := q4 rfl
      subst hwh
      have hdiv : n ≤ Nat.div (row.length - a0) ti.size := by
        show n ≤ (row.length - a0) / ti.size
        rw [Nat.le_div_iff_mul_le (by omega)]
        omega
      obtain ⟨hb1, _⟩ := boundsL hb hdiv
      have hrowG : ∀ H, Hs Y.H0 Y.Wr H L → H.rowG i = some (row, e) := fun H hH => by
        obtain ⟨w1, w2, w3⟩ := hR _ _ q1 H hH
        simp only [AH.rowG, w1, w3.1]
      have hee : (Nat.beq e e && Nat.ble a0 row.length) = true := by
        have h1 : Nat.ble a0 row.length = true := Nat.ble_eq_true_of_le (by omega)
        rw [h1]; simp
      by_cases hlt' : a0 + a * ti.size < row.length
      · refine key (.nslc i (a0 + a * ti.size) (b - a) none) (fun H hH => ?_) (.new q1 hcl hsl (fun _ => rfl) (fun k hk => by cases hk))
        have hbl : Nat.blt (a0 + a * ti.size) row.length = true := by rw [Nat.blt_eq]; exact hlt'
        simp only [sliceF, hu, ht, hz', hrowG H hH, hee, hb1, hbl]
      · refine key (.nemp i a0 (a0 + a * ti.size)) (fun H hH => ?_) ?_
        · have hbl : Nat.blt (a0 + a * ti.size) row.length = false := by
            cases hh : Nat.blt (a0 + a * ti.size) row.length with
            | false => rfl
            | true => rw [Nat.blt_eq] at hh; exact absurd hh hlt'
          simp only [sliceF, hu, ht, hz', hrowG H hH, hee, hb1, hbl]
        · have h0 : (b - a) * ti.size = 0 := by omega
          have h1 : b - a = 0 := by
            rcases Nat.mul_eq_zero.1 h0 with h | h
            · exact h
            · exact absurd h hz
          rw [h1, Nat.zero_mul, List.take_zero]
          exact .emp
end

/-! ### Choices -/

def cellsC (cs : List (Int × Int)) : List AV := cs.flatMap fun c => [.int .i64 c.1, .int .i64 c.2]

theorem cellsC_len : ∀ cs, (cellsC cs).length = cs.length * 2
  | [] => rfl
  | c :: cs => by
    have := cellsC_len cs
    simp only [cellsC, List.flatMap_cons, List.length_append, List.length_cons, List.length_nil] at this ⊢
    omega

theorem cellsC_drop : ∀ (cs : List (Int × Int)) (k : Nat), (cellsC cs).drop (k * 2) = cellsC (cs.drop k)
  | [], k => by simp [cellsC]
  | c :: cs, 0 => by simp
  | c :: cs, k + 1 => by
    rw [List.drop_succ_cons, ← cellsC_drop cs k, show (k + 1) * 2 = k * 2 + 1 + 1 by omega]
    rfl

theorem cellsC_take : ∀ (cs : List (Int × Int)) (k : Nat), (cellsC cs).take (k * 2) = cellsC (cs.take k)
  | [], k => by simp [cellsC]
  | c :: cs, 0 => by simp [cellsC]
  | c :: cs, k + 1 => by
    have := cellsC_take cs k
    rw [List.take_succ_cons, show (k + 1) * 2 = k * 2 + 1 + 1 by omega]
    show AV.int .i64 c.1 :: AV.int .i64 c.2 :: (cellsC cs).take (k * 2) = _
    rw [this]
    rfl

theorem cellsC_get {cs : List (Int × Int)} {k : Nat} {c : Int × Int} (h : cs[k]? = some c) : slice (cellsC cs) (k * 2) 2 = some [.int .i64 c.1, .int .i64 c.2] := by
  obtain ⟨hk, he⟩ := List.getElem?_eq_some_iff.1 h
  rw [slice_mk (by rw [cellsC_len]; omega), cellsC_drop, List.drop_eq_getElem_cons hk, he]
  rfl

theorem cellsC_app (a b : List (Int × Int)) : cellsC (a ++ b) = cellsC a ++ cellsC b := by simp [cellsC]

theorem cellsC_cell (cs : List (Int × Int)) : (cellsC cs).all AV.isCell = true := by
  rw [List.all_eq_true]
  intro x hx
  simp only [cellsC, List.mem_flatMap] at hx
  obtain ⟨c, _, hx⟩ := hx
  simp only [List.mem_cons, List.not_mem_nil, or_false] at hx
  rcases hx with rfl | rfl <;> rfl

/-- A choice. -/
abbrev chV (c : Int × Int) : AV := .agg [.int .i64 c.1, .int .i64 c.2]
end Go.Ev

/-! Ranges over functions whose rounds may return. -/
namespace Go.Ev

abbrev lpG (l : Nat) (st : LoopState) (pend : Option Code) (fn : FuncId) (f : Nat → AV) (nt : Nat) (ps : Array Tmp) (a b : Code) (d : Nat) : Slot := ⟨l, true, true, .loop st pend fn (TM nt f) nt ps a b d⟩

section
variable {Y : JE} {ops : Array Oper} {o : Oper} {l : List Oper} {f : Nat → AV} {L : Kn} {df : List AD} {K : PostL} {Q : (Nat → AV) → Kn → AV → Prop}

/-- A round that may return. -/
theorem yield_inX {T : List Entry} {C : Ctx} {m n : Nat} {l d : Nat} {args : List AV} {H0 H : AH} {Wr : List Nat} {fn : FuncId} {nt : Nat} {ps : Array Tmp} {a b : Code} {L : Kn} {P PX : Kn → Prop} (hle : Nat.ble nt 255 = true)
    (hps : (Nat.beq args.length ps.size && ps.toList.all (Nat.blt · nt)) = true) (hH : Hs H0 Wr H (lpS l .ready fn f nt ps a b d :: L))
    (ha : JW ⟨⟨evCallP T C m n, C, m, some l, fn, nt⟩, H0, Wr⟩ a (zipU ps.toList args f) (lpS l .ready fn f nt ps a b d :: L) [] (fun e f' L' df' => e = .norm ∧ df' = [] ∧ ∃ L1, L' = lpS l .ready fn f nt ps a b d :: L1 ∧
      JW ⟨⟨evCallP T C m n, C, m, some l, fn, nt⟩, H0, Wr⟩ b f' (lpS l .busy fn f nt ps a b d :: L1) [] (fun e f'' L'' df'' => df'' = [] ∧ ∃ L2, L'' = lpS l .busy fn f nt ps a b d :: L2 ∧ ((e = .norm ∧ P L2) ∨ (e = .ret ∧ PX L2))))) :
    ∃ v H' L2 st pend, evCallP T C m (n + 1) (.yield l) args H = some (.ret (.bool v), H') ∧ Hs H0 Wr H' (lpG l st pend fn f nt ps a b d :: L2) ∧ ((v = true ∧ st = .ready ∧ pend = none ∧ P L2) ∨ (v = false ∧ st = .done ∧ pend = some .ret ∧ PX L2)) := by
  have hs := hH.ok _ (List.mem_cons_self ..)
  have hget := hs.get
  simp only at hget
  obtain ⟨e1, f1, H1, df1, g1, La, g2, rfl, rfl, L1, rfl, hb⟩ := JW_use ha H hH
  have hs1 := g2.ok _ (List.mem_cons_self ..)
  have hget1 := hs1.get
  have hwr1 := (hs1.wr rfl).1
  simp only at hget1 hwr1
  have h2 := g2.setObj (p := 0) (o' := .loop .busy none fn (TM nt f) nt ps a b d) rfl trivial rfl
  obtain ⟨e2, f2, H2, df2, k1, Lb, k2, rfl, L2, rfl, hP⟩ := JW_use hb _ h2
  have hs2 := k2.ok _ (List.mem_cons_self ..)
  have hget2 := hs2.get
  have hwr2 := (hs2.wr rfl).1
  simp only at hget2 hwr2
  simp only at g1 k1
  rcases hP with ⟨rfl, hP⟩ | ⟨rfl, hP⟩
  · have h3 := k2.setObj (p := 0) (o' := .loop .ready none fn (TM nt f) nt ps a b d) rfl trivial rfl
    refine ⟨true, _, L2, .ready, none, ?_, h3, .inl ⟨rfl, rfl, rfl, hP⟩⟩
    simp only [evCallP, tabF, evYield, hget, hps, zip_TM (Nat.le_of_ble_eq_true hle) _ _ _ (by simp only [Bool.and_eq_true] at hps; exact hps.2), g1, hget1, setO_ok hwr1, k1, endF, hget2, setO_ok hwr2, Option.isNone]
  · have h3 := k2.setObj (p := 0) (o' := .loop .done (some .ret) fn (TM nt f) nt ps a b d) rfl trivial rfl
    refine ⟨false, _, L2, .done, some .ret, ?_, h3, .inr ⟨rfl, rfl, rfl, hP⟩⟩
    simp only [evCallP, tabF, evYield, hget, hps, zip_TM (Nat.le_of_ble_eq_true hle) _ _ _ (by simp only [Bool.and_eq_true] at hps; exact hps.2), g1, hget1, setO_ok hwr1, k1, endF, hget2, setO_ok hwr2, Option.isNone]

theorem S_yieldX {T : List Entry} {d n l dd nt2 : Nat} {fn2 : FuncId} {f2 : Nat → AV} {ps : Array Tmp} {a b : Code} {args : List AV} {M : Kn} (P PX : Kn → Prop) (hcall : Y.call = evCallP T Y.C Y.m (n + 1)) (hnt : Nat.ble Y.nt 255 = true) (hd : o.dst = some d) (hlt : Nat.blt d Y.nt = true) (hw : wantedF ops (TM Y.nt f) o = true)
    (he : ∀ H, evOp o.op Y.C (TM Y.nt f) H = some (.call (.yield l) args H)) (hL : L = lpS l .ready fn2 f2 nt2 ps a b dd :: M) (hle : Nat.ble nt2 255 = true) (hps : (Nat.beq args.length ps.size && ps.toList.all (Nat.blt · nt2)) = true)
    (ha : JW ⟨⟨evCallP T Y.C Y.m n, Y.C, Y.m, some l, fn2, nt2⟩, Y.H0, Y.Wr⟩ a (zipU ps.toList args f2) (lpS l .ready fn2 f2 nt2 ps a b dd :: M) [] (fun e f' L' df' => e = .norm ∧ df' = [] ∧ ∃ L1, L' = lpS l .ready fn2 f2 nt2 ps a b dd :: L1 ∧
      JW ⟨⟨evCallP T Y.C Y.m n, Y.C, Y.m, some l, fn2, nt2⟩, Y.H0, Y.Wr⟩ b f' (lpS l .busy fn2 f2 nt2 ps a b dd :: L1) [] (fun e f'' L'' df'' => df'' = [] ∧ ∃ L2, L'' = lpS l .busy fn2 f2 nt2 ps a b dd :: L2 ∧ ((e = .norm ∧ P L2) ∨ (e = .ret ∧ PX L2)))))
    (k : ∀ L2, P L2 → Q (upd f d (.bool true)) (lpS l .ready fn2 f2 nt2 ps a b dd :: L2) (.bool true))
    (kx : ∀ L2, PX L2 → Q (upd f d (.bool false)) (lpG l .done (some .ret) fn2 f2 nt2 ps a b dd :: L2) (.bool false)) : SJ Y ops o f L Q :=
  S_callX (P := fun v L' => (v = .bool true ∧ ∃ L2, L' = lpS l .ready fn2 f2 nt2 ps a b dd :: L2 ∧ P L2) ∨ (v = .bool false ∧ ∃ L2, L' = lpG l .done (some .ret) fn2 f2 nt2 ps a b dd :: L2 ∧ PX L2)) hnt hd hlt hw he (fun H hH => by
    rw [hcall]
    rw [hL] at hH
    obtain ⟨v, H', L2, st, pend, q1, q2, q3⟩ := yield_inX hle hps hH ha
    rcases q3 with ⟨rfl, rfl, rfl, q⟩ | ⟨rfl, rfl, rfl, q⟩
    · exact ⟨_, H', _, q1, q2, .inl ⟨rfl, L2, rfl, q⟩⟩
    · exact ⟨_, H', _, q1, q2, .inr ⟨rfl, L2, rfl, q⟩⟩) (fun v L' h => by
      rcases h with ⟨rfl, L2, rfl, h3⟩ | ⟨rfl, L2, rfl, h3⟩
      · exact k L2 h3
      · exact kx L2 h3)

theorem J_rangeX {fo : Operand} {ps : Array Tmp} {a b : Code} {g : FuncId} {args : Nat → List AV} {P PX : Kn → Prop} (hro : Y.ro = none) (hcv : ∀ l H, callVal Y.C (ev (TM Y.nt f) fo) [.yield l] H = some (.call (.fn g) (args l) H))
    (hcall : ∀ d l H, Hs Y.H0 Y.Wr H (lpS l .ready Y.fn f Y.nt ps a b d :: dfS d :: L) → ∃ v H' L' st pend, Y.call (.fn g) (args l) H = some (.ret v, H') ∧ Hs Y.H0 Y.Wr H' (lpG l st pend Y.fn f Y.nt ps a b d :: dfS d :: L') ∧ ((st = .ready ∧ pend = none ∧ P L') ∨ (st = .done ∧ pend = some .ret ∧ PX L')))
    (k : ∀ d L', P L' → K .norm f (dfS d :: L') (.coll d :: df)) (kx : ∀ d L', PX L' → K .ret f (dfS d :: L') (.coll d :: df)) : JW Y (.rangeFunc fo ps a b) f L df K := JW_mk fun H hH => by
  have h1 : Hs Y.H0 Y.Wr (H.new (.dfr true)) (dfS H.n :: L) := (hH.new (.dfr true) (fun g hg => by cases hg) trivial).front
  have h2 : Hs Y.H0 Y.Wr ((H.new (.dfr true)).new (.loop .ready none Y.fn (TM Y.nt f) Y.nt ps a b H.n)) (lpS (H.new (.dfr true)).n .ready Y.fn f Y.nt ps a b H.n :: dfS H.n :: L) := (h1.new (.loop .ready none Y.fn (TM Y.nt f) Y.nt ps a b H.n) (fun g hg => by cases hg) trivial).front
  obtain ⟨v, H', L', st, pend, q1, q2, q3⟩ := hcall _ _ _ h2
  have hs := q2.ok _ (List.mem_cons_self ..)
  have hget := hs.get
  have hwr := (hs.wr rfl).1
  simp only at hget hwr
  rcases q3 with ⟨rfl, rfl, q3⟩ | ⟨rfl, rfl, q3⟩
  · have h3 := (q2.setObj (p := 0) (o' := .loop .exhausted none Y.fn (TM Y.nt f) Y.nt ps a b H.n) rfl trivial rfl).drop (M := dfS H.n :: L') (by simp)
    refine ⟨.norm, f, _, .coll H.n :: df, ?_, dfS H.n :: L', h3, k _ _ q3⟩
    simp only [evCode, rangeF, hro, enterF, hcv, q1, hget, setO_ok hwr, jumpF]
  · have h3 := (q2.setObj (p := 0) (o' := .loop .exhausted (some .ret) Y.fn (TM Y.nt f) Y.nt ps a b H.n) rfl trivial rfl).drop (M := dfS H.n :: L') (by simp)
    refine ⟨.ret, f, _, .coll H.n :: df, ?_, dfS H.n :: L', h3, kx _ _ q3⟩
    simp only [evCode, rangeF, hro, enterF, hcv, q1, hget, setO_ok hwr, jumpF]

theorem J_rangeInX {T : List Entry} {n nt : Nat} {fo : Operand} {ps : Array Tmp} {a b : Code} {g : FuncId} {args : Nat → List AV} {fn : Func} {c : Code} (P PX : Kn → Prop) (hcall : Y.call = evCallP T Y.C Y.m (n + 1)) (hro : Y.ro = none)
    (hcv : ∀ l H, callVal Y.C (ev (TM Y.nt f) fo) [.yield l] H = some (.call (.fn g) (args l) H)) (hT : hasF g T = false) (hf : Y.C.P.funcs[g]? = some fn) (hb : fn.body = some c) (hn : ∀ l, ntOf (args l) fn = nt) (hle : Nat.ble nt 255 = true)
    (hJ : ∀ d l, JW ⟨⟨evCallP T Y.C Y.m n, Y.C, Y.m, none, g, nt⟩, Y.H0, Y.Wr⟩ c (argF (args l)) (lpS l .ready Y.fn f Y.nt ps a b d :: dfS d :: L) [] (retJ Y.C fn nt Y.H0 Y.Wr fun _ L' => ∃ L1, (L' = lpS l .ready Y.fn f Y.nt ps a b d :: dfS d :: L1 ∧ P L1) ∨ (L' = lpG l .done (some .ret) Y.fn f Y.nt ps a b d :: dfS d :: L1 ∧ PX L1)))
    (k : ∀ d L', P L' → K .norm f (dfS d :: L') (.coll d :: df)) (kx : ∀ d L', PX L' → K .ret f (dfS d :: L') (.coll d :: df)) : JW Y (.rangeFunc fo ps a b) f L df K :=
  J_rangeX (P := P) (PX := PX) hro hcv (fun d l H hH => by
    rw [hcall]
    obtain ⟨v, H', L', q1, q2, L1, q3⟩ := fn_in hT hf hb (hn l) hle hH (hJ d l)
    rcases q3 with ⟨rfl, q3⟩ | ⟨rfl, q3⟩
    · exact ⟨v, H', L1, .ready, none, q1, q2, .inl ⟨rfl, rfl, q3⟩⟩
    · exact ⟨v, H', L1, .done, some .ret, q1, q2, .inr ⟨rfl, rfl, q3⟩⟩) k kx

theorem ret_coll {C : Ctx} {fn : Func} {nt : Nat} {H0 : AH} {Wr : List Nat} {P : AV → Kn → Prop} {e : AE} {v : AV} {d : Nat} (he : e = .norm ∨ e = .ret) (hr : ∀ H, Hs H0 Wr H L → resultsF C fn (TM nt f) H = some v) (hp : P v L) :
    retJ C fn nt H0 Wr P e f (dfS d :: L) [.coll d] := ⟨he, fun H hH => by
  obtain ⟨H', q1, q2⟩ := leave_coll hH hr
  exact ⟨v, H', L, q1, q2, hp⟩⟩
theorem ret_collD (M : Kn) {C : Ctx} {fn : Func} {nt : Nat} {H0 : AH} {Wr : List Nat} {P : AV → Kn → Prop} {e : AE} {v : AV} {d : Nat} (hs : M.Sublist L) (he : e = .norm ∨ e = .ret) (hr : ∀ H, Hs H0 Wr H L → resultsF C fn (TM nt f) H = some v) (hp : P v M) :
    retJ C fn nt H0 Wr P e f (dfS d :: L) [.coll d] := ⟨he, fun H hH => by
  obtain ⟨H', q1, q2⟩ := leave_coll hH hr
  exact ⟨v, H', M, q1, q2.drop hs, hp⟩⟩

theorem ret_read (M : Kn) {C : Ctx} {fn : Func} {nt : Nat} {H0 : AH} {Wr : List Nat} {P : AV → Kn → Prop} {e : AE} {v : AV} (hs : M.Sublist L) (he : e = .norm ∨ e = .ret) (hr : ∀ H, Hs H0 Wr H L → resultsF C fn (TM nt f) H = some v) (hp : P v M) :
    retJ C fn nt H0 Wr P e f L [] := ⟨he, fun H hH => ⟨v, H, M, by simp only [leaveF, hr H hH], hH.drop hs, hp⟩⟩

/-- Two results that lie in cells of their own. -/
theorem res_cell2 {C : Ctx} {fn : Func} {tm : Tr AV} {H : AH} {t1 t2 : Nat} {ty1 ty2 : TypeId} {i1 i2 : Nat} {ti1 ti2 : TI} {v1 v2 : AV} (hr : fn.results = #[.cell t1 ty1, .cell t2 ty2]) (ha1 : ev tm (.tmp t1) = .nptr i1 0) (ha2 : ev tm (.tmp t2) = .nptr i2 0) (ht1 : tiOf C.P ty1 = some ti1) (ht2 : tiOf C.P ty2 = some ti2) (hg1 : ti1.agg = false) (hg2 : ti2.agg = false) (hc1 : H.cells i1 = some [v1]) (hc2 : H.cells i2 = some [v2]) :
    resultsF C fn tm H = some (.tup [v1, v2]) := by
  simp only [resultsF, hr, List.mapM_cons, List.mapM_nil, resultF, ha1, ha2, loadF, ht1, ht2, hg1, hg2, read1, hc1, hc2]
  rfl

theorem P0_mk {l : List PStep} (h : ∀ rd, JP Y ops l rd f L df K) : JP0 Y ops l f L df K := by rw [JP0]; exact h
theorem JP_mk {l : List PStep} {rd : List (Nat × Tr AV × AV)} (h : ∀ H, Hs Y.H0 Y.Wr H L → ∃ f' H' df', evPlan Y.call Y.C Y.nt ops l rd ⟨TM Y.nt f, H, df⟩ = some (.norm, ⟨TM Y.nt f', H', df'⟩) ∧ ∃ L', Hs Y.H0 Y.Wr H' L' ∧ K .norm f' L' df') : JP Y ops l rd f L df K := by rw [JP]; exact h
theorem JP_use {l : List PStep} {rd : List (Nat × Tr AV × AV)} (h : JP Y ops l rd f L df K) : ∀ H, Hs Y.H0 Y.Wr H L → ∃ f' H' df', evPlan Y.call Y.C Y.nt ops l rd ⟨TM Y.nt f, H, df⟩ = some (.norm, ⟨TM Y.nt f', H', df'⟩) ∧ ∃ L', Hs Y.H0 Y.Wr H' L' ∧ K .norm f' L' df' := by rw [JP] at h; exact h
theorem P_perm {l : List PStep} {rd : List (Nat × Tr AV × AV)} {M : Kn} (p : L.Perm M) (h : JP Y ops l rd f M df K) : JP Y ops l rd f L df K := JP_mk fun H hH => JP_use h H (hH.perm p)
theorem P_drop {l : List PStep} {rd : List (Nat × Tr AV × AV)} (M : Kn) (p : M.Sublist L) (h : JP Y ops l rd f M df K) : JP Y ops l rd f L df K := JP_mk fun H hH => JP_use h H (hH.drop p)
theorem P0_perm {l : List PStep} {M : Kn} (p : L.Perm M) (h : JP0 Y ops l f M df K) : JP0 Y ops l f L df K := P0_mk fun rd => P_perm p (by rw [JP0] at h; exact h rd)
theorem P0_drop {l : List PStep} (M : Kn) (p : M.Sublist L) (h : JP0 Y ops l f M df K) : JP0 Y ops l f L df K := P0_mk fun rd => P_drop M p (by rw [JP0] at h; exact h rd)
end
end Go.Ev

namespace Go.Ev

/-- What a function does to objects that are known, in a frame that is given. -/
def InnY (T : List Entry) (C : Ctx) (m k : Nat) (g : FuncId) (args : List AV) (H0 : AH) (Wr : List Nat) (L : Kn) (P : AV → Kn → Prop) : Prop :=
  ∀ n, k ≤ n → ∀ H, Hs H0 Wr H L → ∃ v H' L', evCallP T C m n (.fn g) args H = some (.ret v, H') ∧ Hs H0 Wr H' L' ∧ P v L'

theorem inn_fnY {T : List Entry} {C : Ctx} {m k : Nat} {g : FuncId} {args : List AV} {H0 : AH} {Wr : List Nat} {L : Kn} {P : AV → Kn → Prop} {fn : Func} {c : Code} {nt : Nat} (hT : hasF g T = false) (hf : C.P.funcs[g]? = some fn) (hb : fn.body = some c) (hn : ntOf args fn = nt) (hle : Nat.ble nt 255 = true)
    (h : ∀ n, k ≤ n → JW ⟨⟨evCallP T C m n, C, m, none, g, nt⟩, H0, Wr⟩ c (argF args) L [] (retJ C fn nt H0 Wr P)) : InnY T C m (k + 1) g args H0 Wr L P := fun n hk H hH => by
  cases n with
  | zero => omega
  | succ n => exact fn_in hT hf hb hn hle hH (h n (by omega))

theorem Inn.y {T : List Entry} {C : Ctx} {m k : Nat} {g : FuncId} {args : List AV} {L : Kn} {P : AV → Kn → Prop} (h : Inn T C m k g args L P) (H0 : AH) (Wr : List Nat) : InnY T C m k g args H0 Wr L P := fun n hn H hH => h n hn H0 Wr H hH

section
variable {Y : JE} {ops : Array Oper} {o : Oper} {l : List Oper} {f : Nat → AV} {L : Kn} {df : List AD} {K : PostL} {Q : (Nat → AV) → Kn → AV → Prop}

theorem S_callY {T : List Entry} {m k n : Nat} {g : FuncId} {args : List AV} {M : Kn} {P : AV → Kn → Prop} {d : Nat} (hnt : Nat.ble Y.nt 255 = true) (hd : o.dst = some d) (hlt : Nat.blt d Y.nt = true) (hw : wantedF ops (TM Y.nt f) o = true)
    (he : ∀ H, evOp o.op Y.C (TM Y.nt f) H = some (.call (.fn g) args H)) (hcall : Y.call = evCallP T Y.C m n) (hI : InnY T Y.C m k g args Y.H0 Y.Wr M P) (hk : k ≤ n) (hp : L.Perm M)
    (kk : ∀ v L', P v L' → Q (upd f d v) L' v) : SJ Y ops o f L Q :=
  S_callX (P := P) hnt hd hlt hw he (fun H hH => by rw [hcall]; exact hI n hk H (hH.perm hp)) kk

/-- A call that leaves all objects, in a heap of which all is known. -/
theorem S_callR (R : AV → Prop) {d : Nat} {c : AC} {args : List AV} (hnt : Nat.ble Y.nt 255 = true) (hd : o.dst = some d) (hlt : Nat.blt d Y.nt = true) (hw : wantedF ops (TM Y.nt f) o = true)
    (he : ∀ H, evOp o.op Y.C (TM Y.nt f) H = some (.call c args H)) (hc : ∀ H, Hs Y.H0 Y.Wr H L → ∃ v H', Y.call c args H = some (.ret v, H') ∧ R v ∧ Fr H [] H')
    (k : ∀ v, R v → Q (upd f d v) L v) : SJ Y ops o f L Q :=
  S_callX (P := fun v L' => R v ∧ L' = L) hnt hd hlt hw he (fun H hH => by
    obtain ⟨v, H', q1, q2, q3⟩ := hc H hH
    exact ⟨v, H', L, q1, hH.call0 q3, q2, rfl⟩) fun v L' h => by obtain ⟨h1, rfl⟩ := h; exact k v h1

/-- A part of a known row's slice, its room set. -/
theorem S_slice3 (p : Nat) {d : Nat} {t : TypeId} {x hi : Operand} {lo mx : Option Operand} {e : TypeId} {ti : TI} {i n a b mm : Nat} {wr gl : Bool} {c : List AV} {g gen : Nat} {sh ext : Bool} {frz : Nat} {sg : Bool} (hnt : Nat.ble Y.nt 255 = true) (hd : o.dst = some d) (hlt : Nat.blt d Y.nt = true) (hw : wantedF ops (TM Y.nt f) o = true)
    (ho : o.op = .slice t x lo (some hi) mx) (hu : Y.C.P.underlying t = some (.slice e)) (ht : tiOf Y.C.P e = some ti) (hz : Nat.beq ti.size 0 = false) (hx : ev (TM Y.nt f) x = .nslc i 0 n none) (hp : L[p]? = some ⟨i, wr, gl, .row c g gen sh ext frz e false sg⟩) (hmx : mx.isSome = true)
    (hb : boundsF n (Nat.div (c.length - 0) ti.size) (lo.map (ev (TM Y.nt f))) (some (ev (TM Y.nt f) hi)) (mx.map (ev (TM Y.nt f))) = some (a, b, mm)) (hma : mm ≠ a)
    (kk : Q (upd f d (.nslc i (a * ti.size) (b - a) (some (mm - a)))) L (.nslc i (a * ti.size) (b - a) (some (mm - a)))) : SJ Y ops o f L Q :=
  S_read hnt hd hlt hw (fun H hH => by
    have hm := hH.ok _ (List.mem_of_getElem? hp)
    have hget := hm.get
    have hrow := hm.row
    simp only at hget hrow
    have hr : H.rowG i = some (c, e) := by simp only [AH.rowG, hget, hrow.1]
    have hee : (Nat.beq e e && Nat.ble 0 c.length) = true := by simp
    obtain ⟨mx, rfl⟩ : ∃ m, mx = some m := Option.isSome_iff_exists.1 hmx
    rw [ho]
    simp only [Option.map_some] at hb
    simp only [evOp, opSlice, hx, sliceF, hu, ht, hz, hr, hee, Option.map_some, hb, if_neg hma, Nat.zero_add]
    rfl) kk

theorem bounds3 {n kc a b : Nat} {k1 k2 k3 : IntKind} (h1 : a ≤ b) (h2 : b ≤ kc) : boundsF n kc (some (.int k1 (a : Int))) (some (.int k2 (b : Int))) (some (.int k3 (b : Int))) = some (a, b, b) := by
  have e : (Nat.ble a b && Nat.ble b b && Nat.ble b kc) = true := by simp only [Bool.and_eq_true, Nat.ble_eq]; omega
  show (match natOf (AV.int k3 (b : Int)), natOf (AV.int k2 (b : Int)), boundF (some (AV.int k1 (a : Int))) 0 with
      | some m, some h, some l => match Nat.ble l h && Nat.ble h m && Nat.ble m kc with
        | true => some (l, h, m)
        | false => none
      | _, _, _ => none) = _
  show (match Nat.ble a b && Nat.ble b b && Nat.ble b kc with | true => some (a, b, b) | false => none) = _
  rw [e]

/-- Nothing appended to a row's slice. -/
theorem S_appE (p : Nat) {d : Nat} {c : Call} {t u : TypeId} {s x : Operand} {X : AV} {e : TypeId} {ti : TI} {i k : Nat} {wr gl : Bool} {cs new : List AV} {g gen : Nat} {sh ext : Bool} {frz : Nat} {sg : Bool} (hnt : Nat.ble Y.nt 255 = true) (hd : o.dst = some d) (hlt : Nat.blt d Y.nt = true) (hw : wantedF ops (TM Y.nt f) o = true)
    (ho : o.op = .call c) (hc : c.callee = .builtin .append) (ha : c.argTypes = #[t, u]) (hx : c.args = #[s, x]) (hn : noNum Y.C [u] = true) (hu : Y.C.P.underlying t = some (.slice e)) (ht : tiOf Y.C.P e = some ti) (hsz : (Nat.beq ti.size 0 || Nat.beq ti.bytes 0) = false)
    (hs : ev (TM Y.nt f) s = .nslc i 0 k none) (hp : L[p]? = some ⟨i, wr, gl, .row cs g gen sh ext frz e false sg⟩) (hl : cs.length = k * ti.size) (hX : ev (TM Y.nt f) x = X) (hsrc : Src Y L X ti.size 0 new)
    (kk : Q (upd f d (.nslc i 0 k none)) L (.nslc i 0 k none)) : SJ Y ops o f L Q :=
  S_read hnt hd hlt hw (fun H hH => by
    have hm := hH.ok _ (List.mem_of_getElem? hp)
    have hget := hm.get
    have hrow := hm.row
    simp only at hget hrow
    have hr : H.rowG i = some (cs, e) := by simp only [AH.rowG, hget, hrow.1]
    have hee : (Nat.beq e e && Nat.ble (0 + k * ti.size) cs.length) = true := by rw [Nat.ble_eq_true_of_le (show 0 + k * ti.size ≤ cs.length by omega)]; simp
    have h0 : Nat.beq 0 0 = true := rfl
    rw [ho, opAppend_eq hc ha hx hn]
    simp only [appendF, hu, ht, hsz, hX, hsrc.len, hsrc.el H hH, h0, hs, hr, hee, valH]) kk

theorem S_appE0 {d : Nat} {c : Call} {t u : TypeId} {s x : Operand} {X : AV} {e : TypeId} {ti : TI} {new : List AV} (hnt : Nat.ble Y.nt 255 = true) (hd : o.dst = some d) (hlt : Nat.blt d Y.nt = true) (hw : wantedF ops (TM Y.nt f) o = true)
    (ho : o.op = .call c) (hc : c.callee = .builtin .append) (ha : c.argTypes = #[t, u]) (hx : c.args = #[s, x]) (hn : noNum Y.C [u] = true) (hu : Y.C.P.underlying t = some (.slice e)) (ht : tiOf Y.C.P e = some ti) (hsz : (Nat.beq ti.size 0 || Nat.beq ti.bytes 0) = false)
    (hs : ev (TM Y.nt f) s = .raw (.slice none 0 0)) (hX : ev (TM Y.nt f) x = X) (hsrc : Src Y L X ti.size 0 new)
    (kk : Q (upd f d (.raw (.slice none 0 0))) L (.raw (.slice none 0 0))) : SJ Y ops o f L Q :=
  S_read hnt hd hlt hw (fun H hH => by
    have h0 : Nat.beq 0 0 = true := rfl
    rw [ho, opAppend_eq hc ha hx hn]
    simp only [appendF, hu, ht, hsz, hX, hsrc.len, hsrc.el H hH, h0, hs, valH]) kk

theorem Src.nil {sz : Nat} : Src Y L (.raw (.slice none 0 0)) sz 0 [] := ⟨rfl, fun _ _ => rfl, rfl⟩
end

/-! ### Plain facts -/

theorem runLen_eq (c : Ch) : ∀ (l : List Ch) (m : Nat), (∀ j, j < m → l[j]? = some c) → l[m]? ≠ some c → runLen c l = m
  | [], m, h1, h2 => by
    cases m with
    | zero => rfl
    | succ m => have := h1 0 (by omega); simp at this
  | d :: l, 0, _, h2 => by
    have : d ≠ c := by simpa using h2
    simp [runLen, this]
  | d :: l, m + 1, h1, h2 => by
    have h0 : d = c := by simpa using h1 0 (by omega)
    subst h0
    simp only [runLen, if_true]
    rw [runLen_eq d l m (fun j hj => by simpa using h1 (j + 1) (by omega)) (by simpa using h2)]
end Go.Ev

namespace Go.Ev
theorem Rd.cells1 {old : Nat → Nat → Option AV} {e sz : Nat} {R : Nat → AObj → Prop} {v : AV} {n : Nat} {c : List AV} (h : Rd old e sz R v n c) : v.cells = [v] := by cases h <;> rfl
theorem Rd.cell1 {old : Nat → Nat → Option AV} {e sz : Nat} {R : Nat → AObj → Prop} {v : AV} {n : Nat} {c : List AV} (h : Rd old e sz R v n c) : v.isCell = true := by cases h <;> rfl

section
variable {Y : JE} {ops : Array Oper} {o : Oper} {l : List Oper} {f : Nat → AV} {L : Kn} {df : List AD} {K : PostL} {Q : (Nat → AV) → Kn → AV → Prop}

/-- What holds behind a piece of code, however it ends. -/
theorem J_mid {c : Code} (M : AE → (Nat → AV) → Kn → Prop) (h : JW Y c f L df (fun e f' L' df' => df' = df ∧ M e f' L')) (k : ∀ e f' L', M e f' L' → K e f' L' df) : JW Y c f L df K :=
  h.mono fun e f' L' df' hk => by obtain ⟨rfl, hm⟩ := hk; exact k e f' L' hm

theorem J_midL {c : Code} (M : AE → (Nat → AV) → Prop) (h : JW Y c f L df (fun e f' L' df' => df' = df ∧ L' = L ∧ M e f')) (k : ∀ e f', M e f' → K e f' L df) : JW Y c f L df K :=
  h.mono fun e f' L' df' hk => by obtain ⟨rfl, rfl, hm⟩ := hk; exact k e f' hm

/-- A loop that leaves all objects. -/
theorem J_loopL {b : Code} {I : Nat → (Nat → AV) → Prop} (n : Nat) (hn : n < Y.m) (h0 : I n f)
    (step : ∀ k f, I k f → JW Y b f L df (fun e f' L' df' => match e with
      | .norm => df' = df ∧ L' = L ∧ ∃ j, k = j + 1 ∧ I j f'
      | e => K e f' L' df')) : JW Y (.loop b) f L df K :=
  J_loop (fun k f L' df' => df' = df ∧ L' = L ∧ I k f) n hn ⟨rfl, rfl, h0⟩ fun k f L' df' hI => by
    obtain ⟨rfl, rfl, hI⟩ := hI
    refine (step k f hI).mono fun e f' L'' df'' hk => ?_
    cases e with
    | norm =>
      obtain ⟨rfl, rfl, j, h1, h2⟩ := hk
      exact ⟨j, h1, rfl, rfl, h2⟩
    | _ => exact hk

theorem S_slice3k (p : Nat) {d : Nat} {t : TypeId} {x hi : Operand} {lo mx : Option Operand} {e : TypeId} {ti : TI} {i n a b mm k n' c' : Nat} {wr gl : Bool} {c : List AV} {g gen : Nat} {sh ext : Bool} {frz : Nat} {sg : Bool} (hnt : Nat.ble Y.nt 255 = true) (hd : o.dst = some d) (hlt : Nat.blt d Y.nt = true) (hw : wantedF ops (TM Y.nt f) o = true)
    (ho : o.op = .slice t x lo (some hi) mx) (hu : Y.C.P.underlying t = some (.slice e)) (ht : tiOf Y.C.P e = some ti) (hz : Nat.beq ti.size 0 = false) (hx : ev (TM Y.nt f) x = .nslc i 0 n none) (hp : L[p]? = some ⟨i, wr, gl, .row c g gen sh ext frz e false sg⟩) (hmx : mx.isSome = true)
    (hb : boundsF n (Nat.div (c.length - 0) ti.size) (lo.map (ev (TM Y.nt f))) (some (ev (TM Y.nt f) hi)) (mx.map (ev (TM Y.nt f))) = some (a, b, mm)) (hma : mm ≠ a) (h1 : a * ti.size = k) (h2 : b - a = n') (h3 : mm - a = c')
    (kk : Q (upd f d (.nslc i k n' (some c'))) L (.nslc i k n' (some c'))) : SJ Y ops o f L Q := by
  subst h1 h2 h3
  exact S_slice3 p hnt hd hlt hw ho hu ht hz hx hp hmx hb hma kk

/-- A slice's cell, stored. -/
theorem S_storeR (p : Nat) {t : TypeId} {a x : Operand} {i k : Nat} {gl : Bool} {c : List AV} {g gen : Nat} {ext : Bool} {frz e : Nat} {wh sg : Bool} {ti : TI} {v : AV} {old : Nat → Nat → Option AV} {e' sz n : Nat} {R : Nat → AObj → Prop} {cc : List AV} (hr : Rd old e' sz R v n cc) (hnt : Nat.ble Y.nt 255 = true) (hd : o.dst = none) (hw : wantedF ops (TM Y.nt f) o = true)
    (ho : o.op = .store t a x) (ha : ev (TM Y.nt f) a = .nptr i k) (hx : ev (TM Y.nt f) x = v) (hp : L[p]? = some ⟨i, true, gl, .row c g gen false ext frz e wh sg⟩) (ht : tiOf Y.C.P t = some ti)
    (hs : Nat.beq 1 ti.size = true) (hb : (Nat.blt k c.length && Nat.ble frz k) = true)
    (kk : Q f (L.set p ⟨i, true, gl, .row (c.set k v) g gen false ext frz e wh sg⟩) .undef) : SJ Y ops o f L Q :=
  S_store1 p hnt hd hw ho ha hx hr.cells1 hp ht (by rw [hs, hr.cell1]; rfl) hb kk
end
end Go.Ev

namespace Go.Ev
section
variable {Y : JE} {ops : Array Oper} {o : Oper} {l : List Oper} {f : Nat → AV} {L : Kn} {df : List AD} {K : PostL} {Q : (Nat → AV) → Kn → AV → Prop}

theorem JO.mono {K' : PostL} (h : JO Y ops l f L df K) (k : ∀ e f L df, K e f L df → K' e f L df) : JO Y ops l f L df K' := JO_mk fun H hH => by
  obtain ⟨e, f', H', df', h1, L', h2, h3⟩ := JO_use h H hH
  exact ⟨e, f', H', df', h1, L', h2, k _ _ _ _ h3⟩

/-- What holds behind the rest of a region. -/
theorem O_midL (M : AE → (Nat → AV) → Prop) (h : JO Y ops l f L df (fun e f' L' df' => df' = df ∧ L' = L ∧ M e f')) (k : ∀ e f', M e f' → K e f' L df) : JO Y ops l f L df K :=
  h.mono fun e f' L' df' hk => by obtain ⟨rfl, rfl, hm⟩ := hk; exact k e f' hm

theorem ret_tmpPD (L1 M : Kn) {C : Ctx} {fn : Func} {nt : Nat} {H0 : AH} {Wr : List Nat} {P : AV → Kn → Prop} {e : AE} {v : AV} (hp : L.Perm L1) (hs : M.Sublist L1) (he : e = .norm ∨ e = .ret) (hr : ∀ H, resultsF C fn (TM nt f) H = some v) (hq : P v M) :
    retJ C fn nt H0 Wr P e f L [] := ⟨he, fun H hH => ⟨v, H, M, by simp only [leaveF, hr], (hH.perm hp).drop hs, hq⟩⟩
end
end Go.Ev

namespace Go.Ev

/-- A slice that was appended to nothing. -/
def SlG (e : TypeId) (cs : List AV) (k : Nat) (v : AV) (S : Kn) : Prop :=
  (k = 0 ∧ cs = [] ∧ v = .raw (.slice none 0 0) ∧ S = []) ∨
  (k ≠ 0 ∧ ∃ b g G sh, v = .nslc b 0 k none ∧ S = [⟨b, true, true, .row cs g G sh false 0 e false false⟩])

theorem SlG.cells1 {e : TypeId} {cs : List AV} {k : Nat} {v : AV} {S : Kn} (h : SlG e cs k v S) : v.cells = [v] := by
  rcases h with ⟨_, _, rfl, _⟩ | ⟨_, b, g, G, sh, rfl, _⟩ <;> rfl
theorem SlG.cell1 {e : TypeId} {cs : List AV} {k : Nat} {v : AV} {S : Kn} (h : SlG e cs k v S) : v.isCell = true := by
  rcases h with ⟨_, _, rfl, _⟩ | ⟨_, b, g, G, sh, rfl, _⟩ <;> rfl

theorem SlG.same {e : TypeId} {cs : List AV} {k : Nat} {v : AV} {S : Kn} (h : SlG e cs k v S) : AV.sameA v v = true := by
  rcases h with ⟨_, _, rfl, _⟩ | ⟨_, b, g, G, sh, rfl, _⟩
  · rfl
  · exact same_nslc _ _ _ _

theorem perm_mid (A S B : Kn) : (A ++ (S ++ B)).Perm (S ++ (A ++ B)) := by
  rw [← List.append_assoc, ← List.append_assoc]
  exact (List.perm_append_comm).append_right B

section
variable {Y : JE} {ops : Array Oper} {o : Oper} {l : List Oper} {f : Nat → AV} {L : Kn} {df : List AD} {K : PostL} {Q : (Nat → AV) → Kn → AV → Prop}

theorem SJ_use (h : SJ Y ops o f L Q) : dstOk Y.nt o = true ∧ ∀ H, Hs Y.H0 Y.Wr H L → ∃ f' H' L' v, Does Y.toEnv ops o f H f' H' v ∧ Hs Y.H0 Y.Wr H' L' ∧ Q f' L' v := by rw [SJ] at h; exact h
theorem SJ_perm {M : Kn} (p : L.Perm M) (h : SJ Y ops o f M Q) : SJ Y ops o f L Q := SJ_mk (SJ_use h).1 fun H hH => (SJ_use h).2 H (hH.perm p)

theorem Src.perm {M : Kn} {x : AV} {sz n : Nat} {new : List AV} (p : L.Perm M) (h : Src Y M x sz n new) : Src Y L x sz n new := ⟨h.len, fun H hH => h.el H (hH.perm p), h.cell⟩

/-- Something appended. -/
theorem S_appSl {d : Nat} {c : Call} {t u : TypeId} {s x : Operand} {X : AV} {e : TypeId} {ti : TI} {n k : Nat} {cs new : List AV} {v : AV} {S R : Kn} (hS : SlG e cs k v S) (hp : L.Perm (S ++ R)) (hnt : Nat.ble Y.nt 255 = true) (hd : o.dst = some d) (hlt : Nat.blt d Y.nt = true) (hw : wantedF ops (TM Y.nt f) o = true)
    (ho : o.op = .call c) (hc : c.callee = .builtin .append) (ha : c.argTypes = #[t, u]) (hx : c.args = #[s, x]) (hn : noNum Y.C [u] = true) (hu : Y.C.P.underlying t = some (.slice e)) (ht : tiOf Y.C.P e = some ti) (hsz : (Nat.beq ti.size 0 || Nat.beq ti.bytes 0) = false)
    (hz : Nat.beq ti.zero.length ti.size = true) (hs : ev (TM Y.nt f) s = v) (hl : cs.length = k * ti.size) (hX : ev (TM Y.nt f) x = X) (hsrc : Src Y L X ti.size n new) (hn0 : n ≠ 0) (hbig : (3 * (k + n) + 4096) * ti.bytes ≤ 100000000000000)
    (kk : ∀ v' s', SlG e (cs ++ new) (k + n) v' [s'] → Q (upd f d v') (R ++ [s']) v') : SJ Y ops o f L Q := by
  refine SJ_perm hp ?_
  have hsrc' := Src.perm hp.symm hsrc
  rcases hS with ⟨rfl, rfl, rfl, rfl⟩ | ⟨hk, b, g, G, sh, rfl, rfl⟩
  · refine S_app0 (n := n) (new := new) hnt hd hlt hw ho hc ha hx hn hu ht hsz hz hs hX hsrc' hn0 (by rw [Nat.zero_add] at hbig; exact hbig) fun i => kk _ _ (.inr ⟨by omega, i, i, 0, false, ?_, rfl⟩)
    rw [Nat.zero_add]
  · exact S_appB 0 (k := k) (n := n) (new := new) hnt hd hlt hw ho hc ha hx hn hu ht hsz hz hs rfl hl hX hsrc' hn0 (Nat.zero_le _) hbig fun j G' => kk _ _ (.inr ⟨by omega, j, g, G', true, rfl, rfl⟩)

/-- Nothing appended. -/
theorem S_appSl0 {d : Nat} {c : Call} {t u : TypeId} {s x : Operand} {e : TypeId} {ti : TI} {k : Nat} {cs : List AV} {v : AV} {S R : Kn} (hS : SlG e cs k v S) (hp : L.Perm (S ++ R)) (hnt : Nat.ble Y.nt 255 = true) (hd : o.dst = some d) (hlt : Nat.blt d Y.nt = true) (hw : wantedF ops (TM Y.nt f) o = true)
    (ho : o.op = .call c) (hc : c.callee = .builtin .append) (ha : c.argTypes = #[t, u]) (hx : c.args = #[s, x]) (hn : noNum Y.C [u] = true) (hu : Y.C.P.underlying t = some (.slice e)) (ht : tiOf Y.C.P e = some ti) (hsz : (Nat.beq ti.size 0 || Nat.beq ti.bytes 0) = false)
    (hs : ev (TM Y.nt f) s = v) (hl : cs.length = k * ti.size) (hX : ev (TM Y.nt f) x = .raw (.slice none 0 0))
    (kk : Q (upd f d v) (S ++ R) v) : SJ Y ops o f L Q := by
  refine SJ_perm hp ?_
  rcases hS with ⟨rfl, rfl, rfl, rfl⟩ | ⟨hk, b, g, G, sh, rfl, rfl⟩
  · exact S_appE0 hnt hd hlt hw ho hc ha hx hn hu ht hsz hs hX Src.nil kk
  · exact S_appE 0 hnt hd hlt hw ho hc ha hx hn hu ht hsz hs rfl hl hX Src.nil kk

/-- Such a slice stored. -/
theorem S_storeSl (p : Nat) {t : TypeId} {a x : Operand} {i k : Nat} {gl : Bool} {c : List AV} {g gen : Nat} {ext : Bool} {frz e : Nat} {wh sg : Bool} {ti : TI} {v : AV} {e' : TypeId} {cs : List AV} {n : Nat} {S : Kn} (hS : SlG e' cs n v S) (hnt : Nat.ble Y.nt 255 = true) (hd : o.dst = none) (hw : wantedF ops (TM Y.nt f) o = true)
    (ho : o.op = .store t a x) (ha : ev (TM Y.nt f) a = .nptr i k) (hx : ev (TM Y.nt f) x = v) (hp : L[p]? = some ⟨i, true, gl, .row c g gen false ext frz e wh sg⟩) (ht : tiOf Y.C.P t = some ti)
    (hs : Nat.beq 1 ti.size = true) (hb : (Nat.blt k c.length && Nat.ble frz k) = true)
    (kk : Q f (L.set p ⟨i, true, gl, .row (c.set k v) g gen false ext frz e wh sg⟩) .undef) : SJ Y ops o f L Q :=
  S_store1 p hnt hd hw ho ha hx hS.cells1 hp ht (by rw [hs, hS.cell1]; rfl) hb kk
end
end Go.Ev
