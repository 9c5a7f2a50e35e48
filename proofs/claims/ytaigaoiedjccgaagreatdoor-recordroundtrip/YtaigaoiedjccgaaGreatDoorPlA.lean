/-
  A part of the plain law: what the bytes of an encoded recording are and that reading them gives the recording back. No program is in sight.
-/
import Derived.Test.YtaigaoiedjccgaaGreatDoorSyC
set_option linter.unusedVariables false
set_option linter.unusedSimpArgs false

/-! Plain law: the encoding of an integer. -/
namespace Go.Ev

/-- The digits of a number in base 256, of the last 'k' places, from the first that is not 0 on. -/
def digsK (n : Nat) : Nat → List UInt8
  | 0 => []
  | k + 1 => (if n / 256 ^ k = 0 then [] else [UInt8.ofNat (n / 256 ^ k)]) ++ digsK n k

def magn (n : Int) : Nat := if n < 0 then (-n - 1).toNat else n.toNat

def negB (neg : Bool) (b : UInt8) : UInt8 := if neg then 255 - b else b

def headB (neg : Bool) (k : Nat) : UInt8 := if neg then UInt8.ofNat (127 - k) else UInt8.ofNat (128 + k)

def encInt (n : Int) : List UInt8 :=
  headB (decide (n < 0)) (digsK (magn n) 8).length :: (digsK (magn n) 8).map (negB (decide (n < 0)))

theorem digsK_len (n : Nat) : ∀ k, (digsK n k).length ≤ k
  | 0 => Nat.le_refl _
  | k + 1 => by
    have := digsK_len n k
    simp only [digsK, List.length_append]
    split <;> simp <;> omega

end Go.Ev

/-! Plain law: an integer is read back. -/
namespace Go.Ev

def foldB (ds : List UInt8) : Nat := ds.foldl (fun n b => 256 * n + b.toNat) 0

/-- One more byte, as 64 bits have it. -/
def stepU (m : Nat) (b : UInt8) : Nat := m * 256 % 18446744073709551616 ||| b.toNat

theorem stepU_lt (m : Nat) (b : UInt8) : stepU m b < 18446744073709551616 := by
  have hb : b.toNat < 256 := UInt8.toNat_lt b
  have h1 : m * 256 % 18446744073709551616 < 2 ^ 64 := by omega
  have h2 : b.toNat < 2 ^ 64 := by omega
  exact Nat.or_lt_two_pow h1 h2

theorem stepU_eq {m : Nat} (b : UInt8) (h : m < 72057594037927936) : stepU m b = 256 * m + b.toNat := by
  have hb : b.toNat < 256 := UInt8.toNat_lt b
  have h1 : m * 256 % 18446744073709551616 = 2 ^ 8 * m := by omega
  unfold stepU
  rw [h1, ← Nat.two_pow_add_eq_or_of_lt (by omega : b.toNat < 2 ^ 8)]

theorem foldl_snoc (ds : List UInt8) (b : UInt8) : foldB (ds ++ [b]) = 256 * foldB ds + b.toNat := by
  simp [foldB, List.foldl_append]

theorem fold_lt : ∀ (n : Nat) (ds : List UInt8), ds.length = n → foldB ds < 256 ^ n := by
  intro n
  induction n with
  | zero => intro ds h; have := List.eq_nil_of_length_eq_zero h; subst this; decide
  | succ n ih =>
    intro ds h
    rcases List.eq_nil_or_concat ds with rfl | ⟨l, b, rfl⟩
    · simp at h
    · rw [List.concat_eq_append] at h ⊢
      rw [foldl_snoc]
      have := ih l (by simpa using h)
      have hb : b.toNat < 256 := UInt8.toNat_lt b
      rw [Nat.pow_succ]
      omega

/-- How many bytes a head announces; the number that they hold; the integer. -/
def kOf (h : UInt8) : Nat := if h.toNat ≤ 127 then 127 - h.toNat else h.toNat - 128
def mOf (h : UInt8) (t : List UInt8) : Nat := foldB ((t.take (kOf h)).map (negB (decide (h.toNat ≤ 127))))
def sgn (neg : Bool) (m : Nat) : Int := if neg then -(m : Int) - 1 else m

def decI : List UInt8 → Option (Int × Nat)
  | [] => none
  | h :: t =>
    if 8 < kOf h then none else if t.length < kOf h then none else
    if 4611686018427387904 < mOf h t ∨ (h.toNat ≤ 127 ∧ 4611686018427387904 ≤ mOf h t) then none else
    if encInt (sgn (decide (h.toNat ≤ 127)) (mOf h t)) = h :: t.take (kOf h) then some (sgn (decide (h.toNat ≤ 127)) (mOf h t), kOf h + 1) else none

def fitsI (n : Int) : Prop := -4611686018427387904 ≤ n ∧ n ≤ 4611686018427387904

theorem decI_some {l : List UInt8} {n : Int} {k : Nat} (h : decI l = some (n, k)) : fitsI n ∧ k ≤ l.length ∧ encInt n = l.take k ∧ 1 ≤ k := by
  cases l with
  | nil => cases h
  | cons hd t =>
    simp only [decI] at h
    split at h
    · cases h
    split at h
    · cases h
    split at h
    · cases h
    split at h
    · rename_i h1 h2 h3 h4
      simp only [Option.some.injEq, Prod.mk.injEq] at h
      obtain ⟨rfl, rfl⟩ := h
      refine ⟨?_, by simp; omega, by rw [h4]; rfl, by omega⟩
      unfold fitsI sgn
      by_cases hh : hd.toNat ≤ 127
      · rw [decide_eq_true hh]; simp only [if_true]; omega
      · rw [decide_eq_false hh]; simp only [Bool.false_eq_true, if_false]; omega
    · cases h

theorem fold_digs (n : Nat) : ∀ k, (digsK n k).foldl (fun n b => 256 * n + b.toNat) (n / 256 ^ k) = n
  | 0 => by simp [digsK]
  | k + 1 => by
    have ih := fold_digs n k
    have e : n / 256 ^ (k + 1) = n / 256 ^ k / 256 := by rw [Nat.pow_succ, Nat.div_div_eq_div_mul]
    rw [e]
    simp only [digsK]
    by_cases h0 : n / 256 ^ k = 0
    · rw [if_pos h0, h0]
      rw [h0] at ih
      exact ih
    · rw [if_neg h0]
      have e2 : 256 * (n / 256 ^ k / 256) + (UInt8.ofNat (n / 256 ^ k)).toNat = n / 256 ^ k := by
        have : (UInt8.ofNat (n / 256 ^ k)).toNat = (n / 256 ^ k) % 256 := by simp
        rw [this]; omega
      simp only [List.cons_append, List.nil_append, List.foldl_cons, e2]
      exact ih

theorem foldB_digs {n : Nat} (h : n < 256 ^ 8) : foldB (digsK n 8) = n := by
  have := fold_digs n 8
  rw [Nat.div_eq_of_lt h] at this
  exact this

theorem negB_negB (b : Bool) (c : UInt8) : negB b (negB b c) = c := by
  cases b with
  | false => rfl
  | true =>
    show 255 - (255 - c) = c
    apply UInt8.toNat_inj.1
    have hc : c.toNat < 256 := UInt8.toNat_lt c
    have e1 : (255 - c : UInt8).toNat = 255 - c.toNat := by
      rw [UInt8.toNat_sub]; simp; omega
    rw [UInt8.toNat_sub, e1]; simp; omega

theorem headB_ok : ∀ neg : Bool, ∀ k : Nat, k ≤ 8 → decide ((headB neg k).toNat ≤ 127) = neg ∧ kOf (headB neg k) = k := by
  intro neg k hk
  obtain rfl | rfl | rfl | rfl | rfl | rfl | rfl | rfl | rfl : k = 0 ∨ k = 1 ∨ k = 2 ∨ k = 3 ∨ k = 4 ∨ k = 5 ∨ k = 6 ∨ k = 7 ∨ k = 8 := by omega
  all_goals (cases neg <;> exact ⟨rfl, rfl⟩)

theorem encInt_len (n : Int) : 1 ≤ (encInt n).length ∧ (encInt n).length ≤ 9 := by
  have := digsK_len (magn n) 8
  simp [encInt]; omega

theorem decI_enc {n : Int} (hf : fitsI n) (r : List UInt8) : decI (encInt n ++ r) = some (n, (encInt n).length) := by
  obtain ⟨hf1, hf2⟩ := hf
  have hl := digsK_len (magn n) 8
  obtain ⟨e1, e2⟩ := headB_ok (decide (n < 0)) _ hl
  have hm : magn n ≤ 4611686018427387904 := by unfold magn; split <;> omega
  have hfold : foldB (digsK (magn n) 8) = magn n := foldB_digs (by omega)
  have hw : encInt n ++ r = headB (decide (n < 0)) (digsK (magn n) 8).length :: ((digsK (magn n) 8).map (negB (decide (n < 0))) ++ r) := rfl
  have ht : ((digsK (magn n) 8).map (negB (decide (n < 0))) ++ r).take (digsK (magn n) 8).length = (digsK (magn n) 8).map (negB (decide (n < 0))) := by
    have : (digsK (magn n) 8).length = ((digsK (magn n) 8).map (negB (decide (n < 0)))).length := by simp
    rw [this]; exact List.take_left
  have e1' := e1
  rw [decide_eq_decide] at e1'
  have hmm : mOf (headB (decide (n < 0)) (digsK (magn n) 8).length) ((digsK (magn n) 8).map (negB (decide (n < 0))) ++ r) = magn n := by
    unfold mOf
    rw [e1, e2, ht, List.map_map]
    have : (negB (decide (n < 0)) ∘ negB (decide (n < 0))) = id := by funext c; exact negB_negB _ c
    rw [this, List.map_id, hfold]
  have hs : sgn (decide (n < 0)) (magn n) = n := by
    unfold sgn magn
    by_cases hh : n < 0
    · rw [decide_eq_true hh]; simp only [if_true, if_pos hh]; omega
    · rw [decide_eq_false hh]; simp only [Bool.false_eq_true, if_false, if_neg hh]; omega
  rw [hw]
  simp only [decI, e2, hmm, e1, hs, ht]
  rw [if_neg (by omega), if_neg (by simp), if_neg, if_pos (by rfl)]
  · simp [encInt]
  · rintro (h | ⟨h1, h2⟩)
    · omega
    · have : n < 0 := e1'.1 h1
      unfold magn at h2
      rw [if_pos this] at h2
      omega

end Go.Ev

/-! Plain law: a text is read back. -/
namespace Go.Ev

def decT : List UInt8 → Option (List UInt8 × Nat)
  | [] => none
  | [_] => none
  | b :: c :: l =>
    if b = 0 then (if c = 1 then some ([], 2) else if c = 255 then (decT l).map (fun r => (0 :: r.1, r.2 + 2)) else none)
    else (decT (c :: l)).map fun r => (b :: r.1, r.2 + 1)

theorem decT_ne {b : UInt8} (hb : b ≠ 0) (l : List UInt8) : decT (b :: l) = (decT l).map fun r => (b :: r.1, r.2 + 1) := by
  cases l with
  | nil => rfl
  | cons c l => simp only [decT, if_neg hb]
theorem decT_00 : decT [0] = none := rfl
theorem decT_01 (l : List UInt8) : decT (0 :: 1 :: l) = some ([], 2) := by simp [decT]
theorem decT_0f (l : List UInt8) : decT (0 :: 255 :: l) = (decT l).map fun r => (0 :: r.1, r.2 + 2) := by simp [decT]
theorem decT_0x {c : UInt8} (h1 : c ≠ 1) (h2 : c ≠ 255) (l : List UInt8) : decT (0 :: c :: l) = none := by simp [decT, h1, h2]

theorem drop_cons {s : List UInt8} {p : Nat} {b : UInt8} (h : s[p]? = some b) : p < s.length ∧ s.drop p = b :: s.drop (p + 1) := by
  obtain ⟨h1, h2⟩ := List.getElem?_eq_some_iff.1 h
  exact ⟨h1, by rw [List.drop_eq_getElem_cons h1, h2]⟩
theorem drop_none {s : List UInt8} {p : Nat} (h : s[p]? = none) : s.length ≤ p ∧ s.drop p = [] := by
  have := List.getElem?_eq_none_iff.1 h
  exact ⟨this, List.drop_eq_nil_of_le this⟩

theorem decT_le : ∀ (l : List UInt8) (t : List UInt8) (k : Nat), decT l = some (t, k) → k ≤ l.length
  | [], _, _, h => by cases h
  | [_], _, _, h => by cases h
  | b :: c :: l, t, k, h => by
    simp only [decT] at h
    split at h
    · split at h
      · cases h; simp
      · split at h
        · cases hd : decT l with
          | none => rw [hd] at h; cases h
          | some r =>
            rw [hd] at h
            cases h
            have := decT_le l r.1 r.2 hd
            simp; omega
        · cases h
    · cases hd : decT (c :: l) with
      | none => rw [hd] at h; cases h
      | some r =>
        rw [hd] at h
        cases h
        have := decT_le (c :: l) r.1 r.2 hd
        simp at this ⊢; omega
end Go.Ev

/-! Plain law: a list of integers is read back. -/
namespace Go.Ev

def decL (l : List UInt8) : Option (List Int × Nat) :=
  if l.head? = some 1 then some ([], 1) else
  match _h : decI l with
  | none => none
  | some (x, k) => (decL (l.drop k)).map fun r => (x :: r.1, k + r.2)
termination_by l.length
decreasing_by
  obtain ⟨_, h1, _, h2⟩ := decI_some _h
  simp only [List.length_drop]
  omega

theorem decL_end {l : List UInt8} (h : l.head? = some 1) : decL l = some ([], 1) := by rw [decL, if_pos h]
theorem decL_none {l : List UInt8} (h : l.head? ≠ some 1) (hd : decI l = none) : decL l = none := by
  rw [decL, if_neg h]
  split
  · rfl
  · rename_i h2; rw [hd] at h2; cases h2
theorem decL_cons {l : List UInt8} {x : Int} {k : Nat} (h : l.head? ≠ some 1) (hd : decI l = some (x, k)) : decL l = (decL (l.drop k)).map fun r => (x :: r.1, k + r.2) := by
  rw [decL, if_neg h]
  split
  · rename_i h2; rw [hd] at h2; cases h2
  · rename_i h2
    rw [hd] at h2
    cases h2
    rfl

def encL (l : List Int) : List UInt8 := (l.flatMap encInt) ++ [1]

theorem encInt_head (n : Int) (r : List UInt8) : (encInt n ++ r).head? ≠ some 1 := by
  have hl := digsK_len (magn n) 8
  obtain ⟨e1, e2⟩ := headB_ok (decide (n < 0)) _ hl
  show some (headB (decide (n < 0)) (digsK (magn n) 8).length) ≠ some 1
  intro h
  injection h with h
  rw [h] at e2
  have : kOf 1 = 126 := rfl
  omega

theorem decL_enc : ∀ (l : List Int), (∀ n ∈ l, fitsI n) → ∀ r, decL (encL l ++ r) = some (l, (encL l).length)
  | [], _, r => by rw [decL_end (by rfl)]; rfl
  | n :: l, h, r => by
    have e : encL (n :: l) ++ r = encInt n ++ (encL l ++ r) := by simp [encL]
    have hd := decI_enc (h n (by simp)) (encL l ++ r)
    rw [e, decL_cons (encInt_head n _) hd, List.drop_left, decL_enc l (fun m hm => h m (by simp [hm])) r]
    simp [encL]

theorem decL_some : ∀ (m : Nat) (l : List UInt8), l.length ≤ m → ∀ ns k, decL l = some (ns, k) → (∀ n ∈ ns, fitsI n) ∧ k ≤ l.length ∧ encL ns = l.take k ∧ 1 ≤ k := by
  intro m
  induction m with
  | zero =>
    intro l hl ns k h
    have : l = [] := List.eq_nil_of_length_eq_zero (by omega)
    subst this
    rw [decL_none (by simp) rfl] at h
    cases h
  | succ m ih =>
    intro l hl ns k h
    by_cases h1 : l.head? = some 1
    · rw [decL_end h1] at h
      cases h
      cases l with
      | nil => cases h1
      | cons b l =>
        injection h1 with h1
        subst h1
        refine ⟨by simp, by simp, rfl, by omega⟩
    · cases hd : decI l with
      | none => rw [decL_none h1 hd] at h; cases h
      | some r =>
        obtain ⟨x, k1⟩ := r
        rw [decL_cons h1 hd] at h
        obtain ⟨a1, a2, a3, a4⟩ := decI_some hd
        cases hr : decL (l.drop k1) with
        | none => rw [hr] at h; cases h
        | some r =>
          obtain ⟨ns', k2⟩ := r
          rw [hr] at h
          cases h
          obtain ⟨b1, b2, b3, b4⟩ := ih (l.drop k1) (by simp; omega) ns' k2 hr
          simp only [List.length_drop] at b2
          refine ⟨?_, by omega, ?_, by omega⟩
          · intro n hn
            rcases List.mem_cons.1 hn with rfl | hn
            · exact a1
            · exact b1 n hn
          · have : encL (x :: ns') = encInt x ++ encL ns' := by simp [encL]
            rw [this, a3, b3, ← List.take_add]

end Go.Ev

/-! Plain law: checksums. -/
namespace Go.Ev

def addB (p : Nat × Nat) (c : UInt8) : Nat × Nat := ((p.1 + c.toNat) % 65521, (p.2 + (p.1 + c.toNat) % 65521) % 65521)
def sumsOf (s : List UInt8) (p : Nat × Nat) : Nat × Nat := s.foldl addB p
def sumN (s : List UInt8) : Nat := (sumsOf s (1, 0)).2 * 65536 + (sumsOf s (1, 0)).1
def sumB (n : Nat) : List UInt8 := [UInt8.ofNat (n / 16777216), UInt8.ofNat (n / 65536), UInt8.ofNat (n / 256), UInt8.ofNat n]

def smallP (p : Nat × Nat) : Prop := p.1 < 65521 ∧ p.2 < 65521
theorem addB_small (p : Nat × Nat) (c : UInt8) : smallP (addB p c) := ⟨Nat.mod_lt _ (by decide), Nat.mod_lt _ (by decide)⟩
theorem sums_small : ∀ (s : List UInt8) (p : Nat × Nat), smallP p → smallP (sumsOf s p)
  | [], _, h => h
  | c :: s, p, _ => sums_small s (addB p c) (addB_small p c)
theorem sumN_lt (s : List UInt8) : sumN s < 4294967296 := by
  have h := sums_small s (1, 0) ⟨by decide, by decide⟩
  obtain ⟨h1, h2⟩ := h
  unfold sumN
  omega
theorem sums_take (s : List UInt8) (k : Nat) (c : UInt8) (p : Nat × Nat) (h : s[k]? = some c) : sumsOf (s.take (k + 1)) p = addB (sumsOf (s.take k) p) c := by
  rw [List.take_add_one, h]
  simp [sumsOf, List.foldl_append]
end Go.Ev

/-! Plain law: frames. -/
namespace Go.Ev

def sealB (s : List UInt8) : List UInt8 := encInt s.length ++ s ++ sumB (sumN (encInt s.length ++ s))

def openB (s : List UInt8) : Option (List UInt8 × Nat) :=
  match decI s with
  | none => none
  | some (n, k) => if n < 0 ∨ 100000 < n then none else
    if s.length < k + n.toNat + 4 then none else
    if (s.drop (k + n.toNat)).take 4 = sumB (sumN (s.take (k + n.toNat))) then some ((s.drop k).take n.toNat, k + n.toNat + 4) else none

theorem sumB_len (n : Nat) : (sumB n).length = 4 := rfl

theorem open_seal {s : List UInt8} (h : s.length ≤ 100000) (r : List UInt8) : openB (sealB s ++ r) = some (s, (sealB s).length) := by
  have hf : fitsI (s.length : Int) := ⟨by omega, by omega⟩
  have e : sealB s ++ r = encInt s.length ++ (s ++ (sumB (sumN (encInt s.length ++ s)) ++ r)) := by simp [sealB]
  have hd := decI_enc hf (s ++ (sumB (sumN (encInt s.length ++ s)) ++ r))
  rw [← e] at hd
  have hl : (sealB s).length = (encInt s.length).length + s.length + 4 := by simp [sealB, sumB_len]; omega
  simp only [openB, hd, Int.toNat_natCast]
  rw [if_neg (by omega), if_neg (by simp [hl])]
  have e2 : (sealB s ++ r).drop ((encInt s.length).length + s.length) = sumB (sumN (encInt s.length ++ s)) ++ r := by
    have : sealB s ++ r = (encInt s.length ++ s) ++ (sumB (sumN (encInt s.length ++ s)) ++ r) := by simp [sealB]
    rw [this]
    have hl2 : (encInt s.length).length + s.length = (encInt s.length ++ s).length := by simp
    rw [hl2, List.drop_left]
  have e3 : (sealB s ++ r).take ((encInt s.length).length + s.length) = encInt s.length ++ s := by
    have : sealB s ++ r = (encInt s.length ++ s) ++ (sumB (sumN (encInt s.length ++ s)) ++ r) := by simp [sealB]
    rw [this]
    have hl2 : (encInt s.length).length + s.length = (encInt s.length ++ s).length := by simp
    rw [hl2, List.take_left]
  rw [e2, e3]
  have e4 : (sumB (sumN (encInt s.length ++ s)) ++ r).take 4 = sumB (sumN (encInt s.length ++ s)) := by
    have : 4 = (sumB (sumN (encInt s.length ++ s))).length := rfl
    rw [this, List.take_left]
  rw [if_pos e4]
  have e5 : ((sealB s ++ r).drop (encInt s.length).length).take s.length = s := by
    rw [e, List.drop_left, List.take_left]
  rw [e5, hl]

theorem open_some {s t : List UInt8} {k : Nat} (h : openB s = some (t, k)) : t.length ≤ 100000 ∧ sealB t = s.take k ∧ k ≤ s.length ∧ 5 ≤ k := by
  unfold openB at h
  split at h
  · cases h
  · rename_i n j hd
    split at h
    · cases h
    split at h
    · cases h
    split at h
    · rename_i h1 h2 h3
      simp only [Option.some.injEq, Prod.mk.injEq] at h
      obtain ⟨rfl, rfl⟩ := h
      obtain ⟨a1, a2, a3, a4⟩ := decI_some hd
      have hlen : ((s.drop j).take n.toNat).length = n.toNat := by simp; omega
      have hn : ((n.toNat : Nat) : Int) = n := by omega
      have e1 : s.take (j + n.toNat) = s.take j ++ (s.drop j).take n.toNat := by rw [List.take_add]
      refine ⟨by omega, ?_, by omega, by omega⟩
      unfold sealB
      rw [hlen, hn, a3, ← e1, ← h3, ← List.take_add]
    · cases h
end Go.Ev

/-! Plain law: schedules. -/
namespace Go.Ev

abbrev Ch := Int × Int

def okC (c : Ch) : Bool := if c.1 = -1 then decide (c.2 = 0) else decide (0 ≤ c.1) && decide (c.1 < 16) && decide (0 ≤ c.2) && decide (c.2 < 6)

/-- How many equal choices follow. -/
def runLen (c : Ch) : List Ch → Nat
  | [] => 0
  | d :: l => if d = c then runLen c l + 1 else 0

theorem runLen_le (c : Ch) : ∀ l, runLen c l ≤ l.length
  | [] => Nat.le_refl _
  | d :: l => by
    have := runLen_le c l
    simp only [runLen, List.length_cons]
    split <;> omega

/-- The runs as numbers. -/
def runsL : List Ch → List Int
  | [] => []
  | c :: l => ((runLen c l + 1 : Nat) : Int) :: c.1 :: c.2 :: runsL (l.drop (runLen c l))
termination_by l => l.length
decreasing_by simp only [List.length_drop, List.length_cons]; omega

theorem runsL_nil : runsL [] = [] := by rw [runsL]
theorem runsL_cons (c : Ch) (l : List Ch) : runsL (c :: l) = ((runLen c l + 1 : Nat) : Int) :: c.1 :: c.2 :: runsL (l.drop (runLen c l)) := by rw [runsL]

def encS (cs : List Ch) : List UInt8 := encL (runsL cs)

def decG (out : List Ch) : List Int → Option (List Ch)
  | n :: t :: c :: r => if n < 1 ∨ 2000 - (out.length : Int) < n ∨ okC (t, c) = false ∨ out.getLast? = some (t, c) then none else decG (out ++ List.replicate n.toNat (t, c)) r
  | _ => some out

def decS (s : List UInt8) : Option (List Ch) :=
  match decL s with
  | none => none
  | some (ns, k) => if k ≠ s.length ∨ ns.length % 3 ≠ 0 then none else decG [] ns

theorem runLen_split (c : Ch) : ∀ l : List Ch, l = List.replicate (runLen c l) c ++ l.drop (runLen c l) ∧ (l.drop (runLen c l)).head? ≠ some c
  | [] => by simp [runLen]
  | d :: l => by
    have ih := runLen_split c l
    simp only [runLen]
    by_cases h : d = c
    · subst h
      rw [if_pos rfl]
      refine ⟨?_, by simpa using ih.2⟩
      rw [List.replicate_succ, List.cons_append, List.drop_succ_cons, ← ih.1]
    · rw [if_neg h]
      refine ⟨by simp, by simpa using h⟩

theorem runLen_rep (c : Ch) {l : List Ch} (h : l.head? ≠ some c) : ∀ n, runLen c (List.replicate n c ++ l) = n
  | 0 => by
    cases l with
    | nil => rfl
    | cons d l =>
      have : d ≠ c := by simpa using h
      simp [runLen, this]
  | n + 1 => by
    rw [List.replicate_succ, List.cons_append]
    simp only [runLen, if_true]
    rw [runLen_rep c h n]

theorem runsL_rep (c : Ch) {l : List Ch} (h : l.head? ≠ some c) (n : Nat) : runsL (List.replicate (n + 1) c ++ l) = ((n + 1 : Nat) : Int) :: c.1 :: c.2 :: runsL l := by
  rw [List.replicate_succ, List.cons_append, runsL_cons, runLen_rep c h n]
  have : (List.replicate n c ++ l).drop n = l := by
    have := List.drop_left (l₁ := List.replicate n c) (l₂ := l)
    rwa [List.length_replicate] at this
  rw [this]

theorem getLast_rep (out : List Ch) (c : Ch) (n : Nat) : (out ++ List.replicate (n + 1) c).getLast? = some c := by
  rw [List.replicate_succ', ← List.append_assoc, List.getLast?_concat]

theorem decG_enc : ∀ (m : Nat) (cs out : List Ch), cs.length ≤ m → (∀ c ∈ cs, okC c = true) → (∀ c, cs.head? = some c → out.getLast? ≠ some c) → out.length + cs.length ≤ 2000 → decG out (runsL cs) = some (out ++ cs) := by
  intro m
  induction m with
  | zero =>
    intro cs out h _ _ _
    have : cs = [] := List.eq_nil_of_length_eq_zero (by omega)
    subst this
    rw [runsL_nil, List.append_nil]; rfl
  | succ m ih =>
    intro cs out hm hok hh hlen
    cases cs with
    | nil => rw [runsL_nil, List.append_nil]; rfl
    | cons c l =>
      rw [runsL_cons]
      obtain ⟨h1, h2⟩ := runLen_split c l
      have hle := runLen_le c l
      simp only [List.length_cons] at hm hlen
      have hl : out.getLast? ≠ some (c.1, c.2) := hh c rfl
      have hc : okC (c.1, c.2) = true := hok c (by simp)
      simp only [decG]
      rw [if_neg]
      · have e1 : ((runLen c l + 1 : Nat) : Int).toNat = runLen c l + 1 := by omega
        have e0 : (c.1, c.2) = c := rfl
        rw [e1, e0, ih (l.drop (runLen c l)) _ (by simp; omega) (fun x hx => hok x (List.mem_cons_of_mem _ (List.mem_of_mem_drop hx))) (fun x hx => ?_) (by simp; omega)]
        · congr 1
          rw [List.append_assoc]
          congr 1
          rw [List.replicate_succ, List.cons_append, ← h1]
        · rw [getLast_rep]
          intro hxe
          injection hxe with hxe
          subst hxe
          exact h2 hx
      · rintro (h | h | h | h)
        · omega
        · omega
        · rw [hc] at h; cases h
        · exact hl h

theorem decG_some : ∀ (m : Nat) (ns : List Int) (out cs : List Ch), ns.length ≤ m → ns.length % 3 = 0 → out.length ≤ 2000 → decG out ns = some cs →
    ∃ l, cs = out ++ l ∧ runsL l = ns ∧ (∀ c ∈ l, okC c = true) ∧ cs.length ≤ 2000 ∧ (∀ c, l.head? = some c → out.getLast? ≠ some c) := by
  intro m
  induction m with
  | zero =>
    intro ns out cs h _ ho hd
    have : ns = [] := List.eq_nil_of_length_eq_zero (by omega)
    subst this
    cases hd
    exact ⟨[], by simp, runsL_nil, by simp, ho, by simp⟩
  | succ m ih =>
    intro ns out cs hm h3 ho hd
    match ns, hm, h3, hd with
    | [], _, _, hd =>
      cases hd
      exact ⟨[], by simp, runsL_nil, by simp, ho, by simp⟩
    | [_], _, h3, _ => simp at h3
    | [_, _], _, h3, _ => simp at h3
    | n :: t :: c :: r, hm, h3, hd =>
      simp only [decG] at hd
      split at hd
      · cases hd
      · rename_i hc
        simp only [not_or, Bool.not_eq_false] at hc
        obtain ⟨a1, a2, a3, a4⟩ := hc
        obtain ⟨k, rfl⟩ : ∃ k : Nat, n = ((k + 1 : Nat) : Int) := ⟨n.toNat - 1, by omega⟩
        have e1 : ((k + 1 : Nat) : Int).toNat = k + 1 := by omega
        rw [e1] at hd
        simp only [List.length_cons] at hm h3
        obtain ⟨l, b1, b2, b3, b4, b5⟩ := ih r (out ++ List.replicate (k + 1) (t, c)) cs (by omega) (by omega) (by simp; omega) hd
        have hne : l.head? ≠ some (t, c) := fun h => b5 _ h (getLast_rep out (t, c) k)
        refine ⟨List.replicate (k + 1) (t, c) ++ l, by rw [b1, List.append_assoc], ?_, ?_, b4, ?_⟩
        · rw [runsL_rep (t, c) hne k, b2]
        · intro x hx
          rcases List.mem_append.1 hx with h | h
          · rw [List.eq_of_mem_replicate h]; exact a3
          · exact b3 x h
        · intro x hx
          rw [List.replicate_succ, List.cons_append, List.head?_cons] at hx
          injection hx with hx
          subst hx
          exact a4

theorem okC_fits {c : Ch} (h : okC c = true) : fitsI c.1 ∧ fitsI c.2 := by
  unfold okC at h
  unfold fitsI
  split at h
  · have := of_decide_eq_true h
    omega
  · simp only [Bool.and_eq_true, decide_eq_true_eq] at h
    omega

theorem runsL_fits : ∀ (m : Nat) (cs : List Ch), cs.length ≤ m → cs.length ≤ 1000000 → (∀ c ∈ cs, okC c = true) → ∀ n ∈ runsL cs, fitsI n := by
  intro m
  induction m with
  | zero =>
    intro cs h _ _ n hn
    have : cs = [] := List.eq_nil_of_length_eq_zero (by omega)
    subst this
    rw [runsL_nil] at hn
    cases hn
  | succ m ih =>
    intro cs hm hb hok n hn
    cases cs with
    | nil => rw [runsL_nil] at hn; cases hn
    | cons c l =>
      rw [runsL_cons] at hn
      have hle := runLen_le c l
      simp only [List.length_cons] at hm hb
      obtain ⟨f1, f2⟩ := okC_fits (hok c (by simp))
      rcases List.mem_cons.1 hn with rfl | hn
      · unfold fitsI; omega
      rcases List.mem_cons.1 hn with rfl | hn
      · exact f1
      rcases List.mem_cons.1 hn with rfl | hn
      · exact f2
      · exact ih _ (by simp; omega) (by simp; omega) (fun x hx => hok x (List.mem_cons_of_mem _ (List.mem_of_mem_drop hx))) n hn

theorem runsL_len : ∀ (m : Nat) (cs : List Ch), cs.length ≤ m → (runsL cs).length ≤ 3 * cs.length ∧ (runsL cs).length % 3 = 0 := by
  intro m
  induction m with
  | zero =>
    intro cs h
    have : cs = [] := List.eq_nil_of_length_eq_zero (by omega)
    subst this
    rw [runsL_nil]
    exact ⟨by simp, rfl⟩
  | succ m ih =>
    intro cs hm
    cases cs with
    | nil => rw [runsL_nil]; exact ⟨by simp, rfl⟩
    | cons c l =>
      rw [runsL_cons]
      have hle := runLen_le c l
      simp only [List.length_cons] at hm
      obtain ⟨h1, h2⟩ := ih (l.drop (runLen c l)) (by simp; omega)
      simp only [List.length_drop] at h1
      simp only [List.length_cons]
      omega

theorem encL_len (ns : List Int) : ns.length + 1 ≤ (encL ns).length ∧ (encL ns).length ≤ 9 * ns.length + 1 := by
  induction ns with
  | nil => simp [encL]
  | cons n ns ih =>
    have := encInt_len n
    simp only [encL, List.flatMap_cons, List.length_append, List.length_cons, List.length_nil] at ih ⊢
    omega

theorem encS_len (cs : List Ch) : (encS cs).length ≤ 27 * cs.length + 1 := by
  have h1 := encL_len (runsL cs)
  have h2 := runsL_len cs.length cs (Nat.le_refl _)
  unfold encS
  omega

theorem decS_enc {cs : List Ch} (h : ∀ c ∈ cs, okC c = true) (hl : cs.length ≤ 2000) : decS (encS cs) = some cs := by
  have hf := runsL_fits cs.length cs (Nat.le_refl _) (by omega) h
  have h1 := decL_enc (runsL cs) hf []
  rw [List.append_nil] at h1
  unfold decS encS
  rw [h1]
  have h2 := (runsL_len cs.length cs (Nat.le_refl _)).2
  simp only
  rw [if_neg (fun hh => hh.elim (fun h => h rfl) (fun h => h h2))]
  have := decG_enc cs.length cs [] (Nat.le_refl _) h (fun c _ => by simp) (by simpa using hl)
  simpa using this

theorem decS_some {s : List UInt8} {cs : List Ch} (h : decS s = some cs) : encS cs = s ∧ (∀ c ∈ cs, okC c = true) ∧ cs.length ≤ 2000 := by
  unfold decS at h
  split at h
  · cases h
  · rename_i ns k hd
    split at h
    · cases h
    · rename_i hc
      simp only [not_or, Classical.not_not] at hc
      obtain ⟨h1, h2⟩ := hc
      obtain ⟨l, a1, a2, a3, a4, a5⟩ := decG_some ns.length ns [] cs (Nat.le_refl _) h2 (by simp) h
      rw [List.nil_append] at a1
      subst a1
      obtain ⟨b1, b2, b3, b4⟩ := decL_some s.length s (Nat.le_refl _) ns k hd
      refine ⟨?_, a3, a4⟩
      unfold encS
      rw [a2, b3, h1, List.take_length]
end Go.Ev

/-! Plain law: recordings. -/
namespace Go.Ev

def hashI (n : Int) : Prop := 0 ≤ n ∧ n < 1099511627776
instance (n : Int) : Decidable (hashI n) := by unfold hashI; exact inferInstance
theorem hash_fits {n : Int} (h : hashI n) : fitsI n := by unfold hashI at h; unfold fitsI; omega

/-- A recording is valid. -/
def validR (p e : Int) (cs : List Ch) (ms : List Int) : Prop :=
  hashI p ∧ 1 ≤ e ∧ e ≤ 2000 ∧ cs.length ≤ 2000 ∧ (∀ c ∈ cs, okC c = true) ∧ ms.length = cs.length / e.toNat ∧ ∀ m ∈ ms, hashI m

def txtM : List UInt8 := [78, 82, 49, 0, 1]
def nameM : List UInt8 := [78, 82, 49]

def headF (p e : Int) (n : Nat) : List UInt8 := sealB (txtM ++ (encInt p ++ (encInt e ++ encInt (n : Int))))

def markB : List Int → List UInt8
  | [] => []
  | m :: _ => encInt m

def framesF (e : Nat) (cs : List Ch) (ms : List Int) : List UInt8 :=
  if _h : cs = [] ∨ e = 0 then [] else sealB (encS (cs.take e) ++ markB ms) ++ framesF e (cs.drop e) (ms.drop 1)
termination_by cs.length
decreasing_by
  simp only [not_or] at _h
  have := List.length_pos_iff.2 _h.1
  simp only [List.length_drop]; omega

theorem framesF_nil (e : Nat) (ms : List Int) : framesF e [] ms = [] := by rw [framesF]; simp
theorem framesF_cons {e : Nat} (he : e ≠ 0) {cs : List Ch} (hc : cs ≠ []) (ms : List Int) : framesF e cs ms = sealB (encS (cs.take e) ++ markB ms) ++ framesF e (cs.drop e) (ms.drop 1) := by
  rw [framesF, dif_neg (by simp [hc, he])]

def encR (p e : Int) (cs : List Ch) (ms : List Int) : List UInt8 := headF p e cs.length ++ framesF e.toNat cs ms

/-! ### Reading -/

/-- An integer of a reader: what is left, is something wrong? -/
def numR (s : List UInt8) (w : Bool) : Int × List UInt8 × Bool :=
  match decI s with
  | some (n, k) => (n, s.drop k, w)
  | none => (0, s, true)

def firstR (s : List UInt8) : Option (Int × Int × Nat × Nat) :=
  match openB s with
  | none => none
  | some (t, n) => match decT t with
    | none => none
    | some (name, k) => if name ≠ nameM then none else
      let a := numR (t.drop k) false
      let b := numR a.2.1 a.2.2
      let c := numR b.2.1 b.2.2
      if c.2.2 = true ∨ c.2.1 ≠ [] ∨ c.1 < 0 ∨ 2000 < c.1 ∨ ¬ hashI a.1 ∨ b.1 < 1 ∨ 2000 < b.1 then none else some (a.1, b.1, c.1.toNat, n)

def nextR (e left : Nat) (s : List UInt8) : Option (List Ch × List Int × Nat) :=
  if left = 0 then none else
  match openB s with
  | none => none
  | some (t, n) => match decL t with
    | none => none
    | some (_, k) => match decS (t.take k) with
      | none => none
      | some l => if l.length ≠ min left e then none else
        if l.length = e then (let a := numR (t.drop k) false
          if a.2.2 = true ∨ a.2.1 ≠ [] ∨ ¬ hashI a.1 then none else some (l, [a.1], n))
        else if t.drop k ≠ [] then none else some (l, [], n)

theorem nextR_le {e left : Nat} {s : List UInt8} {l : List Ch} {ms : List Int} {n : Nat} (h : nextR e left s = some (l, ms, n)) : 5 ≤ n ∧ n ≤ s.length ∧ left ≠ 0 ∧ l.length = min left e := by
  unfold nextR at h
  split at h
  · cases h
  split at h
  · cases h
  rename_i hl _ t n' ho
  obtain ⟨_, _, a3, a4⟩ := open_some ho
  split at h
  · cases h
  split at h
  · cases h
  split at h
  · cases h
  rename_i hlen
  simp only [Classical.not_not] at hlen
  split at h
  · simp only at h
    split at h
    · cases h
    · cases h; exact ⟨a4, a3, hl, hlen⟩
  · split at h
    · cases h
    · cases h; exact ⟨a4, a3, hl, hlen⟩

def loopR (e left : Nat) (s : List UInt8) : List Ch × List Int × Nat :=
  match _h : nextR e left s with
  | none => ([], [], 0)
  | some (l, ms, n) => let r := loopR e (left - l.length) (s.drop n)
    (l ++ r.1, ms ++ r.2.1, n + r.2.2)
termination_by s.length
decreasing_by
  have := nextR_le _h
  simp only [List.length_drop]; omega

theorem loopR_none {e left : Nat} {s : List UInt8} (h : nextR e left s = none) : loopR e left s = ([], [], 0) := by
  rw [loopR]
  split
  · rfl
  · rename_i h2; rw [h] at h2; cases h2
theorem loopR_some {e left : Nat} {s : List UInt8} {l : List Ch} {ms : List Int} {n : Nat} (h : nextR e left s = some (l, ms, n)) :
    loopR e left s = (l ++ (loopR e (left - l.length) (s.drop n)).1, ms ++ (loopR e (left - l.length) (s.drop n)).2.1, n + (loopR e (left - l.length) (s.drop n)).2.2) := by
  rw [loopR]
  split
  · rename_i h2; rw [h] at h2; cases h2
  · rename_i h2
    rw [h] at h2
    cases h2
    rfl

/-- All that can be read: the recording, how many choices there should be, the size. -/
def readR (s : List UInt8) : Option (Int × Int × List Ch × List Int × Nat × Nat) :=
  match firstR s with
  | none => none
  | some (p, e, count, n) => let r := loopR e.toNat count (s.drop n)
    some (p, e, r.1, r.2.1, count, n + r.2.2)

def decR (s : List UInt8) : Option (Int × Int × List Ch × List Int) :=
  match readR s with
  | none => none
  | some (p, e, cs, ms, count, n) => if cs.length ≠ count ∨ n ≠ s.length then none else some (p, e, cs, ms)

/-! ### The laws -/

theorem numR_enc {n : Int} (h : fitsI n) (r : List UInt8) (w : Bool) : numR (encInt n ++ r) w = (n, r, w) := by
  unfold numR
  rw [decI_enc h r]
  simp only [List.drop_left]

theorem decT_name (r : List UInt8) : decT (txtM ++ r) = some (nameM, 5) := by
  show decT (78 :: 82 :: 49 :: 0 :: 1 :: r) = _
  rw [decT_ne (by decide), decT_ne (by decide), decT_ne (by decide), decT_01]
  rfl

theorem firstR_enc {p e : Int} {n : Nat} (hp : hashI p) (h1 : 1 ≤ e) (h2 : e ≤ 2000) (hn : n ≤ 2000) (r : List UInt8) : firstR (headF p e n ++ r) = some (p, e, n, (headF p e n).length) := by
  have fp := hash_fits hp
  have fe : fitsI e := by unfold fitsI; omega
  have fn : fitsI (n : Int) := by unfold fitsI; omega
  have l1 := encInt_len p
  have l2 := encInt_len e
  have l3 := encInt_len (n : Int)
  have ho := open_seal (s := txtM ++ (encInt p ++ (encInt e ++ encInt (n : Int)))) (by simp [txtM]; omega) r
  unfold firstR headF
  rw [ho]
  simp only [decT_name]
  have hd : (txtM ++ (encInt p ++ (encInt e ++ encInt (n : Int)))).drop 5 = encInt p ++ (encInt e ++ encInt (n : Int)) := List.drop_left (l₁ := txtM)
  have e3 := numR_enc fn [] false
  rw [List.append_nil] at e3
  rw [hd, numR_enc fp, numR_enc fe]
  simp only [e3]
  rw [if_neg (by simp), if_neg (by rintro (h | h | h | h | h | h | h) <;> first | omega | exact h rfl | exact h hp | cases h)]
  simp

theorem min_len {cs : List Ch} {e : Nat} : (cs.take e).length = min cs.length e := by rw [List.length_take, Nat.min_comm]

theorem div_take {a b : Nat} (h : a < b) : a / b = 0 := Nat.div_eq_of_lt h

/-- A frame is read back. -/
theorem nextR_enc {e : Nat} (he : 1 ≤ e) {cs : List Ch} {ms : List Int} (hc : cs ≠ []) (hl : cs.length ≤ 2000) (hok : ∀ c ∈ cs, okC c = true) (hms : ms.length = cs.length / e) (hm : ∀ m ∈ ms, hashI m) (hsm : (encS (cs.take e)).length ≤ 90000) (r : List UInt8) :
    nextR e cs.length (sealB (encS (cs.take e) ++ markB ms) ++ r) = some (cs.take e, ms.take 1, (sealB (encS (cs.take e) ++ markB ms)).length) := by
  have hpos := List.length_pos_iff.2 hc
  have hmk : (markB ms).length ≤ 9 := by
    cases ms with
    | nil => simp [markB]
    | cons m ms => exact (encInt_len m).2
  have ho := open_seal (s := encS (cs.take e) ++ markB ms) (by simp; omega) r
  have hokt : ∀ c ∈ cs.take e, okC c = true := fun c h => hok c (List.mem_of_mem_take h)
  have hlt : (cs.take e).length ≤ 2000 := by simp; omega
  have hdl := decL_enc (runsL (cs.take e)) (runsL_fits _ _ (Nat.le_refl _) (by omega) hokt) (markB ms)
  have htk : (encS (cs.take e) ++ markB ms).take (encL (runsL (cs.take e))).length = encS (cs.take e) := List.take_left
  have hdr : (encS (cs.take e) ++ markB ms).drop (encL (runsL (cs.take e))).length = markB ms := List.drop_left
  unfold nextR
  rw [if_neg (by omega), ho]
  simp only
  have hdl' : decL (encS (cs.take e) ++ markB ms) = some (runsL (cs.take e), (encL (runsL (cs.take e))).length) := hdl
  rw [hdl']
  simp only
  rw [htk, decS_enc hokt hlt]
  simp only
  rw [if_neg (fun hne => hne min_len), hdr]
  by_cases hfull : (cs.take e).length = e
  · rw [if_pos hfull]
    rw [min_len] at hfull
    have hge : e ≤ cs.length := by omega
    have h1 : 1 ≤ cs.length / e := (Nat.one_le_div_iff (by omega)).2 hge
    cases ms with
    | nil => simp at hms; omega
    | cons m ms =>
      have e3 := numR_enc (hash_fits (hm m (by simp))) [] false
      rw [List.append_nil] at e3
      simp only [markB, e3]
      rw [if_neg (by simp; exact hm m (by simp))]
      simp
  · rw [if_neg hfull]
    rw [min_len] at hfull
    have hz : cs.length / e = 0 := div_take (by omega)
    have : ms = [] := List.eq_nil_of_length_eq_zero (by omega)
    subst this
    simp [markB]

/-- Each part's encoding is small. -/
def smallF (e : Nat) (cs : List Ch) : Prop := ∀ i, (encS ((cs.drop (i * e)).take e)).length ≤ 10000

theorem smallF_drop {e : Nat} {cs : List Ch} (h : smallF e cs) : smallF e (cs.drop e) := fun i => by
  have := h (i + 1)
  rw [List.drop_drop, show e + i * e = (i + 1) * e by rw [Nat.add_mul]; omega]
  exact this
theorem smallF_take {e : Nat} {cs : List Ch} (h : smallF e cs) : (encS (cs.take e)).length ≤ 10000 := by simpa using h 0
theorem smallF_of_len {e : Nat} {cs : List Ch} (h : cs.length ≤ 300) : smallF e cs := fun i => by
  have := encS_len ((cs.drop (i * e)).take e)
  simp only [List.length_take, List.length_drop] at this
  omega

theorem loopR_enc {e : Nat} (he : 1 ≤ e) : ∀ (m : Nat) (cs : List Ch) (ms : List Int), cs.length ≤ m → cs.length ≤ 2000 → (∀ c ∈ cs, okC c = true) → ms.length = cs.length / e → (∀ m ∈ ms, hashI m) → smallF e cs →
    loopR e cs.length (framesF e cs ms) = (cs, ms, (framesF e cs ms).length) := by
  intro m
  induction m with
  | zero =>
    intro cs ms h _ _ hms _ _
    have : cs = [] := List.eq_nil_of_length_eq_zero (by omega)
    subst this
    have : ms = [] := List.eq_nil_of_length_eq_zero (by simpa using hms)
    subst this
    rw [framesF_nil, loopR_none (by simp [nextR])]
    rfl
  | succ m ih =>
    intro cs ms hm hl hok hms hh hsm
    by_cases hc : cs = []
    · subst hc
      have : ms = [] := List.eq_nil_of_length_eq_zero (by simpa using hms)
      subst this
      rw [framesF_nil, loopR_none (by simp [nextR])]
      rfl
    · have hpos := List.length_pos_iff.2 hc
      have h1 := nextR_enc he hc hl hok hms hh (by have := smallF_take hsm; omega) (framesF e (cs.drop e) (ms.drop 1))
      rw [framesF_cons (by omega) hc, loopR_some h1, List.drop_left]
      have hmd : (ms.drop 1).length = (cs.drop e).length / e := by
        simp only [List.length_drop, hms]
        by_cases hge : e ≤ cs.length
        · have := Nat.add_div_right (cs.length - e) (show 0 < e by omega)
          rw [Nat.sub_add_cancel hge] at this
          rw [this]; rfl
        · rw [Nat.div_eq_of_lt (by omega), Nat.sub_eq_zero_of_le (show cs.length ≤ e by omega)]; simp
      have h2 := ih (cs.drop e) (ms.drop 1) (by simp; omega) (by simp; omega) (fun c h => hok c (List.mem_of_mem_drop h)) hmd (fun x h => hh x (List.mem_of_mem_drop h)) (smallF_drop hsm)
      have e1 : cs.length - (cs.take e).length = (cs.drop e).length := by simp; omega
      rw [e1, h2]
      simp only [List.take_append_drop, List.length_append]

theorem readR_enc {p e : Int} {cs : List Ch} {ms : List Int} (h : validR p e cs ms) (hs : smallF e.toNat cs) : readR (encR p e cs ms) = some (p, e, cs, ms, cs.length, (encR p e cs ms).length) := by
  obtain ⟨h1, h2, h3, h4, h5, h6, h7⟩ := h
  unfold readR encR
  rw [firstR_enc h1 h2 h3 h4]
  simp only [List.drop_left]
  rw [loopR_enc (by omega) cs.length cs ms (Nat.le_refl _) h4 h5 h6 h7 hs]
  simp

theorem decR_enc {p e : Int} {cs : List Ch} {ms : List Int} (h : validR p e cs ms) (hs : smallF e.toNat cs) : decR (encR p e cs ms) = some (p, e, cs, ms) := by
  unfold decR
  rw [readR_enc h hs]
  simp

theorem numR_some {s : List UInt8} {w : Bool} (h : (numR s w).2.2 = false) : w = false ∧ fitsI (numR s w).1 ∧ s = encInt (numR s w).1 ++ (numR s w).2.1 := by
  unfold numR at h ⊢
  cases hd : decI s with
  | none => rw [hd] at h; cases h
  | some r =>
    obtain ⟨n, k⟩ := r
    rw [hd] at h
    obtain ⟨a1, a2, a3, a4⟩ := decI_some hd
    refine ⟨h, a1, ?_⟩
    simp only
    rw [a3, List.take_append_drop]

theorem decT_nameM {t : List UInt8} {k : Nat} (h : decT t = some (nameM, k)) : t.take k = txtM ∧ k ≤ t.length := by
  refine ⟨?_, decT_le t _ _ h⟩
  have key : ∀ (l : List UInt8) (x : List UInt8) (k : Nat), (∀ b ∈ x, b ≠ 0) → decT l = some (x, k) → l.take k = x ++ [0, 1] := by
    intro l
    induction l with
    | nil => intro x k _ h; cases h
    | cons b l ih =>
      intro x k hx h
      cases l with
      | nil => cases h
      | cons c l =>
        by_cases hb : b = 0
        · subst hb
          by_cases hc : c = 1
          · subst hc
            rw [decT_01] at h
            cases h
            rfl
          · by_cases hf : c = 255
            · subst hf
              rw [decT_0f] at h
              cases hd : decT l with
              | none => rw [hd] at h; cases h
              | some r =>
                rw [hd] at h
                cases h
                exact absurd rfl (hx 0 (by simp))
            · rw [decT_0x hc hf] at h; cases h
        · rw [decT_ne hb] at h
          cases hd : decT (c :: l) with
          | none => rw [hd] at h; cases h
          | some r =>
            obtain ⟨y, j⟩ := r
            rw [hd] at h
            cases h
            have := ih y j (fun z hz => hx z (by simp [hz])) hd
            rw [List.take_succ_cons, this]
            rfl
  exact key t nameM k (by decide) h

theorem firstR_some {s : List UInt8} {p e : Int} {count n : Nat} (h : firstR s = some (p, e, count, n)) : hashI p ∧ 1 ≤ e ∧ e ≤ 2000 ∧ count ≤ 2000 ∧ headF p e count = s.take n ∧ n ≤ s.length := by
  unfold firstR at h
  split at h
  · cases h
  rename_i t n' ho
  obtain ⟨a1, a2, a3, a4⟩ := open_some ho
  split at h
  · cases h
  rename_i name k hd
  split at h
  · cases h
  rename_i hname
  simp only [Classical.not_not] at hname
  subst hname
  obtain ⟨b1, b2⟩ := decT_nameM hd
  simp only at h
  split at h
  · cases h
  rename_i hc
  simp only [not_or, Classical.not_not, Bool.not_eq_true] at hc
  obtain ⟨c1, c2, c3, c4, c5, c6, c7⟩ := hc
  simp only [Option.some.injEq, Prod.mk.injEq] at h
  obtain ⟨rfl, rfl, rfl, rfl⟩ := h
  obtain ⟨d1, d2, d3⟩ := numR_some c1
  obtain ⟨f1, f2, f3⟩ := numR_some d1
  obtain ⟨g1, g2, g3⟩ := numR_some f1
  refine ⟨c5, by omega, by omega, by omega, ?_, a3⟩
  unfold headF
  rw [← a2]
  congr 1
  rw [c2, List.append_nil] at d3
  have e0 : ((numR (numR (numR (t.drop k) false).2.1 (numR (t.drop k) false).2.2).2.1 (numR (numR (t.drop k) false).2.1 (numR (t.drop k) false).2.2).2.2).1.toNat : Int) = (numR (numR (numR (t.drop k) false).2.1 (numR (t.drop k) false).2.2).2.1 (numR (numR (t.drop k) false).2.1 (numR (t.drop k) false).2.2).2.2).1 := by omega
  rw [e0, ← d3, ← f3, ← g3, ← b1, List.take_append_drop]

theorem nextR_some {e left : Nat} {s : List UInt8} {l : List Ch} {ms : List Int} {n : Nat} (he : 1 ≤ e) (h : nextR e left s = some (l, ms, n)) :
    sealB (encS l ++ markB ms) = s.take n ∧ (∀ c ∈ l, okC c = true) ∧ (∀ m ∈ ms, hashI m) ∧ (encS l).length ≤ s.length ∧ ((l.length = e ∧ ms.length = 1) ∨ (l.length < e ∧ l.length = left ∧ ms = [])) := by
  have hle := nextR_le h
  obtain ⟨_, _, hl0, hlen0⟩ := hle
  unfold nextR at h
  rw [if_neg hl0] at h
  split at h
  · cases h
  rename_i t n' ho
  obtain ⟨a1, a2, a3, a4⟩ := open_some ho
  split at h
  · cases h
  rename_i ns k hd
  split at h
  · cases h
  rename_i l' hs
  obtain ⟨b1, b2, b3⟩ := decS_some hs
  have htl : t.length ≤ s.length := by
    have := congrArg List.length a2
    simp only [sealB, List.length_append, List.length_take] at this
    omega
  have hel : (encS l').length ≤ s.length := by
    rw [b1]
    simp only [List.length_take]
    omega
  split at h
  · cases h
  rename_i hlen
  simp only [Classical.not_not] at hlen
  split at h
  · rename_i hfull
    simp only at h
    split at h
    · cases h
    · rename_i hc
      simp only [not_or, Classical.not_not, Bool.not_eq_true] at hc
      obtain ⟨c1, c2, c3⟩ := hc
      simp only [Option.some.injEq, Prod.mk.injEq] at h
      obtain ⟨rfl, rfl, rfl⟩ := h
      obtain ⟨g1, g2, g3⟩ := numR_some c1
      refine ⟨?_, b2, by simpa using c3, hel, .inl ⟨hfull, rfl⟩⟩
      rw [← a2]
      congr 1
      simp only [markB]
      rw [c2, List.append_nil] at g3
      rw [← g3, b1, List.take_append_drop]
  · rename_i hfull
    split at h
    · cases h
    · rename_i hc
      simp only [Classical.not_not] at hc
      simp only [Option.some.injEq, Prod.mk.injEq] at h
      obtain ⟨rfl, rfl, rfl⟩ := h
      refine ⟨?_, b2, by simp, hel, .inr ⟨by omega, by omega, rfl⟩⟩
      rw [← a2]
      congr 1
      simp only [markB, List.append_nil]
      have := List.take_append_drop k t
      rw [hc, List.append_nil] at this
      rw [b1, this]

theorem loopR_ok {e : Nat} (he : 1 ≤ e) : ∀ (m : Nat) (s : List UInt8) (left : Nat), s.length ≤ m →
    framesF e (loopR e left s).1 (loopR e left s).2.1 = s.take (loopR e left s).2.2 ∧ (loopR e left s).2.2 ≤ s.length ∧ (∀ c ∈ (loopR e left s).1, okC c = true) ∧ (∀ x ∈ (loopR e left s).2.1, hashI x) ∧
    (loopR e left s).2.1.length = (loopR e left s).1.length / e ∧ (loopR e left s).1.length ≤ left ∧ (∀ i, (encS (((loopR e left s).1.drop (i * e)).take e)).length ≤ max 1 s.length) := by
  intro m
  induction m with
  | zero =>
    intro s left hs
    have hn : nextR e left s = none := by
      cases h : nextR e left s with
      | none => rfl
      | some r => obtain ⟨l, ms, n⟩ := r; have := nextR_le h; omega
    rw [loopR_none hn]
    refine ⟨by rw [framesF_nil]; simp, by simp, by simp, by simp, by simp, by simp, fun i => ?_⟩
    have : encS ((([] : List Ch).drop (i * e)).take e) = [1] := by simp [encS, runsL_nil, encL]
    rw [this]
    simp; omega
  | succ m ih =>
    intro s left hs
    cases h : nextR e left s with
    | none =>
      rw [loopR_none h]
      refine ⟨by rw [framesF_nil]; simp, by simp, by simp, by simp, by simp, by simp, fun i => ?_⟩
      have : encS ((([] : List Ch).drop (i * e)).take e) = [1] := by simp [encS, runsL_nil, encL]
      rw [this]
      simp; omega
    | some r =>
      obtain ⟨l, ms, n⟩ := r
      obtain ⟨a1, a2, a3, a4⟩ := nextR_le h
      obtain ⟨b1, b2, b3, b4, b5⟩ := nextR_some he h
      have ihh := ih (s.drop n) (left - l.length) (by simp; omega)
      rw [loopR_some h]
      generalize loopR e (left - l.length) (s.drop n) = r at *
      obtain ⟨cs, ms', k⟩ := r
      simp only at ihh ⊢
      obtain ⟨c1, c2, c3, c4, c5, c6, c7⟩ := ihh
      simp only [List.length_drop] at c2 c7
      have hl0 : l ≠ [] := by
        intro h0
        subst h0
        simp at a4
        omega
      have htk : (l ++ cs).take e = l ∧ (l ++ cs).drop e = cs := by
        rcases b5 with ⟨hf, _⟩ | ⟨hf, hf2, _⟩
        · rw [← hf]; exact ⟨List.take_left, List.drop_left⟩
        · have hc0 : cs = [] := List.eq_nil_of_length_eq_zero (by omega)
          subst hc0
          rw [List.append_nil]
          exact ⟨List.take_of_length_le (by omega), List.drop_eq_nil_of_le (by omega)⟩
      refine ⟨?_, by omega, ?_, ?_, ?_, ?_, ?_⟩
      · rw [framesF_cons (by omega) (by simp [hl0]), htk.1, htk.2]
        have hmk : markB (ms ++ ms') = markB ms ∧ (ms ++ ms').drop 1 = ms' := by
          rcases b5 with ⟨_, hf⟩ | ⟨hf, hf2, hf3⟩
          · match ms, hf with
            | [x], _ => exact ⟨rfl, rfl⟩
          · have hc0 : cs.length = 0 := by omega
            have : ms' = [] := List.eq_nil_of_length_eq_zero (by rw [c5, hc0]; simp)
            subst this
            subst hf3
            exact ⟨rfl, rfl⟩
        rw [hmk.1, hmk.2, b1, c1, List.take_add]
      · intro c hc
        rcases List.mem_append.1 hc with h | h
        · exact b2 c h
        · exact c3 c h
      · intro c hc
        rcases List.mem_append.1 hc with h | h
        · exact b3 c h
        · exact c4 c h
      · rw [List.length_append, List.length_append, c5]
        rcases b5 with ⟨hf, hf2⟩ | ⟨hf, hf2, hf3⟩
        · rw [hf, hf2, Nat.add_comm e, Nat.add_div_right _ (by omega)]; omega
        · have hc0 : cs.length = 0 := by omega
          subst hf3
          rw [hc0, Nat.add_zero, Nat.div_eq_of_lt hf]; simp
      · rw [List.length_append]; omega
      · intro i
        cases i with
        | zero =>
          rw [Nat.zero_mul, List.drop_zero, htk.1]
          omega
        | succ i =>
          have := c7 i
          rw [show (i + 1) * e = e + i * e by rw [Nat.add_mul]; omega, ← List.drop_drop, htk.2]
          omega

theorem decR_some {s : List UInt8} {p e : Int} {cs : List Ch} {ms : List Int} (h : decR s = some (p, e, cs, ms)) : validR p e cs ms ∧ encR p e cs ms = s ∧ ∀ i, (encS ((cs.drop (i * e.toNat)).take e.toNat)).length ≤ max 1 s.length := by
  unfold decR readR at h
  cases hf : firstR s with
  | none => rw [hf] at h; cases h
  | some r =>
    obtain ⟨p', e', count, n⟩ := r
    rw [hf] at h
    obtain ⟨a1, a2, a3, a4, a5, a6⟩ := firstR_some hf
    have hl := loopR_ok (e := e'.toNat) (by omega) (s.drop n).length (s.drop n) count (Nat.le_refl _)
    simp only at h
    generalize loopR e'.toNat count (s.drop n) = r at *
    obtain ⟨cs', ms', k⟩ := r
    simp only at h hl
    obtain ⟨b1, b2, b3, b4, b5, b6, b7⟩ := hl
    split at h
    · cases h
    · rename_i hc
      simp only [not_or, Classical.not_not] at hc
      obtain ⟨c1, c2⟩ := hc
      simp only [Option.some.injEq, Prod.mk.injEq] at h
      obtain ⟨rfl, rfl, rfl, rfl⟩ := h
      refine ⟨⟨a1, a2, a3, by omega, b3, b5, b4⟩, ?_, fun i => ?_⟩
      · unfold encR
        rw [c1, a5, b1, ← List.take_add, c2, List.take_length]
      · have := b7 i
        simp only [List.length_drop] at this
        omega
end Go.Ev
