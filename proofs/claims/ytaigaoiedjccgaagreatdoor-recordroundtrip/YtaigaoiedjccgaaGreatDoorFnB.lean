/-
  What some of the program functions compute, walked once. For the arguments that each theorem names.
-/
import Derived.Test.YtaigaoiedjccgaaGreatDoorFnA
import Derived.Test.YtaigaoiedjccgaaGreatDoorSyC
set_option linter.unusedVariables false
set_option linter.unusedSimpArgs false

set_option maxRecDepth 100000
set_option maxHeartbeats 4000000
namespace Go.Proofs.Aw
open Go Go.Ev
variable {old : Nat → Nat → Option AV}

abbrev rdrO (i : Nat) (s : List UInt8) (at_ err : Int) : AObj := .row [.str s, .int .i64 at_, .int .i64 err] i 0 false false 0 163 true false

theorem shl8 (m : Nat) (cx cy : Bool) : binF (CX old) .shl 143 cx cy (.int .u64 (m : Int)) (.int .u64 8) = some (.int .u64 ((m * 256 % 18446744073709551616 : Nat) : Int)) := rfl

theorem wrap64 (n : Nat) (h : n < 18446744073709551616) : IntKind.u64.wrap (n : Int) = n := by
  unfold IntKind.wrap
  simp [IntKind.signed, IntKind.bits]
  omega
theorem or8 (m : Nat) (b : UInt8) (cx cy : Bool) : binF (CX old) .or 143 cx cy (.int .u64 ((m * 256 % 18446744073709551616 : Nat) : Int)) (.int .u64 (b.toNat : Int)) = some (.int .u64 ((stepU m b : Nat) : Int)) := by
  have hb : b.toNat < 256 := UInt8.toNat_lt b
  show some (AV.int .u64 (IntKind.u64.wrap ((BitVec.ofInt IntKind.u64.bits ((m * 256 % 18446744073709551616 : Nat) : Int) ||| BitVec.ofInt IntKind.u64.bits (b.toNat : Int)).toNat : Int))) = _
  have e : (BitVec.ofInt IntKind.u64.bits ((m * 256 % 18446744073709551616 : Nat) : Int) ||| BitVec.ofInt IntKind.u64.bits (b.toNat : Int)).toNat = stepU m b := by
    rw [BitVec.toNat_or]
    have h1 : IntKind.u64.bits = 64 := rfl
    simp only [BitVec.ofInt_natCast, BitVec.toNat_ofNat, h1]
    unfold stepU
    congr 1 <;> omega
  rw [e, wrap64 _ (stepU_lt m b)]

theorem or8' (m : Nat) (b : UInt8) : AV.int .u64 (IntKind.u64.wrap ((BitVec.ofInt IntKind.u64.bits (wrapF .u64 ((m : Int) * ((2 ^ min (Int.toNat 8) IntKind.u64.bits : Nat) : Int))) ||| BitVec.ofInt IntKind.u64.bits (wrapF .u64 (b.toNat : Int))).toNat : Int)) = AV.int .u64 ((stepU m b : Nat) : Int) := by
  have hb : b.toNat < 256 := UInt8.toNat_lt b
  have e1 : wrapF .u64 ((m : Int) * ((2 ^ min (Int.toNat 8) IntKind.u64.bits : Nat) : Int)) = ((m * 256 % 18446744073709551616 : Nat) : Int) := rfl
  have e2 : wrapF .u64 (b.toNat : Int) = (b.toNat : Int) := by
    show ((b.toNat % 18446744073709551616 : Nat) : Int) = _
    congr 1; omega
  rw [e1, e2]
  exact Option.some.inj (or8 (old := fun _ _ => none) m b false false)

/-- The state of the loop of 'rint'. -/
def LoopS (s : List UInt8) (p : Nat) (neg : Bool) (dn m : Nat) (at_ err : Int) : Prop :=
  (dn ≤ (s.drop (p + 1)).length ∧ m = foldB (((s.drop (p + 1)).take dn).map (negB neg)) ∧ at_ = ((p + 1 + dn : Nat) : Int) ∧ err = 0) ∨
  ((s.drop (p + 1)).length < dn ∧ at_ = (s.length : Int) ∧ err = 11)

def NextS (s : List UInt8) (p : Nat) (neg : Bool) (dn m : Nat) (b : UInt8) (at_ err : Int) : Prop :=
  (dn < (s.drop (p + 1)).length ∧ (s.drop (p + 1))[dn]? = some b ∧ m = foldB (((s.drop (p + 1)).take dn).map (negB neg)) ∧ at_ = ((p + 1 + (dn + 1) : Nat) : Int) ∧ err = 0) ∨
  ((s.drop (p + 1)).length < dn + 1 ∧ at_ = (s.length : Int) ∧ err = 11)

theorem next_step {s : List UInt8} {p : Nat} {neg : Bool} {dn m : Nat} {b : UInt8} {at_ err : Int} (hdn : dn < 8) (h : NextS s p neg dn m b at_ err) : LoopS s p neg (dn + 1) (stepU m (negB neg b)) at_ err := by
  rcases h with ⟨h1, h2, rfl, h4, h5⟩ | ⟨h1, h2, h3⟩
  · refine .inl ⟨h1, ?_, h4, h5⟩
    have hlt : foldB (((s.drop (p + 1)).take dn).map (negB neg)) < 256 ^ dn := fold_lt dn _ (by simp; simp at h1; omega)
    have h7 : 256 ^ dn ≤ 256 ^ 7 := Nat.pow_le_pow_right (by decide) (by omega)
    rw [stepU_eq _ (by omega), List.take_add_one, h2]
    simp only [Option.toList_some, List.map_append, List.map_cons, List.map_nil]
    rw [foldl_snoc]
  · exact .inr ⟨h1, h2, h3⟩

theorem c_rnext_some {T : List Entry} (hT : hasF 141 T = false) (hT' : hasF 142 T = false) (i : Nat) (s : List UInt8) (p : Nat) (err : Int) (b : UInt8) (hs : s.length < 1000000) (hg : s[p]? = some b) (H : AH) (hH : Wf H) (hi : SlotOk H [i] H (rdr i s p err)) :
    Con T (CX old) MM 2 (.fn 141) [.nptr i 0] H (fun v H' => v = .int .u8 b.toNat ∧ Fr H [i] H' ∧ SlotOk H [i] H' (rdr i s (p + 1 : Nat) err)) := by
  have hp : p < s.length := by
    rcases Nat.lt_or_ge p s.length with h | h
    · exact h
    · rw [List.getElem?_eq_none h] at hg; cases hg
  have := c_rnext (old := old) hT hT' i s p err (by omega) (by omega) H hH hi
  rw [hg] at this
  exact this

theorem c_rnext_none {T : List Entry} (hT : hasF 141 T = false) (hT' : hasF 142 T = false) (i : Nat) (s : List UInt8) (p : Nat) (err : Int) (hs : s.length < 1000000) (hp : p = s.length) (H : AH) (hH : Wf H) (hi : SlotOk H [i] H (rdr i s p err)) :
    Con T (CX old) MM 2 (.fn 141) [.nptr i 0] H (fun v H' => v = .int .u8 0 ∧ Fr H [i] H' ∧ SlotOk H [i] H' (rdr i s p (if err = 0 then 11 else err))) := by
  have := c_rnext (old := old) hT hT' i s p err (by omega) (by omega) H hH hi
  rw [List.getElem?_eq_none (by omega)] at this
  exact this

/-- What reading an integer does. -/
def RInt (i : Nat) (s : List UInt8) (p : Nat) (v : AV) (ob : AObj) : Prop :=
  (∃ n k, decI (s.drop p) = some (n, k) ∧ v = .int .i64 n ∧ ob = rdrO i s (p + k : Nat) 0) ∨
  (decI (s.drop p) = none ∧ v = .int .i64 0 ∧ ∃ p' e : Nat, e ≠ 0 ∧ p' ≤ s.length ∧ ob = rdrO i s p' e)

theorem c_rint {T : List Entry} (hT : hasF 73 T = false) (hT0 : hasF 141 T = false) (hT1 : hasF 84 T = false) (hT2 : hasF 155 T = false) (hT3 : hasF 284 T = false) (hT4 : hasF 142 T = false) (i : Nat) (s : List UInt8) (p : Nat) (hs : s.length < 1000000) (hp : p ≤ s.length) (H : AH) (hH : Wf H) (hi : SlotOk H [i] H (rdr i s p 0)) :
    Con T (CX old) MM 5 (.fn 73) [.nptr i 0] H (fun v H' => Fr H [i] H' ∧ ∃ ob, RInt i s p v ob ∧ SlotOk H [i] H' ⟨i, true, false, ob⟩) := by
  refine con_fn (nt := 85) [i] [rdr i s p 0] hT Tryz.func73 rfl rfl rfl (Hs.one hH hi) fun N hN => ?_
  repeat (first
   | refine J_seq ?_
   | refine J_region ?_
   | refine O_nil ?_
   | refine O_cons (S_field0 rfl rfl rfl rfl rfl rfl rfl rfl rfl ?_)
   | refine O_cons (S_pure (v := .int _ _) rfl rfl rfl rfl (fun _ => rfl) ?_)
   | refine O_cons (S_pure (v := .nptr _ _) rfl rfl rfl rfl (fun _ => rfl) ?_)
   | refine O_cons (S_load 0 rfl rfl rfl rfl rfl rfl rfl rfl rfl rfl ?_))
  rcases hg : s[p]? with _ | h
  · have hpe : p = s.length := by have := List.getElem?_eq_none_iff.1 hg; omega
    refine O_cons (S_callM 0 rfl rfl rfl rfl (fun _ => rfl) rfl (fun H hw hs' => c_rnext_none hT0 hT4 i s p 0 hs hpe H hw hs' N (by omega)) rfl ?_)
    repeat (first
     | refine J_seq ?_
     | refine J_region ?_
     | refine O_nil ?_
     | refine O_cons (S_field0 rfl rfl rfl rfl rfl rfl rfl rfl rfl ?_)
     | refine O_cons (S_pure (v := .int _ _) rfl rfl rfl rfl (fun _ => rfl) ?_)
     | refine O_cons (S_pure (v := .bool _) rfl rfl rfl rfl (fun _ => rfl) ?_)
     | refine O_cons (S_pure (v := .nptr _ _) rfl rfl rfl rfl (fun _ => rfl) ?_)
     | refine O_cons (S_load 0 rfl rfl rfl rfl rfl rfl rfl rfl rfl rfl ?_))
    refine J_condT rfl ?_
    repeat (first
     | refine J_seq ?_
     | refine J_region ?_
     | refine O_nil ?_
     | refine J_ret ?_
     | refine O_cons (S_pure (v := .int _ _) rfl rfl rfl rfl (fun _ => rfl) ?_))
    refine end_tmp (v := .int _ _) (.inr rfl) (fun _ => rfl) fun H' h => ⟨h.fr, _, .inr ⟨?_, rfl, p, 11, by decide, hp, rfl⟩, h.ok _ (List.mem_cons_self ..)⟩
    have hlen : s.length ≤ p := List.getElem?_eq_none_iff.1 hg
    rw [List.drop_eq_nil_of_le hlen]
    rfl
  · refine O_cons (S_callM 0 rfl rfl rfl rfl (fun _ => rfl) rfl (fun H hw hs' => c_rnext_some hT0 hT4 i s p 0 h hs hg H hw hs' N (by omega)) rfl ?_)
    repeat (first
     | refine J_seq ?_
     | refine J_region ?_
     | refine O_nil ?_
     | refine O_cons (S_field0 rfl rfl rfl rfl rfl rfl rfl rfl rfl ?_)
     | refine O_cons (S_pure (v := .int _ _) rfl rfl rfl rfl (fun _ => rfl) ?_)
     | refine O_cons (S_pure (v := .bool _) rfl rfl rfl rfl (fun _ => rfl) ?_)
     | refine O_cons (S_pure (v := .nptr _ _) rfl rfl rfl rfl (fun _ => rfl) ?_)
     | refine O_cons (S_load 0 rfl rfl rfl rfl rfl rfl rfl rfl rfl rfl ?_))
    refine J_condF rfl ?_
    rw [wrap_u8 h]
    repeat (first
     | refine J_seq ?_
     | refine J_region ?_
     | refine J_skip ?_
     | refine O_nil ?_
     | refine O_cons (S_pure (v := .int _ _) rfl rfl rfl rfl (fun _ => rfl) ?_)
     | refine O_cons (S_pure (v := .bool _) rfl rfl rfl rfl (fun _ => rfl) ?_))
    have hb : h.toNat < 256 := UInt8.toNat_lt h
    have hlt : p < s.length := by
      rcases Nat.lt_or_ge p s.length with h | h
      · exact h
      · rw [List.getElem?_eq_none h] at hg; cases hg
    have hdrop : s.drop p = h :: s.drop (p + 1) := by
      rw [List.drop_eq_getElem_cons hlt]
      have : s[p]? = some s[p] := by simp [hlt]
      rw [this] at hg
      injection hg with hg
      rw [hg]
    refine J_joinL (fun f' => f' 0 = .nptr i 0 ∧ f' 3 = .int .i64 (p : Int) ∧ f' 5 = .int .i64 (kOf h : Int) ∧ f' 6 = .bool (decide (h.toNat ≤ 127))) _ rfl (fun hn => ?_) (fun hn => ?_) (fun f' hM => ?_)
    · skip
      repeat (first
       | refine J_region ?_
       | refine O_nil ?_
       | refine O_cons (S_pure (v := .int _ _) rfl rfl rfl rfl (fun _ => rfl) ?_))
      have hn' : h.toNat ≤ 127 := by have := of_decide_eq_true hn; omega
      refine ⟨rfl, rfl, rfl, rfl, rfl, ?_, ?_⟩
      · show AV.int .i64 (wrapF .i64 (127 - (h.toNat : Int))) = _
        rw [wrap_small (by omega) (by omega), kOf, if_pos hn']
        congr 1; omega
      · show AV.bool (decide ((h.toNat : Int) ≤ 127)) = _
        rw [hn, decide_eq_true hn']
    · skip
      repeat (refine J_skip ?_)
      have hn' : ¬ h.toNat ≤ 127 := by have := of_decide_eq_false hn; omega
      refine ⟨rfl, rfl, rfl, rfl, rfl, ?_, ?_⟩
      · show AV.int .i64 (wrapF .i64 ((h.toNat : Int) - 128)) = _
        rw [wrap_small (by omega) (by omega), kOf, if_neg hn']
        congr 1; omega
      · show AV.bool (decide ((h.toNat : Int) ≤ 127)) = _
        rw [hn, decide_eq_false hn']
    obtain ⟨q0, q3, q5, q6⟩ := hM
    obtain ⟨g, rfl⟩ := upd4 q0 q3 q5 q6
    clear q0 q3 q5 q6
    generalize hnegE : decide (h.toNat ≤ 127) = neg
    repeat (first
     | refine J_seq ?_
     | refine J_region ?_
     | refine O_nil ?_
     | refine O_cons (S_pure (v := .int _ _) rfl rfl rfl rfl (fun _ => rfl) ?_)
     | refine O_cons (S_pure (v := .bool _) rfl rfl rfl rfl (fun _ => rfl) ?_))
    refine J_cond _ rfl (fun hk => ?_) (fun hk => ?_)
    · have hk' : 8 < kOf h := by have := of_decide_eq_true hk; omega
      repeat (first
       | refine J_seq ?_
       | refine J_region ?_
       | refine O_cons (S_pure (v := .nptr _ _) rfl rfl rfl rfl (fun _ => rfl) ?_))
      refine O_cons (S_callM 0 rfl rfl rfl rfl (fun _ => rfl) rfl (fun H hw hs => c_rfail hT4 i s (p + 1 : Nat) 0 12 H hw hs N (by omega)) rfl ?_)
      repeat (first
       | refine J_seq ?_
       | refine J_region ?_
       | refine O_nil ?_
       | refine J_ret ?_
       | refine O_cons (S_pure (v := .int _ _) rfl rfl rfl rfl (fun _ => rfl) ?_))
      refine end_tmp (v := .int _ _) (.inr rfl) (fun _ => rfl) fun H' hh => ⟨hh.fr, _, .inr ⟨?_, rfl, p + 1, 12, by decide, hlt, rfl⟩, hh.ok _ (List.mem_cons_self ..)⟩
      rw [hdrop]
      simp only [decI, if_pos hk']
    have hk' : ¬ 8 < kOf h := by have := of_decide_eq_false hk; omega
    clear hk
    repeat (first
     | refine J_seq ?_
     | refine J_region ?_
     | refine J_skip ?_
     | refine O_nil ?_
     | refine J_block ?_
     | refine O_cons (S_pure (v := .int _ _) rfl rfl rfl rfl (fun _ => rfl) ?_))
    refine J_loop (fun r f L df => df = [] ∧ ∃ (dn m : Nat) (at_ err : Int), r + dn = kOf h ∧ f 0 = .nptr i 0 ∧ f 3 = .int .i64 (p : Int) ∧ f 6 = .bool neg ∧ f 33 = .int .i64 (kOf h : Int) ∧ f 34 = .int .i64 (dn : Int) ∧ f 7 = .int .u64 (m : Int) ∧ L = [rdr i s at_ err] ∧ LoopS s p neg dn m at_ err) (kOf h) (show kOf h < 1000000 by omega) ⟨rfl, 0, 0, _, _, rfl, rfl, rfl, rfl, rfl, rfl, rfl, rfl, .inl ⟨Nat.zero_le _, rfl, rfl, rfl⟩⟩ fun r f L df hI => ?_
    obtain ⟨rfl, dn, m, at_, err, hr, q0, q3, q6, q33, q34, q7, rfl, hS⟩ := hI
    obtain ⟨g2, rfl⟩ := upd6 q0 q3 q6 q33 q34 q7
    clear q0 q3 q6 q33 q34 q7
    repeat (first
     | refine J_seq ?_
     | refine J_region ?_
     | refine O_nil ?_
     | refine O_cons (S_pure (v := .bool _) rfl rfl rfl rfl (fun _ => rfl) ?_))
    refine J_cond _ rfl (fun hc => ?_) (fun hc => ?_)
    · have hc' : dn < kOf h := by have := of_decide_eq_true hc; omega
      obtain ⟨r, rfl⟩ : ∃ r', r = r' + 1 := ⟨r - 1, by omega⟩
      repeat (first
       | refine J_seq ?_
       | refine J_region ?_
       | refine J_skip ?_
       | refine J_block ?_
       | refine O_cons (S_pure (v := .nptr _ _) rfl rfl rfl rfl (fun _ => rfl) ?_))
      refine O_cons (S_callE 0 (fun v ob => ∃ (b : UInt8) (at' err' : Int), v = .int .u8 b.toNat ∧ ob = rdrO i s at' err' ∧ NextS s p neg dn m b at' err') rfl rfl rfl rfl (fun _ => rfl) rfl (fun H hw hs' => ?_) (fun v ob hR => ?_) fun v ob hR => ?_)
      · rcases hS with ⟨h1, h2, rfl, rfl⟩ | ⟨h1, rfl, rfl⟩
        · rcases hd : s[p + 1 + dn]? with _ | b
          · have hlen : s.length ≤ p + 1 + dn := List.getElem?_eq_none_iff.1 hd
            have hl2 : dn = (s.drop (p + 1)).length := by simp at h1 ⊢; omega
            obtain ⟨v, H', e1, e2, e3, e4⟩ := c_rnext_none (old := old) hT0 hT4 i s (p + 1 + dn) 0 hs (by simp at hl2; omega) H hw hs' N (by omega)
            refine ⟨v, H', e1, e3, _, ⟨0, _, _, e2, rfl, .inr ⟨by omega, ?_, rfl⟩⟩, e4⟩
            simp at hl2; omega
          · obtain ⟨v, H', e1, e2, e3, e4⟩ := c_rnext_some (old := old) hT0 hT4 i s (p + 1 + dn) 0 b hs hd H hw hs' N (by omega)
            have hlen : p + 1 + dn < s.length := by
              rcases Nat.lt_or_ge (p + 1 + dn) s.length with h | h
              · exact h
              · rw [List.getElem?_eq_none h] at hd; cases hd
            refine ⟨v, H', e1, e3, _, ⟨b, _, _, e2, rfl, .inl ⟨by simp; omega, ?_, h2, rfl, rfl⟩⟩, e4⟩
            rw [List.getElem?_drop]; exact hd
        · obtain ⟨v, H', e1, e2, e3, e4⟩ := c_rnext_none (old := old) hT0 hT4 i s s.length 11 hs rfl H hw hs' N (by omega)
          exact ⟨v, H', e1, e3, _, ⟨0, _, _, e2, rfl, .inr ⟨by omega, rfl, rfl⟩⟩, e4⟩
      · obtain ⟨b, at', err', rfl, rfl, hN'⟩ := hR
        rfl
      obtain ⟨b, at', err', rfl, rfl, hN'⟩ := hR
      repeat (first
       | refine J_seq ?_
       | refine J_region ?_
       | refine O_nil ?_
       | refine O_cons (S_pure (v := .int _ _) rfl rfl rfl rfl (fun _ => rfl) ?_)
       | refine O_cons (S_pure (v := .bool _) rfl rfl rfl rfl (fun _ => rfl) ?_))
      refine J_joinL (fun f' => f' 0 = .nptr i 0 ∧ f' 3 = .int .i64 (p : Int) ∧ f' 6 = .bool neg ∧ f' 33 = .int .i64 (kOf h : Int) ∧ f' 34 = .int .i64 (dn : Int) ∧ f' 7 = .int .u64 (m : Int) ∧ f' 8 = .int .u8 ((negB neg b).toNat : Int)) _ rfl (fun hn => ?_) (fun hn => ?_) (fun f' hM => ?_)
      · skip
        repeat (first
         | refine J_region ?_
         | refine O_nil ?_
         | refine O_cons (S_pure (v := .int _ _) rfl rfl rfl rfl (fun _ => rfl) ?_))
        refine ⟨rfl, rfl, rfl, rfl, rfl, rfl, rfl, rfl, rfl, ?_⟩
        show AV.int .u8 (wrapF .u8 (255 - (b.toNat : Int))) = _
        rw [u8_neg, hn]
        rfl
      · skip
        repeat (refine J_skip ?_)
        refine ⟨rfl, rfl, rfl, rfl, rfl, rfl, rfl, rfl, rfl, ?_⟩
        rw [hn]
        rfl
      obtain ⟨q0, q3, q6, q33, q34, q7, q8⟩ := hM
      obtain ⟨g3, rfl⟩ := upd7 q0 q3 q6 q33 q34 q7 q8
      clear q0 q3 q6 q33 q34 q7 q8
      repeat (first
       | refine J_region ?_
       | refine O_nil ?_
       | refine O_cons (S_pure (v := .int _ _) rfl rfl rfl rfl (fun _ => rfl) ?_))
      refine ⟨r, rfl, rfl, dn + 1, stepU m (negB neg b), at', err', by omega, rfl, rfl, rfl, rfl, ?_, ?_, rfl, next_step (by omega) hN'⟩
      · show AV.int .i64 (wrapF .i64 ((dn : Int) + 1)) = _
        rw [wrap_small (by omega) (by omega)]
        rfl
      · exact or8' m (negB neg b)
    · have hc' : ¬ dn < kOf h := by have := of_decide_eq_false hc; omega
      have hr0 : r = 0 := by omega
      subst hr0
      have hdn : dn = kOf h := by omega
      subst hdn
      clear hc hc' hr
      repeat (first
       | refine J_seq ?_
       | refine J_region ?_
       | refine O_nil ?_
       | refine J_exit ?_
       | refine O_cons (S_field0 rfl rfl rfl rfl rfl rfl rfl rfl rfl ?_)
       | refine O_cons (S_pure (v := .bool _) rfl rfl rfl rfl (fun _ => rfl) ?_)
       | refine O_cons (S_pure (v := .nptr _ _) rfl rfl rfl rfl (fun _ => rfl) ?_)
       | refine O_cons (S_load 0 rfl rfl rfl rfl rfl rfl rfl rfl rfl rfl ?_))
      rcases hS with ⟨h1, h2, rfl, rfl⟩ | ⟨h1, rfl, rfl⟩
      rotate_left
      · refine J_condT rfl ?_
        repeat (first
         | refine J_seq ?_
         | refine J_region ?_
         | refine O_nil ?_
         | refine J_ret ?_
         | refine O_cons (S_pure (v := .int _ _) rfl rfl rfl rfl (fun _ => rfl) ?_))
        refine end_tmp (v := .int _ _) (.inr rfl) (fun _ => rfl) fun H' hh => ⟨hh.fr, _, .inr ⟨?_, rfl, s.length, 11, by decide, Nat.le_refl _, rfl⟩, hh.ok _ (List.mem_cons_self ..)⟩
        rw [hdrop]
        simp only [decI, if_neg hk', if_pos h1]
      refine J_condF rfl ?_
      have h1' : ¬ (s.drop (p + 1)).length < kOf h := by omega
      have hmm : m = mOf h (s.drop (p + 1)) := by rw [h2, mOf, hnegE]
      have hmlt : m < 18446744073709551616 := by
        rw [h2]
        have h64 : (256 : Nat) ^ kOf h ≤ 256 ^ 8 := Nat.pow_le_pow_right (by decide) (by omega)
        have := fold_lt (kOf h) (((s.drop (p + 1)).take (kOf h)).map (negB neg)) (by simp; simp at h1; omega)
        omega
      repeat (first
       | refine J_seq ?_
       | refine J_region ?_
       | refine J_skip ?_
       | refine O_cons (S_pure (v := .int _ _) rfl rfl rfl rfl (fun _ => rfl) ?_)
       | refine O_cons (S_pure (v := .bool _) rfl rfl rfl rfl (fun _ => rfl) ?_))
      have big : 4611686018427387904 < m ∨ (h.toNat ≤ 127 ∧ 4611686018427387904 ≤ m) → decI (s.drop p) = none := by
        intro hbig
        rw [hdrop]
        rw [hmm] at hbig
        simp only [decI, if_neg hk', if_neg h1', if_pos hbig]
      refine O_guard rfl rfl rfl (fun g1 => ?_) (fun g1 => ?_)
      · have g1' : 4611686018427387904 < m := by have := of_decide_eq_true g1; omega
        repeat (first
         | refine O_nil ?_
         | refine O_cons (S_pure (v := .bool _) rfl rfl rfl rfl (fun _ => rfl) ?_)
         | refine O_cons (S_off rfl rfl rfl rfl ?_))
        refine J_condT rfl ?_
        repeat (first
         | refine J_seq ?_
         | refine J_region ?_
         | refine O_cons (S_pure (v := .nptr _ _) rfl rfl rfl rfl (fun _ => rfl) ?_))
        refine O_cons (S_callM 0 rfl rfl rfl rfl (fun _ => rfl) rfl (fun H hw hs => c_rfail hT4 i s (p + 1 + kOf h : Nat) 0 12 H hw hs N (by omega)) rfl ?_)
        repeat (first
         | refine J_seq ?_
         | refine J_region ?_
         | refine O_nil ?_
         | refine J_ret ?_
         | refine O_cons (S_pure (v := .int _ _) rfl rfl rfl rfl (fun _ => rfl) ?_))
        exact end_tmp (v := .int _ _) (.inr rfl) (fun _ => rfl) fun H' hh => ⟨hh.fr, _, .inr ⟨big (.inl g1'), rfl, p + 1 + kOf h, 12, by decide, by simp at h1; omega, rfl⟩, hh.ok _ (List.mem_cons_self ..)⟩
      have g1' : ¬ 4611686018427387904 < m := by have := of_decide_eq_false g1; omega
      clear g1
      repeat (refine O_cons (S_pure (v := .bool _) rfl rfl rfl rfl (fun _ => rfl) ?_))
      refine O_guard rfl rfl rfl (fun g2 => ?_) (fun g2 => ?_)
      repeat (first
       | refine O_nil ?_
       | refine O_cons (S_pure (v := .int _ _) rfl rfl rfl rfl (fun _ => rfl) ?_)
       | refine O_cons (S_pure (v := .bool _) rfl rfl rfl rfl (fun _ => rfl) ?_))
      refine J_cond _ rfl (fun g3 => ?_) (fun g3 => ?_)
      · have g3' : 4611686018427387904 ≤ m := by have := of_decide_eq_true g3; omega
        have g2' : h.toNat ≤ 127 := by rw [← hnegE] at g2; exact of_decide_eq_true g2
        repeat (first
         | refine J_seq ?_
         | refine J_region ?_
         | refine O_cons (S_pure (v := .nptr _ _) rfl rfl rfl rfl (fun _ => rfl) ?_))
        refine O_cons (S_callM 0 rfl rfl rfl rfl (fun _ => rfl) rfl (fun H hw hs => c_rfail hT4 i s (p + 1 + kOf h : Nat) 0 12 H hw hs N (by omega)) rfl ?_)
        repeat (first
         | refine J_seq ?_
         | refine J_region ?_
         | refine O_nil ?_
         | refine J_ret ?_
         | refine O_cons (S_pure (v := .int _ _) rfl rfl rfl rfl (fun _ => rfl) ?_))
        exact end_tmp (v := .int _ _) (.inr rfl) (fun _ => rfl) fun H' hh => ⟨hh.fr, _, .inr ⟨big (.inr ⟨g2', g3'⟩), rfl, p + 1 + kOf h, 12, by decide, by simp at h1; omega, rfl⟩, hh.ok _ (List.mem_cons_self ..)⟩
      have g4 : ¬ (h.toNat ≤ 127 ∧ 4611686018427387904 ≤ m) := by have := of_decide_eq_false g3; omega
      clear g3
      repeat (first
       | refine J_seq ?_
       | refine J_region ?_
       | refine J_skip ?_
       | refine O_nil ?_
       | refine O_cons (S_pure (v := .int _ _) rfl rfl rfl rfl (fun _ => rfl) ?_)
       | refine O_cons (S_pure (v := .bool _) rfl rfl rfl rfl (fun _ => rfl) ?_))
      refine J_cond _ rfl (fun _ => ?_) (fun g5 => absurd (g2.symm.trans g5) (by decide))
      repeat (first
       | refine J_seq ?_
       | refine J_region ?_
       | refine O_nil ?_
       | refine O_cons (S_pure (v := .int _ _) rfl rfl rfl rfl (fun _ => rfl) ?_))
      refine J_abs (fun f' => f' 0 = .nptr i 0 ∧ f' 3 = .int .i64 (p : Int) ∧ f' 9 = .int .i64 (sgn neg m)) ⟨rfl, rfl, ?_⟩ fun f' hM => ?_
      · show AV.int .i64 (wrapF .i64 (wrapF .i64 (0 - wrapF .i64 (m : Int)) - 1)) = _
        rw [wrap_small (n := (m : Int)) (by omega) (by omega), wrap_small (n := 0 - (m : Int)) (by omega) (by omega), wrap_small (by omega) (by omega), g2]
        show AV.int .i64 (0 - (m : Int) - 1) = AV.int .i64 (-(m : Int) - 1)
        congr 1; omega
      rotate_left
      have g4 : ¬ (h.toNat ≤ 127 ∧ 4611686018427387904 ≤ m) := by
        rw [← hnegE] at g2; have := of_decide_eq_false g2; omega
      repeat (first
       | refine O_nil ?_
       | refine O_cons (S_pure (v := .bool _) rfl rfl rfl rfl (fun _ => rfl) ?_)
       | refine O_cons (S_off rfl rfl rfl rfl ?_))
      refine J_condF rfl ?_
      repeat (first
       | refine J_seq ?_
       | refine J_region ?_
       | refine J_skip ?_
       | refine O_nil ?_
       | refine O_cons (S_pure (v := .int _ _) rfl rfl rfl rfl (fun _ => rfl) ?_)
       | refine O_cons (S_pure (v := .bool _) rfl rfl rfl rfl (fun _ => rfl) ?_))
      refine J_cond _ rfl (fun g5 => absurd (g2.symm.trans g5) (by decide)) (fun _ => ?_)
      repeat (first
       | refine J_seq ?_
       | refine J_skip ?_)
      refine J_abs (fun f' => f' 0 = .nptr i 0 ∧ f' 3 = .int .i64 (p : Int) ∧ f' 9 = .int .i64 (sgn neg m)) ⟨rfl, rfl, ?_⟩ fun f' hM => ?_
      · show AV.int .i64 (wrapF .i64 (m : Int)) = _
        rw [wrap_small (n := (m : Int)) (by omega) (by omega), g2]
        rfl
      rotate_left
      all_goals
        obtain ⟨q0, q3, q9⟩ := hM
        obtain ⟨g6, rfl⟩ := upd3 q0 q3 q9
        clear q0 q3 q9
        have hfit : fitsI (sgn neg m) := by
          unfold sgn
          subst hnegE
          by_cases hh : h.toNat ≤ 127
          · rw [decide_eq_true hh]; simp only [if_true]; constructor <;> omega
          · rw [decide_eq_false hh]; simp only [Bool.false_eq_true, if_false]; constructor <;> omega
        have hdec : decI (s.drop p) = if encInt (sgn neg m) = h :: (s.drop (p + 1)).take (kOf h) then some (sgn neg m, kOf h + 1) else none := by
          rw [hdrop]
          simp only [decI, if_neg hk', if_neg h1', ← hmm, hnegE]
          rw [if_neg (by omega)]
        have hsl : (s.drop p).take (p + 1 + kOf h - p) = h :: (s.drop (p + 1)).take (kOf h) := by
          rw [hdrop, show p + 1 + kOf h - p = kOf h + 1 by omega, List.take_succ_cons]
        generalize sgn neg m = out at *
        refine J_draw (l := [⟨0, []⟩, ⟨2, []⟩, ⟨3, []⟩, ⟨4, []⟩, ⟨5, []⟩, ⟨6, []⟩, ⟨7, []⟩, ⟨8, []⟩, ⟨9, []⟩, ⟨10, []⟩, ⟨11, []⟩, ⟨1, [11, 10, 5]⟩, ⟨12, []⟩]) (by kernel_rfl) ?_
        repeat (first
         | refine P_cons1 rfl rfl (S_field0 rfl rfl rfl rfl rfl rfl rfl rfl rfl ?_)
         | refine P_cons1 rfl rfl (S_pure (v := .int _ _) rfl rfl rfl rfl (fun _ => rfl) ?_)
         | refine P_cons1 rfl rfl (S_pure (v := .nptr _ _) rfl rfl rfl rfl (fun _ => rfl) ?_)
         | refine P_cons2 rfl rfl rfl (S_load 0 rfl rfl rfl rfl rfl rfl rfl rfl rfl rfl ?_))
        refine P_cons2 rfl rfl rfl (S_sliceS rfl rfl rfl rfl rfl rfl rfl (bounds2 (a := p) (b := p + 1 + kOf h) (by omega) (by simp at h1; omega)) ?_)
        refine P_consA1 rfl rfl (S_call rfl rfl rfl rfl (fun _ => rfl) (fun H' h' => c_integer hT1 hT2 hT3 out hfit.1 hfit.2 H' h'.wf N (by omega)) ⟨fun H' hH' => still_sliceS rfl rfl rfl rfl (bounds2 (a := p) (b := p + 1 + kOf h) (by omega) (by simp at h1; omega)) rfl (still_load 0 rfl rfl rfl hH' rfl rfl rfl rfl (same_int _ _) (still_load 0 rfl rfl rfl hH' rfl rfl rfl rfl (same_str _) still_done)), ?_⟩)
        repeat (first
         | refine P_nil ?_
         | refine P_cons1 rfl rfl (S_pure (v := .bool _) rfl rfl rfl rfl (fun _ => rfl) ?_))
        rw [hsl]
        refine J_cond _ rfl (fun g7 => ?_) (fun g7 => ?_)
        · have g7' : ¬ encInt out = h :: (s.drop (p + 1)).take (kOf h) := by simpa using g7
          repeat (first
           | refine J_seq ?_
           | refine J_region ?_
           | refine O_cons (S_pure (v := .nptr _ _) rfl rfl rfl rfl (fun _ => rfl) ?_))
          refine O_cons (S_callM 0 rfl rfl rfl rfl (fun _ => rfl) rfl (fun H hw hs => c_rfail hT4 i s (p + 1 + kOf h : Nat) 0 12 H hw hs N (by omega)) rfl ?_)
          repeat (first
           | refine J_seq ?_
           | refine J_region ?_
           | refine O_nil ?_
           | refine J_ret ?_
           | refine O_cons (S_pure (v := .int _ _) rfl rfl rfl rfl (fun _ => rfl) ?_))
          exact end_tmp (v := .int _ _) (.inr rfl) (fun _ => rfl) fun H' hh => ⟨hh.fr, _, .inr ⟨by rw [hdec, if_neg g7'], rfl, p + 1 + kOf h, 12, by decide, by simp at h1; omega, rfl⟩, hh.ok _ (List.mem_cons_self ..)⟩
        · have g7' : encInt out = h :: (s.drop (p + 1)).take (kOf h) := by simpa using g7
          repeat (first
           | refine J_seq ?_
           | refine J_region ?_
           | refine J_skip ?_
           | refine O_nil ?_
           | refine J_ret ?_
           | refine O_cons (S_pure (v := .int _ _) rfl rfl rfl rfl (fun _ => rfl) ?_))
          exact end_tmp (v := .int _ _) (.inr rfl) (fun _ => rfl) fun H' hh => ⟨hh.fr, _, .inl ⟨_, _, by rw [hdec, if_pos g7'], rfl, by rw [show p + (kOf h + 1) = p + 1 + kOf h by omega]⟩, hh.ok _ (List.mem_cons_self ..)⟩
end Go.Proofs.Aw

set_option maxRecDepth 100000
set_option maxHeartbeats 4000000
namespace Go.Proofs.Aw
open Go Go.Ev
variable {old : Nat → Nat → Option AV}

theorem c_ReadInt {T : List Entry} (hTR : hasF 35 T = false) (hT : hasF 73 T = false) (hT0 : hasF 141 T = false) (hT1 : hasF 84 T = false) (hT2 : hasF 155 T = false) (hT3 : hasF 284 T = false) (hT4 : hasF 142 T = false) (s : List UInt8) (hs : s.length < 1000000) (H : AH) (hH : Wf H) :
    Con T (CX old) MM 6 (.fn 35) [.str s] H (fun v H' => ((∃ n k, decI s = some (n, k) ∧ v = .tup [.int .i64 n, .int .i64 (k : Nat), .int .i64 0]) ∨ (decI s = none ∧ ∃ e : Nat, e ≠ 0 ∧ v = .tup [.int .i64 0, .int .i64 0, .int .i64 e])) ∧ Fr H [] H') := by
  refine con_fn (nt := 26) [] [] hTR Tryz.func35 rfl rfl rfl (Hs.start hH) fun N hN => ?_
  repeat (first
   | refine J_seq ?_
   | refine J_region ?_
   | refine O_nil ?_
   | refine O_cons (S_pure (v := .int _ _) rfl rfl rfl rfl (fun _ => rfl) ?_)
   | refine O_cons (S_pure (v := .str _) rfl rfl rfl rfl (fun _ => rfl) ?_)
   | refine O_cons (S_pure (v := .agg _) rfl rfl rfl rfl (fun _ => rfl) ?_))
  refine O_cons (S_box (v := .agg [.str s, .int .i64 0, .int .i64 0]) rfl rfl rfl rfl rfl rfl fun i => ?_)
  repeat (first
   | refine J_seq ?_
   | refine J_region ?_
   | refine O_nil ?_
   | refine O_cons (S_pure (v := .nptr _ _) rfl rfl rfl rfl (fun _ => rfl) ?_))
  refine O_cons (S_callE 0 (RInt i s 0) rfl rfl rfl rfl (fun _ => rfl) rfl (fun H hw hs' => ?_) (fun v ob hR => ?_) fun v ob hR => ?_)
  · obtain ⟨v, H', e1, e2, e3⟩ := c_rint (old := old) hT hT0 hT1 hT2 hT3 hT4 i s 0 hs (Nat.zero_le _) H hw hs' N (by omega)
    exact ⟨v, H', e1, e2, e3⟩
  · rcases hR with ⟨n, k, h1, rfl, rfl⟩ | ⟨h1, rfl, p', e, h2, h3, rfl⟩ <;> rfl
  rcases hR with ⟨n, k, h1, rfl, rfl⟩ | ⟨h1, rfl, p', e, h2, h3, rfl⟩
  · skip
    repeat (first
     | refine J_seq ?_
     | refine J_region ?_
     | refine O_nil ?_
     | refine O_cons (S_field0 rfl rfl rfl rfl rfl rfl rfl rfl rfl ?_)
     | refine O_cons (S_pure (v := .int _ _) rfl rfl rfl rfl (fun _ => rfl) ?_)
     | refine O_cons (S_pure (v := .bool _) rfl rfl rfl rfl (fun _ => rfl) ?_)
     | refine O_cons (S_pure (v := .nptr _ _) rfl rfl rfl rfl (fun _ => rfl) ?_)
     | refine O_cons (S_load 0 rfl rfl rfl rfl rfl rfl rfl rfl rfl rfl ?_))
    refine J_condF rfl ?_
    repeat (first
     | refine J_seq ?_
     | refine J_skip ?_)
    refine J_draw0 (l := [⟨0, []⟩, ⟨1, []⟩, ⟨2, []⟩, ⟨3, []⟩, ⟨4, []⟩, ⟨5, []⟩, ⟨6, []⟩, ⟨7, []⟩]) (by kernel_rfl) ?_
    repeat (first
     | refine P0_nil ?_
     | refine P0_cons rfl (S_field0 rfl rfl rfl rfl rfl rfl rfl rfl rfl ?_)
     | refine P0_cons rfl (S_pure (v := .int _ _) rfl rfl rfl rfl (fun _ => rfl) ?_)
     | refine P0_cons rfl (S_pure (v := .nptr _ _) rfl rfl rfl rfl (fun _ => rfl) ?_)
     | refine P0_cons rfl (S_load 0 rfl rfl rfl rfl rfl rfl rfl rfl rfl rfl ?_))
    repeat (refine J_ret ?_)
    exact end_tmp (v := .tup _) (.inr rfl) (fun _ => rfl) fun H' hh => ⟨.inl ⟨n, k, h1, by rw [Nat.zero_add]; rfl⟩, hh.fr⟩
  · skip
    repeat (first
     | refine J_seq ?_
     | refine J_region ?_
     | refine O_nil ?_
     | refine O_cons (S_field0 rfl rfl rfl rfl rfl rfl rfl rfl rfl ?_)
     | refine O_cons (S_pure (v := .int _ _) rfl rfl rfl rfl (fun _ => rfl) ?_)
     | refine O_cons (S_pure (v := .bool _) rfl rfl rfl rfl (fun _ => rfl) ?_)
     | refine O_cons (S_pure (v := .nptr _ _) rfl rfl rfl rfl (fun _ => rfl) ?_)
     | refine O_cons (S_load 0 rfl rfl rfl rfl rfl rfl rfl rfl rfl rfl ?_))
    refine J_cond _ rfl (fun _ => ?_) (fun g => ?_)
    rotate_left
    · exact absurd (show (e : Int) = 0 by simpa using g) (by omega)
    repeat (refine J_seq ?_)
    refine J_draw0 (l := [⟨0, []⟩, ⟨1, []⟩, ⟨2, []⟩, ⟨3, []⟩, ⟨4, []⟩, ⟨5, []⟩, ⟨6, []⟩]) (by kernel_rfl) ?_
    repeat (first
     | refine P0_nil ?_
     | refine P0_cons rfl (S_field0 rfl rfl rfl rfl rfl rfl rfl rfl rfl ?_)
     | refine P0_cons rfl (S_pure (v := .int _ _) rfl rfl rfl rfl (fun _ => rfl) ?_)
     | refine P0_cons rfl (S_pure (v := .nptr _ _) rfl rfl rfl rfl (fun _ => rfl) ?_)
     | refine P0_cons rfl (S_load 0 rfl rfl rfl rfl rfl rfl rfl rfl rfl rfl ?_))
    repeat (refine J_ret ?_)
    exact end_tmp (v := .tup _) (.inr rfl) (fun _ => rfl) fun H' hh => ⟨.inr ⟨h1, e, h2, rfl⟩, hh.fr⟩
end Go.Proofs.Aw
