/-
  What some of the program functions compute, walked once. For the arguments that each theorem names.
-/
import Derived.Test.YtaigaoiedjccgaaGreatDoorFnB
import Derived.Test.YtaigaoiedjccgaaGreatDoorPlA
set_option linter.unusedVariables false
set_option linter.unusedSimpArgs false

set_option maxRecDepth 100000
set_option maxHeartbeats 4000000
namespace Go.Proofs.Aw
open Go Go.Ev
variable {old : Nat → Nat → Option AV}

/-- Bytes that were appended to nothing. -/
def BufT (done : List UInt8) (v : AV) (S : Kn) : Prop :=
  (done = [] ∧ v = .raw (.slice none 0 0) ∧ S = []) ∨
  (done ≠ [] ∧ ∃ b g G sh, v = .nslc b 0 done.length none ∧ S = [⟨b, true, true, .row (bytesV done) g G sh false 0 5 false false⟩])

def RText (i : Nat) (s : List UInt8) (p : Nat) (v : AV) (ob : AObj) : Prop :=
  (∃ t k, decT (s.drop p) = some (t, k) ∧ v = .str t ∧ ob = rdrO i s (p + k : Nat) 0) ∨
  (decT (s.drop p) = none ∧ v = .str [] ∧ ∃ p' e : Nat, e ≠ 0 ∧ p' ≤ s.length ∧ ob = rdrO i s p' e)

theorem c_rtext {T : List Entry} (hT : hasF 156 T = false) (hT0 : hasF 141 T = false) (hT4 : hasF 142 T = false) (i : Nat) (s : List UInt8) (p : Nat) (hs : s.length < 100000) (hp : p ≤ s.length) (H : AH) (hH : Wf H) (hi : SlotOk H [i] H (rdr i s p 0)) :
    Con T (CX old) MM 5 (.fn 156) [.nptr i 0] H (fun v H' => Fr H [i] H' ∧ ∃ ob, RText i s p v ob ∧ SlotOk H [i] H' ⟨i, true, false, ob⟩) := by
  refine con_fn (nt := 42) [i] [rdr i s p 0] hT Tryz.func156 rfl rfl rfl (Hs.one hH hi) fun N hN => ?_
  repeat (first
   | refine J_seq ?_
   | refine J_region ?_
   | refine O_nil ?_
   | refine J_block ?_
   | refine O_cons (S_pure (v := .str _) rfl rfl rfl rfl (fun _ => rfl) ?_)
   | refine O_cons (S_pure (v := .raw _) rfl rfl rfl rfl (fun _ => rfl) ?_))
  refine J_loop (fun r f L df => df = [] ∧ ∃ (q : Nat) (done : List UInt8) (v : AV) (S : Kn), s.length + 1 - q ≤ r ∧ p ≤ q ∧ q ≤ s.length ∧ done.length ≤ q ∧ decT (s.drop p) = (decT (s.drop q)).map (fun x => (done ++ x.1, (q - p) + x.2)) ∧ f 0 = .nptr i 0 ∧ f 3 = v ∧ BufT done v S ∧ L = rdr i s q 0 :: S) (s.length + 1 - p) (show s.length + 1 - p < 1000000 by omega) ⟨rfl, p, [], _, _, Nat.le_refl _, Nat.le_refl _, hp, Nat.zero_le _, ?_, rfl, rfl, .inl ⟨rfl, rfl, rfl⟩, rfl⟩ fun r f L df hI => ?_
  · cases decT (s.drop p) <;> simp
  obtain ⟨rfl, q, done, v, S, hr, hpq, hq, hdq, hdec, q0, q3, hB, rfl⟩ := hI
  obtain ⟨g, rfl⟩ := upd2 q0 q3
  clear q0 q3
  repeat (first
   | refine J_seq ?_
   | refine J_region ?_
   | refine J_block ?_
   | refine O_cons (S_pure (v := .nptr _ _) rfl rfl rfl rfl (fun _ => rfl) ?_))
  rcases hg : s[q]? with _ | b
  · have hqe : q = s.length := by have := (drop_none hg).1; omega
    refine O_cons (S_callM 0 rfl rfl rfl rfl (fun _ => rfl) rfl (fun H hw hs' => c_rnext_none hT0 hT4 i s q 0 (by omega) hqe H hw hs' N (by omega)) rfl ?_)
    repeat (first
     | refine J_seq ?_
     | refine J_region ?_
     | refine O_nil ?_
     | refine O_cons (S_field0 rfl rfl rfl rfl rfl rfl rfl rfl rfl ?_)
     | refine O_cons (S_pure (v := .int _ _) rfl rfl rfl rfl (fun _ => rfl) ?_)
     | refine O_cons (S_pure (v := .bool _) rfl rfl rfl rfl (fun _ => rfl) ?_)
     | refine O_cons (S_pure (v := .nptr _ _) rfl rfl rfl rfl (fun _ => rfl) ?_)
     | refine O_cons (S_load 0 rfl rfl rfl rfl rfl rfl rfl rfl rfl rfl ?_))
    refine J_condT rfl ?_
    repeat (first
     | refine J_seq ?_
     | refine J_region ?_
     | refine O_nil ?_
     | refine J_ret ?_
     | refine O_cons (S_pure (v := .str _) rfl rfl rfl rfl (fun _ => rfl) ?_))
    refine end_tmp (v := .str _) (.inr rfl) (fun _ => rfl) fun H' h => ⟨h.fr, _, .inr ⟨?_, rfl, q, 11, by decide, hq, rfl⟩, h.ok _ (List.mem_cons_self ..)⟩
    rw [hdec, (drop_none hg).2]; rfl
  obtain ⟨hlt, hdrop⟩ := drop_cons hg
  refine O_cons (S_callM 0 rfl rfl rfl rfl (fun _ => rfl) rfl (fun H hw hs' => c_rnext_some hT0 hT4 i s q 0 b (by omega) hg H hw hs' N (by omega)) rfl ?_)
  repeat (first
   | refine J_seq ?_
   | refine J_region ?_
   | refine O_nil ?_
   | refine O_cons (S_field0 rfl rfl rfl rfl rfl rfl rfl rfl rfl ?_)
   | refine O_cons (S_pure (v := .int _ _) rfl rfl rfl rfl (fun _ => rfl) ?_)
   | refine O_cons (S_pure (v := .bool _) rfl rfl rfl rfl (fun _ => rfl) ?_)
   | refine O_cons (S_pure (v := .nptr _ _) rfl rfl rfl rfl (fun _ => rfl) ?_)
   | refine O_cons (S_load 0 rfl rfl rfl rfl rfl rfl rfl rfl rfl rfl ?_))
  refine J_condF rfl ?_
  repeat (first
   | refine J_seq ?_
   | refine J_region ?_
   | refine J_skip ?_
   | refine O_nil ?_
   | refine O_cons (S_pure (v := .int _ _) rfl rfl rfl rfl (fun _ => rfl) ?_)
   | refine O_cons (S_pure (v := .bool _) rfl rfl rfl rfl (fun _ => rfl) ?_))
  refine J_cut (fun f' L' => f' 0 = .nptr i 0 ∧ f' 3 = v ∧ f' 4 = .int .u8 b.toNat ∧ ∃ q', L' = rdr i s (q' : Nat) 0 :: S ∧ q < q' ∧ q' ≤ s.length ∧ decT (s.drop q) = (decT (s.drop q')).map (fun r => (b :: r.1, (q' - q) + r.2))) ?_ fun f' L' hM => ?_
  · refine J_cond _ rfl (fun hb => ?_) (fun hb => ?_)
    · have hb' : b = 0 := by
        have : (b.toNat : Int) = 0 := by simpa using hb
        apply UInt8.toNat_inj.1
        show b.toNat = 0
        omega
      subst hb'
      clear hb
      repeat (first
       | refine J_seq ?_
       | refine J_region ?_
       | refine O_cons (S_pure (v := .nptr _ _) rfl rfl rfl rfl (fun _ => rfl) ?_))
      rcases hg2 : s[q + 1]? with _ | c
      · refine O_cons (S_callM 0 rfl rfl rfl rfl (fun _ => rfl) rfl (fun H hw hs' => c_rnext_none hT0 hT4 i s (q + 1) 0 (by omega) (by have := (drop_none hg2).1; omega) H hw hs' N (by omega)) rfl ?_)
        repeat (first
         | refine J_seq ?_
         | refine J_region ?_
         | refine O_nil ?_
         | refine J_block ?_
         | refine O_cons (S_field0 rfl rfl rfl rfl rfl rfl rfl rfl rfl ?_)
         | refine O_cons (S_pure (v := .int _ _) rfl rfl rfl rfl (fun _ => rfl) ?_)
         | refine O_cons (S_pure (v := .bool _) rfl rfl rfl rfl (fun _ => rfl) ?_)
         | refine O_cons (S_pure (v := .nptr _ _) rfl rfl rfl rfl (fun _ => rfl) ?_)
         | refine O_cons (S_load 0 rfl rfl rfl rfl rfl rfl rfl rfl rfl rfl ?_))
        refine J_condT rfl ?_
        repeat (first
         | refine J_seq ?_
         | refine J_region ?_
         | refine O_nil ?_
         | refine J_ret ?_
         | refine O_cons (S_pure (v := .str _) rfl rfl rfl rfl (fun _ => rfl) ?_))
        refine end_tmp (v := .str _) (.inr rfl) (fun _ => rfl) fun H' h => ⟨h.fr, _, .inr ⟨?_, rfl, q + 1, 11, by decide, hlt, rfl⟩, h.ok _ (List.mem_cons_self ..)⟩
        rw [hdec, hdrop, (drop_none hg2).2]; rfl
      obtain ⟨hlt2, hdrop2⟩ := drop_cons hg2
      refine O_cons (S_callM 0 rfl rfl rfl rfl (fun _ => rfl) rfl (fun H hw hs' => c_rnext_some hT0 hT4 i s (q + 1) 0 c (by omega) hg2 H hw hs' N (by omega)) rfl ?_)
      repeat (first
       | refine J_seq ?_
       | refine J_region ?_
       | refine O_nil ?_
       | refine J_block ?_
       | refine O_cons (S_field0 rfl rfl rfl rfl rfl rfl rfl rfl rfl ?_)
       | refine O_cons (S_pure (v := .int _ _) rfl rfl rfl rfl (fun _ => rfl) ?_)
       | refine O_cons (S_pure (v := .bool _) rfl rfl rfl rfl (fun _ => rfl) ?_)
       | refine O_cons (S_pure (v := .nptr _ _) rfl rfl rfl rfl (fun _ => rfl) ?_)
       | refine O_cons (S_load 0 rfl rfl rfl rfl rfl rfl rfl rfl rfl rfl ?_))
      refine J_condF rfl ?_
      repeat (first
       | refine J_seq ?_
       | refine J_region ?_
       | refine O_nil ?_
       | refine O_cons (S_pure (v := .int _ _) rfl rfl rfl rfl (fun _ => rfl) ?_)
       | refine O_cons (S_pure (v := .bool _) rfl rfl rfl rfl (fun _ => rfl) ?_))
      refine J_cond _ rfl (fun hc => ?_) (fun hc => ?_)
      · have hc' : c = 1 := by
          have : (c.toNat : Int) = 1 := by simpa using hc
          apply UInt8.toNat_inj.1
          show c.toNat = 1
          omega
        subst hc'
        clear hc
        rcases hB with ⟨rfl, rfl, rfl⟩ | ⟨hne, bb, g0, G0, sh, rfl, rfl⟩
        · skip
          repeat (first
           | refine J_seq ?_
           | refine J_region ?_
           | refine O_nil ?_
           | refine J_ret ?_
           | refine O_cons (S_pure (v := .str _) rfl rfl rfl rfl (fun _ => rfl) ?_)
           | refine O_cons (S_pure (v := .raw _) rfl rfl rfl rfl (fun _ => rfl) ?_))
          refine end_tmp (v := .str _) (.inr rfl) (fun _ => rfl) fun H' h => ⟨h.fr, _, .inl ⟨[], q - p + 2, ?_, rfl, by rw [show p + (q - p + 2) = q + 1 + 1 by omega]⟩, h.ok _ (List.mem_cons_self ..)⟩
          rw [hdec, hdrop, hdrop2, decT_01]
          simp
        · skip
          repeat (first
           | refine J_seq ?_
           | refine J_region ?_
           | refine O_cons (S_pure (v := .nslc _ _ _ _) rfl rfl rfl rfl (fun _ => rfl) ?_))
          refine O_cons (S_bytesStr 1 rfl rfl rfl rfl rfl rfl rfl rfl rfl rfl rfl ?_)
          repeat (first
           | refine O_nil ?_
           | refine J_ret ?_
           | refine O_cons (S_pure (v := .str _) rfl rfl rfl rfl (fun _ => rfl) ?_))
          refine end_tmp (v := .str _) (.inr rfl) (fun _ => rfl) fun H' h => ⟨h.fr, _, .inl ⟨done, q - p + 2, ?_, rfl, by rw [show p + (q - p + 2) = q + 1 + 1 by omega]⟩, h.ok _ (List.mem_cons_self ..)⟩
          rw [hdec, hdrop, hdrop2, decT_01]
          simp
      have hc' : c ≠ 1 := by
        rintro rfl
        simp at hc
      repeat (first
       | refine J_seq ?_
       | refine J_region ?_
       | refine O_nil ?_
       | refine O_cons (S_pure (v := .int _ _) rfl rfl rfl rfl (fun _ => rfl) ?_)
       | refine O_cons (S_pure (v := .bool _) rfl rfl rfl rfl (fun _ => rfl) ?_))
      refine J_cond _ rfl (fun hc2 => ?_) (fun hc2 => ?_)
      · have hc3 : c ≠ 255 := by
          rintro rfl
          simp at hc2
        repeat (first
         | refine J_seq ?_
         | refine J_region ?_
         | refine O_cons (S_pure (v := .nptr _ _) rfl rfl rfl rfl (fun _ => rfl) ?_))
        refine O_cons (S_callM 0 rfl rfl rfl rfl (fun _ => rfl) rfl (fun H hw hs' => c_rfail hT4 i s (q + 1 + 1 : Nat) 0 12 H hw hs' N (by omega)) rfl ?_)
        repeat (first
         | refine J_seq ?_
         | refine J_region ?_
         | refine O_nil ?_
         | refine J_ret ?_
         | refine O_cons (S_pure (v := .str _) rfl rfl rfl rfl (fun _ => rfl) ?_))
        refine end_tmp (v := .str _) (.inr rfl) (fun _ => rfl) fun H' h => ⟨h.fr, _, .inr ⟨?_, rfl, q + 1 + 1, 12, by decide, hlt2, rfl⟩, h.ok _ (List.mem_cons_self ..)⟩
        rw [hdec, hdrop, hdrop2, decT_0x hc' hc3]; rfl
      · have hc3 : c = 255 := by
          have : (c.toNat : Int) = 255 := by simpa using hc2
          apply UInt8.toNat_inj.1
          show c.toNat = 255
          omega
        subst hc3
        repeat (refine J_skip ?_)
        refine ⟨rfl, rfl, rfl, rfl, q + 1 + 1, rfl, by omega, hlt2, ?_⟩
        rw [hdrop, hdrop2, decT_0f, show q + 1 + 1 - q = 2 by omega]
        congr 1
        funext r
        rw [Nat.add_comm]
    · have hb' : b ≠ 0 := by
        rintro rfl
        simp at hb
      repeat (refine J_skip ?_)
      refine ⟨rfl, rfl, rfl, rfl, q + 1, rfl, by omega, hlt, ?_⟩
      rw [hdrop, decT_ne hb', show q + 1 - q = 1 by omega]
      congr 1
      funext r
      rw [Nat.add_comm]
  · obtain ⟨q0, q3, q4, q', rfl, h1, h2, hdq'⟩ := hM
    obtain ⟨g1, rfl⟩ := upd3 q0 q3 q4
    clear q0 q3 q4
    obtain ⟨r, rfl⟩ : ∃ r', r = r' + 1 := ⟨r - 1, by omega⟩
    have hdec' : decT (s.drop p) = (decT (s.drop q')).map (fun x => ((done ++ [b]) ++ x.1, (q' - p) + x.2)) := by
      rw [hdec, hdq']
      cases decT (s.drop q') with
      | none => rfl
      | some x =>
        simp only [Option.map_some, List.append_assoc, List.singleton_append]
        congr 2
        omega
    rcases hB with ⟨rfl, rfl, rfl⟩ | ⟨hne, bb, g0, G0, sh, rfl, rfl⟩
    · skip
      repeat (first
       | refine J_seq ?_
       | refine J_region ?_
       | refine O_nil ?_
       | refine O_cons (S_pure (v := .int _ _) rfl rfl rfl rfl (fun _ => rfl) ?_)
       | refine O_cons (S_pure (v := .bool _) rfl rfl rfl rfl (fun _ => rfl) ?_)
       | refine O_cons (S_pure (v := .raw _) rfl rfl rfl rfl (fun _ => rfl) ?_))
      refine J_condF rfl ?_
      repeat (first
       | refine J_region ?_
       | refine J_skip ?_
       | refine O_cons (S_pure (v := .int _ _) rfl rfl rfl rfl (fun _ => rfl) ?_)
       | refine O_cons (S_pure (v := .raw _) rfl rfl rfl rfl (fun _ => rfl) ?_))
      refine O_cons (S_bs1 rfl rfl rfl rfl rfl (v := .int _ _) rfl rfl rfl rfl rfl rfl fun sr => ?_)
      refine O_cons (S_app0 (n := 1) rfl rfl rfl rfl rfl rfl rfl rfl rfl rfl rfl rfl rfl rfl rfl (Src.row (p := 1) rfl rfl rfl) (by decide) (show (3 * 1 + 4096) * 1 ≤ 100000000000000 by decide) fun j => ?_)
      refine O_erase 1 ?_
      repeat (first
       | refine O_nil ?_
       | refine O_cons (S_pure (v := .nslc _ _ _ _) rfl rfl rfl rfl (fun _ => rfl) ?_))
      exact ⟨r, rfl, rfl, q', [b], _, _, by omega, by omega, h2, by simp; omega, hdec', rfl, rfl, .inr ⟨by simp, j, j, 0, false, rfl, rfl⟩, rfl⟩
    · skip
      repeat (first
       | refine J_seq ?_
       | refine J_region ?_
       | refine O_nil ?_
       | refine O_cons (S_pure (v := .int _ _) rfl rfl rfl rfl (fun _ => rfl) ?_)
       | refine O_cons (S_pure (v := .bool _) rfl rfl rfl rfl (fun _ => rfl) ?_)
       | refine O_cons (S_pure (v := .nslc _ _ _ _) rfl rfl rfl rfl (fun _ => rfl) ?_))
      have hlen : done.length < 100000 := by omega
      refine J_cond _ rfl (fun hc => absurd (show (done.length : Int) = 100000 by simpa using hc) (by omega)) (fun _ => ?_)
      repeat (first
       | refine J_region ?_
       | refine J_skip ?_
       | refine O_cons (S_pure (v := .int _ _) rfl rfl rfl rfl (fun _ => rfl) ?_)
       | refine O_cons (S_pure (v := .nslc _ _ _ _) rfl rfl rfl rfl (fun _ => rfl) ?_))
      refine O_cons (S_bs1 rfl rfl rfl rfl rfl (v := .int _ _) rfl rfl rfl rfl rfl rfl fun sr => ?_)
      refine O_cons (S_appB 1 (k := done.length) (n := 1) rfl rfl rfl rfl rfl rfl rfl rfl rfl rfl rfl rfl rfl rfl rfl (show (bytesV done).length = done.length * 1 by simp [bytesV]) rfl (Src.row (p := 2) rfl rfl rfl) (by decide) (Nat.zero_le _) (show (3 * (done.length + 1) + 4096) * 1 ≤ 100000000000000 by omega) fun j G => ?_)
      refine O_erase 1 ?_
      repeat (first
       | refine O_nil ?_
       | refine O_cons (S_pure (v := .nslc _ _ _ _) rfl rfl rfl rfl (fun _ => rfl) ?_))
      refine ⟨r, rfl, rfl, q', done ++ [b], _, _, by omega, by omega, h2, by simp; omega, hdec', rfl, rfl, .inr ⟨by simp, j, g0, G, true, ?_, ?_⟩, rfl⟩
      · show AV.nslc j 0 (done.length + 1) none = _
        simp
      · simp [bytesV]
end Go.Proofs.Aw

set_option maxRecDepth 100000
set_option maxHeartbeats 4000000
namespace Go.Proofs.Aw
open Go Go.Ev
variable {old : Nat → Nat → Option AV}

theorem c_ReadText {T : List Entry} (hTR : hasF 87 T = false) (hT : hasF 156 T = false) (hT0 : hasF 141 T = false) (hT4 : hasF 142 T = false) (s : List UInt8) (hs : s.length < 100000) (H : AH) (hH : Wf H) :
    Con T (CX old) MM 6 (.fn 87) [.str s] H (fun v H' => ((∃ t k, decT s = some (t, k) ∧ v = .tup [.str t, .int .i64 (k : Nat), .int .i64 0]) ∨ (decT s = none ∧ ∃ e : Nat, e ≠ 0 ∧ v = .tup [.str [], .int .i64 0, .int .i64 e])) ∧ Fr H [] H') := by
  refine con_fn (nt := 26) [] [] hTR Tryz.func87 rfl rfl rfl (Hs.start hH) fun N hN => ?_
  repeat (first
   | refine J_seq ?_
   | refine J_region ?_
   | refine O_nil ?_
   | refine O_cons (S_pure (v := .int _ _) rfl rfl rfl rfl (fun _ => rfl) ?_)
   | refine O_cons (S_pure (v := .str _) rfl rfl rfl rfl (fun _ => rfl) ?_)
   | refine O_cons (S_pure (v := .agg _) rfl rfl rfl rfl (fun _ => rfl) ?_))
  refine O_cons (S_box (v := .agg [.str s, .int .i64 0, .int .i64 0]) rfl rfl rfl rfl rfl rfl fun i => ?_)
  repeat (first
   | refine J_seq ?_
   | refine J_region ?_
   | refine O_nil ?_
   | refine O_cons (S_pure (v := .nptr _ _) rfl rfl rfl rfl (fun _ => rfl) ?_))
  refine O_cons (S_callE 0 (RText i s 0) rfl rfl rfl rfl (fun _ => rfl) rfl (fun H hw hs' => ?_) (fun v ob hR => ?_) fun v ob hR => ?_)
  · obtain ⟨v, H', e1, e2, e3⟩ := c_rtext (old := old) hT hT0 hT4 i s 0 hs (Nat.zero_le _) H hw hs' N (by omega)
    exact ⟨v, H', e1, e2, e3⟩
  · rcases hR with ⟨n, k, h1, rfl, rfl⟩ | ⟨h1, rfl, p', e, h2, h3, rfl⟩ <;> rfl
  rcases hR with ⟨n, k, h1, rfl, rfl⟩ | ⟨h1, rfl, p', e, h2, h3, rfl⟩
  · skip
    repeat (first
     | refine J_seq ?_
     | refine J_region ?_
     | refine O_nil ?_
     | refine O_cons (S_field0 rfl rfl rfl rfl rfl rfl rfl rfl rfl ?_)
     | refine O_cons (S_pure (v := .bool _) rfl rfl rfl rfl (fun _ => rfl) ?_)
     | refine O_cons (S_pure (v := .str _) rfl rfl rfl rfl (fun _ => rfl) ?_)
     | refine O_cons (S_pure (v := .nptr _ _) rfl rfl rfl rfl (fun _ => rfl) ?_)
     | refine O_cons (S_load 0 rfl rfl rfl rfl rfl rfl rfl rfl rfl rfl ?_))
    refine J_condF rfl ?_
    repeat (first
     | refine J_seq ?_
     | refine J_skip ?_)
    refine J_draw0 (l := [⟨0, []⟩, ⟨1, []⟩, ⟨2, []⟩, ⟨3, []⟩, ⟨4, []⟩, ⟨5, []⟩, ⟨6, []⟩, ⟨7, []⟩]) (by kernel_rfl) ?_
    repeat (first
     | refine P0_nil ?_
     | refine P0_cons rfl (S_field0 rfl rfl rfl rfl rfl rfl rfl rfl rfl ?_)
     | refine P0_cons rfl (S_pure (v := .int _ _) rfl rfl rfl rfl (fun _ => rfl) ?_)
     | refine P0_cons rfl (S_pure (v := .str _) rfl rfl rfl rfl (fun _ => rfl) ?_)
     | refine P0_cons rfl (S_pure (v := .nptr _ _) rfl rfl rfl rfl (fun _ => rfl) ?_)
     | refine P0_cons rfl (S_load 0 rfl rfl rfl rfl rfl rfl rfl rfl rfl rfl ?_))
    repeat (refine J_ret ?_)
    exact end_tmp (v := .tup _) (.inr rfl) (fun _ => rfl) fun H' hh => ⟨.inl ⟨n, k, h1, by rw [Nat.zero_add]; rfl⟩, hh.fr⟩
  · skip
    repeat (first
     | refine J_seq ?_
     | refine J_region ?_
     | refine O_nil ?_
     | refine O_cons (S_field0 rfl rfl rfl rfl rfl rfl rfl rfl rfl ?_)
     | refine O_cons (S_pure (v := .bool _) rfl rfl rfl rfl (fun _ => rfl) ?_)
     | refine O_cons (S_pure (v := .str _) rfl rfl rfl rfl (fun _ => rfl) ?_)
     | refine O_cons (S_pure (v := .nptr _ _) rfl rfl rfl rfl (fun _ => rfl) ?_)
     | refine O_cons (S_load 0 rfl rfl rfl rfl rfl rfl rfl rfl rfl rfl ?_))
    refine J_cond _ rfl (fun _ => ?_) (fun g => ?_)
    rotate_left
    · exact absurd (show (e : Int) = 0 by simpa using g) (by omega)
    repeat (refine J_seq ?_)
    refine J_draw0 (l := [⟨0, []⟩, ⟨1, []⟩, ⟨2, []⟩, ⟨3, []⟩, ⟨4, []⟩, ⟨5, []⟩, ⟨6, []⟩]) (by kernel_rfl) ?_
    repeat (first
     | refine P0_nil ?_
     | refine P0_cons rfl (S_field0 rfl rfl rfl rfl rfl rfl rfl rfl rfl ?_)
     | refine P0_cons rfl (S_pure (v := .int _ _) rfl rfl rfl rfl (fun _ => rfl) ?_)
     | refine P0_cons rfl (S_pure (v := .str _) rfl rfl rfl rfl (fun _ => rfl) ?_)
     | refine P0_cons rfl (S_pure (v := .nptr _ _) rfl rfl rfl rfl (fun _ => rfl) ?_)
     | refine P0_cons rfl (S_load 0 rfl rfl rfl rfl rfl rfl rfl rfl rfl rfl ?_))
    repeat (refine J_ret ?_)
    exact end_tmp (v := .tup _) (.inr rfl) (fun _ => rfl) fun H' hh => ⟨.inr ⟨h1, e, h2, rfl⟩, hh.fr⟩
end Go.Proofs.Aw

set_option maxRecDepth 100000
set_option maxHeartbeats 4000000
namespace Go.Proofs.Aw
open Go Go.Ev
variable {old : Nat → Nat → Option AV}

def intsV (l : List Int) : List AV := l.map fun n => AV.int .i64 n

/-- Integers that were appended to nothing. -/
def SlI (l : List Int) (v : AV) (S : Kn) : Prop :=
  (l = [] ∧ v = .raw (.slice none 0 0) ∧ S = []) ∨
  (l ≠ [] ∧ ∃ b g G sh, v = .nslc b 0 l.length none ∧ S = [⟨b, true, true, .row (intsV l) g G sh false 0 3 false false⟩])

theorem SlI.own {l : List Int} {v : AV} {S : Kn} (h : SlI l v S) : ∀ s ∈ S, s.wr = true ∧ s.gl = true := by
  rcases h with ⟨_, _, rfl⟩ | ⟨_, b, g, G, sh, _, rfl⟩ <;> simp

/-- What reading a list does. -/
def RList (i : Nat) (s : List UInt8) (p : Nat) (v : AV) (ob : AObj) (S : Kn) : Prop :=
  (∃ ns k, decL (s.drop p) = some (ns, k) ∧ SlI ns v S ∧ ob = rdrO i s (p + k : Nat) 0) ∨
  (decL (s.drop p) = none ∧ v = .raw (.slice none 0 0) ∧ S = [] ∧ ∃ p' e : Nat, e ≠ 0 ∧ p' ≤ s.length ∧ ob = rdrO i s p' e)

theorem c_rlist {T : List Entry} (hTL : hasF 157 T = false) (hT : hasF 73 T = false) (hT0 : hasF 141 T = false) (hT1 : hasF 84 T = false) (hT2 : hasF 155 T = false) (hT3 : hasF 284 T = false) (hT4 : hasF 142 T = false) (i : Nat) (s : List UInt8) (p : Nat) (hs : s.length < 20000) (hp : p ≤ s.length) (H : AH) (hH : Wf H) (hi : SlotOk H [i] H (rdr i s p 0)) :
    Con T (CX old) MM 6 (.fn 157) [.nptr i 0, .func (.func 73) [.nptr i 0] []] H (fun v H' => ∃ ob S, RList i s p v ob S ∧ Hs H [i] H' (⟨i, true, false, ob⟩ :: S)) := by
  refine con_fn (nt := 65) [i] [rdr i s p 0] hTL Tryz.func157 rfl rfl rfl (Hs.one hH hi) fun N hN => ?_
  repeat (first
   | refine J_seq ?_
   | refine J_region ?_
   | refine O_nil ?_
   | refine J_block ?_
   | refine O_cons (S_pure (v := .raw _) rfl rfl rfl rfl (fun _ => rfl) ?_))
  refine J_loop (fun r f L df => df = [] ∧ ∃ (q : Nat) (done : List Int) (v : AV) (S : Kn), s.length + 1 - q ≤ r ∧ p ≤ q ∧ q ≤ s.length ∧ done.length ≤ q ∧ decL (s.drop p) = (decL (s.drop q)).map (fun x => (done ++ x.1, (q - p) + x.2)) ∧ f 0 = .nptr i 0 ∧ f 1 = .func (.func 73) [.nptr i 0] [] ∧ f 5 = v ∧ SlI done v S ∧ L = rdr i s q 0 :: S) (s.length + 1 - p) (show s.length + 1 - p < 1000000 by omega) ⟨rfl, p, [], _, _, Nat.le_refl _, Nat.le_refl _, hp, Nat.zero_le _, ?_, rfl, rfl, rfl, .inl ⟨rfl, rfl, rfl⟩, rfl⟩ fun r f L df hI => ?_
  · cases decL (s.drop p) <;> simp
  obtain ⟨rfl, q, done, v, S, hr, hpq, hq, hdq, hdec, q0, q1, q5, hB, rfl⟩ := hI
  obtain ⟨g, rfl⟩ := upd3 q0 q1 q5
  clear q0 q1 q5
  repeat (first
   | refine J_seq ?_
   | refine J_block ?_)
  refine J_draw0 (l := [⟨0, []⟩, ⟨1, []⟩, ⟨2, []⟩, ⟨3, []⟩, ⟨4, []⟩, ⟨5, []⟩, ⟨6, []⟩, ⟨7, []⟩, ⟨8, []⟩, ⟨9, []⟩, ⟨10, []⟩, ⟨11, []⟩, ⟨12, []⟩, ⟨13, []⟩, ⟨14, []⟩, ⟨15, []⟩, ⟨16, []⟩, ⟨17, []⟩, ⟨18, []⟩, ⟨19, []⟩, ⟨20, []⟩, ⟨21, []⟩]) (by kernel_rfl) ?_
  repeat (first
   | refine P0_cons rfl (S_field0 rfl rfl rfl rfl rfl rfl rfl rfl rfl ?_)
   | refine P0_cons rfl (S_pure (v := .int _ _) rfl rfl rfl rfl (fun _ => rfl) ?_)
   | refine P0_cons rfl (S_pure (v := .bool _) rfl rfl rfl rfl (fun _ => rfl) ?_)
   | refine P0_cons rfl (S_pure (v := .nptr _ _) rfl rfl rfl rfl (fun _ => rfl) ?_)
   | refine P0_cons rfl (S_load 0 rfl rfl rfl rfl rfl rfl rfl rfl rfl rfl ?_))
  refine P0_guard rfl rfl rfl rfl (fun h1 => ?_) (fun h1 => ?_)
  rotate_left
  · have hqe : q = s.length := by have := of_decide_eq_false h1; omega
    have hnil : s.drop q = [] := List.drop_eq_nil_of_le (by omega)
    have hd0 : decL (s.drop p) = none := by rw [hdec, hnil, decL_none (by simp) rfl]; rfl
    repeat (first
     | refine P0_nil ?_
     | refine P0_cons rfl (S_pure (v := .bool _) rfl rfl rfl rfl (fun _ => rfl) ?_)
     | refine P0_cons rfl (S_off rfl rfl rfl rfl ?_))
    skip
    refine J_condF rfl ?_
    repeat (first
     | refine J_seq ?_
     | refine J_skip ?_)
    refine J_draw0 (l := [⟨0, []⟩, ⟨1, []⟩, ⟨2, []⟩, ⟨3, []⟩, ⟨4, []⟩, ⟨5, []⟩, ⟨6, []⟩, ⟨7, []⟩, ⟨8, []⟩, ⟨9, []⟩, ⟨10, []⟩, ⟨11, []⟩, ⟨12, []⟩, ⟨13, []⟩, ⟨14, []⟩]) (by kernel_rfl) ?_
    repeat (first
     | refine P0_cons rfl (S_field0 rfl rfl rfl rfl rfl rfl rfl rfl rfl ?_)
     | refine P0_cons rfl (S_pure (v := .int _ _) rfl rfl rfl rfl (fun _ => rfl) ?_)
     | refine P0_cons rfl (S_pure (v := .bool _) rfl rfl rfl rfl (fun _ => rfl) ?_)
     | refine P0_cons rfl (S_pure (v := .nptr _ _) rfl rfl rfl rfl (fun _ => rfl) ?_)
     | refine P0_cons rfl (S_load 0 rfl rfl rfl rfl rfl rfl rfl rfl rfl rfl ?_))
    refine P0_guard rfl rfl rfl rfl (fun h2 => absurd (h1.symm.trans h2) (by decide)) (fun h2 => ?_)
    repeat (first
     | refine P0_nil ?_
     | refine P0_cons rfl (S_pure (v := .bool _) rfl rfl rfl rfl (fun _ => rfl) ?_)
     | refine P0_cons rfl (S_off rfl rfl rfl rfl ?_))
    skip
    refine J_condF rfl ?_
    repeat (first
     | refine J_seq ?_
     | refine J_region ?_
     | refine J_skip ?_
     | refine O_cons (S_pure (v := .func _ _ _) rfl rfl rfl rfl (fun _ => rfl) ?_))
    refine O_cons (S_callE 0 (RInt i s q) rfl rfl rfl rfl (fun _ => rfl) rfl (fun H hw hs' => ?_) (fun v ob hR => ?_) fun v ob hR => ?_)
    · obtain ⟨v, H', e1, e2, e3⟩ := c_rint (old := old) hT hT0 hT1 hT2 hT3 hT4 i s q (by omega) hq H hw hs' N (by omega)
      exact ⟨v, H', e1, e2, e3⟩
    · rcases hR with ⟨n, k, h1, rfl, rfl⟩ | ⟨h1, rfl, p', e, h2, h3, rfl⟩ <;> rfl
    rcases hR with ⟨n, k, h3, rfl, rfl⟩ | ⟨h3, rfl, p', e, h4, h5, rfl⟩
    · rw [hnil] at h3; cases h3
    repeat (first
     | refine J_seq ?_
     | refine J_region ?_
     | refine O_nil ?_
     | refine O_cons (S_field0 rfl rfl rfl rfl rfl rfl rfl rfl rfl ?_)
     | refine O_cons (S_pure (v := .int _ _) rfl rfl rfl rfl (fun _ => rfl) ?_)
     | refine O_cons (S_pure (v := .bool _) rfl rfl rfl rfl (fun _ => rfl) ?_)
     | refine O_cons (S_pure (v := .nptr _ _) rfl rfl rfl rfl (fun _ => rfl) ?_)
     | refine O_cons (S_load 0 rfl rfl rfl rfl rfl rfl rfl rfl rfl rfl ?_))
    refine J_cond _ rfl (fun _ => ?_) (fun g => absurd (show (e : Int) = 0 by simpa using g) (by omega))
    repeat (first
     | refine J_seq ?_
     | refine J_region ?_
     | refine O_nil ?_
     | refine J_ret ?_
     | refine O_cons (S_pure (v := .raw _) rfl rfl rfl rfl (fun _ => rfl) ?_))
    exact end_tmp (v := .raw _) (.inr rfl) (fun _ => rfl) fun H' hh => ⟨_, [], .inr ⟨hd0, rfl, rfl, p', e, h4, h5, rfl⟩, hh.drop (by simp)⟩
  have hlt : q < s.length := by have := of_decide_eq_true h1; omega
  have hg : s[q]? = some s[q] := by simp [hlt]
  obtain ⟨_, hdrop⟩ := drop_cons hg
  repeat (first
   | refine P0_cons rfl (S_field0 rfl rfl rfl rfl rfl rfl rfl rfl rfl ?_)
   | refine P0_cons rfl (S_pure (v := .nptr _ _) rfl rfl rfl rfl (fun _ => rfl) ?_)
   | refine P0_cons rfl (S_load 0 rfl rfl rfl rfl rfl rfl rfl rfl rfl rfl ?_))
  refine P0_cons rfl (S_index rfl rfl rfl rfl rfl rfl rfl rfl hg ?_)
  repeat (first
   | refine P0_nil ?_
   | refine P0_cons rfl (S_pure (v := .bool _) rfl rfl rfl rfl (fun _ => rfl) ?_))
  skip
  refine J_cond _ rfl (fun h2 => ?_) (fun h2 => ?_)
  · have hb1 : s[q] = 1 := by
      have : (s[q].toNat : Int) = 1 := by simpa using h2
      apply UInt8.toNat_inj.1
      show s[q].toNat = 1
      omega
    have e1 : wrapF .i64 ((q : Int) + 1) = ((p + (q - p + 1) : Nat) : Int) := by
      rw [wrap_small (by omega) (by omega)]; omega
    have e2 : decL (s.drop p) = some (done, q - p + 1) := by
      rw [hdec, decL_end (by rw [hdrop, hb1]; rfl)]
      simp
    have hB' := hB
    rcases hB with ⟨rfl, rfl, rfl⟩ | ⟨hne, bb, g0, G0, sh, rfl, rfl⟩
    · skip
      repeat (first
       | refine J_seq ?_
       | refine J_region ?_
       | refine O_nil ?_
       | refine J_ret ?_
       | refine O_cons (S_field0 rfl rfl rfl rfl rfl rfl rfl rfl rfl ?_)
       | refine O_cons (S_pure (v := .int _ _) rfl rfl rfl rfl (fun _ => rfl) ?_)
       | refine O_cons (S_pure (v := .nptr _ _) rfl rfl rfl rfl (fun _ => rfl) ?_)
       | refine O_cons (S_pure (v := .raw _) rfl rfl rfl rfl (fun _ => rfl) ?_)
       | refine O_cons (S_load 0 rfl rfl rfl rfl rfl rfl rfl rfl rfl rfl ?_)
       | refine O_cons (S_store1 0 (v := .int _ _) rfl rfl rfl rfl rfl rfl rfl rfl rfl rfl rfl ?_))
      refine end_tmp (v := .raw _) (.inr rfl) (fun _ => rfl) fun H' hh => ⟨_, [], .inl ⟨_, q - p + 1, e2, hB', rfl⟩, ?_⟩
      rw [← e1]
      exact hh
    · skip
      repeat (first
       | refine J_seq ?_
       | refine J_region ?_
       | refine O_nil ?_
       | refine J_ret ?_
       | refine O_cons (S_field0 rfl rfl rfl rfl rfl rfl rfl rfl rfl ?_)
       | refine O_cons (S_pure (v := .int _ _) rfl rfl rfl rfl (fun _ => rfl) ?_)
       | refine O_cons (S_pure (v := .nptr _ _) rfl rfl rfl rfl (fun _ => rfl) ?_)
       | refine O_cons (S_pure (v := .nslc _ _ _ _) rfl rfl rfl rfl (fun _ => rfl) ?_)
       | refine O_cons (S_load 0 rfl rfl rfl rfl rfl rfl rfl rfl rfl rfl ?_)
       | refine O_cons (S_store1 0 (v := .int _ _) rfl rfl rfl rfl rfl rfl rfl rfl rfl rfl rfl ?_))
      refine end_tmp (v := .nslc _ _ _ _) (.inr rfl) (fun _ => rfl) fun H' hh => ⟨_, _, .inl ⟨done, q - p + 1, e2, hB', rfl⟩, ?_⟩
      rw [← e1]
      exact hh
  have hb1 : (s.drop q).head? ≠ some 1 := by
    rw [hdrop]
    intro hh
    injection hh with hh
    rw [hh] at h2
    simp at h2
  obtain ⟨r, rfl⟩ : ∃ r', r = r' + 1 := ⟨r - 1, by omega⟩
  repeat (first
   | refine J_seq ?_
   | refine J_skip ?_)
  refine J_draw0 (l := [⟨0, []⟩, ⟨1, []⟩, ⟨2, []⟩, ⟨3, []⟩, ⟨4, []⟩, ⟨5, []⟩, ⟨6, []⟩, ⟨7, []⟩, ⟨8, []⟩, ⟨9, []⟩, ⟨10, []⟩, ⟨11, []⟩, ⟨12, []⟩, ⟨13, []⟩, ⟨14, []⟩]) (by kernel_rfl) ?_
  repeat (first
   | refine P0_cons rfl (S_field0 rfl rfl rfl rfl rfl rfl rfl rfl rfl ?_)
   | refine P0_cons rfl (S_pure (v := .int _ _) rfl rfl rfl rfl (fun _ => rfl) ?_)
   | refine P0_cons rfl (S_pure (v := .bool _) rfl rfl rfl rfl (fun _ => rfl) ?_)
   | refine P0_cons rfl (S_pure (v := .nptr _ _) rfl rfl rfl rfl (fun _ => rfl) ?_)
   | refine P0_cons rfl (S_load 0 rfl rfl rfl rfl rfl rfl rfl rfl rfl rfl ?_))
  refine P0_guard rfl rfl rfl rfl (fun h3 => ?_) (fun h3 => absurd (h1.symm.trans h3) (by decide))
  have hlen : done.length < 20000 := by omega
  rcases hB with ⟨rfl, rfl, rfl⟩ | ⟨hne, bb, g0, G0, sh, rfl, rfl⟩
  · skip
    repeat (first
     | refine P0_nil ?_
     | refine P0_cons rfl (S_pure (v := .int _ _) rfl rfl rfl rfl (fun _ => rfl) ?_)
     | refine P0_cons rfl (S_pure (v := .bool _) rfl rfl rfl rfl (fun _ => rfl) ?_)
     | refine P0_cons rfl (S_pure (v := .raw _) rfl rfl rfl rfl (fun _ => rfl) ?_))
    skip
    refine J_condF rfl ?_
    repeat (first
     | refine J_seq ?_
     | refine J_region ?_
     | refine J_skip ?_
     | refine O_cons (S_pure (v := .func _ _ _) rfl rfl rfl rfl (fun _ => rfl) ?_))
    refine O_cons (S_callE 0 (RInt i s q) rfl rfl rfl rfl (fun _ => rfl) rfl (fun H hw hs' => ?_) (fun v ob hR => ?_) fun v ob hR => ?_)
    · obtain ⟨v, H', e1, e2, e3⟩ := c_rint (old := old) hT hT0 hT1 hT2 hT3 hT4 i s q (by omega) hq H hw hs' N (by omega)
      exact ⟨v, H', e1, e2, e3⟩
    · rcases hR with ⟨n, k, h1, rfl, rfl⟩ | ⟨h1, rfl, p', e, h2, h3, rfl⟩ <;> rfl
    rcases hR with ⟨n, k, h3, rfl, rfl⟩ | ⟨h3, rfl, p', e, h4, h5, rfl⟩
    · skip
      repeat (first
       | refine J_seq ?_
       | refine J_region ?_
       | refine O_nil ?_
       | refine O_cons (S_field0 rfl rfl rfl rfl rfl rfl rfl rfl rfl ?_)
       | refine O_cons (S_pure (v := .int _ _) rfl rfl rfl rfl (fun _ => rfl) ?_)
       | refine O_cons (S_pure (v := .bool _) rfl rfl rfl rfl (fun _ => rfl) ?_)
       | refine O_cons (S_pure (v := .nptr _ _) rfl rfl rfl rfl (fun _ => rfl) ?_)
       | refine O_cons (S_load 0 rfl rfl rfl rfl rfl rfl rfl rfl rfl rfl ?_))
      refine J_condF rfl ?_
      repeat (first
       | refine J_region ?_
       | refine J_skip ?_
       | refine O_cons (S_pure (v := .int _ _) rfl rfl rfl rfl (fun _ => rfl) ?_)
       | refine O_cons (S_pure (v := .raw _) rfl rfl rfl rfl (fun _ => rfl) ?_))
      refine O_cons (S_bs1 rfl rfl rfl rfl rfl (v := .int _ _) rfl rfl rfl rfl rfl rfl fun sr => ?_)
      refine O_cons (S_app0 (n := 1) rfl rfl rfl rfl rfl rfl rfl rfl rfl rfl rfl rfl rfl rfl rfl (Src.row (p := 1) rfl rfl rfl) (by decide) (show (3 * 1 + 4096) * 8 ≤ 100000000000000 by decide) fun j => ?_)
      refine O_erase 1 ?_
      repeat (first
       | refine O_nil ?_
       | refine O_cons (S_pure (v := .nslc _ _ _ _) rfl rfl rfl rfl (fun _ => rfl) ?_))
      obtain ⟨_, a2, _, a4⟩ := decI_some h3
      simp only [List.length_drop] at a2
      refine ⟨r, rfl, rfl, q + k, [n], _, _, by omega, by omega, by omega, by simp; omega, ?_, rfl, rfl, rfl, .inr ⟨by simp, j, j, 0, false, rfl, rfl⟩, rfl⟩
      rw [hdec, decL_cons hb1 h3, List.drop_drop]
      cases decL (s.drop (q + k)) with
      | none => rfl
      | some x =>
        simp only [Option.map_some, List.nil_append, List.singleton_append]
        congr 2
        omega
    · skip
      repeat (first
       | refine J_seq ?_
       | refine J_region ?_
       | refine O_nil ?_
       | refine O_cons (S_field0 rfl rfl rfl rfl rfl rfl rfl rfl rfl ?_)
       | refine O_cons (S_pure (v := .int _ _) rfl rfl rfl rfl (fun _ => rfl) ?_)
       | refine O_cons (S_pure (v := .bool _) rfl rfl rfl rfl (fun _ => rfl) ?_)
       | refine O_cons (S_pure (v := .nptr _ _) rfl rfl rfl rfl (fun _ => rfl) ?_)
       | refine O_cons (S_load 0 rfl rfl rfl rfl rfl rfl rfl rfl rfl rfl ?_))
      refine J_cond _ rfl (fun _ => ?_) (fun g => absurd (show (e : Int) = 0 by simpa using g) (by omega))
      repeat (first
       | refine J_seq ?_
       | refine J_region ?_
       | refine O_nil ?_
       | refine J_ret ?_
       | refine O_cons (S_pure (v := .raw _) rfl rfl rfl rfl (fun _ => rfl) ?_))
      refine end_tmp (v := .raw _) (.inr rfl) (fun _ => rfl) fun H' hh => ⟨_, [], .inr ⟨?_, rfl, rfl, p', e, h4, h5, rfl⟩, hh⟩
      rw [hdec, decL_none hb1 h3]; rfl
  · skip
    repeat (first
     | refine P0_nil ?_
     | refine P0_cons rfl (S_pure (v := .int _ _) rfl rfl rfl rfl (fun _ => rfl) ?_)
     | refine P0_cons rfl (S_pure (v := .bool _) rfl rfl rfl rfl (fun _ => rfl) ?_)
     | refine P0_cons rfl (S_pure (v := .nslc _ _ _ _) rfl rfl rfl rfl (fun _ => rfl) ?_))
    skip
    refine J_cond _ rfl (fun hc => absurd (show (done.length : Int) = 20000 by simpa using hc) (by omega)) (fun _ => ?_)
    repeat (first
     | refine J_seq ?_
     | refine J_region ?_
     | refine J_skip ?_
     | refine O_cons (S_pure (v := .func _ _ _) rfl rfl rfl rfl (fun _ => rfl) ?_))
    refine O_cons (S_callE 0 (RInt i s q) rfl rfl rfl rfl (fun _ => rfl) rfl (fun H hw hs' => ?_) (fun v ob hR => ?_) fun v ob hR => ?_)
    · obtain ⟨v, H', e1, e2, e3⟩ := c_rint (old := old) hT hT0 hT1 hT2 hT3 hT4 i s q (by omega) hq H hw hs' N (by omega)
      exact ⟨v, H', e1, e2, e3⟩
    · rcases hR with ⟨n, k, h1, rfl, rfl⟩ | ⟨h1, rfl, p', e, h2, h3, rfl⟩ <;> rfl
    rcases hR with ⟨n, k, h3, rfl, rfl⟩ | ⟨h3, rfl, p', e, h4, h5, rfl⟩
    · skip
      repeat (first
       | refine J_seq ?_
       | refine J_region ?_
       | refine O_nil ?_
       | refine O_cons (S_field0 rfl rfl rfl rfl rfl rfl rfl rfl rfl ?_)
       | refine O_cons (S_pure (v := .int _ _) rfl rfl rfl rfl (fun _ => rfl) ?_)
       | refine O_cons (S_pure (v := .bool _) rfl rfl rfl rfl (fun _ => rfl) ?_)
       | refine O_cons (S_pure (v := .nptr _ _) rfl rfl rfl rfl (fun _ => rfl) ?_)
       | refine O_cons (S_load 0 rfl rfl rfl rfl rfl rfl rfl rfl rfl rfl ?_))
      refine J_condF rfl ?_
      repeat (first
       | refine J_region ?_
       | refine J_skip ?_
       | refine O_cons (S_pure (v := .int _ _) rfl rfl rfl rfl (fun _ => rfl) ?_)
       | refine O_cons (S_pure (v := .nslc _ _ _ _) rfl rfl rfl rfl (fun _ => rfl) ?_))
      refine O_cons (S_bs1 rfl rfl rfl rfl rfl (v := .int _ _) rfl rfl rfl rfl rfl rfl fun sr => ?_)
      refine O_cons (S_appB 1 (k := done.length) (n := 1) rfl rfl rfl rfl rfl rfl rfl rfl rfl rfl rfl rfl rfl rfl rfl (show (intsV done).length = done.length * 1 by simp [intsV]) rfl (Src.row (p := 2) rfl rfl rfl) (by decide) (Nat.zero_le _) (show (3 * (done.length + 1) + 4096) * 8 ≤ 100000000000000 by omega) fun j G => ?_)
      refine O_erase 1 ?_
      repeat (first
       | refine O_nil ?_
       | refine O_cons (S_pure (v := .nslc _ _ _ _) rfl rfl rfl rfl (fun _ => rfl) ?_))
      obtain ⟨_, a2, _, a4⟩ := decI_some h3
      simp only [List.length_drop] at a2
      refine ⟨r, rfl, rfl, q + k, done ++ [n], _, _, by omega, by omega, by omega, by simp; omega, ?_, rfl, rfl, rfl, .inr ⟨by simp, j, g0, G, true, ?_, ?_⟩, rfl⟩
      · rw [hdec, decL_cons hb1 h3, List.drop_drop]
        cases decL (s.drop (q + k)) with
        | none => rfl
        | some x =>
          simp only [Option.map_some, List.append_assoc, List.singleton_append]
          congr 2
          omega
      · show AV.nslc j 0 (done.length + 1) none = _
        simp
      · simp [intsV]
    · skip
      repeat (first
       | refine J_seq ?_
       | refine J_region ?_
       | refine O_nil ?_
       | refine O_cons (S_field0 rfl rfl rfl rfl rfl rfl rfl rfl rfl ?_)
       | refine O_cons (S_pure (v := .int _ _) rfl rfl rfl rfl (fun _ => rfl) ?_)
       | refine O_cons (S_pure (v := .bool _) rfl rfl rfl rfl (fun _ => rfl) ?_)
       | refine O_cons (S_pure (v := .nptr _ _) rfl rfl rfl rfl (fun _ => rfl) ?_)
       | refine O_cons (S_load 0 rfl rfl rfl rfl rfl rfl rfl rfl rfl rfl ?_))
      refine J_cond _ rfl (fun _ => ?_) (fun g => absurd (show (e : Int) = 0 by simpa using g) (by omega))
      repeat (first
       | refine J_seq ?_
       | refine J_region ?_
       | refine O_nil ?_
       | refine J_ret ?_
       | refine O_cons (S_pure (v := .raw _) rfl rfl rfl rfl (fun _ => rfl) ?_))
      refine end_tmp (v := .raw _) (.inr rfl) (fun _ => rfl) fun H' hh => ⟨_, [], .inr ⟨?_, rfl, rfl, p', e, h4, h5, rfl⟩, hh.drop (by simp)⟩
      rw [hdec, decL_none hb1 h3]; rfl
end Go.Proofs.Aw

set_option maxRecDepth 100000
set_option maxHeartbeats 4000000
namespace Go.Proofs.Aw
open Go Go.Ev
variable {old : Nat → Nat → Option AV}

theorem c_ReadList {T : List Entry} (hTR : hasF 90 T = false) (hTL : hasF 157 T = false) (hT : hasF 73 T = false) (hT0 : hasF 141 T = false) (hT1 : hasF 84 T = false) (hT2 : hasF 155 T = false) (hT3 : hasF 284 T = false) (hT4 : hasF 142 T = false) (s : List UInt8) (hs : s.length < 20000) (H : AH) (hH : Wf H) :
    Con T (CX old) MM 7 (.fn 90) [.str s] H (fun v H' => ∃ S, ((∃ ns k w, decL s = some (ns, k) ∧ v = .tup [w, .int .i64 (k : Nat), .int .i64 0] ∧ SlI ns w S) ∨ (decL s = none ∧ S = [] ∧ ∃ e : Nat, e ≠ 0 ∧ v = .tup [.raw (.slice none 0 0), .int .i64 0, .int .i64 e])) ∧ Hs H [] H' S) := by
  refine con_fn (nt := 28) [] [] hTR Tryz.func90 rfl rfl rfl (Hs.start hH) fun N hN => ?_
  repeat (first
   | refine J_seq ?_
   | refine J_region ?_
   | refine O_nil ?_
   | refine O_cons (S_pure (v := .int _ _) rfl rfl rfl rfl (fun _ => rfl) ?_)
   | refine O_cons (S_pure (v := .str _) rfl rfl rfl rfl (fun _ => rfl) ?_)
   | refine O_cons (S_pure (v := .raw _) rfl rfl rfl rfl (fun _ => rfl) ?_)
   | refine O_cons (S_pure (v := .agg _) rfl rfl rfl rfl (fun _ => rfl) ?_))
  refine O_cons (S_box (v := .agg [.str s, .int .i64 0, .int .i64 0]) rfl rfl rfl rfl rfl rfl fun i => ?_)
  repeat (first
   | refine J_seq ?_
   | refine J_region ?_
   | refine O_nil ?_
   | refine O_cons (S_pure (v := .nptr _ _) rfl rfl rfl rfl (fun _ => rfl) ?_)
   | refine O_cons (S_pure (v := .func _ _ _) rfl rfl rfl rfl (fun _ => rfl) ?_))
  refine O_cons (S_callNE 0 (RList i s 0) rfl rfl rfl rfl (fun _ => rfl) rfl (fun H hw hs' => ?_) (fun v ob S hR => ?_) fun v ob S hR => ?_)
  · exact c_rlist hTL hT hT0 hT1 hT2 hT3 hT4 i s 0 hs (Nat.zero_le _) H hw hs' N (by omega)
  · rcases hR with ⟨n, k, h1, h2, rfl⟩ | ⟨h1, rfl, rfl, p', e, h2, h3, rfl⟩
    · exact ⟨rfl, h2.own⟩
    · exact ⟨rfl, by simp⟩
  rcases hR with ⟨n, k, h1, h2, rfl⟩ | ⟨h1, rfl, rfl, p', e, h2, h3, rfl⟩
  · have h2' := h2
    rcases h2 with ⟨rfl, rfl, rfl⟩ | ⟨hne, bb, g0, G0, sh, rfl, rfl⟩
    · skip
      repeat (first
       | refine J_seq ?_
       | refine J_region ?_
       | refine O_nil ?_
       | refine O_cons (S_field0 rfl rfl rfl rfl rfl rfl rfl rfl rfl ?_)
       | refine O_cons (S_pure (v := .bool _) rfl rfl rfl rfl (fun _ => rfl) ?_)
       | refine O_cons (S_pure (v := .nptr _ _) rfl rfl rfl rfl (fun _ => rfl) ?_)
       | refine O_cons (S_pure (v := .raw _) rfl rfl rfl rfl (fun _ => rfl) ?_)
       | refine O_cons (S_load 0 rfl rfl rfl rfl rfl rfl rfl rfl rfl rfl ?_))
      refine J_condF rfl ?_
      repeat (first
       | refine J_seq ?_
       | refine J_skip ?_)
      refine J_draw0 (l := [⟨0, []⟩, ⟨1, []⟩, ⟨2, []⟩, ⟨3, []⟩, ⟨4, []⟩, ⟨5, []⟩, ⟨6, []⟩, ⟨7, []⟩]) (by kernel_rfl) ?_
      repeat (first
       | refine P0_nil ?_
       | refine P0_cons rfl (S_field0 rfl rfl rfl rfl rfl rfl rfl rfl rfl ?_)
       | refine P0_cons rfl (S_pure (v := .int _ _) rfl rfl rfl rfl (fun _ => rfl) ?_)
       | refine P0_cons rfl (S_pure (v := .nptr _ _) rfl rfl rfl rfl (fun _ => rfl) ?_)
       | refine P0_cons rfl (S_pure (v := .raw _) rfl rfl rfl rfl (fun _ => rfl) ?_)
       | refine P0_cons rfl (S_load 0 rfl rfl rfl rfl rfl rfl rfl rfl rfl rfl ?_))
      repeat (refine J_ret ?_)
      exact end_tmp (v := .tup _) (.inr rfl) (fun _ => rfl) fun H' hh => ⟨[], .inl ⟨_, k, _, h1, by rw [Nat.zero_add]; rfl, h2'⟩, hh.drop (by simp)⟩
    · skip
      repeat (first
       | refine J_seq ?_
       | refine J_region ?_
       | refine O_nil ?_
       | refine O_cons (S_field0 rfl rfl rfl rfl rfl rfl rfl rfl rfl ?_)
       | refine O_cons (S_pure (v := .bool _) rfl rfl rfl rfl (fun _ => rfl) ?_)
       | refine O_cons (S_pure (v := .nptr _ _) rfl rfl rfl rfl (fun _ => rfl) ?_)
       | refine O_cons (S_pure (v := .nslc _ _ _ _) rfl rfl rfl rfl (fun _ => rfl) ?_)
       | refine O_cons (S_load 0 rfl rfl rfl rfl rfl rfl rfl rfl rfl rfl ?_))
      refine J_condF rfl ?_
      repeat (first
       | refine J_seq ?_
       | refine J_skip ?_)
      refine J_draw0 (l := [⟨0, []⟩, ⟨1, []⟩, ⟨2, []⟩, ⟨3, []⟩, ⟨4, []⟩, ⟨5, []⟩, ⟨6, []⟩, ⟨7, []⟩]) (by kernel_rfl) ?_
      repeat (first
       | refine P0_nil ?_
       | refine P0_cons rfl (S_field0 rfl rfl rfl rfl rfl rfl rfl rfl rfl ?_)
       | refine P0_cons rfl (S_pure (v := .int _ _) rfl rfl rfl rfl (fun _ => rfl) ?_)
       | refine P0_cons rfl (S_pure (v := .nptr _ _) rfl rfl rfl rfl (fun _ => rfl) ?_)
       | refine P0_cons rfl (S_pure (v := .nslc _ _ _ _) rfl rfl rfl rfl (fun _ => rfl) ?_)
       | refine P0_cons rfl (S_load 0 rfl rfl rfl rfl rfl rfl rfl rfl rfl rfl ?_))
      repeat (refine J_ret ?_)
      exact end_tmp (v := .tup _) (.inr rfl) (fun _ => rfl) fun H' hh => ⟨_, .inl ⟨_, k, _, h1, by rw [Nat.zero_add]; rfl, h2'⟩, hh.drop (List.sublist_cons_self _ _)⟩
  · skip
    repeat (first
     | refine J_seq ?_
     | refine J_region ?_
     | refine O_nil ?_
     | refine O_cons (S_field0 rfl rfl rfl rfl rfl rfl rfl rfl rfl ?_)
     | refine O_cons (S_pure (v := .bool _) rfl rfl rfl rfl (fun _ => rfl) ?_)
     | refine O_cons (S_pure (v := .nptr _ _) rfl rfl rfl rfl (fun _ => rfl) ?_)
     | refine O_cons (S_pure (v := .raw _) rfl rfl rfl rfl (fun _ => rfl) ?_)
     | refine O_cons (S_load 0 rfl rfl rfl rfl rfl rfl rfl rfl rfl rfl ?_))
    refine J_cond _ rfl (fun _ => ?_) (fun g => ?_)
    rotate_left
    · exact absurd (show (e : Int) = 0 by simpa using g) (by omega)
    repeat (refine J_seq ?_)
    refine J_draw0 (l := [⟨0, []⟩, ⟨1, []⟩, ⟨2, []⟩, ⟨3, []⟩, ⟨4, []⟩, ⟨5, []⟩, ⟨6, []⟩]) (by kernel_rfl) ?_
    repeat (first
     | refine P0_nil ?_
     | refine P0_cons rfl (S_field0 rfl rfl rfl rfl rfl rfl rfl rfl rfl ?_)
     | refine P0_cons rfl (S_pure (v := .int _ _) rfl rfl rfl rfl (fun _ => rfl) ?_)
     | refine P0_cons rfl (S_pure (v := .nptr _ _) rfl rfl rfl rfl (fun _ => rfl) ?_)
     | refine P0_cons rfl (S_pure (v := .raw _) rfl rfl rfl rfl (fun _ => rfl) ?_)
     | refine P0_cons rfl (S_load 0 rfl rfl rfl rfl rfl rfl rfl rfl rfl rfl ?_))
    repeat (refine J_ret ?_)
    exact end_tmp (v := .tup _) (.inr rfl) (fun _ => rfl) fun H' hh => ⟨[], .inr ⟨h1, rfl, e, h2, rfl⟩, hh.drop (by simp)⟩
end Go.Proofs.Aw
