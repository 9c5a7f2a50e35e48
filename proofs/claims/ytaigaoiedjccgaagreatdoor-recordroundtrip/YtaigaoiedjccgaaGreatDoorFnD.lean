/-
  What some of the program functions compute, walked once. For the arguments that each theorem names.
-/
import Derived.Test.YtaigaoiedjccgaaGreatDoorFnC
import Derived.Test.YtaigaoiedjccgaaGreatDoorPlA
import Derived.Test.YtaigaoiedjccgaaGreatDoorSyC
set_option linter.unusedVariables false
set_option linter.unusedSimpArgs false

set_option maxRecDepth 100000
set_option maxHeartbeats 4000000
namespace Go.Proofs.Aw
open Go Go.Ev
variable {old : Nat → Nat → Option AV}

abbrev smsO (i : Nat) (a b : Int) : AObj := .row [.int .i64 a, .int .i64 b] i 0 false false 0 166 true false
abbrev sms (i : Nat) (p : Nat × Nat) : Slot := ⟨i, true, false, smsO i p.1 p.2⟩

theorem c_add {T : List Entry} (hT : hasF 75 T = false) (i : Nat) (p : Nat × Nat) (c : UInt8) (hp : smallP p) (H : AH) (hH : Wf H) (hi : SlotOk H [i] H (sms i p)) :
    Con T (CX old) MM 1 (.fn 75) [.nptr i 0, .int .u8 c.toNat] H (fun v H' => v = .tup [] ∧ Fr H [i] H' ∧ SlotOk H [i] H' (sms i (addB p c))) := by
  obtain ⟨a, b⟩ := p
  obtain ⟨ha, hb⟩ := hp
  have hc : c.toNat < 256 := UInt8.toNat_lt c
  simp only at ha hb
  refine con_fn (nt := 28) [i] [sms i (a, b)] hT Tryz.func75 rfl rfl rfl (Hs.one hH hi) fun k hk => ?_
  repeat (first
   | refine J_seq ?_
   | refine J_region ?_
   | refine O_nil ?_
   | refine O_cons (S_field0 rfl rfl rfl rfl rfl rfl rfl rfl rfl ?_)
   | refine O_cons (S_pure (v := .int _ _) rfl rfl rfl rfl (fun _ => rfl) ?_)
   | refine O_cons (S_pure (v := .nptr _ _) rfl rfl rfl rfl (fun _ => rfl) ?_)
   | refine O_cons (S_load 0 rfl rfl rfl rfl rfl rfl rfl rfl rfl rfl ?_)
   | refine O_cons (S_store1 0 (v := .int _ _) rfl rfl rfl rfl rfl rfl rfl rfl rfl rfl rfl ?_))
  refine J_draw0 (l := [⟨0, []⟩, ⟨1, []⟩, ⟨2, []⟩, ⟨3, []⟩, ⟨4, []⟩, ⟨5, []⟩, ⟨6, []⟩, ⟨7, []⟩, ⟨8, []⟩, ⟨9, []⟩, ⟨10, []⟩, ⟨11, []⟩, ⟨12, []⟩, ⟨13, []⟩]) (by kernel_rfl) ?_
  repeat (first
   | refine P0_nil ?_
   | refine P0_cons rfl (S_field0 rfl rfl rfl rfl rfl rfl rfl rfl rfl ?_)
   | refine P0_cons rfl (S_pure (v := .int _ _) rfl rfl rfl rfl (fun _ => rfl) ?_)
   | refine P0_cons rfl (S_pure (v := .nptr _ _) rfl rfl rfl rfl (fun _ => rfl) ?_)
   | refine P0_cons rfl (S_load 0 rfl rfl rfl rfl rfl rfl rfl rfl rfl rfl ?_)
   | refine P0_cons rfl (S_store1 0 (v := .int _ _) rfl rfl rfl rfl rfl rfl rfl rfl rfl rfl rfl ?_))
  refine end_tmp (v := .tup _) (.inl rfl) (fun _ => rfl) fun H' h => ⟨rfl, h.fr, ?_⟩
  have hh := h.ok _ (List.mem_cons_self ..)
  have e1 : wrapF .i64 ((a : Int) + wrapF .i64 (c.toNat : Int)) = ((a + c.toNat : Nat) : Int) := by
    rw [wrap_u8, wrap_small (by omega) (by omega)]; rfl
  have e2 : (wrapF .i64 ((a : Int) + wrapF .i64 (c.toNat : Int))).tmod 65521 = (((a + c.toNat) % 65521 : Nat) : Int) := by rw [e1]; rfl
  have hlt := Nat.mod_lt (a + c.toNat) (show 0 < 65521 by decide)
  have e3 : (wrapF .i64 ((b : Int) + (wrapF .i64 ((a : Int) + wrapF .i64 (c.toNat : Int))).tmod 65521)).tmod 65521 = (((b + (a + c.toNat) % 65521) % 65521 : Nat) : Int) := by
    rw [e2, wrap_small (by omega) (by omega)]; rfl
  show SlotOk H [i] H' ⟨i, true, false, smsO i (((a + c.toNat) % 65521 : Nat) : Int) (((b + (a + c.toNat) % 65521) % 65521 : Nat) : Int)⟩
  rw [← e3, ← e2]
  exact hh

theorem c_value {T : List Entry} (hT : hasF 76 T = false) (p : Nat × Nat) (hp : smallP p) (H : AH) (hH : Wf H) :
    Con T (CX old) MM 1 (.fn 76) [.agg [.int .i64 p.1, .int .i64 p.2]] H (fun v H' => v = .int .i64 ((p.2 * 65536 + p.1 : Nat) : Int) ∧ Fr H [] H') := by
  obtain ⟨a, b⟩ := p
  obtain ⟨ha, hb⟩ := hp
  simp only at ha hb
  refine con_fn (nt := 9) [] [] hT Tryz.func76 rfl rfl rfl (Hs.start hH) fun k hk => ?_
  repeat (first
   | refine J_seq ?_
   | refine J_region ?_)
  refine O_cons (S_box (v := .agg [.int .i64 a, .int .i64 b]) rfl rfl rfl rfl rfl rfl fun i => ?_)
  repeat (first
   | refine J_seq ?_
   | refine J_region ?_
   | refine O_nil ?_
   | refine J_ret ?_
   | refine O_cons (S_field0 rfl rfl rfl rfl rfl rfl rfl rfl rfl ?_)
   | refine O_cons (S_pure (v := .int _ _) rfl rfl rfl rfl (fun _ => rfl) ?_)
   | refine O_cons (S_load 0 rfl rfl rfl rfl rfl rfl rfl rfl rfl rfl ?_))
  refine end_tmp (v := .int _ _) (.inr rfl) (fun _ => rfl) fun H' h => ⟨?_, h.fr⟩
  show AV.int .i64 (wrapF .i64 (wrapF .i64 ((b : Int) * 65536) + (a : Int))) = _
  rw [wrap_small (n := (b : Int) * 65536) (by omega) (by omega), wrap_small (by omega) (by omega)]
  rfl

theorem c_each {T : List Entry} (hTe : hasF 74 T = false) (hT : hasF 75 T = false) (i : Nat) (p : Nat × Nat) (s : List UInt8) (hs : s.length < 1000000) (hp : smallP p) (H : AH) (hH : Wf H) (hi : SlotOk H [i] H (sms i p)) :
    Con T (CX old) MM 2 (.fn 74) [.str s, .func (.func 75) [.nptr i 0] []] H (fun v H' => v = .tup [] ∧ Fr H [i] H' ∧ SlotOk H [i] H' (sms i (sumsOf s p))) := by
  refine con_fn (nt := 16) [i] [sms i p] hTe Tryz.func74 rfl rfl rfl (Hs.one hH hi) fun N hN => ?_
  repeat (first
   | refine J_seq ?_
   | refine J_region ?_
   | refine O_nil ?_
   | refine J_block ?_
   | refine O_cons (S_pure (v := .int _ _) rfl rfl rfl rfl (fun _ => rfl) ?_)
   | refine O_cons (S_pure (v := .str _) rfl rfl rfl rfl (fun _ => rfl) ?_))
  refine J_loop (fun r f L df => df = [] ∧ ∃ k, r + k = s.length ∧ f 0 = .str s ∧ f 1 = .func (.func 75) [.nptr i 0] [] ∧ f 6 = .int .i64 (s.length : Int) ∧ f 7 = .int .i64 (k : Int) ∧ L = [sms i (sumsOf (s.take k) p)]) s.length hs ⟨rfl, 0, rfl, rfl, rfl, rfl, rfl, rfl⟩ fun r f L df hI => ?_
  obtain ⟨rfl, k, hr, q0, q1, q6, q7, rfl⟩ := hI
  obtain ⟨g, rfl⟩ := upd4 q0 q1 q6 q7
  clear q0 q1 q6 q7
  repeat (first
   | refine J_seq ?_
   | refine J_region ?_
   | refine O_nil ?_
   | refine O_cons (S_pure (v := .bool _) rfl rfl rfl rfl (fun _ => rfl) ?_))
  refine J_cond _ rfl (fun hc => ?_) (fun hc => ?_)
  · have hlt : k < s.length := by have := of_decide_eq_true hc; omega
    have hg : s[k]? = some s[k] := by simp [hlt]
    obtain ⟨r, rfl⟩ : ∃ r', r = r' + 1 := ⟨r - 1, by omega⟩
    repeat (first
     | refine J_seq ?_
     | refine J_region ?_
     | refine J_skip ?_
     | refine O_nil ?_
     | refine J_block ?_
     | refine O_cons (S_pure (v := .int _ _) rfl rfl rfl rfl (fun _ => rfl) ?_)
     | refine O_cons (S_pure (v := .str _) rfl rfl rfl rfl (fun _ => rfl) ?_)
     | refine O_cons (S_pure (v := .func _ _ _) rfl rfl rfl rfl (fun _ => rfl) ?_))
    refine O_cons (S_index rfl rfl rfl rfl rfl rfl rfl rfl hg ?_)
    have hsm := sums_small (s.take k) p hp
    refine O_cons (S_callM 0 (v := .tup []) (ob' := smsO i (addB (sumsOf (s.take k) p) s[k]).1 (addB (sumsOf (s.take k) p) s[k]).2) rfl rfl rfl rfl (fun _ => rfl) rfl (fun H hw hs' => c_add hT i (sumsOf (s.take k) p) s[k] hsm H hw hs' N (by omega)) rfl ?_)
    repeat (first
     | refine J_region ?_
     | refine O_nil ?_
     | refine O_cons (S_pure (v := .int _ _) rfl rfl rfl rfl (fun _ => rfl) ?_))
    refine ⟨r, rfl, rfl, k + 1, by omega, rfl, rfl, rfl, ?_, ?_⟩
    · show AV.int .i64 (wrapF .i64 ((k : Int) + 1)) = _
      rw [wrap_small (by omega) (by omega)]; rfl
    · rw [sums_take s k _ p hg]; rfl
  · have hlt : ¬ k < s.length := by have := of_decide_eq_false hc; omega
    have hk : k = s.length := by omega
    subst hk
    repeat (refine J_exit ?_)
    refine end_tmp (v := .tup _) (.inl rfl) (fun _ => rfl) fun H' h => ⟨rfl, h.fr, ?_⟩
    have hh := h.ok _ (List.mem_cons_self ..)
    rw [List.take_length] at hh
    exact hh

theorem c_Sum {T : List Entry} (hTS : hasF 37 T = false) (hTe : hasF 74 T = false) (hT : hasF 75 T = false) (hTv : hasF 76 T = false) (s : List UInt8) (hs : s.length < 1000000) (H : AH) (hH : Wf H) :
    Con T (CX old) MM 3 (.fn 37) [.str s] H (fun v H' => v = .int .i64 (sumN s : Int) ∧ Fr H [] H') := by
  refine con_fn (nt := 10) [] [] hTS Tryz.func37 rfl rfl rfl (Hs.start hH) fun N hN => ?_
  repeat (first
   | refine J_seq ?_
   | refine J_region ?_
   | refine O_nil ?_
   | refine O_cons (S_pure (v := .int _ _) rfl rfl rfl rfl (fun _ => rfl) ?_)
   | refine O_cons (S_pure (v := .agg _) rfl rfl rfl rfl (fun _ => rfl) ?_))
  refine O_cons (S_alloc rfl rfl rfl rfl rfl (z := [.int .i64 0, .int .i64 0]) rfl fun i => ?_)
  repeat (first
   | refine J_seq ?_
   | refine J_region ?_
   | refine O_nil ?_
   | refine O_cons (S_pure (v := .str _) rfl rfl rfl rfl (fun _ => rfl) ?_)
   | refine O_cons (S_pure (v := .func _ _ _) rfl rfl rfl rfl (fun _ => rfl) ?_)
   | refine O_cons (S_storeW 0 rfl rfl rfl rfl rfl rfl rfl rfl rfl rfl ?_))
  refine O_cons (S_callM 0 (v := .tup []) (ob' := smsO i (sumsOf s (1, 0)).1 (sumsOf s (1, 0)).2) rfl rfl rfl rfl (fun _ => rfl) rfl (fun H hw hs' => c_each hTe hT i (1, 0) s hs ⟨by decide, by decide⟩ H hw hs' N (by omega)) rfl ?_)
  repeat (first
   | refine J_seq ?_
   | refine J_region ?_
   | refine O_nil ?_
   | refine O_cons (S_loadA 0 rfl rfl rfl rfl rfl rfl rfl rfl rfl rfl ?_))
  refine O_cons (S_call (v := .int .i64 (sumN s : Int)) rfl rfl rfl rfl (fun _ => rfl) (fun H' h => c_value hTv (sumsOf s (1, 0)) (sums_small s (1, 0) ⟨by decide, by decide⟩) H' h.wf N (by omega)) ?_)
  repeat (first
   | refine O_nil ?_
   | refine J_ret ?_
   | refine O_cons (S_pure (v := .int _ _) rfl rfl rfl rfl (fun _ => rfl) ?_))
  exact end_tmp (v := .int _ _) (.inr rfl) (fun _ => rfl) fun H' h => ⟨rfl, h.fr⟩

theorem c_bytes {T : List Entry} (hT : hasF 36 T = false) (n : Nat) (H : AH) (hH : Wf H) :
    Con T (CX old) MM 1 (.fn 36) [.int .i64 (n : Int)] H (fun v H' => v = .agg (bytesV (sumB n)) ∧ Fr H [] H') := by
  refine con_fn (nt := 15) [] [] hT Tryz.func36 rfl rfl rfl (Hs.start hH) fun N hN => ?_
  repeat (first
   | refine J_seq ?_
   | refine J_region ?_)
  refine O_cons (S_alloc rfl rfl rfl rfl rfl (z := [.int .u8 0, .int .u8 0, .int .u8 0, .int .u8 0]) rfl fun i => ?_)
  repeat (first
   | refine J_seq ?_
   | refine J_region ?_
   | refine O_nil ?_
   | refine J_ret ?_
   | refine O_cons (S_pure (v := .int _ _) rfl rfl rfl rfl (fun _ => rfl) ?_)
   | refine O_cons (S_pure (v := .agg _) rfl rfl rfl rfl (fun _ => rfl) ?_)
   | refine O_cons (S_storeW 0 rfl rfl rfl rfl rfl rfl rfl rfl rfl rfl ?_))
  have e0 : ∀ k j : Nat, k = 2 ^ j → AV.int .u8 (wrapF .u8 ((n : Int).fdiv ((2 ^ j : Nat) : Int))) = AV.int .u8 ((UInt8.ofNat (n / k)).toNat : Int) := by
    rintro k j rfl
    rw [← u8_ofNat, Int.ofNat_fdiv]
  have e1 : AV.int .u8 (wrapF .u8 ((n : Int).fdiv ((2 ^ min (Int.toNat 24) IntKind.i64.bits : Nat) : Int))) = AV.int .u8 ((UInt8.ofNat (n / 16777216)).toNat : Int) := e0 16777216 24 rfl
  have e2 : AV.int .u8 (wrapF .u8 ((n : Int).fdiv ((2 ^ min (Int.toNat 16) IntKind.i64.bits : Nat) : Int))) = AV.int .u8 ((UInt8.ofNat (n / 65536)).toNat : Int) := e0 65536 16 rfl
  have e3 : AV.int .u8 (wrapF .u8 ((n : Int).fdiv ((2 ^ min (Int.toNat 8) IntKind.i64.bits : Nat) : Int))) = AV.int .u8 ((UInt8.ofNat (n / 256)).toNat : Int) := e0 256 8 rfl
  have e4 : AV.int .u8 (wrapF .u8 (n : Int)) = AV.int .u8 ((UInt8.ofNat n).toNat : Int) := u8_ofNat n
  rw [e1, e2, e3, e4]
  refine end_read (v := .agg (bytesV (sumB n))) (.inr rfl) (fun H' hH' => ?_) fun H' h => ⟨rfl, h.fr⟩
  have hc : H'.cells i = some (bytesV (sumB n)) := hH'.cells (p := 0) rfl
  exact res_agg (t := 2) (ty := 89) (i := i) rfl rfl rfl rfl hc rfl
end Go.Proofs.Aw

set_option maxRecDepth 100000
set_option maxHeartbeats 4000000
namespace Go.Proofs.Aw
open Go Go.Ev
variable {old : Nat → Nat → Option AV}

theorem c_Seal {T : List Entry} (hTs : hasF 41 T = false) (hTb : hasF 36 T = false) (hTS : hasF 37 T = false) (hTe : hasF 74 T = false) (hTa : hasF 75 T = false) (hTv : hasF 76 T = false) (hTI : hasF 45 T = false) (hT0 : hasF 83 T = false) (hT1 : hasF 84 T = false) (hT2 : hasF 155 T = false) (hT3 : hasF 284 T = false) (s : List UInt8) (hs : s.length ≤ 100000) (H : AH) (hH : Wf H) :
    Con T (CX old) MM 6 (.fn 41) [.str s] H (fun v H' => v = .tup [.str (sealB s), .int .i64 0] ∧ Fr H [] H') := by
  have hl := encInt_len (s.length : Int)
  have hfit : fitsI (s.length : Int) := ⟨by omega, by omega⟩
  refine con_fn (nt := 30) [] [] hTs Tryz.func41 rfl rfl rfl (Hs.start hH) fun N hN => ?_
  repeat (first
   | refine J_seq ?_
   | refine J_region ?_
   | refine O_nil ?_
   | refine O_cons (S_pure (v := .int _ _) rfl rfl rfl rfl (fun _ => rfl) ?_)
   | refine O_cons (S_pure (v := .bool _) rfl rfl rfl rfl (fun _ => rfl) ?_)
   | refine O_cons (S_pure (v := .str _) rfl rfl rfl rfl (fun _ => rfl) ?_))
  refine J_cond _ rfl (fun hc => absurd (show (100000 : Int) < s.length from of_decide_eq_true hc) (by omega)) (fun _ => ?_)
  repeat (first
   | refine J_seq ?_
   | refine J_region ?_
   | refine J_skip ?_
   | refine O_cons (S_pure (v := .int _ _) rfl rfl rfl rfl (fun _ => rfl) ?_)
   | refine O_cons (S_pure (v := .str _) rfl rfl rfl rfl (fun _ => rfl) ?_))
  refine O_cons (S_call (v := .tup [.str (encInt s.length), .int .i64 0]) rfl rfl rfl rfl (fun _ => rfl) (fun H' h => by
    have := c_Int (old := old) hTI hT0 hT1 hT2 hT3 (s.length : Int) H' h.wf N (by omega)
    rw [if_pos hfit] at this
    exact this) ?_)
  repeat (first
   | refine J_seq ?_
   | refine J_region ?_
   | refine O_nil ?_
   | refine O_cons (S_pure (v := .int _ _) rfl rfl rfl rfl (fun _ => rfl) ?_)
   | refine O_cons (S_pure (v := .bool _) rfl rfl rfl rfl (fun _ => rfl) ?_)
   | refine O_cons (S_pure (v := .str _) rfl rfl rfl rfl (fun _ => rfl) ?_)
   | refine O_cons (S_pure (v := .tup _) rfl rfl rfl rfl (fun _ => rfl) ?_))
  refine J_condF rfl ?_
  repeat (first
   | refine J_seq ?_
   | refine J_region ?_
   | refine J_skip ?_
   | refine O_cons (S_pure (v := .str _) rfl rfl rfl rfl (fun _ => rfl) ?_))
  refine O_cons (S_bin (a := .str (encInt s.length)) (b := .str s) (v := .str (encInt s.length ++ s)) rfl rfl rfl rfl rfl rfl rfl (str_cat (by omega)) ?_)
  skip
  refine O_cons (S_call (v := .int .i64 (sumN (encInt s.length ++ s) : Int)) rfl rfl rfl rfl (fun _ => rfl) (fun H' h => c_Sum hTS hTe hTa hTv (encInt s.length ++ s) (by simp; omega) H' h.wf N (by omega)) ?_)
  refine O_cons (S_call (v := .agg (bytesV (sumB (sumN (encInt s.length ++ s))))) rfl rfl rfl rfl (fun _ => rfl) (fun H' h => c_bytes hTb (sumN (encInt s.length ++ s)) H' h.wf N (by omega)) ?_)
  generalize hsm : sumB (sumN (encInt s.length ++ s)) = tl
  have htl : tl.length = 4 := by rw [← hsm]; rfl
  refine O_cons (S_alloc rfl rfl rfl rfl rfl (z := [.int .u8 0, .int .u8 0, .int .u8 0, .int .u8 0]) rfl fun i => ?_)
  have hcell : (bytesV tl).all AV.isCell = true := by simp [bytesV, AV.isCell]
  refine O_cons (S_storeW 0 rfl rfl rfl rfl rfl rfl rfl rfl (show (Nat.beq (bytesV tl).length 4 && (bytesV tl).all AV.isCell) = true by rw [hcell]; simp [bytesV, htl]) (show Nat.beq (bytesV tl).length 4 = true by simp [bytesV, htl]) ?_)
  repeat (first
   | refine J_seq ?_
   | refine J_region ?_
   | refine O_nil ?_
   | refine O_cons (S_pure (v := .str _) rfl rfl rfl rfl (fun _ => rfl) ?_))
  refine O_cons (S_bin (a := .str (encInt s.length)) (b := .str s) (v := .str (encInt s.length ++ s)) rfl rfl rfl rfl rfl rfl rfl (str_cat (by omega)) ?_)
  repeat (refine O_cons (S_pure (v := .nslc _ _ _ _) rfl rfl rfl rfl (fun _ => rfl) ?_))
  refine O_cons (S_bytesStr 0 rfl rfl rfl rfl rfl rfl rfl rfl rfl rfl htl ?_)
  refine O_cons (S_bin (a := .str (encInt s.length ++ s)) (b := .str tl) (v := .str (encInt s.length ++ s ++ tl)) rfl rfl rfl rfl rfl rfl rfl (str_cat (by simp; omega)) ?_)
  repeat (first
   | refine O_nil ?_
   | refine J_ret ?_
   | refine O_cons (S_pure (v := .int _ _) rfl rfl rfl rfl (fun _ => rfl) ?_)
   | refine O_cons (S_pure (v := .str _) rfl rfl rfl rfl (fun _ => rfl) ?_))
  refine end_tmp (v := .tup _) (.inr rfl) (fun _ => rfl) fun H' h => ⟨?_, h.fr⟩
  show AV.tup [.str (encInt s.length ++ s ++ tl), .int .i64 0] = _
  rw [← hsm]
  rfl
end Go.Proofs.Aw

set_option maxRecDepth 100000
set_option maxHeartbeats 4000000
namespace Go.Proofs.Aw
open Go Go.Ev
variable {old : Nat → Nat → Option AV}

theorem neq_arr4 {a b : List UInt8} (ha : a.length = 4) (hb : b.length = 4) (cx cy : Bool) : binF (CX old) .neq 89 cx cy (.agg (bytesV a)) (.agg (bytesV b)) = some (.bool (!(a == b))) := by
  have h := eqElems_bytes a b (by omega)
  rw [ha] at h
  show (eqAgg (CX old).P 89 (bytesV a) (bytesV b)).map (fun r => AV.bool !r) = _
  have e : eqAgg (CX old).P 89 (bytesV a) (bytesV b) = eqElems (some (.int .u8)) 4 (bytesV a) (bytesV b) := rfl
  rw [e, h]
  rfl

theorem c_Open {T : List Entry} (hTo : hasF 12 T = false) (hTb : hasF 36 T = false) (hTS : hasF 37 T = false) (hTe : hasF 74 T = false) (hTa : hasF 75 T = false) (hTv : hasF 76 T = false) (hTR : hasF 35 T = false) (hT : hasF 73 T = false) (hT0 : hasF 141 T = false) (hT1 : hasF 84 T = false) (hT2 : hasF 155 T = false) (hT3 : hasF 284 T = false) (hT4 : hasF 142 T = false) (s : List UInt8) (hs : s.length < 1000000) (H : AH) (hH : Wf H) :
    Con T (CX old) MM 7 (.fn 12) [.str s] H (fun v H' => ((∃ t k, openB s = some (t, k) ∧ v = .tup [.str t, .int .i64 (k : Nat), .int .i64 0]) ∨ (openB s = none ∧ ∃ e : Nat, e ≠ 0 ∧ v = .tup [.str [], .int .i64 0, .int .i64 e])) ∧ Fr H [] H') := by
  refine con_fn (nt := 52) [] [] hTo Tryz.func12 rfl rfl rfl (Hs.start hH) fun N hN => ?_
  repeat (first
   | refine J_seq ?_
   | refine J_region ?_
   | refine O_nil ?_
   | refine O_cons (S_pure (v := .int _ _) rfl rfl rfl rfl (fun _ => rfl) ?_)
   | refine O_cons (S_pure (v := .str _) rfl rfl rfl rfl (fun _ => rfl) ?_))
  refine O_cons (S_callV _ rfl rfl rfl rfl (fun _ => rfl) (fun H' hw => c_ReadInt hTR hT hT0 hT1 hT2 hT3 hT4 s hs H' hw N (by omega)) fun v hv => ?_)
  rcases hv with ⟨n, k, hd, rfl⟩ | ⟨hd, e, he, rfl⟩
  rotate_left
  · skip
    repeat (first
     | refine J_seq ?_
     | refine J_region ?_
     | refine O_nil ?_
     | refine O_cons (S_pure (v := .int _ _) rfl rfl rfl rfl (fun _ => rfl) ?_)
     | refine O_cons (S_pure (v := .bool _) rfl rfl rfl rfl (fun _ => rfl) ?_)
     | refine O_cons (S_pure (v := .tup _) rfl rfl rfl rfl (fun _ => rfl) ?_))
    refine J_cond _ rfl (fun _ => ?_) (fun g => absurd (show (e : Int) = 0 by simpa using g) (by omega))
    repeat (first
     | refine J_seq ?_
     | refine J_region ?_
     | refine O_nil ?_
     | refine J_ret ?_
     | refine O_cons (S_pure (v := .int _ _) rfl rfl rfl rfl (fun _ => rfl) ?_)
     | refine O_cons (S_pure (v := .str _) rfl rfl rfl rfl (fun _ => rfl) ?_))
    exact end_tmp (v := .tup _) (.inr rfl) (fun _ => rfl) fun H' h => ⟨.inr ⟨by simp only [openB, hd], e, he, rfl⟩, h.fr⟩
  obtain ⟨a1, a2, a3, a4⟩ := decI_some hd
  repeat (first
   | refine J_seq ?_
   | refine J_region ?_
   | refine O_nil ?_
   | refine O_cons (S_pure (v := .int _ _) rfl rfl rfl rfl (fun _ => rfl) ?_)
   | refine O_cons (S_pure (v := .bool _) rfl rfl rfl rfl (fun _ => rfl) ?_)
   | refine O_cons (S_pure (v := .tup _) rfl rfl rfl rfl (fun _ => rfl) ?_))
  refine J_condF rfl ?_
  repeat (first
   | refine J_seq ?_
   | refine J_region ?_
   | refine J_skip ?_
   | refine O_cons (S_pure (v := .int _ _) rfl rfl rfl rfl (fun _ => rfl) ?_)
   | refine O_cons (S_pure (v := .bool _) rfl rfl rfl rfl (fun _ => rfl) ?_))
  refine O_guard rfl rfl rfl (fun g1 => ?_) (fun g1 => ?_)
  · have g1' : n < 0 := of_decide_eq_true g1
    repeat (first
     | refine O_nil ?_
     | refine O_cons (S_pure (v := .bool _) rfl rfl rfl rfl (fun _ => rfl) ?_)
     | refine O_cons (S_off rfl rfl rfl rfl ?_))
    refine J_condT rfl ?_
    repeat (first
     | refine J_seq ?_
     | refine J_region ?_
     | refine O_nil ?_
     | refine J_ret ?_
     | refine O_cons (S_pure (v := .int _ _) rfl rfl rfl rfl (fun _ => rfl) ?_)
     | refine O_cons (S_pure (v := .str _) rfl rfl rfl rfl (fun _ => rfl) ?_))
    exact end_tmp (v := .tup _) (.inr rfl) (fun _ => rfl) fun H' h => ⟨.inr ⟨by simp only [openB, hd]; rw [if_pos (.inl g1')], 12, by decide, rfl⟩, h.fr⟩
  have g1' : ¬ n < 0 := of_decide_eq_false g1
  repeat (first
   | refine O_nil ?_
   | refine O_cons (S_pure (v := .int _ _) rfl rfl rfl rfl (fun _ => rfl) ?_)
   | refine O_cons (S_pure (v := .bool _) rfl rfl rfl rfl (fun _ => rfl) ?_))
  refine J_cond _ rfl (fun g2 => ?_) (fun g2 => ?_)
  · have g2' : 100000 < n := of_decide_eq_true g2
    repeat (first
     | refine J_seq ?_
     | refine J_region ?_
     | refine O_nil ?_
     | refine J_ret ?_
     | refine O_cons (S_pure (v := .int _ _) rfl rfl rfl rfl (fun _ => rfl) ?_)
     | refine O_cons (S_pure (v := .str _) rfl rfl rfl rfl (fun _ => rfl) ?_))
    exact end_tmp (v := .tup _) (.inr rfl) (fun _ => rfl) fun H' h => ⟨.inr ⟨by simp only [openB, hd]; rw [if_pos (.inr g2')], 12, by decide, rfl⟩, h.fr⟩
  have g2' : ¬ 100000 < n := of_decide_eq_false g2
  obtain ⟨m, rfl⟩ : ∃ m : Nat, n = (m : Int) := ⟨n.toNat, by omega⟩
  clear g1 g2
  refine J_abs (fun f' => f' 0 = .str s ∧ f' 5 = .int .i64 (m : Int) ∧ f' 6 = .int .i64 (k : Int)) ⟨rfl, rfl, rfl⟩ fun f' hM => ?_
  obtain ⟨q0, q5, q6⟩ := hM
  obtain ⟨g, rfl⟩ := upd3 q0 q5 q6
  clear q0 q5 q6
  have e1 : wrapF .i64 ((k : Int) + (m : Int)) = ((k + m : Nat) : Int) := by rw [wrap_small (by omega) (by omega)]; rfl
  have e2 : wrapF .i64 (((k + m : Nat) : Int) + 4) = ((k + m + 4 : Nat) : Int) := by rw [wrap_small (by omega) (by omega)]; rfl
  refine J_skip ?_
  repeat (first
   | refine J_seq ?_
   | refine J_region ?_
   | refine O_nil ?_
   | refine O_cons (S_pure (v := .int _ _) rfl rfl rfl rfl (fun _ => rfl) ?_)
   | refine O_cons (S_pure (v := .bool _) rfl rfl rfl rfl (fun _ => rfl) ?_)
   | refine O_cons (S_pure (v := .str _) rfl rfl rfl rfl (fun _ => rfl) ?_))
  rw [e1, e2]
  refine J_cond _ rfl (fun g3 => ?_) (fun g3 => ?_)
  · have g3' : s.length < k + m + 4 := by have := of_decide_eq_true g3; omega
    repeat (first
     | refine J_seq ?_
     | refine J_region ?_
     | refine O_nil ?_
     | refine J_ret ?_
     | refine O_cons (S_pure (v := .int _ _) rfl rfl rfl rfl (fun _ => rfl) ?_)
     | refine O_cons (S_pure (v := .str _) rfl rfl rfl rfl (fun _ => rfl) ?_))
    exact end_tmp (v := .tup _) (.inr rfl) (fun _ => rfl) fun H' h => ⟨.inr ⟨by simp only [openB, hd, Int.toNat_natCast]; rw [if_neg (by omega), if_pos g3'], 11, by decide, rfl⟩, h.fr⟩
  have g3' : ¬ s.length < k + m + 4 := by have := of_decide_eq_false g3; omega
  clear g3
  refine J_abs (fun f' => f' 0 = .str s ∧ f' 6 = .int .i64 (k : Int) ∧ f' 8 = .int .i64 ((k + m : Nat) : Int)) ⟨rfl, rfl, rfl⟩ fun f' hM => ?_
  obtain ⟨q0, q6, q8⟩ := hM
  obtain ⟨g, rfl⟩ := upd3 q0 q6 q8
  clear q0 q6 q8
  have h4 : ((s.drop (k + m)).take (k + m + 4 - (k + m))).length = 4 := by simp; omega
  have h4' : (s.drop (k + m)).take (k + m + 4 - (k + m)) = (s.drop (k + m)).take 4 := by rw [show k + m + 4 - (k + m) = 4 by omega]
  repeat (first
   | refine J_seq ?_
   | refine J_skip ?_)
  refine J_draw (l := [⟨0, []⟩, ⟨1, []⟩, ⟨2, []⟩, ⟨3, []⟩, ⟨4, []⟩, ⟨5, []⟩, ⟨6, []⟩, ⟨7, []⟩, ⟨8, []⟩, ⟨9, []⟩, ⟨10, []⟩, ⟨11, [7, 4]⟩, ⟨12, [7, 4]⟩, ⟨13, []⟩]) (by kernel_rfl) ?_
  repeat (first
   | refine P_cons1 rfl rfl (S_pure (v := .int _ _) rfl rfl rfl rfl (fun _ => rfl) ?_)
   | refine P_cons1 rfl rfl (S_pure (v := .str _) rfl rfl rfl rfl (fun _ => rfl) ?_))
  rw [e2]
  refine P_cons2 rfl rfl rfl (S_sliceS rfl rfl rfl rfl rfl rfl rfl (bounds2 (a := k + m) (b := k + m + 4) (by omega) (by omega)) ?_)
  generalize htl : (s.drop (k + m)).take (k + m + 4 - (k + m)) = tl at *
  refine P_cons1 rfl rfl (S_strBytes rfl rfl rfl rfl rfl rfl rfl rfl rfl rfl rfl (by rintro rfl; cases h4) fun i => ?_)
  rw [h4]
  repeat (refine P_cons1 rfl rfl (S_pure (v := .nptr _ _) rfl rfl rfl rfl (fun _ => rfl) ?_))
  have hcell : slice (bytesV tl) 0 4 = some (bytesV tl) := by
    have : (4 : Nat) = (bytesV tl).length := by simp [bytesV, h4]
    rw [this]; exact slice_all _
  refine P_cons2 rfl rfl rfl (S_loadA 0 rfl rfl rfl rfl rfl rfl rfl rfl rfl (by exact hcell) ?_)
  repeat (first
   | refine P_cons1 rfl rfl (S_pure (v := .int _ _) rfl rfl rfl rfl (fun _ => rfl) ?_)
   | refine P_cons1 rfl rfl (S_pure (v := .str _) rfl rfl rfl rfl (fun _ => rfl) ?_))
  refine P_cons2 rfl rfl rfl (S_sliceS rfl rfl rfl rfl rfl rfl rfl (bounds_hi (b := k + m) (by omega)) ?_)
  refine P_consA1 rfl rfl (S_call (v := .int .i64 (sumN (s.take (k + m)) : Int)) rfl rfl rfl rfl (fun _ => rfl) (fun H' h => c_Sum hTS hTe hTa hTv (s.take (k + m)) (by simp; omega) H' h.wf N (by omega)) ⟨fun H' hH' => still_no rfl (still_loadA 0 rfl rfl rfl hH' rfl rfl rfl (by exact hcell) rfl (sames_bytes tl) (still_sliceS rfl rfl rfl rfl (bounds2 (a := k + m) (b := k + m + 4) (by omega) (by omega)) (by rw [htl]) still_done)), ?_⟩)
  refine P_consA1 rfl rfl (S_call (v := .agg (bytesV (sumB (sumN (s.take (k + m)))))) rfl rfl rfl rfl (fun _ => rfl) (fun H' h => c_bytes hTb (sumN (s.take (k + m))) H' h.wf N (by omega)) ⟨fun H' hH' => still_no rfl (still_loadA 0 rfl rfl rfl hH' rfl rfl rfl (by exact hcell) rfl (sames_bytes tl) (still_sliceS rfl rfl rfl rfl (bounds2 (a := k + m) (b := k + m + 4) (by omega) (by omega)) (by rw [htl]) still_done)), ?_⟩)
  refine P_cons1 rfl rfl (S_bin (a := .agg (bytesV tl)) (b := .agg (bytesV (sumB (sumN (s.take (k + m)))))) rfl rfl rfl rfl rfl rfl rfl (neq_arr4 h4 (sumB_len _) _ _) ?_)
  repeat (refine P_nil ?_)
  refine J_cond _ rfl (fun g4 => ?_) (fun g4 => ?_)
  · have g4' : ¬ tl = sumB (sumN (s.take (k + m))) := by simpa using g4
    repeat (first
     | refine J_seq ?_
     | refine J_region ?_
     | refine O_nil ?_
     | refine J_ret ?_
     | refine O_cons (S_pure (v := .int _ _) rfl rfl rfl rfl (fun _ => rfl) ?_)
     | refine O_cons (S_pure (v := .str _) rfl rfl rfl rfl (fun _ => rfl) ?_))
    exact end_tmp (v := .tup _) (.inr rfl) (fun _ => rfl) fun H' h => ⟨.inr ⟨by simp only [openB, hd, Int.toNat_natCast]; rw [if_neg (by omega), if_neg g3', ← h4', if_neg g4'], 13, by decide, rfl⟩, h.fr⟩
  · have g4' : tl = sumB (sumN (s.take (k + m))) := by simpa using g4
    repeat (first
     | refine J_seq ?_
     | refine J_region ?_
     | refine J_skip ?_
     | refine O_cons (S_pure (v := .int _ _) rfl rfl rfl rfl (fun _ => rfl) ?_)
     | refine O_cons (S_pure (v := .str _) rfl rfl rfl rfl (fun _ => rfl) ?_))
    refine O_cons (S_sliceS rfl rfl rfl rfl rfl rfl rfl (bounds2 (a := k) (b := k + m) (by omega) (by omega)) ?_)
    repeat (first
     | refine O_nil ?_
     | refine J_ret ?_
     | refine O_cons (S_pure (v := .int _ _) rfl rfl rfl rfl (fun _ => rfl) ?_)
     | refine O_cons (S_pure (v := .str _) rfl rfl rfl rfl (fun _ => rfl) ?_))
    rw [e2]
    refine end_tmp (v := .tup _) (.inr rfl) (fun _ => rfl) fun H' h => ⟨.inl ⟨(s.drop k).take m, k + m + 4, by simp only [openB, hd, Int.toNat_natCast]; rw [if_neg (by omega), if_neg g3', ← h4', if_pos g4'], ?_⟩, h.fr⟩
    show AV.tup [.str ((s.drop k).take (k + m - k)), .int .i64 ((k + m + 4 : Nat) : Int), .int .i64 0] = _
    rw [show k + m - k = m by omega]
end Go.Proofs.Aw
