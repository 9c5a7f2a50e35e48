/-
  What some of the program functions compute, walked once. For the arguments that each theorem names.
-/
import Derived.Test.YtaigaoiedjccgaaGreatDoorSyB
import Derived.Test.YtaigaoiedjccgaaGreatDoorAwA
import Derived.KernelRfl
import Derived.Test.YtaigaoiedjccgaaGreatDoorPlA
import Derived.Test.YtaigaoiedjccgaaGreatDoorSyC
set_option linter.unusedVariables false
set_option linter.unusedSimpArgs false

set_option maxRecDepth 100000
set_option maxHeartbeats 1000000
namespace Go.Proofs.Aw
open Go Go.Ev
variable {old : Nat → Nat → Option AV}

abbrev MM : Nat := 1000000

theorem c_fits {T : List Entry} (hT : hasF 83 T = false) (n : Int) (H : AH) (hH : Wf H) : Con T (CX old) MM 1 (.fn 83) [.int .i64 n] H (fun v H' => v = .bool (decide (-4611686018427387904 ≤ n) && decide (n ≤ 4611686018427387904)) ∧ Fr H [] H') := by
  refine con_fn (nt := 9) [] [] hT Tryz.func83 rfl rfl rfl (Hs.start hH) fun k _ => ?_
  repeat (first
   | refine J_seq ?_
   | refine J_region ?_
   | refine O_nil ?_
   | refine O_cons (S_pure (v := .int _ _) rfl rfl rfl rfl (fun _ => rfl) ?_)
   | refine O_cons (S_pure (v := .bool _) rfl rfl rfl rfl (fun _ => rfl) ?_))
  refine O_guard rfl rfl rfl (fun h1 => ?_) (fun h1 => ?_)
  · skip
    repeat (first
     | refine O_nil ?_
     | refine J_ret ?_
     | refine O_cons (S_pure (v := .int _ _) rfl rfl rfl rfl (fun _ => rfl) ?_)
     | refine O_cons (S_pure (v := .bool _) rfl rfl rfl rfl (fun _ => rfl) ?_))
    exact end_tmp (v := .bool _) (.inr rfl) (fun _ => rfl) fun H' h => ⟨by simp [h1], h.fr⟩
  · skip
    repeat (first
     | refine O_nil ?_
     | refine J_ret ?_
     | refine O_cons (S_pure (v := .bool _) rfl rfl rfl rfl (fun _ => rfl) ?_)
     | refine O_cons (S_off rfl rfl rfl rfl ?_))
    exact end_tmp (v := .bool _) (.inr rfl) (fun _ => rfl) fun H' h => ⟨by simp [h1], h.fr⟩

theorem c_isHash {T : List Entry} (hT : hasF 39 T = false) (n : Int) (H : AH) (hH : Wf H) : Con T (CX old) MM 1 (.fn 39) [.int .i64 n] H (fun v H' => v = .bool (decide (0 ≤ n) && decide (n < 1099511627776)) ∧ Fr H [] H') := by
  refine con_fn (nt := 9) [] [] hT Tryz.func39 rfl rfl rfl (Hs.start hH) fun k _ => ?_
  repeat (first
   | refine J_seq ?_
   | refine J_region ?_
   | refine O_nil ?_
   | refine O_cons (S_pure (v := .int _ _) rfl rfl rfl rfl (fun _ => rfl) ?_)
   | refine O_cons (S_pure (v := .bool _) rfl rfl rfl rfl (fun _ => rfl) ?_))
  refine O_guard rfl rfl rfl (fun h1 => ?_) (fun h1 => ?_)
  · skip
    repeat (first
     | refine O_nil ?_
     | refine J_ret ?_
     | refine O_cons (S_pure (v := .int _ _) rfl rfl rfl rfl (fun _ => rfl) ?_)
     | refine O_cons (S_pure (v := .bool _) rfl rfl rfl rfl (fun _ => rfl) ?_))
    exact end_tmp (v := .bool _) (.inr rfl) (fun _ => rfl) fun H' h => ⟨by simp [h1], h.fr⟩
  · skip
    repeat (first
     | refine O_nil ?_
     | refine J_ret ?_
     | refine O_cons (S_pure (v := .bool _) rfl rfl rfl rfl (fun _ => rfl) ?_)
     | refine O_cons (S_off rfl rfl rfl rfl ?_))
    exact end_tmp (v := .bool _) (.inr rfl) (fun _ => rfl) fun H' h => ⟨by simp [h1], h.fr⟩

/-- A reader of the codec: the text, the place, the error. -/
abbrev rdr (i : Nat) (s : List UInt8) (at_ err : Int) : Slot := ⟨i, true, false, .row [.str s, .int .i64 at_, .int .i64 err] i 0 false false 0 163 true false⟩

theorem c_rfail {T : List Entry} (hT : hasF 142 T = false) (i : Nat) (s : List UInt8) (p err e : Int) (H : AH) (hH : Wf H) (hi : SlotOk H [i] H (rdr i s p err)) :
    Con T (CX old) MM 1 (.fn 142) [.nptr i 0, .int .i64 e] H (fun v H' => v = .tup [] ∧ Fr H [i] H' ∧ SlotOk H [i] H' (rdr i s p (if err = 0 then e else err))) := by
  refine con_fn (nt := 13) [i] [rdr i s p err] hT Tryz.func142 rfl rfl rfl (Hs.one hH hi) fun k _ => ?_
  repeat (first
   | refine J_seq ?_
   | refine J_region ?_
   | refine O_nil ?_
   | refine O_cons (S_field0 rfl rfl rfl rfl rfl rfl rfl rfl rfl ?_)
   | refine O_cons (S_pure (v := .bool _) rfl rfl rfl rfl (fun _ => rfl) ?_)
   | refine O_cons (S_pure (v := .nptr _ _) rfl rfl rfl rfl (fun _ => rfl) ?_)
   | refine O_cons (S_load 0 rfl rfl rfl rfl rfl rfl rfl rfl rfl rfl ?_))
  refine J_cond _ rfl (fun h1 => ?_) (fun h1 => ?_)
  · skip
    repeat (first
     | refine J_region ?_
     | refine O_nil ?_
     | refine O_cons (S_field0 rfl rfl rfl rfl rfl rfl rfl rfl rfl ?_)
     | refine O_cons (S_pure (v := .int _ _) rfl rfl rfl rfl (fun _ => rfl) ?_)
     | refine O_cons (S_pure (v := .nptr _ _) rfl rfl rfl rfl (fun _ => rfl) ?_)
     | refine O_cons (S_store1 0 (v := .int _ _) rfl rfl rfl rfl rfl rfl rfl rfl rfl rfl rfl ?_))
    refine end_tmp (v := .tup _) (.inl rfl) (fun _ => rfl) fun H' h => ⟨rfl, h.fr, ?_⟩
    have he : err = 0 := by simpa using h1
    rw [if_pos he]
    exact h.ok _ (by simp [over, AV.cells])
  · skip
    repeat (refine J_skip ?_)
    refine end_tmp (v := .tup _) (.inl rfl) (fun _ => rfl) fun H' h => ⟨rfl, h.fr, ?_⟩
    have he : ¬ err = 0 := by simpa using h1
    rw [if_neg he]
    exact h.ok _ (by simp)
end Go.Proofs.Aw

set_option maxRecDepth 100000
set_option maxHeartbeats 1000000
namespace Go.Proofs.Aw
open Go Go.Ev
variable {old : Nat → Nat → Option AV}

theorem c_rnext {T : List Entry} (hT : hasF 141 T = false) (hT' : hasF 142 T = false) (i : Nat) (s : List UInt8) (p : Nat) (err : Int) (hs : s.length < 4611686018427387904) (hp : p ≤ s.length) (H : AH) (hH : Wf H) (hi : SlotOk H [i] H (rdr i s p err)) :
    Con T (CX old) MM 2 (.fn 141) [.nptr i 0] H (fun v H' => v = .int .u8 (match s[p]? with | some b => b.toNat | none => 0) ∧ Fr H [i] H' ∧
      SlotOk H [i] H' (match s[p]? with | some _ => rdr i s (p + 1 : Nat) err | none => rdr i s p (if err = 0 then 11 else err))) := by
  refine con_fn (nt := 33) [i] [rdr i s p err] hT Tryz.func141 rfl rfl rfl (Hs.one hH hi) fun k hk => ?_
  repeat (first
   | refine J_seq ?_
   | refine J_region ?_
   | refine O_nil ?_
   | refine O_cons (S_pure (v := .int _ _) rfl rfl rfl rfl (fun _ => rfl) ?_))
  refine J_draw0 (l := [⟨0, []⟩, ⟨1, []⟩, ⟨2, []⟩, ⟨3, []⟩, ⟨4, []⟩, ⟨5, []⟩, ⟨6, []⟩, ⟨7, []⟩, ⟨8, []⟩, ⟨9, []⟩]) (by kernel_rfl) ?_
  repeat (first
   | refine P0_nil ?_
   | refine P0_cons rfl (S_field0 rfl rfl rfl rfl rfl rfl rfl rfl rfl ?_)
   | refine P0_cons rfl (S_pure (v := .int _ _) rfl rfl rfl rfl (fun _ => rfl) ?_)
   | refine P0_cons rfl (S_pure (v := .bool _) rfl rfl rfl rfl (fun _ => rfl) ?_)
   | refine P0_cons rfl (S_pure (v := .nptr _ _) rfl rfl rfl rfl (fun _ => rfl) ?_)
   | refine P0_cons rfl (S_load 0 rfl rfl rfl rfl rfl rfl rfl rfl rfl rfl ?_))
  refine J_cond _ rfl (fun h1 => ?_) (fun h1 => ?_)
  · skip
    repeat (first
     | refine J_seq ?_
     | refine J_region ?_
     | refine O_cons (S_pure (v := .nptr _ _) rfl rfl rfl rfl (fun _ => rfl) ?_))
    have hn : s[p]? = none := by
      simp at h1
      exact List.getElem?_eq_none h1
    rw [hn]
    refine O_cons (S_callM 0 rfl rfl rfl rfl (fun _ => rfl) rfl (fun H hw hs => c_rfail hT' i s p err 11 H hw hs k hk) rfl ?_)
    repeat (first
     | refine J_seq ?_
     | refine J_region ?_
     | refine O_nil ?_
     | refine J_ret ?_
     | refine O_cons (S_pure (v := .int _ _) rfl rfl rfl rfl (fun _ => rfl) ?_))
    exact end_tmp (v := .int _ _) (.inr rfl) (fun _ => rfl) fun H' h => ⟨rfl, h.fr, h.ok _ (by simp)⟩
  · skip
    repeat (first
     | refine J_seq ?_
     | refine J_skip ?_)
    have hlt : p < s.length := by simp at h1; omega
    have hn : s[p]? = some s[p] := by simp [hlt]
    rw [hn]
    refine J_draw0 (l := [⟨0, []⟩, ⟨1, []⟩, ⟨2, []⟩, ⟨3, []⟩, ⟨4, []⟩, ⟨5, []⟩, ⟨6, []⟩, ⟨7, []⟩, ⟨8, []⟩, ⟨9, []⟩]) (by kernel_rfl) ?_
    repeat (first
     | refine P0_cons rfl (S_field0 rfl rfl rfl rfl rfl rfl rfl rfl rfl ?_)
     | refine P0_cons rfl (S_pure (v := .nptr _ _) rfl rfl rfl rfl (fun _ => rfl) ?_)
     | refine P0_cons rfl (S_load 0 rfl rfl rfl rfl rfl rfl rfl rfl rfl rfl ?_))
    refine P0_cons rfl (S_index rfl rfl rfl rfl rfl rfl rfl rfl hn ?_)
    repeat (first
     | refine P0_nil ?_
     | refine P0_cons rfl (S_pure (v := .int _ _) rfl rfl rfl rfl (fun _ => rfl) ?_))
    repeat (first
     | refine J_seq ?_
     | refine J_region ?_
     | refine O_nil ?_
     | refine J_ret ?_
     | refine O_cons (S_field0 rfl rfl rfl rfl rfl rfl rfl rfl rfl ?_)
     | refine O_cons (S_pure (v := .int _ _) rfl rfl rfl rfl (fun _ => rfl) ?_)
     | refine O_cons (S_pure (v := .nptr _ _) rfl rfl rfl rfl (fun _ => rfl) ?_)
     | refine O_cons (S_load 0 rfl rfl rfl rfl rfl rfl rfl rfl rfl rfl ?_)
     | refine O_cons (S_store1 0 (v := .int _ _) rfl rfl rfl rfl rfl rfl rfl rfl rfl rfl rfl ?_))
    refine end_tmp (v := .int _ _) (.inr rfl) (fun _ => rfl) fun H' h => ⟨rfl, h.fr, ?_⟩
    have := h.ok _ (List.mem_cons_self ..)
    have e : wrapF .i64 ((p : Int) + 1) = ((p + 1 : Nat) : Int) := by rw [wrap_small (by omega) (by omega)]; rfl
    rw [← e]
    exact this
end Go.Proofs.Aw

set_option maxRecDepth 100000
set_option maxHeartbeats 2000000
namespace Go.Proofs.Aw
open Go Go.Ev
variable {old : Nat → Nat → Option AV}

/-- A cell of its own. -/
abbrev cel (i e : Nat) (v : AV) : Slot := ⟨i, true, true, .row [v] i 0 false false 0 e true false⟩

/-- The buffer of an integer's encoding: a byte for the head, and the digits so far. -/
def BufS (bs : List UInt8) (v : AV) (s : Slot) : Prop :=
  (bs = [] ∧ ∃ b, v = .nslc b 0 1 (some 1) ∧ s = ⟨b, true, true, .row (bytesV [0]) b 0 false false 0 5 true false⟩) ∨
  (bs ≠ [] ∧ ∃ b g G sh, v = .nslc b 0 (bs.length + 1) none ∧ s = ⟨b, true, true, .row (bytesV (0 :: bs)) g G sh false 0 5 false false⟩)

theorem shr_ok (a k : Nat) (hk : k ≤ 7) (cx cy : Bool) : binF (CX old) .shr 3 cx cy (.int .i64 (a : Int)) (.int .i64 (8 * ((k + 1 : Nat) : Int) - 8)) = some (.int .i64 ((a / 256 ^ k : Nat) : Int)) := by
  have e : (8 * ((k + 1 : Nat) : Int) - 8) = ((8 * k : Nat) : Int) := by omega
  rw [e]
  have h1 : ¬ (((8 * k : Nat) : Int) < 0) := by omega
  have h2 : min ((8 * k : Nat) : Int).toNat (IntKind.bits .i64) = 8 * k := by
    have : (IntKind.bits .i64) = 64 := rfl
    rw [this]; omega
  show shiftF .shr .i64 (a : Int) ((8 * k : Nat) : Int) = _
  simp only [shiftF, if_neg h1, h2]
  have h3 : (a : Int).fdiv ((2 ^ (8 * k) : Nat) : Int) = ((a / 256 ^ k : Nat) : Int) := by
    have : (2 : Nat) ^ (8 * k) = 256 ^ k := by rw [Nat.pow_mul]
    rw [this]
    exact (Int.ofNat_fdiv _ _).symm
  rw [h3]

theorem u8_ofNat (x : Nat) : AV.int .u8 (wrapF .u8 (x : Int)) = AV.int .u8 ((UInt8.ofNat x).toNat : Int) := by
  show AV.int .u8 (Int.ofNat (Nat.mod x 256)) = _
  have : (UInt8.ofNat x).toNat = x % 256 := by simp
  rw [this]
  rfl

theorem u8_neg (b : UInt8) : AV.int .u8 (wrapF .u8 (255 - (b.toNat : Int))) = AV.int .u8 ((255 - b : UInt8).toNat : Int) := by
  have hb : b.toNat < 256 := UInt8.toNat_lt b
  have e1 : (255 - (b.toNat : Int)) = ((255 - b.toNat : Nat) : Int) := by omega
  rw [e1, u8_ofNat]
  congr 2
  have : (255 - b : UInt8) = UInt8.ofNat (255 - b.toNat) := by
    apply UInt8.toNat_inj.1
    rw [UInt8.toNat_sub]
    simp
    omega
  rw [this]

theorem c_integer {T : List Entry} (hT : hasF 84 T = false) (hT1 : hasF 155 T = false) (hT2 : hasF 284 T = false) (n : Int) (h1 : -4611686018427387904 ≤ n) (h2 : n ≤ 4611686018427387904) (H : AH) (hH : Wf H) :
    Con T (CX old) MM 4 (.fn 84) [.int .i64 n] H (fun v H' => v = .str (encInt n) ∧ Fr H [] H') := by
  refine con_fn (nt := 39) [] [] hT Tryz.func84 rfl rfl rfl (Hs.start hH) fun N hN => ?_
  obtain ⟨N, rfl⟩ : ∃ N', N = N' + 3 := ⟨N - 3, by omega⟩
  repeat (first
   | refine J_seq ?_
   | refine J_region ?_
   | refine O_nil ?_
   | refine O_cons (S_pure (v := .int _ _) rfl rfl rfl rfl (fun _ => rfl) ?_)
   | refine O_cons (S_pure (v := .bool _) rfl rfl rfl rfl (fun _ => rfl) ?_)
   | refine O_cons (S_pure (v := .str _) rfl rfl rfl rfl (fun _ => rfl) ?_))
  refine O_cons (S_alloc rfl rfl rfl rfl rfl (z := [.bool false]) rfl fun c3 => ?_)
  repeat (first
   | refine J_seq ?_
   | refine J_region ?_
   | refine O_nil ?_
   | refine O_cons (S_load 0 rfl rfl rfl rfl rfl rfl rfl rfl rfl rfl ?_)
   | refine O_cons (S_store1 0 (v := .bool _) rfl rfl rfl rfl rfl rfl rfl rfl rfl rfl rfl ?_))
  refine J_join (fun f' L' => f' 0 = .int .i64 (magn n : Nat) ∧ f' 3 = .nptr c3 0 ∧ L' = [cel c3 4 (.bool (decide (n < 0)))]) _ rfl (fun hn => ?_) (fun hn => ?_) (fun f' L' hM => ?_)
  · have hn' : n < 0 := by simpa using hn
    repeat (first
     | refine J_region ?_
     | refine O_nil ?_
     | refine O_cons (S_pure (v := .int _ _) rfl rfl rfl rfl (fun _ => rfl) ?_))
    refine ⟨rfl, rfl, ?_, rfl, rfl⟩
    have e1 : wrapF .i64 (0 - n) = 0 - n := wrap_small (by omega) (by omega)
    have e2 : wrapF .i64 (0 - n - 1) = 0 - n - 1 := wrap_small (by omega) (by omega)
    have e3 : (magn n : Int) = 0 - n - 1 := by simp only [magn, if_pos hn']; omega
    show AV.int .i64 (wrapF .i64 (wrapF .i64 (0 - n) - 1)) = _
    rw [e1, e2, e3]
  · have hn' : ¬ n < 0 := by simpa using hn
    repeat (refine J_skip ?_)
    refine ⟨rfl, rfl, ?_, rfl, rfl⟩
    have e3 : (magn n : Int) = n := by simp only [magn, if_neg hn']; omega
    show AV.int .i64 n = _
    rw [e3]
  obtain ⟨q0, q3, rfl⟩ := hM
  obtain ⟨g, rfl⟩ := upd2 q0 q3
  have hm : magn n < 4611686018427387905 := by unfold magn; split <;> omega
  generalize hmgE : magn n = mg at *
  generalize hngE : decide (n < 0) = neg at *
  clear q0 q3
  repeat (first
   | refine J_seq ?_
   | refine J_region ?_)
  refine O_cons (S_bs1 rfl rfl rfl rfl rfl (v := .int _ _) rfl rfl rfl rfl rfl rfl fun b0 => ?_)
  refine O_cons (S_alloc rfl rfl rfl rfl rfl (z := [.raw (.slice none 0 0)]) rfl fun c4 => ?_)
  repeat (first
   | refine J_seq ?_
   | refine J_region ?_
   | refine O_nil ?_
   | refine O_cons (S_pure (v := .int _ _) rfl rfl rfl rfl (fun _ => rfl) ?_)
   | refine O_cons (S_store1 2 (v := .nslc _ _ _ _) rfl rfl rfl rfl rfl rfl rfl rfl rfl rfl rfl ?_))
  refine O_cons (S_callX (P := fun v L' => ∃ c1, v = .func (.func 284) [] [.nptr c1 0] ∧ L' = [cel c3 4 (.bool neg), cel b0 5 (.int .u8 0), cel c4 90 (.nslc b0 0 1 (some 1)), cel c1 3 (.int .i64 mg)]) rfl rfl rfl rfl (fun _ => rfl) (fun H hH => fn_in (nt := 4) hT1 Tryz.func155 rfl rfl rfl hH ?_) ?_)
  · skip
    repeat (first
     | refine J_seq ?_
     | refine J_region ?_)
    refine O_cons (S_box rfl rfl rfl rfl rfl (v := .int _ _) rfl fun c1 => ?_)
    repeat (first
     | refine J_seq ?_
     | refine J_region ?_
     | refine O_nil ?_
     | refine J_ret ?_
     | refine O_cons (S_pure (v := .raw _) rfl rfl rfl rfl (fun _ => rfl) ?_)
     | refine O_cons (S_pure (v := .func _ _ _) rfl rfl rfl rfl (fun _ => rfl) ?_))
    exact ret_tmp (v := .func _ _ _) (.inr rfl) (fun _ => rfl) ⟨c1, rfl, rfl⟩
  rintro v L' ⟨c1, rfl, rfl⟩
  repeat (first
   | refine O_nil ?_
   | refine J_block ?_)
  refine J_rangeIn (n := N + 2) (nt := 19) (g := 284) (args := fun l => [.yield l, .nptr c1 0]) (fun L' => ∃ v s, BufS ((digsK mg 8).map (negB neg)) v s ∧ L' = [cel c3 4 (.bool neg), cel c4 90 v, cel c1 3 (.int .i64 mg), s]) rfl rfl (fun _ _ => rfl) hT2 Tryz.func284 rfl (fun _ => rfl) rfl (fun d l => ?_) (fun d L' hP => ?_)
  · -- the iterator
    refine J_perm (M := lpS l .ready 84 _ 39 #[16] _ _ d :: dfS d :: [cel c3 4 (.bool neg), cel c4 90 (.nslc b0 0 1 (some 1)), cel c1 3 (.int .i64 mg), cel b0 5 (.int .u8 0)]) (by
      refine List.Perm.cons _ (List.Perm.cons _ (List.Perm.cons _ ?_))
      exact (List.perm_append_comm (l₁ := [cel b0 5 (.int .u8 0)]) (l₂ := [cel c4 90 (.nslc b0 0 1 (some 1)), cel c1 3 (.int .i64 mg)]))) ?_
    repeat (first
     | refine J_seq ?_
     | refine J_region ?_
     | refine O_nil ?_
     | refine J_block ?_
     | refine O_cons (S_pure (v := .int _ _) rfl rfl rfl rfl (fun _ => rfl) ?_))
    refine J_loop (fun k f L df => k ≤ 8 ∧ f 0 = .yield l ∧ f 1 = .nptr c1 0 ∧ f 3 = .int .i64 (8 * (k : Int) - 8) ∧ df = [] ∧ ∃ done v s, done ++ digsK mg k = digsK mg 8 ∧ BufS (done.map (negB neg)) v s ∧ L = lpS l .ready 84 _ 39 #[16] _ _ d :: dfS d :: [cel c3 4 (.bool neg), cel c4 90 v, cel c1 3 (.int .i64 mg), s]) 8 (show (8 : Nat) < 1000000 by decide) ⟨by omega, rfl, rfl, rfl, rfl, [], _, _, rfl, .inl ⟨rfl, b0, rfl, rfl⟩, rfl⟩ fun k f L df hI => ?_
    obtain ⟨hk8, f0, f1, f3, rfl, done, v, s, hdone, hbuf, rfl⟩ := hI
    obtain ⟨g2, rfl⟩ := upd3 f0 f1 f3
    clear f0 f1 f3
    repeat (first
     | refine J_seq ?_
     | refine J_region ?_
     | refine O_nil ?_
     | refine O_cons (S_pure (v := .int _ _) rfl rfl rfl rfl (fun _ => rfl) ?_)
     | refine O_cons (S_pure (v := .bool _) rfl rfl rfl rfl (fun _ => rfl) ?_))
    refine J_cond _ rfl (fun hc => ?_) (fun hc => ?_)
    rotate_left
    · have hk0 : k = 0 := by
        have : ¬ (0 ≤ 8 * (k : Int) - 8) := by simpa using hc
        omega
      subst hk0
      have hdone' : done = digsK mg 8 := by rw [← hdone]; exact (List.append_nil _).symm
      subst hdone'
      repeat (refine J_exit ?_)
      exact ret_tmp (v := .tup []) (.inl rfl) (fun _ => rfl) ⟨_, rfl, v, s, hbuf, rfl⟩
    · have hk1 : 0 ≤ 8 * (k : Int) - 8 := by simpa using hc
      obtain ⟨k, rfl⟩ : ∃ k', k = k' + 1 := ⟨k - 1, by omega⟩
      repeat (first
       | refine J_seq ?_
       | refine J_region ?_
       | refine J_skip ?_
       | refine J_block ?_
       | refine O_cons (S_pure (v := .int _ _) rfl rfl rfl rfl (fun _ => rfl) ?_)
       | refine O_cons (S_load 4 rfl rfl rfl rfl rfl rfl rfl rfl rfl rfl ?_))
      refine O_cons (S_bin (a := .int .i64 (mg : Int)) (b := .int .i64 (8 * ((k + 1 : Nat) : Int) - 8)) (v := .int .i64 ((mg / 256 ^ k : Nat) : Int)) rfl rfl rfl rfl rfl rfl rfl (shr_ok mg k (by omega) _ _) ?_)
      repeat (first
       | refine O_nil ?_
       | refine O_cons (S_pure (v := .bool _) rfl rfl rfl rfl (fun _ => rfl) ?_))
      refine J_cond _ rfl (fun hz => ?_) (fun hz => ?_)
      · have hz' : mg / 256 ^ k = 0 := by
          have : ((mg / 256 ^ k : Nat) : Int) = 0 := by simpa using hz
          omega
        repeat (first
         | refine J_region ?_
         | refine O_nil ?_
         | refine J_exit ?_
         | refine O_cons (S_pure (v := .int _ _) rfl rfl rfl rfl (fun _ => rfl) ?_))
        refine ⟨k, rfl, by omega, rfl, rfl, ?_, rfl, done, v, s, ?_, hbuf, rfl⟩
        · show AV.int .i64 (wrapF .i64 (8 * ((k + 1 : Nat) : Int) - 8 - 8)) = _
          rw [wrap_small (by omega) (by omega)]
          congr 1
          omega
        · rw [← hdone]
          simp only [digsK, if_pos hz', List.nil_append]
      · have hz' : ¬ mg / 256 ^ k = 0 := by
          intro h0
          rw [h0] at hz
          simp at hz
        repeat (first
         | refine J_seq ?_
         | refine J_region ?_
         | refine J_skip ?_
         | refine O_cons (S_pure (v := .int _ _) rfl rfl rfl rfl (fun _ => rfl) ?_)
         | refine O_cons (S_pure (v := .yield _) rfl rfl rfl rfl (fun _ => rfl) ?_)
         | refine O_cons (S_load 4 rfl rfl rfl rfl rfl rfl rfl rfl rfl rfl ?_))
        refine O_cons (S_bin (a := .int .i64 (mg : Int)) (b := .int .i64 (8 * ((k + 1 : Nat) : Int) - 8)) (v := .int .i64 ((mg / 256 ^ k : Nat) : Int)) rfl rfl rfl rfl rfl rfl rfl (shr_ok mg k (by omega) _ _) ?_)
        refine O_cons (S_as (v' := .int .u8 _) rfl rfl rfl rfl (fun _ => rfl) (u8_ofNat (mg / 256 ^ k)) ?_)
        generalize hb : UInt8.ofNat (mg / 256 ^ k) = bt
        have hlen : done.length ≤ 8 := by
          have h8 := digsK_len mg 8
          rw [← hdone] at h8
          simp at h8
          omega
        refine O_cons (S_yield (n := N + 1) (args := [.int .u8 (bt.toNat : Int)]) (fun L2 => ∃ v s, BufS ((done ++ [bt]).map (negB neg)) v s ∧ L2 = dfS d :: [cel c3 4 (.bool neg), cel c4 90 v, cel c1 3 (.int .i64 mg), s]) rfl rfl rfl rfl rfl (fun _ => rfl) rfl rfl rfl ?_ fun L2 hP => ?_)
        · -- the body
          repeat (first
           | refine J_region ?_
           | refine O_nil ?_
           | refine O_cons (S_pure (v := .int _ _) rfl rfl rfl rfl (fun _ => rfl) ?_))
          refine ⟨rfl, rfl, _, rfl, ?_⟩
          repeat (first
           | refine J_seq ?_
           | refine J_region ?_
           | refine O_nil ?_
           | refine J_block ?_
           | refine O_cons (S_load 2 rfl rfl rfl rfl rfl rfl rfl rfl rfl rfl ?_))
          refine J_joinL (fun f' => f' 5 = .int .u8 ((negB neg bt).toNat : Int) ∧ f' 3 = .nptr c3 0 ∧ f' 4 = .nptr c4 0) _ rfl (fun hn => ?_) (fun hn => ?_) (fun f' hM => ?_)
          · skip
            repeat (first
             | refine J_region ?_
             | refine O_nil ?_
             | refine O_cons (S_pure (v := .int _ _) rfl rfl rfl rfl (fun _ => rfl) ?_))
            refine ⟨rfl, rfl, rfl, ?_, rfl, rfl⟩
            show AV.int .u8 (wrapF .u8 (255 - (bt.toNat : Int))) = _
            rw [u8_neg, hn]
            rfl
          · skip
            repeat (refine J_skip ?_)
            refine ⟨rfl, rfl, rfl, ?_, rfl, rfl⟩
            rw [hn]
            rfl
          obtain ⟨q5, q3, q4⟩ := hM
          obtain ⟨g3, rfl⟩ := upd3 q5 q3 q4
          clear q5 q3 q4
          rcases hbuf with ⟨hnil, b, rfl, rfl⟩ | ⟨hne, b, G0, gen0, sh, rfl, rfl⟩
          · have hd0 : done = [] := by simpa using hnil
            subst hd0
            repeat (first
             | refine J_region ?_
             | refine O_cons (S_pure (v := .int _ _) rfl rfl rfl rfl (fun _ => rfl) ?_)
             | refine O_cons (S_load 3 rfl rfl rfl rfl rfl rfl rfl rfl rfl rfl ?_))
            refine O_cons (S_bs1 rfl rfl rfl rfl rfl (v := .int _ _) rfl rfl rfl rfl rfl rfl fun sr => ?_)
            refine O_cons (S_appG 5 (k := 1) (n := 1) (cap := 1) rfl rfl rfl rfl rfl rfl rfl rfl rfl rfl rfl rfl rfl rfl rfl rfl rfl (Src.row (p := 6) rfl rfl rfl) (by decide) (by decide) (show (3 * (1 + 1) + 4096) * 1 ≤ 100000000000000 by decide) fun j => ?_)
            refine O_erase 5 (O_erase 5 ?_)
            repeat (first
             | refine O_nil ?_
             | refine O_cons (S_store1 3 (v := .nslc _ _ _ _) rfl rfl rfl rfl rfl rfl rfl rfl rfl rfl rfl ?_))
            exact ⟨rfl, rfl, _, rfl, _, _, .inr ⟨by simp, j, j, 0, false, rfl, rfl⟩, rfl⟩
          · skip
            repeat (first
             | refine J_region ?_
             | refine O_cons (S_pure (v := .int _ _) rfl rfl rfl rfl (fun _ => rfl) ?_)
             | refine O_cons (S_load 3 rfl rfl rfl rfl rfl rfl rfl rfl rfl rfl ?_))
            refine O_cons (S_bs1 rfl rfl rfl rfl rfl (v := .int _ _) rfl rfl rfl rfl rfl rfl fun sr => ?_)
            refine O_cons (S_appB 5 (k := (done.map (negB neg)).length + 1) (n := 1) rfl rfl rfl rfl rfl rfl rfl rfl rfl rfl rfl rfl rfl rfl rfl ?_ rfl (Src.row (p := 6) rfl rfl rfl) (by decide) (Nat.zero_le _) ?_ fun j G => ?_)
            · show _ = ((done.map (negB neg)).length + 1) * 1
              simp [bytesV]
            · show (3 * ((done.map (negB neg)).length + 1 + 1) + 4096) * 1 ≤ 100000000000000
              simp
              omega
            refine O_erase 5 ?_
            repeat (first
             | refine O_nil ?_
             | refine O_cons (S_store1 3 (v := .nslc _ _ _ _) rfl rfl rfl rfl rfl rfl rfl rfl rfl rfl rfl ?_))
            refine ⟨rfl, rfl, _, rfl, _, _, .inr ⟨?_, j, G0, G, true, ?_, ?_⟩, rfl⟩
            · simp
            · simp
            · simp [bytesV]
        · obtain ⟨v', s', hbuf', rfl⟩ := hP
          repeat (first
           | refine O_nil ?_
           | refine O_cons (S_pure (v := .bool _) rfl rfl rfl rfl (fun _ => rfl) ?_))
          refine J_condF rfl ?_
          repeat (first
           | refine J_region ?_
           | refine J_skip ?_
           | refine O_nil ?_
           | refine O_cons (S_pure (v := .int _ _) rfl rfl rfl rfl (fun _ => rfl) ?_))
          refine ⟨k, rfl, by omega, rfl, rfl, ?_, rfl, done ++ [bt], v', s', ?_, hbuf', rfl⟩
          · show AV.int .i64 (wrapF .i64 (8 * ((k + 1 : Nat) : Int) - 8 - 8)) = _
            rw [wrap_small (by omega) (by omega)]
            congr 1
            omega
          · rw [← hdone]
            simp only [digsK, if_neg hz', hb, List.append_assoc]
  · obtain ⟨v, s, hbuf, rfl⟩ := hP
    have hds := digsK_len mg 8
    generalize hdd : digsK mg 8 = ds at *
    obtain ⟨b, g1, G, sh, wh, cap, rfl, rfl⟩ : ∃ b g1 G sh wh cap, v = .nslc b 0 ((ds.map (negB neg)).length + 1) cap ∧ s = ⟨b, true, true, .row (bytesV (0 :: ds.map (negB neg))) g1 G sh false 0 5 wh false⟩ := by
      rcases hbuf with ⟨hnil, b, rfl, rfl⟩ | ⟨hne, b, G0, gen0, sh, rfl, rfl⟩
      · rw [hnil]; exact ⟨b, b, 0, false, true, some 1, rfl, rfl⟩
      · exact ⟨b, G0, gen0, sh, false, none, rfl, rfl⟩
    have hml : (ds.map (negB neg)).length = ds.length := by simp
    repeat (first
     | refine J_seq ?_
     | refine J_region ?_
     | refine O_nil ?_
     | refine O_cons (S_pure (v := .int _ _) rfl rfl rfl rfl (fun _ => rfl) ?_)
     | refine O_cons (S_pure (v := .nptr _ _) rfl rfl rfl rfl (fun _ => rfl) ?_)
     | refine O_cons (S_load 2 rfl rfl rfl rfl rfl rfl rfl rfl rfl rfl ?_))
    have e1 : wrapF .u8 (wrapF .i64 ((((ds.map (negB neg)).length + 1 : Nat) : Int) - 1)) = (ds.length : Int) := by
      rw [hml, wrap_small (by omega) (by omega)]
      have : (((ds.length + 1 : Nat) : Int) - 1) = (ds.length : Int) := by omega
      rw [this]
      show Int.ofNat (Nat.mod ds.length 256) = _
      have : Nat.mod ds.length 256 = ds.length := Nat.mod_eq_of_lt (by omega)
      rw [this]
      rfl
    have u1 : ∀ k : Nat, k ≤ 8 → AV.int .u8 (wrapF .u8 (128 + (k : Int))) = AV.int .u8 ((headB false k).toNat : Int) := by
      intro k hk
      obtain rfl | rfl | rfl | rfl | rfl | rfl | rfl | rfl | rfl : k = 0 ∨ k = 1 ∨ k = 2 ∨ k = 3 ∨ k = 4 ∨ k = 5 ∨ k = 6 ∨ k = 7 ∨ k = 8 := by omega
      all_goals rfl
    have u2 : ∀ k : Nat, k ≤ 8 → AV.int .u8 (wrapF .u8 (127 - (k : Int))) = AV.int .u8 ((headB true k).toNat : Int) := by
      intro k hk
      obtain rfl | rfl | rfl | rfl | rfl | rfl | rfl | rfl | rfl : k = 0 ∨ k = 1 ∨ k = 2 ∨ k = 3 ∨ k = 4 ∨ k = 5 ∨ k = 6 ∨ k = 7 ∨ k = 8 := by omega
      all_goals rfl
    rw [e1, u1 _ hds]
    clear e1
    refine O_cons (S_storeX 4 (v := .int _ _) rfl rfl rfl rfl rfl rfl rfl rfl rfl rfl (by simp [bytesV]) (Nat.zero_le _) fun G2 => ?_)
    repeat (first
     | refine J_seq ?_
     | refine J_region ?_
     | refine O_nil ?_
     | refine O_cons (S_load 1 rfl rfl rfl rfl rfl rfl rfl rfl rfl rfl ?_))
    refine J_join (fun f' L' => f' 4 = .nptr c4 0 ∧ ∃ sh2 G3, L' = [dfS d, cel c3 4 (.bool neg), cel c4 90 (.nslc b 0 ((ds.map (negB neg)).length + 1) cap), cel c1 3 (.int .i64 mg), ⟨b, true, true, .row (bytesV (headB neg ds.length :: ds.map (negB neg))) g1 G3 sh2 false 0 5 wh false⟩]) _ rfl (fun hn => ?_) (fun hn => ?_) (fun f' L' hM => ?_)
    · skip
      repeat (first
       | refine J_region ?_
       | refine O_cons (S_pure (v := .int _ _) rfl rfl rfl rfl (fun _ => rfl) ?_)
       | refine O_cons (S_pure (v := .nptr _ _) rfl rfl rfl rfl (fun _ => rfl) ?_)
       | refine O_cons (S_load 2 rfl rfl rfl rfl rfl rfl rfl rfl rfl rfl ?_))
      rw [u2 _ hds]
      refine O_cons (S_storeX 4 (v := .int _ _) rfl rfl rfl rfl rfl rfl rfl rfl rfl rfl (by simp [bytesV]) (Nat.zero_le _) fun G2 => ?_)
      repeat (refine O_nil ?_)
      refine ⟨rfl, rfl, rfl, sh, G2, ?_⟩
      rw [hn]
      rfl
    · skip
      repeat (refine J_skip ?_)
      refine ⟨rfl, rfl, rfl, sh, G2, ?_⟩
      rw [hn]
      rfl
    · obtain ⟨q4, sh2, G3, rfl⟩ := hM
      obtain ⟨g3, rfl⟩ := upd1 q4
      clear q4
      repeat (first
       | refine J_seq ?_
       | refine J_region ?_
       | refine O_cons (S_load 2 rfl rfl rfl rfl rfl rfl rfl rfl rfl rfl ?_))
      refine O_cons (S_bytesStr 4 rfl rfl rfl rfl rfl rfl rfl rfl rfl rfl (by simp) ?_)
      repeat (first
       | refine O_nil ?_
       | refine J_ret ?_
       | refine O_cons (S_pure (v := .str _) rfl rfl rfl rfl (fun _ => rfl) ?_))
      refine end_coll (.inr rfl) (fun _ _ => rfl) fun H' hH' => ⟨?_, hH'.fr⟩
      subst hdd hmgE hngE
      rfl
end Go.Proofs.Aw

set_option maxRecDepth 100000
set_option maxHeartbeats 2000000
namespace Go.Proofs.Aw
open Go Go.Ev
variable {old : Nat → Nat → Option AV}

instance (n : Int) : Decidable (fitsI n) := by unfold fitsI; exact inferInstance

theorem c_Int {T : List Entry} (hT : hasF 45 T = false) (hT0 : hasF 83 T = false) (hT1 : hasF 84 T = false) (hT2 : hasF 155 T = false) (hT3 : hasF 284 T = false) (n : Int) (H : AH) (hH : Wf H) :
    Con T (CX old) MM 5 (.fn 45) [.int .i64 n] H (fun v H' => v = (if fitsI n then .tup [.str (encInt n), .int .i64 0] else .tup [.str [], .int .i64 2]) ∧ Fr H [] H') := by
  refine con_fn (nt := 9) [] [] hT Tryz.func45 rfl rfl rfl (Hs.start hH) fun N hN => ?_
  repeat (first
   | refine J_seq ?_
   | refine J_region ?_
   | refine O_nil ?_
   | refine O_cons (S_pure (v := .int _ _) rfl rfl rfl rfl (fun _ => rfl) ?_)
   | refine O_cons (S_pure (v := .str _) rfl rfl rfl rfl (fun _ => rfl) ?_))
  refine O_cons (S_call rfl rfl rfl rfl (fun _ => rfl) (fun H' h => c_fits hT0 n H' h.wf N (by omega)) ?_)
  repeat (first
   | refine O_nil ?_
   | refine O_cons (S_pure (v := .bool _) rfl rfl rfl rfl (fun _ => rfl) ?_))
  refine J_cond _ rfl (fun h1 => ?_) (fun h1 => ?_)
  · have hf : ¬ fitsI n := by
      intro hh
      obtain ⟨a, b⟩ := hh
      simp [a, b] at h1
    repeat (first
     | refine J_seq ?_
     | refine J_region ?_
     | refine O_nil ?_
     | refine J_ret ?_
     | refine O_cons (S_pure (v := .int _ _) rfl rfl rfl rfl (fun _ => rfl) ?_)
     | refine O_cons (S_pure (v := .str _) rfl rfl rfl rfl (fun _ => rfl) ?_))
    refine end_tmp (v := .tup _) (.inr rfl) (fun _ => rfl) fun H' h => ⟨?_, h.fr⟩
    rw [if_neg hf]
    rfl
  · have hf : fitsI n := by
      simpa [fitsI] using h1
    repeat (first
     | refine J_seq ?_
     | refine J_region ?_
     | refine J_skip ?_
     | refine O_cons (S_pure (v := .int _ _) rfl rfl rfl rfl (fun _ => rfl) ?_))
    refine O_cons (S_call rfl rfl rfl rfl (fun _ => rfl) (fun H' h => c_integer hT1 hT2 hT3 n hf.1 hf.2 H' h.wf N (by omega)) ?_)
    repeat (first
     | refine O_nil ?_
     | refine J_ret ?_
     | refine O_cons (S_pure (v := .int _ _) rfl rfl rfl rfl (fun _ => rfl) ?_)
     | refine O_cons (S_pure (v := .str _) rfl rfl rfl rfl (fun _ => rfl) ?_))
    refine end_tmp (v := .tup _) (.inr rfl) (fun _ => rfl) fun H' h => ⟨?_, h.fr⟩
    rw [if_pos hf]
    rfl
end Go.Proofs.Aw
