/-
  What some of the program functions compute, walked once. For the arguments that each theorem names.
-/
import Derived.Test.YtaigaoiedjccgaaGreatDoorFnI
import Derived.Test.YtaigaoiedjccgaaGreatDoorSyD
set_option linter.unusedVariables false
set_option linter.unusedSimpArgs false

set_option maxRecDepth 100000
set_option maxHeartbeats 4000000
namespace Go.Proofs.Aw
open Go Go.Ev
variable {old : Nat → Nat → Option AV}

/-- A reader of recordings: what is left, whether something is wrong. -/
abbrev rrd (i : Nat) (s : List UInt8) (w : Bool) : Slot := ⟨i, true, true, .row [.str s, .bool w] i 0 false false 0 179 true false⟩

theorem rrd_eq {i : Nat} {s s' : List UInt8} {w w' : Bool} {rest : Kn} (h1 : s = s') (h2 : w = w') : rrd i s w :: rest = rrd i s' w' :: rest := by rw [h1, h2]

theorem i_number (i : Nat) (s : List UInt8) (w : Bool) (rest : Kn) (hs : s.length < 1000000) :
    Inn TR (CX old) MM 7 88 [.nptr i 0] (rrd i s w :: rest) (fun v' L' => v' = .int .i64 (numR s w).1 ∧ L' = rrd i (numR s w).2.1 (numR s w).2.2 :: rest) := by
  refine inn_fn (nt := 36) rfl Tryz.func88 rfl rfl rfl fun N H0 Wr hN => ?_
  repeat (first
   | refine J_seq ?_
   | refine J_region ?_
   | refine O_nil ?_
   | refine O_cons (S_field0 rfl rfl rfl rfl rfl rfl rfl rfl rfl ?_)
   | refine O_cons (S_pure (v := .int _ _) rfl rfl rfl rfl (fun _ => rfl) ?_)
   | refine O_cons (S_pure (v := .nptr _ _) rfl rfl rfl rfl (fun _ => rfl) ?_)
   | refine O_cons (S_load 0 rfl rfl rfl rfl rfl rfl rfl rfl rfl rfl ?_))
  refine O_cons (S_callV _ rfl rfl rfl rfl (fun _ => rfl) (fun H' hw => c_ReadInt (T := TR) rfl rfl rfl rfl rfl rfl rfl s hs H' hw N (by omega)) fun v hv => ?_)
  rcases hv with ⟨n, k, hd, rfl⟩ | ⟨hd, e, he, rfl⟩
  · obtain ⟨_, hk, _, _⟩ := decI_some hd
    have hnum : numR s w = (n, s.drop k, w) := by simp only [numR, hd]
    rw [hnum]
    cases w
    · skip
      repeat (first
       | refine J_seq ?_
       | refine O_nil ?_
       | refine O_cons (S_pure (v := .int _ _) rfl rfl rfl rfl (fun _ => rfl) ?_)
       | refine O_cons (S_pure (v := .tup _) rfl rfl rfl rfl (fun _ => rfl) ?_))
      refine J_draw (l := [⟨0, []⟩, ⟨1, []⟩, ⟨2, []⟩, ⟨3, []⟩, ⟨4, []⟩, ⟨5, []⟩, ⟨6, []⟩, ⟨7, []⟩, ⟨8, []⟩, ⟨9, []⟩, ⟨10, []⟩, ⟨11, []⟩, ⟨12, []⟩, ⟨13, []⟩, ⟨14, []⟩, ⟨15, []⟩, ⟨16, []⟩, ⟨17, []⟩, ⟨18, [15]⟩, ⟨19, []⟩, ⟨20, []⟩, ⟨21, []⟩]) (by kernel_rfl) ?_
      repeat (first
       | refine P_cons1 rfl rfl (S_field0 rfl rfl rfl rfl rfl rfl rfl rfl rfl ?_)
       | refine P_cons1 rfl rfl (S_pure (v := .int _ _) rfl rfl rfl rfl (fun _ => rfl) ?_)
       | refine P_cons1 rfl rfl (S_pure (v := .bool _) rfl rfl rfl rfl (fun _ => rfl) ?_)
       | refine P_cons1 rfl rfl (S_pure (v := .nptr _ _) rfl rfl rfl rfl (fun _ => rfl) ?_)
       | refine P_cons2 rfl rfl rfl (S_load 0 rfl rfl rfl rfl rfl rfl rfl rfl rfl rfl ?_))
      refine P_cons2 rfl rfl rfl (S_sliceS rfl rfl rfl rfl rfl rfl rfl (bounds_lo (a := k) hk) ?_)
      repeat (first
       | refine P_cons1 rfl rfl (S_field0 rfl rfl rfl rfl rfl rfl rfl rfl rfl ?_)
       | refine P_cons1 rfl rfl (S_pure (v := .nptr _ _) rfl rfl rfl rfl (fun _ => rfl) ?_))
      refine P_consA1 rfl rfl (S_store1 0 (v := .bool _) rfl rfl rfl rfl rfl rfl rfl rfl rfl rfl rfl ⟨fun H' hH' => still_sliceS rfl rfl rfl rfl (bounds_lo (a := k) hk) rfl (still_no rfl (still_no rfl still_done)), ?_⟩)
      repeat (first
       | refine P_nil ?_
       | refine P_cons1 rfl rfl (S_field0 rfl rfl rfl rfl rfl rfl rfl rfl rfl ?_)
       | refine P_cons1 rfl rfl (S_pure (v := .nptr _ _) rfl rfl rfl rfl (fun _ => rfl) ?_)
       | refine P_cons1 rfl rfl (S_store1 0 (v := .str _) rfl rfl rfl rfl rfl rfl rfl rfl rfl rfl rfl ?_))
      repeat (first
       | refine J_seq ?_
       | refine J_region ?_
       | refine O_nil ?_
       | refine J_ret ?_
       | refine O_cons (S_pure (v := .int _ _) rfl rfl rfl rfl (fun _ => rfl) ?_))
      exact ret_tmp (v := .int _ _) (.inr rfl) (fun _ => rfl) ⟨rfl, rrd_eq (List.take_of_length_le (by simp)) rfl⟩
    · skip
      repeat (first
       | refine J_seq ?_
       | refine O_nil ?_
       | refine O_cons (S_pure (v := .int _ _) rfl rfl rfl rfl (fun _ => rfl) ?_)
       | refine O_cons (S_pure (v := .tup _) rfl rfl rfl rfl (fun _ => rfl) ?_))
      refine J_draw (l := [⟨0, []⟩, ⟨1, []⟩, ⟨2, []⟩, ⟨3, []⟩, ⟨4, []⟩, ⟨5, []⟩, ⟨6, []⟩, ⟨7, []⟩, ⟨8, []⟩, ⟨9, []⟩, ⟨10, []⟩, ⟨11, []⟩, ⟨12, []⟩, ⟨13, []⟩, ⟨14, []⟩, ⟨15, []⟩, ⟨16, []⟩, ⟨17, []⟩, ⟨18, [15]⟩, ⟨19, []⟩, ⟨20, []⟩, ⟨21, []⟩]) (by kernel_rfl) ?_
      repeat (first
       | refine P_cons1 rfl rfl (S_field0 rfl rfl rfl rfl rfl rfl rfl rfl rfl ?_)
       | refine P_cons1 rfl rfl (S_pure (v := .int _ _) rfl rfl rfl rfl (fun _ => rfl) ?_)
       | refine P_cons1 rfl rfl (S_pure (v := .bool _) rfl rfl rfl rfl (fun _ => rfl) ?_)
       | refine P_cons1 rfl rfl (S_pure (v := .nptr _ _) rfl rfl rfl rfl (fun _ => rfl) ?_)
       | refine P_cons1 rfl rfl (S_off rfl rfl rfl rfl ?_)
       | refine P_cons2 rfl rfl rfl (S_load 0 rfl rfl rfl rfl rfl rfl rfl rfl rfl rfl ?_))
      refine P_cons2 rfl rfl rfl (S_sliceS rfl rfl rfl rfl rfl rfl rfl (bounds_lo (a := k) hk) ?_)
      repeat (first
       | refine P_cons1 rfl rfl (S_field0 rfl rfl rfl rfl rfl rfl rfl rfl rfl ?_)
       | refine P_cons1 rfl rfl (S_pure (v := .nptr _ _) rfl rfl rfl rfl (fun _ => rfl) ?_))
      refine P_consA1 rfl rfl (S_store1 0 (v := .bool _) rfl rfl rfl rfl rfl rfl rfl rfl rfl rfl rfl ⟨fun H' hH' => still_sliceS rfl rfl rfl rfl (bounds_lo (a := k) hk) rfl (still_no rfl (still_no rfl still_done)), ?_⟩)
      repeat (first
       | refine P_nil ?_
       | refine P_cons1 rfl rfl (S_field0 rfl rfl rfl rfl rfl rfl rfl rfl rfl ?_)
       | refine P_cons1 rfl rfl (S_pure (v := .nptr _ _) rfl rfl rfl rfl (fun _ => rfl) ?_)
       | refine P_cons1 rfl rfl (S_store1 0 (v := .str _) rfl rfl rfl rfl rfl rfl rfl rfl rfl rfl rfl ?_))
      repeat (first
       | refine J_seq ?_
       | refine J_region ?_
       | refine O_nil ?_
       | refine J_ret ?_
       | refine O_cons (S_pure (v := .int _ _) rfl rfl rfl rfl (fun _ => rfl) ?_))
      exact ret_tmp (v := .int _ _) (.inr rfl) (fun _ => rfl) ⟨rfl, rrd_eq (List.take_of_length_le (by simp)) rfl⟩
  · have hnum : numR s w = (0, s, true) := by simp only [numR, hd]
    rw [hnum]
    cases w
    · skip
      repeat (first
       | refine J_seq ?_
       | refine O_nil ?_
       | refine O_cons (S_pure (v := .int _ _) rfl rfl rfl rfl (fun _ => rfl) ?_)
       | refine O_cons (S_pure (v := .tup _) rfl rfl rfl rfl (fun _ => rfl) ?_))
      refine J_draw (l := [⟨0, []⟩, ⟨1, []⟩, ⟨2, []⟩, ⟨3, []⟩, ⟨4, []⟩, ⟨5, []⟩, ⟨6, []⟩, ⟨7, []⟩, ⟨8, []⟩, ⟨9, []⟩, ⟨10, []⟩, ⟨11, []⟩, ⟨12, []⟩, ⟨13, []⟩, ⟨14, []⟩, ⟨15, []⟩, ⟨16, []⟩, ⟨17, []⟩, ⟨18, [15]⟩, ⟨19, []⟩, ⟨20, []⟩, ⟨21, []⟩]) (by kernel_rfl) ?_
      repeat (first
       | refine P_cons1 rfl rfl (S_field0 rfl rfl rfl rfl rfl rfl rfl rfl rfl ?_)
       | refine P_cons1 rfl rfl (S_pure (v := .int _ _) rfl rfl rfl rfl (fun _ => rfl) ?_)
       | refine P_cons1 rfl rfl (S_pure (v := .bool _) rfl rfl rfl rfl (fun _ => rfl) ?_)
       | refine P_cons1 rfl rfl (S_pure (v := .nptr _ _) rfl rfl rfl rfl (fun _ => rfl) ?_)
       | refine P_cons2 rfl rfl rfl (S_load 0 rfl rfl rfl rfl rfl rfl rfl rfl rfl rfl ?_))
      refine P_cons2 rfl rfl rfl (S_sliceS rfl rfl rfl rfl rfl rfl rfl (bounds_lo (a := 0) (Nat.zero_le _)) ?_)
      repeat (first
       | refine P_cons1 rfl rfl (S_field0 rfl rfl rfl rfl rfl rfl rfl rfl rfl ?_)
       | refine P_cons1 rfl rfl (S_pure (v := .nptr _ _) rfl rfl rfl rfl (fun _ => rfl) ?_))
      refine P_consA1 rfl rfl (S_store1 0 (v := .bool _) rfl rfl rfl rfl rfl rfl rfl rfl rfl rfl rfl ⟨fun H' hH' => still_sliceS rfl rfl rfl rfl (bounds_lo (a := 0) (Nat.zero_le _)) rfl (still_no rfl (still_no rfl still_done)), ?_⟩)
      repeat (first
       | refine P_nil ?_
       | refine P_cons1 rfl rfl (S_field0 rfl rfl rfl rfl rfl rfl rfl rfl rfl ?_)
       | refine P_cons1 rfl rfl (S_pure (v := .nptr _ _) rfl rfl rfl rfl (fun _ => rfl) ?_)
       | refine P_cons1 rfl rfl (S_store1 0 (v := .str _) rfl rfl rfl rfl rfl rfl rfl rfl rfl rfl rfl ?_))
      repeat (first
       | refine J_seq ?_
       | refine J_region ?_
       | refine O_nil ?_
       | refine J_ret ?_
       | refine O_cons (S_pure (v := .int _ _) rfl rfl rfl rfl (fun _ => rfl) ?_))
      exact ret_tmp (v := .int _ _) (.inr rfl) (fun _ => rfl) ⟨rfl, rrd_eq (List.take_of_length_le (by simp)) (show ((e : Int) != 0) = true by rw [bne_iff_ne]; omega)⟩
    · skip
      repeat (first
       | refine J_seq ?_
       | refine O_nil ?_
       | refine O_cons (S_pure (v := .int _ _) rfl rfl rfl rfl (fun _ => rfl) ?_)
       | refine O_cons (S_pure (v := .tup _) rfl rfl rfl rfl (fun _ => rfl) ?_))
      refine J_draw (l := [⟨0, []⟩, ⟨1, []⟩, ⟨2, []⟩, ⟨3, []⟩, ⟨4, []⟩, ⟨5, []⟩, ⟨6, []⟩, ⟨7, []⟩, ⟨8, []⟩, ⟨9, []⟩, ⟨10, []⟩, ⟨11, []⟩, ⟨12, []⟩, ⟨13, []⟩, ⟨14, []⟩, ⟨15, []⟩, ⟨16, []⟩, ⟨17, []⟩, ⟨18, [15]⟩, ⟨19, []⟩, ⟨20, []⟩, ⟨21, []⟩]) (by kernel_rfl) ?_
      repeat (first
       | refine P_cons1 rfl rfl (S_field0 rfl rfl rfl rfl rfl rfl rfl rfl rfl ?_)
       | refine P_cons1 rfl rfl (S_pure (v := .int _ _) rfl rfl rfl rfl (fun _ => rfl) ?_)
       | refine P_cons1 rfl rfl (S_pure (v := .bool _) rfl rfl rfl rfl (fun _ => rfl) ?_)
       | refine P_cons1 rfl rfl (S_pure (v := .nptr _ _) rfl rfl rfl rfl (fun _ => rfl) ?_)
       | refine P_cons1 rfl rfl (S_off rfl rfl rfl rfl ?_)
       | refine P_cons2 rfl rfl rfl (S_load 0 rfl rfl rfl rfl rfl rfl rfl rfl rfl rfl ?_))
      refine P_cons2 rfl rfl rfl (S_sliceS rfl rfl rfl rfl rfl rfl rfl (bounds_lo (a := 0) (Nat.zero_le _)) ?_)
      repeat (first
       | refine P_cons1 rfl rfl (S_field0 rfl rfl rfl rfl rfl rfl rfl rfl rfl ?_)
       | refine P_cons1 rfl rfl (S_pure (v := .nptr _ _) rfl rfl rfl rfl (fun _ => rfl) ?_))
      refine P_consA1 rfl rfl (S_store1 0 (v := .bool _) rfl rfl rfl rfl rfl rfl rfl rfl rfl rfl rfl ⟨fun H' hH' => still_sliceS rfl rfl rfl rfl (bounds_lo (a := 0) (Nat.zero_le _)) rfl (still_no rfl (still_no rfl still_done)), ?_⟩)
      repeat (first
       | refine P_nil ?_
       | refine P_cons1 rfl rfl (S_field0 rfl rfl rfl rfl rfl rfl rfl rfl rfl ?_)
       | refine P_cons1 rfl rfl (S_pure (v := .nptr _ _) rfl rfl rfl rfl (fun _ => rfl) ?_)
       | refine P_cons1 rfl rfl (S_store1 0 (v := .str _) rfl rfl rfl rfl rfl rfl rfl rfl rfl rfl rfl ?_))
      repeat (first
       | refine J_seq ?_
       | refine J_region ?_
       | refine O_nil ?_
       | refine J_ret ?_
       | refine O_cons (S_pure (v := .int _ _) rfl rfl rfl rfl (fun _ => rfl) ?_))
      exact ret_tmp (v := .int _ _) (.inr rfl) (fun _ => rfl) ⟨rfl, rrd_eq (List.take_of_length_le (by simp)) rfl⟩

theorem i_done (i : Nat) (s : List UInt8) (w : Bool) (rest : Kn) :
    Inn TR (CX old) MM 1 89 [.nptr i 0] (rrd i s w :: rest) (fun v' L' => v' = .bool (decide (w = false ∧ s = [])) ∧ L' = rrd i s w :: rest) := by
  refine inn_fn (nt := 15) rfl Tryz.func89 rfl rfl rfl fun N H0 Wr hN => ?_
  cases w
  · skip
    repeat (first
     | refine J_seq ?_
     | refine J_region ?_
     | refine O_nil ?_
     | refine J_ret ?_
     | refine O_cons (S_field0 rfl rfl rfl rfl rfl rfl rfl rfl rfl ?_)
     | refine O_cons (S_pure (v := .bool _) rfl rfl rfl rfl (fun _ => rfl) ?_)
     | refine O_cons (S_pure (v := .nptr _ _) rfl rfl rfl rfl (fun _ => rfl) ?_)
     | refine O_cons (S_load 0 rfl rfl rfl rfl rfl rfl rfl rfl rfl rfl ?_))
    refine ret_tmp (v := .bool _) (.inr rfl) (fun _ => rfl) ⟨congrArg AV.bool ?_, rfl⟩
    show (s == []) = _
    cases s <;> simp
  · skip
    repeat (first
     | refine J_seq ?_
     | refine J_region ?_
     | refine O_nil ?_
     | refine J_ret ?_
     | refine O_cons (S_field0 rfl rfl rfl rfl rfl rfl rfl rfl rfl ?_)
     | refine O_cons (S_pure (v := .bool _) rfl rfl rfl rfl (fun _ => rfl) ?_)
     | refine O_cons (S_pure (v := .nptr _ _) rfl rfl rfl rfl (fun _ => rfl) ?_)
     | refine O_cons (S_off rfl rfl rfl rfl ?_)
     | refine O_cons (S_load 0 rfl rfl rfl rfl rfl rfl rfl rfl rfl rfl ?_))
    exact ret_tmp (v := .bool _) (.inr rfl) (fun _ => rfl) ⟨rfl, rfl⟩

theorem validR0 (p e : Int) : validR p e [] [] ↔ hashI p ∧ 1 ≤ e ∧ e ≤ 2000 := by
  unfold validR
  simp

abbrev nilS : AV := .raw (.slice none 0 0)

/-- A result that is a recording in a cell, and three others. -/
theorem res_rec4 {fn : Func} {tm : Tr AV} {H : AH} {i : Nat} {c : List AV} {v3 v4 v5 : AV} (hr : fn.results = #[.cell 2 25, .tmp 3, .tmp 4, .tmp 5]) (h2 : ev tm (.tmp 2) = .nptr i 0) (h3 : ev tm (.tmp 3) = v3) (h4 : ev tm (.tmp 4) = v4) (h5 : ev tm (.tmp 5) = v5) (hi : H.cells i = some c) (hc : c.length = 4) : resultsF (CX old) fn tm H = some (.tup [.agg c, v3, v4, v5]) := by
  obtain ⟨ti, ht, hg, hz⟩ : ∃ ti, tiOf ((CX old)).P 25 = some ti ∧ ti.agg = true ∧ ti.size = 4 := ⟨_, rfl, rfl, rfl⟩
  rw [← hc] at hz
  simp only [resultsF, hr, List.mapM_cons, List.mapM_nil, resultF, h2, h3, h4, h5, loadF, ht, hg, readN, hi, hz]
  rw [Nat.add_zero, slice_all]
  rfl

/-- What reading the first frame gives. -/
def firstV (r : Option (Int × Int × Nat × Nat)) : AV :=
  match r with
  | none => .tup [recV 0 0 nilS nilS, .int .i64 0, .int .i64 0, .bool false]
  | some (p, e, c, n) => .tup [recV p e nilS nilS, .int .i64 (c : Int), .int .i64 (n : Int), .bool true]

theorem c_first (s : List UInt8) (hs : s.length < 20000) (H : AH) (hH : Wf H) : Con TR (CX old) MM 10 (.fn 49) [.str s] H (fun v H' => v = firstV (firstR s) ∧ Fr H [] H') := by
  refine con_fn (nt := 68) [] [] rfl Tryz.func49 rfl rfl rfl (Hs.start hH) fun N hN => ?_
  repeat (first
   | refine J_seq ?_
   | refine J_region ?_)
  refine O_cons (S_alloc rfl rfl rfl rfl rfl (z := [.int .i64 0, .int .i64 0, nilS, nilS]) rfl fun c2 => ?_)
  have bad : ∀ (f : Nat → AV) (L : Kn) (k : Nat) (hd : firstR s = none), f 2 = .nptr c2 0 → f 3 = .int .i64 0 → f 4 = .int .i64 0 → f 5 = .bool false → L[k]? = some (recS c2 0 0 nilS nilS) →
      endJ (CX old) Tryz.f49 68 H [] (fun v H' => v = firstV (firstR s) ∧ Fr H [] H') .ret f L [] := fun f L k hd h2 h3 h4 h5 hk =>
    end_read (v := firstV none) (.inr rfl) (fun H' hh => res_rec4 rfl h2 h3 h4 h5 (hh.cells hk) rfl) fun H' hh => ⟨by rw [hd], hh.fr⟩
  repeat (first
   | refine J_seq ?_
   | refine J_region ?_
   | refine O_nil ?_
   | refine O_cons (S_pure (v := .int _ _) rfl rfl rfl rfl (fun _ => rfl) ?_)
   | refine O_cons (S_pure (v := .bool _) rfl rfl rfl rfl (fun _ => rfl) ?_)
   | refine O_cons (S_pure (v := .str _) rfl rfl rfl rfl (fun _ => rfl) ?_))
  refine O_cons (S_callV _ rfl rfl rfl rfl (fun _ => rfl) (fun H' hw => c_Open (T := TR) rfl rfl rfl rfl rfl rfl rfl rfl rfl rfl rfl rfl rfl s (by omega) H' hw N (by omega)) fun v hv => ?_)
  rcases hv with ⟨t, n, ho, rfl⟩ | ⟨ho, e, he, rfl⟩
  rotate_left
  · have hf : firstR s = none := by simp only [firstR, ho]
    repeat (first
     | refine J_seq ?_
     | refine J_region ?_
     | refine O_nil ?_
     | refine O_cons (S_pure (v := .int _ _) rfl rfl rfl rfl (fun _ => rfl) ?_)
     | refine O_cons (S_pure (v := .bool _) rfl rfl rfl rfl (fun _ => rfl) ?_)
     | refine O_cons (S_pure (v := .str _) rfl rfl rfl rfl (fun _ => rfl) ?_)
     | refine O_cons (S_pure (v := .tup _) rfl rfl rfl rfl (fun _ => rfl) ?_))
    refine J_cond _ rfl (fun _ => ?_) (fun g => absurd (show (e : Int) = 0 by simpa using g) (by omega))
    repeat (first
     | refine J_seq ?_
     | refine J_region ?_
     | refine O_nil ?_
     | refine J_ret ?_
     | refine O_cons (S_pure (v := .int _ _) rfl rfl rfl rfl (fun _ => rfl) ?_)
     | refine O_cons (S_pure (v := .bool _) rfl rfl rfl rfl (fun _ => rfl) ?_)
     | refine O_cons (S_pure (v := .agg _) rfl rfl rfl rfl (fun _ => rfl) ?_)
     | refine O_cons (S_storeW 0 rfl rfl rfl rfl rfl rfl rfl rfl rfl rfl ?_))
    exact bad _ _ 0 hf rfl rfl rfl rfl rfl
  obtain ⟨a1, a2, a3, a4⟩ := open_some ho
  have htl : t.length ≤ s.length := by
    have := congrArg List.length a2
    simp only [sealB, List.length_append, List.length_take] at this
    omega
  repeat (first
   | refine J_seq ?_
   | refine J_region ?_
   | refine O_nil ?_
   | refine O_cons (S_pure (v := .int _ _) rfl rfl rfl rfl (fun _ => rfl) ?_)
   | refine O_cons (S_pure (v := .bool _) rfl rfl rfl rfl (fun _ => rfl) ?_)
   | refine O_cons (S_pure (v := .str _) rfl rfl rfl rfl (fun _ => rfl) ?_)
   | refine O_cons (S_pure (v := .tup _) rfl rfl rfl rfl (fun _ => rfl) ?_))
  refine J_condF rfl ?_
  repeat (first
   | refine J_seq ?_
   | refine J_region ?_
   | refine J_skip ?_
   | refine O_cons (S_pure (v := .str _) rfl rfl rfl rfl (fun _ => rfl) ?_))
  refine O_cons (S_callV _ rfl rfl rfl rfl (fun _ => rfl) (fun H' hw => c_ReadText (T := TR) rfl rfl rfl rfl t (by omega) H' hw N (by omega)) fun v hv => ?_)
  rcases hv with ⟨nm, k, hd, rfl⟩ | ⟨hd, e, he, rfl⟩
  rotate_left
  · have hf : firstR s = none := by simp only [firstR, ho, hd]
    repeat (first
     | refine J_seq ?_
     | refine J_region ?_
     | refine O_nil ?_
     | refine O_cons (S_pure (v := .int _ _) rfl rfl rfl rfl (fun _ => rfl) ?_)
     | refine O_cons (S_pure (v := .bool _) rfl rfl rfl rfl (fun _ => rfl) ?_)
     | refine O_cons (S_pure (v := .str _) rfl rfl rfl rfl (fun _ => rfl) ?_)
     | refine O_cons (S_pure (v := .tup _) rfl rfl rfl rfl (fun _ => rfl) ?_))
    refine O_guard rfl rfl rfl (fun h1 => ?_) (fun h1 => absurd (show (e : Int) = 0 by simpa using h1) (by omega))
    repeat (first
     | refine O_nil ?_
     | refine O_cons (S_pure (v := .bool _) rfl rfl rfl rfl (fun _ => rfl) ?_)
     | refine O_cons (S_off rfl rfl rfl rfl ?_))
    refine J_condT rfl ?_
    repeat (first
     | refine J_seq ?_
     | refine J_region ?_
     | refine O_nil ?_
     | refine J_ret ?_
     | refine O_cons (S_pure (v := .int _ _) rfl rfl rfl rfl (fun _ => rfl) ?_)
     | refine O_cons (S_pure (v := .bool _) rfl rfl rfl rfl (fun _ => rfl) ?_)
     | refine O_cons (S_pure (v := .agg _) rfl rfl rfl rfl (fun _ => rfl) ?_)
     | refine O_cons (S_storeW 0 rfl rfl rfl rfl rfl rfl rfl rfl rfl rfl ?_))
    exact bad _ _ 0 hf rfl rfl rfl rfl rfl
  have hk := decT_le t nm k hd
  repeat (first
   | refine J_seq ?_
   | refine J_region ?_
   | refine O_nil ?_
   | refine O_cons (S_pure (v := .int _ _) rfl rfl rfl rfl (fun _ => rfl) ?_)
   | refine O_cons (S_pure (v := .bool _) rfl rfl rfl rfl (fun _ => rfl) ?_)
   | refine O_cons (S_pure (v := .str _) rfl rfl rfl rfl (fun _ => rfl) ?_)
   | refine O_cons (S_pure (v := .tup _) rfl rfl rfl rfl (fun _ => rfl) ?_))
  refine J_cond _ rfl (fun h1 => ?_) (fun h1 => ?_)
  · have hf : firstR s = none := by
      simp only [firstR, ho, hd]
      rw [if_pos]
      intro h
      subst h
      exact absurd h1 (by decide)
    repeat (first
     | refine J_seq ?_
     | refine J_region ?_
     | refine O_nil ?_
     | refine J_ret ?_
     | refine O_cons (S_pure (v := .int _ _) rfl rfl rfl rfl (fun _ => rfl) ?_)
     | refine O_cons (S_pure (v := .bool _) rfl rfl rfl rfl (fun _ => rfl) ?_)
     | refine O_cons (S_pure (v := .agg _) rfl rfl rfl rfl (fun _ => rfl) ?_)
     | refine O_cons (S_storeW 0 rfl rfl rfl rfl rfl rfl rfl rfl rfl rfl ?_))
    exact bad _ _ 0 hf rfl rfl rfl rfl rfl
  have hnm : nm = nameM := by
    have : (!(nm == nameM)) = false := h1
    simpa using this
  subst hnm
  clear h1
  repeat (first
   | refine J_seq ?_
   | refine J_region ?_
   | refine J_skip ?_
   | refine O_cons (S_pure (v := .int _ _) rfl rfl rfl rfl (fun _ => rfl) ?_)
   | refine O_cons (S_pure (v := .str _) rfl rfl rfl rfl (fun _ => rfl) ?_))
  refine O_cons (S_sliceS rfl rfl rfl rfl rfl rfl rfl (bounds_lo (a := k) hk) ?_)
  have hdr : (t.drop k).take (t.length - k) = t.drop k := List.take_of_length_le (by simp)
  rw [hdr]
  repeat (refine O_cons (S_pure (v := .agg _) rfl rfl rfl rfl (fun _ => rfl) ?_))
  refine O_cons (S_box (v := .agg [.str (t.drop k), .bool false]) rfl rfl rfl rfl rfl rfl fun ri => ?_)
  refine O_perm (List.perm_append_comm) ?_
  repeat (first
   | refine J_seq ?_
   | refine J_region ?_
   | refine O_nil ?_
   | refine O_cons (S_pure (v := .nptr _ _) rfl rfl rfl rfl (fun _ => rfl) ?_))
  have hlen : ∀ (x : List UInt8) (w : Bool), (numR x w).2.1.length ≤ x.length := by
    intro x w
    unfold numR
    cases decI x with
    | none => exact Nat.le_refl _
    | some r => simp
  have hl0 : (t.drop k).length < 20000 := by simp; omega
  have hl1 := hlen (t.drop k) false
  refine O_cons (S_callI rfl rfl rfl rfl (fun _ => rfl) rfl (i_number ri (t.drop k) false [recS c2 0 0 nilS nilS] (by omega)) (by omega) (List.Perm.refl _) fun v' L' hP => ?_)
  obtain ⟨rfl, rfl⟩ := hP
  have hfe : firstR s = (let a := numR (t.drop k) false
      let b := numR a.2.1 a.2.2
      let c := numR b.2.1 b.2.2
      if c.2.2 = true ∨ c.2.1 ≠ [] ∨ c.1 < 0 ∨ 2000 < c.1 ∨ ¬ hashI a.1 ∨ b.1 < 1 ∨ 2000 < b.1 then none else some (a.1, b.1, c.1.toNat, n)) := by
    simp only [firstR, ho, hd, ne_eq, not_true_eq_false, if_false]
  simp only at hfe
  generalize numR (t.drop k) false = ra at *
  obtain ⟨pa, s1, w1⟩ := ra
  simp only at hl1 hfe
  have hl2 := hlen s1 w1
  repeat (refine O_cons (S_pure (v := .nptr _ _) rfl rfl rfl rfl (fun _ => rfl) ?_))
  refine O_cons (S_callI rfl rfl rfl rfl (fun _ => rfl) rfl (i_number ri s1 w1 [recS c2 0 0 nilS nilS] (by omega)) (by omega) (List.Perm.refl _) fun v' L' hP => ?_)
  obtain ⟨rfl, rfl⟩ := hP
  generalize numR s1 w1 = rb at *
  obtain ⟨pb, s2, w2⟩ := rb
  simp only at hl2 hfe
  have hl3 := hlen s2 w2
  repeat (refine O_cons (S_pure (v := .agg _) rfl rfl rfl rfl (fun _ => rfl) ?_))
  refine O_cons (S_alloc rfl rfl rfl rfl rfl (z := [.int .i64 0, .int .i64 0, nilS, nilS]) rfl fun c12 => ?_)
  repeat (first
   | refine J_seq ?_
   | refine J_region ?_
   | refine O_nil ?_
   | refine O_cons (S_pure (v := .nptr _ _) rfl rfl rfl rfl (fun _ => rfl) ?_)
   | refine O_cons (S_storeW 2 rfl rfl rfl rfl rfl rfl rfl rfl rfl rfl ?_))
  refine O_cons (S_callI rfl rfl rfl rfl (fun _ => rfl) rfl (i_number ri s2 w2 [recS c2 0 0 nilS nilS, recS c12 pa pb nilS nilS] (by omega)) (by omega) (List.Perm.refl _) fun v' L' hP => ?_)
  obtain ⟨rfl, rfl⟩ := hP
  generalize numR s2 w2 = rc at *
  obtain ⟨pc, s3, w3⟩ := rc
  simp only at hl3 hfe
  repeat (first
   | refine J_seq ?_
   | refine J_region ?_
   | refine O_nil ?_
   | refine O_cons (S_pure (v := .int _ _) rfl rfl rfl rfl (fun _ => rfl) ?_)
   | refine O_cons (S_pure (v := .nptr _ _) rfl rfl rfl rfl (fun _ => rfl) ?_))
  refine O_midL (fun e' f' => e' = .norm ∧ f' 2 = .nptr c2 0 ∧ f' 12 = .nptr c12 0 ∧ f' 13 = .int .i64 pc ∧ f' 7 = .int .i64 (n : Int) ∧ f' 63 = .bool (decide (w3 = true ∨ s3 ≠ [] ∨ pc < 0 ∨ 2000 < pc ∨ ¬ hashI pa ∨ pb < 1 ∨ 2000 < pb))) ?_ (fun e' f' hM => ?_)
  · skip
    skip
    refine O_cons (S_callI rfl rfl rfl rfl (fun _ => rfl) rfl (i_done ri s3 w3 [recS c2 0 0 nilS nilS, recS c12 pa pb nilS nilS]) (by omega) (List.Perm.refl _) fun v' L' hP => ?_)
    obtain ⟨rfl, rfl⟩ := hP
    repeat (refine O_cons (S_pure (v := .bool _) rfl rfl rfl rfl (fun _ => rfl) ?_))
    refine O_guard rfl rfl rfl (fun h1 => ?_) (fun h1 => ?_)
    · have h1' : ¬ (w3 = false ∧ s3 = []) := by simpa only [Bool.not_eq_true', decide_eq_false_iff_not] using h1
      repeat (first
       | refine O_nil ?_
       | refine O_cons (S_pure (v := .bool _) rfl rfl rfl rfl (fun _ => rfl) ?_)
       | refine O_cons (S_off rfl rfl rfl rfl ?_))
      refine ⟨rfl, rfl, rfl, rfl, rfl, rfl, rfl, ?_⟩
      refine congrArg AV.bool (decide_eq_true ?_).symm
      by_cases hw : w3 = true
      · exact Or.inl hw
      · exact Or.inr (Or.inl fun h => h1' ⟨by simpa using hw, h⟩)
    have h1' : w3 = false ∧ s3 = [] := by simpa only [Bool.not_eq_false', decide_eq_true_eq] using h1
    repeat (first
     | refine O_cons (S_pure (v := .int _ _) rfl rfl rfl rfl (fun _ => rfl) ?_)
     | refine O_cons (S_pure (v := .bool _) rfl rfl rfl rfl (fun _ => rfl) ?_))
    refine O_guard rfl rfl rfl (fun h2 => ?_) (fun h2 => ?_)
    · have h2' : pc < 0 := of_decide_eq_true h2
      repeat (first
       | refine O_nil ?_
       | refine O_cons (S_pure (v := .bool _) rfl rfl rfl rfl (fun _ => rfl) ?_)
       | refine O_cons (S_off rfl rfl rfl rfl ?_))
      refine ⟨rfl, rfl, rfl, rfl, rfl, rfl, rfl, ?_⟩
      exact congrArg AV.bool (decide_eq_true (Or.inr (Or.inr (Or.inl h2')))).symm
    have h2' : ¬ pc < 0 := of_decide_eq_false h2
    repeat (first
     | refine O_cons (S_pure (v := .int _ _) rfl rfl rfl rfl (fun _ => rfl) ?_)
     | refine O_cons (S_pure (v := .bool _) rfl rfl rfl rfl (fun _ => rfl) ?_))
    refine O_guard rfl rfl rfl (fun h3 => ?_) (fun h3 => ?_)
    · have h3' : 2000 < pc := of_decide_eq_true h3
      repeat (first
       | refine O_nil ?_
       | refine O_cons (S_pure (v := .bool _) rfl rfl rfl rfl (fun _ => rfl) ?_)
       | refine O_cons (S_off rfl rfl rfl rfl ?_))
      refine ⟨rfl, rfl, rfl, rfl, rfl, rfl, rfl, ?_⟩
      exact congrArg AV.bool (decide_eq_true (Or.inr (Or.inr (Or.inr (Or.inl h3'))))).symm
    have h3' : ¬ 2000 < pc := of_decide_eq_false h3
    repeat (refine O_cons (S_loadA 2 rfl rfl rfl rfl rfl rfl rfl rfl rfl rfl ?_))
    refine O_cons (S_call (v := .bool (decide (validR pa pb [] []))) rfl rfl rfl rfl (fun _ => rfl) (fun H' h => c_valid (T := TR) rfl rfl rfl rfl rfl rfl rfl pa pb nilS nilS [] [] (by decide) (by decide) H' h.wf .nil .nil N (by omega)) ?_)
    repeat (first
     | refine O_nil ?_
     | refine O_cons (S_pure (v := .bool _) rfl rfl rfl rfl (fun _ => rfl) ?_))
    refine ⟨rfl, rfl, rfl, rfl, rfl, rfl, rfl, ?_⟩
    show AV.bool (!decide (validR pa pb [] [])) = _
    refine congrArg AV.bool ?_
    by_cases hv : validR pa pb [] []
    · have hv' := (validR0 pa pb).1 hv
      rw [decide_eq_true hv, decide_eq_false]
      · rfl
      · rintro (h | h | h | h | h | h | h)
        · rw [h1'.1] at h; cases h
        · exact h h1'.2
        · exact h2' h
        · exact h3' h
        · exact h hv'.1
        · omega
        · omega
    · rw [decide_eq_false hv, decide_eq_true]
      · rfl
      · rw [validR0] at hv
        by_cases hh : hashI pa
        · by_cases hb : pb < 1
          · exact Or.inr (Or.inr (Or.inr (Or.inr (Or.inr (Or.inl hb)))))
          · exact Or.inr (Or.inr (Or.inr (Or.inr (Or.inr (Or.inr (by
              by_cases h2k : 2000 < pb
              · exact h2k
              · exact absurd ⟨hh, by omega, by omega⟩ hv))))))
        · exact Or.inr (Or.inr (Or.inr (Or.inr (Or.inl hh))))
  obtain ⟨rfl, q2, q12, q13, q7, q63⟩ := hM
  obtain ⟨g, rfl⟩ := upd5 q2 q12 q13 q7 q63
  clear q2 q12 q13 q7 q63
  skip
  refine J_cond _ rfl (fun hb => ?_) (fun hb => ?_)
  · have hb' := of_decide_eq_true hb
    repeat (first
     | refine J_seq ?_
     | refine J_region ?_
     | refine O_nil ?_
     | refine J_ret ?_
     | refine O_cons (S_pure (v := .int _ _) rfl rfl rfl rfl (fun _ => rfl) ?_)
     | refine O_cons (S_pure (v := .bool _) rfl rfl rfl rfl (fun _ => rfl) ?_)
     | refine O_cons (S_pure (v := .agg _) rfl rfl rfl rfl (fun _ => rfl) ?_)
     | refine O_cons (S_storeW 1 rfl rfl rfl rfl rfl rfl rfl rfl rfl rfl ?_))
    exact bad _ _ 1 (by rw [hfe, if_pos hb']) rfl rfl rfl rfl rfl
  · have hb' := of_decide_eq_false hb
    repeat (first
     | refine J_seq ?_
     | refine J_region ?_
     | refine J_skip ?_
     | refine O_nil ?_
     | refine J_ret ?_
     | refine O_cons (S_pure (v := .int _ _) rfl rfl rfl rfl (fun _ => rfl) ?_)
     | refine O_cons (S_pure (v := .bool _) rfl rfl rfl rfl (fun _ => rfl) ?_)
     | refine O_cons (S_loadA 2 rfl rfl rfl rfl rfl rfl rfl rfl rfl rfl ?_)
     | refine O_cons (S_storeW 1 rfl rfl rfl rfl rfl rfl rfl rfl rfl rfl ?_))
    refine end_read (v := firstV (firstR s)) (.inr rfl) (fun H' hh => ?_) fun H' hh => ⟨rfl, hh.fr⟩
    rw [hfe, if_neg hb']
    have hpc : ((pc.toNat : Nat) : Int) = pc := by
      have : ¬ pc < 0 := fun h => hb' (Or.inr (Or.inr (Or.inl h)))
      omega
    show _ = some (AV.tup [recV pa pb nilS nilS, .int .i64 ((pc.toNat : Nat) : Int), .int .i64 (n : Int), .bool true])
    rw [hpc]
    exact res_rec4 rfl rfl rfl rfl rfl (hh.cells (p := 1) rfl) rfl
end Go.Proofs.Aw
