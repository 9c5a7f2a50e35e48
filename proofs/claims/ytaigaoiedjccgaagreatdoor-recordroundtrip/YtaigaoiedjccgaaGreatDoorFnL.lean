/-
  What some of the program functions compute, walked once. For the arguments that each theorem names.
-/
import Derived.Test.YtaigaoiedjccgaaGreatDoorFnK
import Derived.Test.YtaigaoiedjccgaaGreatDoorFnI
import Derived.Test.YtaigaoiedjccgaaGreatDoorFnH
set_option linter.unusedVariables false
set_option linter.unusedSimpArgs false

set_option maxRecDepth 100000
set_option maxHeartbeats 8000000
namespace Go.Proofs.Aw
open Go Go.Ev
variable {old : Nat → Nat → Option AV}

/-- What was read of a recording. -/
def RRead (s : List UInt8) (v : AV) (S : Kn) : Prop :=
  match readR s with
  | none => v = .tup [recV 0 0 nilS nilS, .int .i64 0, .int .i64 0, .bool false] ∧ S = []
  | some (p, e, cs, ms, count, n) => ∃ vc vm Sc Sm, SlC cs vc Sc ∧ SlI ms vm Sm ∧ v = .tup [recV p e vc vm, .int .i64 (count : Int), .int .i64 (n : Int), .bool true] ∧ S = Sc ++ Sm

theorem RRead.own {s : List UInt8} {v : AV} {S : Kn} (h : RRead s v S) : ∀ x ∈ S, x.wr = true ∧ x.gl = true := by
  unfold RRead at h
  split at h
  · obtain ⟨_, rfl⟩ := h; simp
  · obtain ⟨vc, vm, Sc, Sm, hC, hM, _, rfl⟩ := h
    intro x hx
    rcases List.mem_append.1 hx with h | h
    · exact hC.own x h
    · exact hM.own x h

theorem recW (p e : Int) {vc vm : AV} (h1 : vc.isCell = true) (h2 : vm.isCell = true) : (Nat.beq [AV.int .i64 p, .int .i64 e, vc, vm].length 4 && [AV.int .i64 p, .int .i64 e, vc, vm].all AV.isCell) = true := by
  show (true && (true && (true && (vc.isCell && (vm.isCell && true))))) = true
  rw [h1, h2]; rfl

theorem perm_c (a c : Slot) (S T : Kn) : (a :: (S ++ (T ++ [c]))).Perm (c :: a :: (S ++ T)) := by
  have := List.perm_append_comm (l₁ := a :: (S ++ T)) (l₂ := [c])
  rw [List.cons_append, List.append_assoc] at this
  exact this

theorem c_read (s : List UInt8) (hs : s.length < 20000) (H : AH) (hH : Wf H) : Con TR (CX old) MM 15 (.fn 23) [.str s] H (fun v H' => ∃ S, RRead s v S ∧ Hs H [] H' S) := by
  refine con_fn (nt := 34) [] [] rfl Tryz.func23 rfl rfl rfl (Hs.start hH) fun N hN => ?_
  repeat (first
   | refine J_seq ?_
   | refine J_region ?_)
  refine O_cons (S_alloc rfl rfl rfl rfl rfl (z := [.int .i64 0, .int .i64 0, nilS, nilS]) rfl fun c2 => ?_)
  repeat (first
   | refine J_seq ?_
   | refine J_region ?_
   | refine O_nil ?_
   | refine O_cons (S_pure (v := .int _ _) rfl rfl rfl rfl (fun _ => rfl) ?_)
   | refine O_cons (S_pure (v := .bool _) rfl rfl rfl rfl (fun _ => rfl) ?_)
   | refine O_cons (S_pure (v := .str _) rfl rfl rfl rfl (fun _ => rfl) ?_))
  refine O_cons (S_call (v := firstV (firstR s)) rfl rfl rfl rfl (fun _ => rfl) (fun H' h => c_first s hs H' h.wf N (by omega)) ?_)
  cases hf : firstR s with
  | none =>
    have hrd : readR s = none := by simp only [readR, hf]
    repeat (first
     | refine O_cons (S_pure (v := .int _ _) rfl rfl rfl rfl (fun _ => rfl) ?_)
     | refine O_cons (S_pure (v := .bool _) rfl rfl rfl rfl (fun _ => rfl) ?_)
     | refine O_cons (S_pure (v := .agg _) rfl rfl rfl rfl (fun _ => rfl) ?_)
     | refine O_cons (S_pure (v := .tup _) rfl rfl rfl rfl (fun _ => rfl) ?_))
    refine O_cons (S_alloc rfl rfl rfl rfl rfl (z := [.int .i64 0, .int .i64 0, nilS, nilS]) rfl fun c6 => ?_)
    repeat (first
     | refine J_seq ?_
     | refine J_region ?_
     | refine O_nil ?_
     | refine O_cons (S_pure (v := .int _ _) rfl rfl rfl rfl (fun _ => rfl) ?_)
     | refine O_cons (S_pure (v := .bool _) rfl rfl rfl rfl (fun _ => rfl) ?_)
     | refine O_cons (S_storeW 1 rfl rfl rfl rfl rfl rfl rfl rfl rfl rfl ?_))
    refine J_condT rfl ?_
    repeat (first
     | refine J_seq ?_
     | refine J_region ?_
     | refine O_nil ?_
     | refine J_ret ?_
     | refine O_cons (S_pure (v := .int _ _) rfl rfl rfl rfl (fun _ => rfl) ?_)
     | refine O_cons (S_pure (v := .bool _) rfl rfl rfl rfl (fun _ => rfl) ?_)
     | refine O_cons (S_loadA 1 rfl rfl rfl rfl rfl rfl rfl rfl rfl rfl ?_)
     | refine O_cons (S_storeW 0 rfl rfl rfl rfl rfl rfl rfl rfl rfl rfl ?_))
    refine end_read (v := .tup [recV 0 0 nilS nilS, .int .i64 0, .int .i64 0, .bool false]) (.inr rfl) (fun H' hh => res_rec4 rfl rfl rfl rfl rfl (hh.cells (p := 0) rfl) rfl) fun H' hh => ⟨[], ?_, hh.drop (List.nil_sublist _)⟩
    unfold RRead
    rw [hrd]
    exact ⟨rfl, rfl⟩
  | some r =>
    obtain ⟨p, e, count, n0⟩ := r
    obtain ⟨b1, b2, b3, b4, b5, b6⟩ := firstR_some hf
    obtain ⟨E, rfl⟩ : ∃ E : Nat, e = (E : Int) := ⟨e.toNat, by omega⟩
    have hrd : readR s = some (p, (E : Int), (loopR E count (s.drop n0)).1, (loopR E count (s.drop n0)).2.1, count, n0 + (loopR E count (s.drop n0)).2.2) := by
      simp only [readR, hf, Int.toNat_natCast]
    repeat (first
     | refine O_cons (S_pure (v := .int _ _) rfl rfl rfl rfl (fun _ => rfl) ?_)
     | refine O_cons (S_pure (v := .bool _) rfl rfl rfl rfl (fun _ => rfl) ?_)
     | refine O_cons (S_pure (v := .agg _) rfl rfl rfl rfl (fun _ => rfl) ?_)
     | refine O_cons (S_pure (v := .tup _) rfl rfl rfl rfl (fun _ => rfl) ?_))
    refine O_cons (S_alloc rfl rfl rfl rfl rfl (z := [.int .i64 0, .int .i64 0, nilS, nilS]) rfl fun c6 => ?_)
    repeat (first
     | refine J_seq ?_
     | refine J_region ?_
     | refine O_nil ?_
     | refine O_cons (S_pure (v := .int _ _) rfl rfl rfl rfl (fun _ => rfl) ?_)
     | refine O_cons (S_pure (v := .bool _) rfl rfl rfl rfl (fun _ => rfl) ?_)
     | refine O_cons (S_storeW 1 rfl rfl rfl rfl rfl rfl rfl rfl rfl rfl ?_))
    refine J_condF rfl ?_
    repeat (first
     | refine J_skip ?_
     | refine J_block ?_)
    refine J_perm (List.Perm.swap _ _ _) ?_
    refine J_loop (fun r f L df => df = [] ∧ ∃ (sz : Nat) (cs : List Ch) (ms : List Int) (vc vm : AV) (Sc Sm : Kn), s.length + 1 ≤ r + sz ∧ n0 ≤ sz ∧ sz ≤ s.length ∧ cs.length ≤ count ∧ ms.length ≤ cs.length ∧ loopR E count (s.drop n0) = (cs ++ (loopR E (count - cs.length) (s.drop sz)).1, ms ++ (loopR E (count - cs.length) (s.drop sz)).2.1, (sz - n0) + (loopR E (count - cs.length) (s.drop sz)).2.2) ∧ SlC cs vc Sc ∧ SlI ms vm Sm ∧ f 0 = .str s ∧ f 2 = .nptr c2 0 ∧ f 6 = .nptr c6 0 ∧ f 7 = .int .i64 (count : Int) ∧ f 8 = .int .i64 (sz : Int) ∧ L = recS c6 p E vc vm :: (Sc ++ (Sm ++ [recS c2 0 0 nilS nilS]))) (s.length + 1) (show s.length + 1 < 1000000 by omega) ⟨rfl, n0, [], [], nilS, nilS, [], [], by omega, by omega, b6, by simp, by simp, by simp, .inl ⟨rfl, rfl, rfl⟩, .inl ⟨rfl, rfl, rfl⟩, rfl, rfl, rfl, rfl, rfl, rfl⟩ fun r f L df hI => ?_
    obtain ⟨rfl, sz, cs, ms, vc, vm, Sc, Sm, hr, hn0, hsz, hcc, hmc, hloop, hC, hM, q0, q2, q6, q7, q8, rfl⟩ := hI
    obtain ⟨g0, rfl⟩ := upd5 q0 q2 q6 q7 q8
    clear q0 q2 q6 q7 q8
    have hdr : (s.drop sz).take (s.length - sz) = s.drop sz := List.take_of_length_le (by simp)
    repeat (first
     | refine J_seq ?_
     | refine J_region ?_
     | refine J_block ?_
     | refine O_cons (S_pure (v := .int _ _) rfl rfl rfl rfl (fun _ => rfl) ?_)
     | refine O_cons (S_pure (v := .str _) rfl rfl rfl rfl (fun _ => rfl) ?_))
    refine O_cons (S_sliceS rfl rfl rfl rfl rfl rfl rfl (bounds_lo (a := sz) hsz) ?_)
    rw [hdr]
    refine O_cons (S_callI rfl rfl rfl rfl (fun _ => rfl) rfl (i_next c6 p E count vc vm cs ms Sc Sm [recS c2 0 0 nilS nilS] (s.drop sz) hC hM (by omega) (by omega) hcc b4 (by omega) (by simp; omega)) (by omega) (List.Perm.refl _) fun v' L' hP => ?_)
    unfold RNext at hP
    cases hnx : nextR E (count - cs.length) (s.drop sz) with
    | none =>
      rw [hnx] at hP
      obtain ⟨rfl, rfl⟩ := hP
      rw [loopR_none hnx] at hloop
      refine O_perm (perm_c _ _ _ _) ?_
      repeat (first
       | refine J_seq ?_
       | refine J_region ?_
       | refine O_nil ?_
       | refine O_cons (S_pure (v := .int _ _) rfl rfl rfl rfl (fun _ => rfl) ?_)
       | refine O_cons (S_pure (v := .bool _) rfl rfl rfl rfl (fun _ => rfl) ?_))
      refine J_condT rfl ?_
      repeat (first
       | refine J_seq ?_
       | refine J_region ?_
       | refine O_cons (S_pure (v := .int _ _) rfl rfl rfl rfl (fun _ => rfl) ?_)
       | refine O_cons (S_loadA 1 rfl rfl rfl rfl rfl rfl rfl rfl rfl rfl ?_))
      refine O_cons (S_storeW 0 rfl rfl rfl rfl rfl rfl rfl rfl (by exact recW p E hC.g.cell1 hM.g.cell1) rfl ?_)
      repeat (first
       | refine O_nil ?_
       | refine J_ret ?_
       | refine O_cons (S_pure (v := .int _ _) rfl rfl rfl rfl (fun _ => rfl) ?_)
       | refine O_cons (S_pure (v := .bool _) rfl rfl rfl rfl (fun _ => rfl) ?_))
      refine end_read (v := .tup [recV p E vc vm, .int .i64 (count : Int), .int .i64 (sz : Int), .bool true]) (.inr rfl) (fun H' hh => res_rec4 rfl rfl rfl rfl rfl (hh.cells (p := 0) rfl) rfl) fun H' hh => ⟨Sc ++ Sm, ?_, hh.drop (List.Sublist.cons _ (List.Sublist.cons _ (List.Sublist.refl _)))⟩
      unfold RRead
      rw [hrd, hloop]
      simp only [List.append_nil, Nat.add_zero]
      exact ⟨vc, vm, Sc, Sm, hC, hM, by rw [show n0 + (sz - n0) = sz by omega], rfl⟩
    | some r3 =>
      obtain ⟨l, m, n⟩ := r3
      rw [hnx] at hP
      obtain ⟨rfl, vc', vm', Sc', Sm', hC', hM', rfl⟩ := hP
      obtain ⟨d1, d2, d3, d4⟩ := nextR_le hnx
      obtain ⟨_, _, _, _, d5⟩ := nextR_some (by omega) hnx
      simp only [List.length_drop] at d2
      rw [loopR_some hnx] at hloop
      obtain ⟨r, rfl⟩ : ∃ r', r = r' + 1 := ⟨r - 1, by omega⟩
      repeat (first
       | refine J_seq ?_
       | refine J_region ?_
       | refine O_nil ?_
       | refine O_cons (S_pure (v := .int _ _) rfl rfl rfl rfl (fun _ => rfl) ?_)
       | refine O_cons (S_pure (v := .bool _) rfl rfl rfl rfl (fun _ => rfl) ?_))
      refine J_cond _ rfl (fun g => absurd (show (n : Int) = 0 by simpa using g) (by omega)) (fun _ => ?_)
      repeat (first
       | refine J_region ?_
       | refine J_skip ?_
       | refine O_nil ?_
       | refine O_cons (S_pure (v := .int _ _) rfl rfl rfl rfl (fun _ => rfl) ?_))
      have e1 : wrapF .i64 ((sz : Int) + (n : Int)) = ((sz + n : Nat) : Int) := by rw [wrap_small (by omega) (by omega)]; rfl
      refine ⟨r, rfl, rfl, sz + n, cs ++ l, ms ++ m, vc', vm', Sc', Sm', by omega, by omega, by omega, ?_, ?_, ?_, hC', hM', rfl, rfl, rfl, rfl, congrArg (AV.int .i64) e1, rfl⟩
      · rw [List.length_append]; omega
      · rw [List.length_append, List.length_append]
        rcases d5 with ⟨h1, h2⟩ | ⟨_, _, h2⟩
        · omega
        · rw [h2]; simp; omega
      · rw [hloop, List.drop_drop, List.length_append, show count - (cs.length + l.length) = count - cs.length - l.length by omega]
        simp only [List.append_assoc]
        congr 2
        omega

theorem res_rec2 {fn : Func} {tm : Tr AV} {H : AH} {i : Nat} {c : List AV} {v3 : AV} (hr : fn.results = #[.cell 2 25, .tmp 3]) (h2 : ev tm (.tmp 2) = .nptr i 0) (h3 : ev tm (.tmp 3) = v3) (hi : H.cells i = some c) (hc : c.length = 4) : resultsF (CX old) fn tm H = some (.tup [.agg c, v3]) := by
  obtain ⟨ti, ht, hg, hz⟩ : ∃ ti, tiOf ((CX old)).P 25 = some ti ∧ ti.agg = true ∧ ti.size = 4 := ⟨_, rfl, rfl, rfl⟩
  rw [← hc] at hz
  simp only [resultsF, hr, List.mapM_cons, List.mapM_nil, resultF, h2, h3, loadF, ht, hg, readN, hi, hz]
  rw [Nat.add_zero, slice_all]
  rfl

theorem res_rec3 {fn : Func} {tm : Tr AV} {H : AH} {i : Nat} {c : List AV} {v3 v4 : AV} (hr : fn.results = #[.cell 2 25, .tmp 3, .tmp 4]) (h2 : ev tm (.tmp 2) = .nptr i 0) (h3 : ev tm (.tmp 3) = v3) (h4 : ev tm (.tmp 4) = v4) (hi : H.cells i = some c) (hc : c.length = 4) : resultsF (CX old) fn tm H = some (.tup [.agg c, v3, v4]) := by
  obtain ⟨ti, ht, hg, hz⟩ : ∃ ti, tiOf ((CX old)).P 25 = some ti ∧ ti.agg = true ∧ ti.size = 4 := ⟨_, rfl, rfl, rfl⟩
  rw [← hc] at hz
  simp only [resultsF, hr, List.mapM_cons, List.mapM_nil, resultF, h2, h3, h4, loadF, ht, hg, readN, hi, hz]
  rw [Nat.add_zero, slice_all]
  rfl

def RDec (s : List UInt8) (v : AV) (S : Kn) : Prop :=
  match decR s with
  | none => v = .tup [recV 0 0 nilS nilS, .int .i64 12] ∧ S = []
  | some (p, e, cs, ms) => ∃ vc vm Sc Sm, SlC cs vc Sc ∧ SlI ms vm Sm ∧ v = .tup [recV p e vc vm, .int .i64 0] ∧ S = Sc ++ Sm

theorem RDec.own {s : List UInt8} {v : AV} {S : Kn} (h : RDec s v S) : ∀ x ∈ S, x.wr = true ∧ x.gl = true := by
  unfold RDec at h
  split at h
  · obtain ⟨_, rfl⟩ := h; simp
  · obtain ⟨vc, vm, Sc, Sm, hC, hM, _, rfl⟩ := h
    intro x hx
    rcases List.mem_append.1 hx with h | h
    · exact hC.own x h
    · exact hM.own x h

theorem c_Decode (s : List UInt8) (hs : s.length < 20000) (H : AH) (hH : Wf H) : Con TR (CX old) MM 16 (.fn 7) [.str s] H (fun v H' => ∃ S, RDec s v S ∧ Hs H [] H' S) := by
  refine con_fn (nt := 32) [] [] rfl Tryz.func7 rfl rfl rfl (Hs.start hH) fun N hN => ?_
  repeat (first
   | refine J_seq ?_
   | refine J_region ?_)
  refine O_cons (S_alloc rfl rfl rfl rfl rfl (z := [.int .i64 0, .int .i64 0, nilS, nilS]) rfl fun c2 => ?_)
  repeat (first
   | refine J_seq ?_
   | refine J_region ?_
   | refine O_nil ?_
   | refine O_cons (S_pure (v := .int _ _) rfl rfl rfl rfl (fun _ => rfl) ?_)
   | refine O_cons (S_pure (v := .str _) rfl rfl rfl rfl (fun _ => rfl) ?_))
  refine O_cons (S_callN (RRead s) rfl rfl rfl rfl (fun _ => rfl) (fun H' hw => ?_) (fun v S hR => hR.own) fun v S hR => ?_)
  · obtain ⟨v, H2, q1, S, q2, q3⟩ := c_read (old := old) s hs H' hw N (by omega)
    exact ⟨v, H2, q1, S, q2, q3⟩
  unfold RRead at hR
  cases hrd : readR s with
  | none =>
    rw [hrd] at hR
    obtain ⟨rfl, rfl⟩ := hR
    have hd : decR s = none := by simp only [decR, hrd]
    repeat (first
     | refine O_cons (S_pure (v := .int _ _) rfl rfl rfl rfl (fun _ => rfl) ?_)
     | refine O_cons (S_pure (v := .bool _) rfl rfl rfl rfl (fun _ => rfl) ?_)
     | refine O_cons (S_pure (v := .agg _) rfl rfl rfl rfl (fun _ => rfl) ?_)
     | refine O_cons (S_pure (v := .tup _) rfl rfl rfl rfl (fun _ => rfl) ?_))
    refine O_cons (S_alloc rfl rfl rfl rfl rfl (z := [.int .i64 0, .int .i64 0, nilS, nilS]) rfl fun c4 => ?_)
    repeat (first
     | refine J_seq ?_
     | refine J_region ?_
     | refine O_nil ?_
     | refine O_cons (S_pure (v := .int _ _) rfl rfl rfl rfl (fun _ => rfl) ?_)
     | refine O_cons (S_pure (v := .bool _) rfl rfl rfl rfl (fun _ => rfl) ?_)
     | refine O_cons (S_off rfl rfl rfl rfl ?_)
     | refine O_cons (S_storeW 1 rfl rfl rfl rfl rfl rfl rfl rfl rfl rfl ?_))
    refine J_condT rfl ?_
    repeat (first
     | refine J_seq ?_
     | refine J_region ?_
     | refine O_nil ?_
     | refine J_ret ?_
     | refine O_cons (S_pure (v := .int _ _) rfl rfl rfl rfl (fun _ => rfl) ?_)
     | refine O_cons (S_pure (v := .agg _) rfl rfl rfl rfl (fun _ => rfl) ?_)
     | refine O_cons (S_storeW 0 rfl rfl rfl rfl rfl rfl rfl rfl rfl rfl ?_))
    refine end_read (v := .tup [recV 0 0 nilS nilS, .int .i64 12]) (.inr rfl) (fun H' hh => res_rec2 rfl rfl rfl (hh.cells (p := 0) rfl) rfl) fun H' hh => ⟨[], ?_, hh.drop (List.nil_sublist _)⟩
    unfold RDec
    rw [hd]
    exact ⟨rfl, rfl⟩
  | some r =>
    obtain ⟨p, e, cs, ms, count, n⟩ := r
    rw [hrd] at hR
    obtain ⟨vc, vm, Sc, Sm, hC, hM, rfl, rfl⟩ := hR
    have hrc : RdC old (InL Sc) vc cs := hC.rd
    have hde : decR s = (if cs.length ≠ count ∨ n ≠ s.length then none else some (p, e, cs, ms)) := by simp only [decR, hrd]
    repeat (first
     | refine O_cons (S_pure (v := .int _ _) rfl rfl rfl rfl (fun _ => rfl) ?_)
     | refine O_cons (S_pure (v := .bool _) rfl rfl rfl rfl (fun _ => rfl) ?_)
     | refine O_cons (S_pure (v := .agg _) rfl rfl rfl rfl (fun _ => rfl) ?_)
     | refine O_cons (S_pure (v := .tup _) rfl rfl rfl rfl (fun _ => rfl) ?_))
    refine O_cons (S_alloc rfl rfl rfl rfl rfl (z := [.int .i64 0, .int .i64 0, nilS, nilS]) rfl fun c4 => ?_)
    refine O_perm (List.perm_append_comm) ?_
    refine O_cons (S_storeW 0 rfl rfl rfl rfl rfl rfl rfl rfl (by exact recW p e hC.g.cell1 hM.g.cell1) rfl ?_)
    repeat (first
     | refine J_seq ?_
     | refine J_region ?_
     | refine O_nil ?_
     | refine O_cons (S_field0 rfl rfl rfl rfl rfl rfl rfl rfl rfl ?_)
     | refine O_cons (S_pure (v := .int _ _) rfl rfl rfl rfl (fun _ => rfl) ?_)
     | refine O_cons (S_pure (v := .bool _) rfl rfl rfl rfl (fun _ => rfl) ?_)
     | refine O_cons (S_load 0 rfl rfl rfl rfl rfl rfl rfl rfl rfl rfl ?_))
    refine O_cons (S_lenR hrc rfl rfl rfl rfl rfl rfl rfl rfl rfl rfl ?_)
    repeat (first
     | refine O_cons (S_pure (v := .int _ _) rfl rfl rfl rfl (fun _ => rfl) ?_)
     | refine O_cons (S_pure (v := .bool _) rfl rfl rfl rfl (fun _ => rfl) ?_))
    refine O_midL (fun e' f' => e' = .norm ∧ f' 2 = .nptr c2 0 ∧ f' 4 = .nptr c4 0 ∧ f' 29 = .bool (decide (cs.length ≠ count ∨ n ≠ s.length))) ?_ (fun e' f' hM' => ?_)
    · refine O_guard rfl rfl rfl (fun h1 => ?_) (fun h1 => ?_)
      · have h1' : cs.length ≠ count := by
          intro h
          rw [h] at h1
          simp at h1
        repeat (first
         | refine O_nil ?_
         | refine O_cons (S_pure (v := .bool _) rfl rfl rfl rfl (fun _ => rfl) ?_)
         | refine O_cons (S_off rfl rfl rfl rfl ?_))
        refine ⟨rfl, rfl, rfl, rfl, rfl, ?_⟩
        exact congrArg AV.bool (decide_eq_true (Or.inl h1')).symm
      · have h1' : cs.length = count := by
          have : (cs.length : Int) = count := by simpa using h1
          omega
        repeat (first
         | refine O_nil ?_
         | refine O_cons (S_pure (v := .int _ _) rfl rfl rfl rfl (fun _ => rfl) ?_)
         | refine O_cons (S_pure (v := .bool _) rfl rfl rfl rfl (fun _ => rfl) ?_)
         | refine O_cons (S_pure (v := .str _) rfl rfl rfl rfl (fun _ => rfl) ?_))
        refine ⟨rfl, rfl, rfl, rfl, rfl, ?_⟩
        show AV.bool ((n : Int) != (s.length : Int)) = _
        refine congrArg AV.bool ?_
        by_cases h2 : n = s.length
        · rw [decide_eq_false (by rintro (h | h); exact h h1'; exact h h2), h2]; simp
        · rw [decide_eq_true (Or.inr h2), bne_iff_ne]
          intro h
          exact h2 (Int.ofNat.inj h)
    obtain ⟨rfl, q2, q4, q29⟩ := hM'
    obtain ⟨g0, rfl⟩ := upd3 q2 q4 q29
    clear q2 q4 q29
    skip
    refine J_cond _ rfl (fun hb => ?_) (fun hb => ?_)
    · have hb' := of_decide_eq_true hb
      repeat (first
       | refine J_seq ?_
       | refine J_region ?_
       | refine O_nil ?_
       | refine J_ret ?_
       | refine O_cons (S_pure (v := .int _ _) rfl rfl rfl rfl (fun _ => rfl) ?_)
       | refine O_cons (S_pure (v := .agg _) rfl rfl rfl rfl (fun _ => rfl) ?_)
       | refine O_cons (S_storeW 1 rfl rfl rfl rfl rfl rfl rfl rfl rfl rfl ?_))
      refine end_read (v := .tup [recV 0 0 nilS nilS, .int .i64 12]) (.inr rfl) (fun H' hh => res_rec2 rfl rfl rfl (hh.cells (p := 1) rfl) rfl) fun H' hh => ⟨[], ?_, hh.drop (List.nil_sublist _)⟩
      unfold RDec
      rw [hde, if_pos hb']
      exact ⟨rfl, rfl⟩
    · have hb' := of_decide_eq_false hb
      repeat (first
       | refine J_seq ?_
       | refine J_region ?_
       | refine J_skip ?_
       | refine O_cons (S_loadA 0 rfl rfl rfl rfl rfl rfl rfl rfl rfl rfl ?_))
      refine O_cons (S_storeW 1 rfl rfl rfl rfl rfl rfl rfl rfl (by exact recW p e hC.g.cell1 hM.g.cell1) rfl ?_)
      repeat (first
       | refine O_nil ?_
       | refine J_ret ?_
       | refine O_cons (S_pure (v := .int _ _) rfl rfl rfl rfl (fun _ => rfl) ?_))
      refine end_read (v := .tup [recV p e vc vm, .int .i64 0]) (.inr rfl) (fun H' hh => res_rec2 rfl rfl rfl (hh.cells (p := 1) rfl) rfl) fun H' hh => ⟨Sc ++ Sm, ?_, hh.drop (List.Sublist.cons _ (List.Sublist.cons _ (List.Sublist.refl _)))⟩
      unfold RDec
      rw [hde, if_neg hb']
      exact ⟨vc, vm, Sc, Sm, hC, hM, rfl, rfl⟩

def RSal (s : List UInt8) (v : AV) (S : Kn) : Prop :=
  match readR s with
  | none => v = .tup [recV 0 0 nilS nilS, .int .i64 0, .int .i64 12] ∧ S = []
  | some (p, e, cs, ms, _, n) => ∃ vc vm Sc Sm, SlC cs vc Sc ∧ SlI ms vm Sm ∧ v = .tup [recV p e vc vm, .int .i64 (n : Int), .int .i64 0] ∧ S = Sc ++ Sm

theorem RSal.own {s : List UInt8} {v : AV} {S : Kn} (h : RSal s v S) : ∀ x ∈ S, x.wr = true ∧ x.gl = true := by
  unfold RSal at h
  split at h
  · obtain ⟨_, rfl⟩ := h; simp
  · obtain ⟨vc, vm, Sc, Sm, hC, hM, _, rfl⟩ := h
    intro x hx
    rcases List.mem_append.1 hx with h | h
    · exact hC.own x h
    · exact hM.own x h

theorem c_Salvage (s : List UInt8) (hs : s.length < 20000) (H : AH) (hH : Wf H) : Con TR (CX old) MM 16 (.fn 8) [.str s] H (fun v H' => ∃ S, RSal s v S ∧ Hs H [] H' S) := by
  refine con_fn (nt := 21) [] [] rfl Tryz.func8 rfl rfl rfl (Hs.start hH) fun N hN => ?_
  repeat (first
   | refine J_seq ?_
   | refine J_region ?_)
  refine O_cons (S_alloc rfl rfl rfl rfl rfl (z := [.int .i64 0, .int .i64 0, nilS, nilS]) rfl fun c2 => ?_)
  repeat (first
   | refine J_seq ?_
   | refine J_region ?_
   | refine O_nil ?_
   | refine O_cons (S_pure (v := .int _ _) rfl rfl rfl rfl (fun _ => rfl) ?_)
   | refine O_cons (S_pure (v := .str _) rfl rfl rfl rfl (fun _ => rfl) ?_))
  refine O_cons (S_callN (RRead s) rfl rfl rfl rfl (fun _ => rfl) (fun H' hw => ?_) (fun v S hR => hR.own) fun v S hR => ?_)
  · obtain ⟨v, H2, q1, S, q2, q3⟩ := c_read (old := old) s hs H' hw N (by omega)
    exact ⟨v, H2, q1, S, q2, q3⟩
  unfold RRead at hR
  cases hrd : readR s with
  | none =>
    rw [hrd] at hR
    obtain ⟨rfl, rfl⟩ := hR
    repeat (first
     | refine O_cons (S_pure (v := .int _ _) rfl rfl rfl rfl (fun _ => rfl) ?_)
     | refine O_cons (S_pure (v := .bool _) rfl rfl rfl rfl (fun _ => rfl) ?_)
     | refine O_cons (S_pure (v := .agg _) rfl rfl rfl rfl (fun _ => rfl) ?_)
     | refine O_cons (S_pure (v := .tup _) rfl rfl rfl rfl (fun _ => rfl) ?_))
    refine O_cons (S_alloc rfl rfl rfl rfl rfl (z := [.int .i64 0, .int .i64 0, nilS, nilS]) rfl fun c4 => ?_)
    repeat (first
     | refine J_seq ?_
     | refine J_region ?_
     | refine O_nil ?_
     | refine O_cons (S_pure (v := .int _ _) rfl rfl rfl rfl (fun _ => rfl) ?_)
     | refine O_cons (S_pure (v := .bool _) rfl rfl rfl rfl (fun _ => rfl) ?_)
     | refine O_cons (S_storeW 1 rfl rfl rfl rfl rfl rfl rfl rfl rfl rfl ?_))
    refine J_condT rfl ?_
    repeat (first
     | refine J_seq ?_
     | refine J_region ?_
     | refine O_nil ?_
     | refine J_ret ?_
     | refine O_cons (S_pure (v := .int _ _) rfl rfl rfl rfl (fun _ => rfl) ?_)
     | refine O_cons (S_pure (v := .agg _) rfl rfl rfl rfl (fun _ => rfl) ?_)
     | refine O_cons (S_storeW 0 rfl rfl rfl rfl rfl rfl rfl rfl rfl rfl ?_))
    refine end_read (v := .tup [recV 0 0 nilS nilS, .int .i64 0, .int .i64 12]) (.inr rfl) (fun H' hh => res_rec3 rfl rfl rfl rfl (hh.cells (p := 0) rfl) rfl) fun H' hh => ⟨[], ?_, hh.drop (List.nil_sublist _)⟩
    unfold RSal
    rw [hrd]
    exact ⟨rfl, rfl⟩
  | some r =>
    obtain ⟨p, e, cs, ms, count, n⟩ := r
    rw [hrd] at hR
    obtain ⟨vc, vm, Sc, Sm, hC, hM, rfl, rfl⟩ := hR
    repeat (first
     | refine O_cons (S_pure (v := .int _ _) rfl rfl rfl rfl (fun _ => rfl) ?_)
     | refine O_cons (S_pure (v := .bool _) rfl rfl rfl rfl (fun _ => rfl) ?_)
     | refine O_cons (S_pure (v := .agg _) rfl rfl rfl rfl (fun _ => rfl) ?_)
     | refine O_cons (S_pure (v := .tup _) rfl rfl rfl rfl (fun _ => rfl) ?_))
    refine O_cons (S_alloc rfl rfl rfl rfl rfl (z := [.int .i64 0, .int .i64 0, nilS, nilS]) rfl fun c4 => ?_)
    refine O_perm (List.perm_append_comm) ?_
    refine O_cons (S_storeW 0 rfl rfl rfl rfl rfl rfl rfl rfl (by exact recW p e hC.g.cell1 hM.g.cell1) rfl ?_)
    repeat (first
     | refine J_seq ?_
     | refine J_region ?_
     | refine O_nil ?_
     | refine O_cons (S_pure (v := .int _ _) rfl rfl rfl rfl (fun _ => rfl) ?_)
     | refine O_cons (S_pure (v := .bool _) rfl rfl rfl rfl (fun _ => rfl) ?_))
    refine J_condF rfl ?_
    repeat (first
     | refine J_seq ?_
     | refine J_region ?_
     | refine J_skip ?_
     | refine O_cons (S_pure (v := .int _ _) rfl rfl rfl rfl (fun _ => rfl) ?_)
     | refine O_cons (S_loadA 0 rfl rfl rfl rfl rfl rfl rfl rfl rfl rfl ?_))
    refine O_cons (S_storeW 1 rfl rfl rfl rfl rfl rfl rfl rfl (by exact recW p e hC.g.cell1 hM.g.cell1) rfl ?_)
    repeat (first
     | refine O_nil ?_
     | refine J_ret ?_
     | refine O_cons (S_pure (v := .int _ _) rfl rfl rfl rfl (fun _ => rfl) ?_))
    refine end_read (v := .tup [recV p e vc vm, .int .i64 (n : Int), .int .i64 0]) (.inr rfl) (fun H' hh => res_rec3 rfl rfl rfl rfl (hh.cells (p := 1) rfl) rfl) fun H' hh => ⟨Sc ++ Sm, ?_, hh.drop (List.Sublist.cons _ (List.Sublist.cons _ (List.Sublist.refl _)))⟩
    unfold RSal
    rw [hrd]
    exact ⟨vc, vm, Sc, Sm, hC, hM, rfl, rfl⟩
end Go.Proofs.Aw

set_option maxRecDepth 100000
set_option maxHeartbeats 8000000
namespace Go.Proofs.Aw
open Go Go.Ev
variable {old : Nat → Nat → Option AV}

theorem framesF_len (e : Nat) (he : e ≠ 0) : ∀ (m : Nat) (cs : List Ch) (ms : List Int), cs.length ≤ m → cs.length ≤ 300 → (framesF e cs ms).length ≤ 50 * cs.length := by
  intro m
  induction m with
  | zero =>
    intro cs ms h _
    have : cs = [] := List.eq_nil_of_length_eq_zero (by omega)
    subst this
    rw [framesF_nil]; simp
  | succ m ih =>
    intro cs ms h h3
    by_cases hc : cs = []
    · subst hc; rw [framesF_nil]; simp
    · have hpos := List.length_pos_iff.2 hc
      rw [framesF_cons he hc, List.length_append]
      have h1 := ih (cs.drop e) (ms.drop 1) (by simp; omega) (by simp; omega)
      have h2 := encS_len (cs.take e)
      have h4 : (markB ms).length ≤ 9 := by
        cases ms with
        | nil => simp [markB]
        | cons m ms => exact (encInt_len m).2
      have h5 := sealB_len (encS (cs.take e) ++ markB ms) (by simp at h2 ⊢; omega)
      rw [List.length_append] at h5
      simp only [List.length_take, List.length_drop] at h1 h2
      omega

theorem encR_len {p e : Int} {cs : List Ch} {ms : List Int} (h : validR p e cs ms) (hl : cs.length ≤ 60) : (encR p e cs ms).length < 10000 := by
  obtain ⟨_, h2, _⟩ := h
  have h1 := framesF_len e.toNat (by omega) cs.length cs ms (Nat.le_refl _) (by omega)
  have l1 := encInt_len p
  have l2 := encInt_len e
  have l3 := encInt_len (cs.length : Int)
  have h5 := sealB_len (txtM ++ (encInt p ++ (encInt e ++ encInt (cs.length : Int)))) (by simp [txtM]; omega)
  unfold encR headF
  rw [List.length_append]
  simp [txtM] at h5 ⊢
  omega

theorem c_RoundTrip (p e : Int) (vc vm : AV) (cs : List Ch) (ms : List Int) (s : List UInt8) (H : AH) (hH : Wf H) (hc : RdC old (AtO H []) vc cs) (hms : RdM old (AtO H []) vm ms) :
    Con TR (CX old) MM 30 (.fn 3) [recV p e vc vm, .str s] H (fun v H' => v = .bool true ∧ Fr H [] H') := by
  refine con_fn (nt := 102) [] [] rfl Tryz.func3 rfl rfl rfl (Hs.start hH) fun N hN => ?_
  repeat (first
   | refine J_seq ?_
   | refine J_region ?_)
  refine O_cons (S_box (v := recV p e vc vm) rfl rfl rfl rfl rfl rfl fun c2 => ?_)
  repeat (first
   | refine J_seq ?_
   | refine J_region ?_
   | refine O_nil ?_
   | refine O_cons (S_pure (v := .bool _) rfl rfl rfl rfl (fun _ => rfl) ?_)
   | refine O_cons (S_loadA 0 rfl rfl rfl rfl rfl rfl rfl rfl rfl rfl ?_))
  refine O_cons (S_call (v := .bool (decide (60 < cs.length ∨ 60 < ms.length))) rfl rfl rfl rfl (fun _ => rfl) (fun H' h => c_Great (T := TR) rfl p e vc vm cs ms H' h.wf (hc.at holds_at h) (hms.at holds_at h) N (by omega)) ?_)
  repeat (refine O_cons (S_pure (v := .bool _) rfl rfl rfl rfl (fun _ => rfl) ?_))
  refine O_guard rfl rfl rfl (fun h1 => ?_) (fun h1 => ?_)
  · skip
    repeat (first
     | refine O_nil ?_
     | refine O_cons (S_pure (v := .bool _) rfl rfl rfl rfl (fun _ => rfl) ?_)
     | refine O_cons (S_off rfl rfl rfl rfl ?_))
    refine J_condT rfl ?_
    repeat (first
     | refine J_seq ?_
     | refine J_region ?_)
    refine O_cons (S_call (v := .bool true) rfl rfl rfl rfl (fun _ => rfl) (fun H' h => c_awake H' N (by omega)) ?_)
    repeat (first
     | refine O_nil ?_
     | refine J_ret ?_
     | refine O_cons (S_pure (v := .bool _) rfl rfl rfl rfl (fun _ => rfl) ?_))
    exact end_tmp (v := .bool _) (.inr rfl) (fun _ => rfl) fun H' h => ⟨rfl, h.fr⟩
  have h1' := of_decide_eq_false h1
  clear h1
  repeat (first
   | refine O_nil ?_
   | refine O_cons (S_pure (v := .int _ _) rfl rfl rfl rfl (fun _ => rfl) ?_)
   | refine O_cons (S_pure (v := .bool _) rfl rfl rfl rfl (fun _ => rfl) ?_)
   | refine O_cons (S_pure (v := .str _) rfl rfl rfl rfl (fun _ => rfl) ?_))
  refine J_cond _ rfl (fun h2 => ?_) (fun h2 => ?_)
  · skip
    repeat (first
     | refine J_seq ?_
     | refine J_region ?_)
    refine O_cons (S_call (v := .bool true) rfl rfl rfl rfl (fun _ => rfl) (fun H' h => c_awake H' N (by omega)) ?_)
    repeat (first
     | refine O_nil ?_
     | refine J_ret ?_
     | refine O_cons (S_pure (v := .bool _) rfl rfl rfl rfl (fun _ => rfl) ?_))
    exact end_tmp (v := .bool _) (.inr rfl) (fun _ => rfl) fun H' h => ⟨rfl, h.fr⟩
  have hsl : s.length ≤ 1500 := by
    have : ¬ (1500 : Int) < s.length := of_decide_eq_false h2
    omega
  clear h2
  have hcl : cs.length ≤ 60 := by omega
  have hml : ms.length ≤ 60 := by omega
  repeat (first
   | refine J_seq ?_
   | refine J_region ?_
   | refine J_skip ?_
   | refine O_cons (S_loadA 0 rfl rfl rfl rfl rfl rfl rfl rfl rfl rfl ?_))
  refine O_cons (S_call (v := if validR p e cs ms then .tup [.str (encR p e cs ms), .int .i64 0] else .tup [.str [], .int .i64 1]) rfl rfl rfl rfl (fun _ => rfl) (fun H' h => c_Encode p e vc vm cs ms (by omega) (by omega) H' h.wf (hc.at holds_at h) (hms.at holds_at h) (fun _ => smallF_of_len (by omega)) N (by omega)) ?_)
  refine O_midL (fun e' f' => e' = .norm ∧ f' 1 = .str s ∧ f' 2 = .nptr c2 0 ∧ ∃ (T : List UInt8) (k : Int), f' 5 = .str T ∧ f' 6 = .int .i64 k ∧ ((validR p e cs ms ∧ T = encR p e cs ms ∧ k = 0) ∨ (T = [] ∧ k = 1))) ?_ (fun e' f' hM => ?_)
  · by_cases hv : validR p e cs ms
    · rw [if_pos hv]
      repeat (first
       | refine O_nil ?_
       | refine O_cons (S_pure (v := .int _ _) rfl rfl rfl rfl (fun _ => rfl) ?_)
       | refine O_cons (S_pure (v := .str _) rfl rfl rfl rfl (fun _ => rfl) ?_)
       | refine O_cons (S_pure (v := .tup _) rfl rfl rfl rfl (fun _ => rfl) ?_))
      exact ⟨rfl, rfl, rfl, rfl, rfl, _, _, rfl, rfl, .inl ⟨hv, rfl, rfl⟩⟩
    · rw [if_neg hv]
      repeat (first
       | refine O_nil ?_
       | refine O_cons (S_pure (v := .int _ _) rfl rfl rfl rfl (fun _ => rfl) ?_)
       | refine O_cons (S_pure (v := .str _) rfl rfl rfl rfl (fun _ => rfl) ?_)
       | refine O_cons (S_pure (v := .tup _) rfl rfl rfl rfl (fun _ => rfl) ?_))
      exact ⟨rfl, rfl, rfl, rfl, rfl, _, _, rfl, rfl, .inr ⟨rfl, rfl⟩⟩
  obtain ⟨rfl, q1, q2, T, k, q5, q6, hTk⟩ := hM
  obtain ⟨g0, rfl⟩ := upd4 q1 q2 q5 q6
  clear q1 q2 q5 q6
  repeat (first
   | refine J_seq ?_
   | refine J_region ?_
   | refine O_nil ?_
   | refine O_cons (S_pure (v := .int _ _) rfl rfl rfl rfl (fun _ => rfl) ?_)
   | refine O_cons (S_pure (v := .bool _) rfl rfl rfl rfl (fun _ => rfl) ?_))
  refine J_join (fun f' _ => f' 1 = .str s) _ rfl (fun h1 => ?_) (fun h1 => ?_) (fun f' L' hM => ?_)
  · obtain ⟨hv, rfl, rfl⟩ : validR p e cs ms ∧ T = encR p e cs ms ∧ k = 0 := by
      rcases hTk with h | ⟨_, rfl⟩
      · exact h
      · simp at h1
    clear hTk h1
    have htl := encR_len hv hcl
    have hsm : smallF e.toNat cs := smallF_of_len (by omega)
    have hde := decR_enc hv hsm
    have hre := readR_enc hv hsm
    generalize encR p e cs ms = T at *
    repeat (first
     | refine J_seq ?_
     | refine J_region ?_
     | refine O_cons (S_pure (v := .str _) rfl rfl rfl rfl (fun _ => rfl) ?_))
    refine O_cons (S_callN (RDec T) rfl rfl rfl rfl (fun _ => rfl) (fun H' hw => ?_) (fun v S hR => hR.own) fun v S hR => ?_)
    · obtain ⟨v, H2, q1, S, q2, q3⟩ := c_Decode (old := old) T (by omega) H' hw N (by omega)
      exact ⟨v, H2, q1, S, q2, q3⟩
    unfold RDec at hR
    rw [hde] at hR
    obtain ⟨vc1, vm1, Sc1, Sm1, hC1, hM1, rfl, rfl⟩ := hR
    have r1 : RdC old (InL Sc1) vc1 cs := hC1.rd
    have r2 : RdM old (InL Sm1) vm1 ms := hM1.rd
    repeat (first
     | refine O_cons (S_pure (v := .int _ _) rfl rfl rfl rfl (fun _ => rfl) ?_)
     | refine O_cons (S_pure (v := .agg _) rfl rfl rfl rfl (fun _ => rfl) ?_)
     | refine O_cons (S_pure (v := .tup _) rfl rfl rfl rfl (fun _ => rfl) ?_))
    refine O_cons (S_alloc rfl rfl rfl rfl rfl (z := [.int .i64 0, .int .i64 0, nilS, nilS]) rfl fun c7 => ?_)
    refine O_perm (List.perm_append_comm) ?_
    refine O_cons (S_storeW 0 rfl rfl rfl rfl rfl rfl rfl rfl (by exact recW p e hC1.g.cell1 hM1.g.cell1) rfl ?_)
    repeat (first
     | refine J_seq ?_
     | refine J_region ?_
     | refine O_nil ?_
     | refine O_cons (S_pure (v := .int _ _) rfl rfl rfl rfl (fun _ => rfl) ?_)
     | refine O_cons (S_pure (v := .str _) rfl rfl rfl rfl (fun _ => rfl) ?_))
    refine O_cons (S_callN (RSal T) rfl rfl rfl rfl (fun _ => rfl) (fun H' hw => ?_) (fun v S hR => hR.own) fun v S hR => ?_)
    · obtain ⟨v, H2, q1, S, q2, q3⟩ := c_Salvage (old := old) T (by omega) H' hw N (by omega)
      exact ⟨v, H2, q1, S, q2, q3⟩
    unfold RSal at hR
    rw [hre] at hR
    obtain ⟨vc2, vm2, Sc2, Sm2, hC2, hM2, rfl, rfl⟩ := hR
    have r3 : RdC old (InL Sc2) vc2 cs := hC2.rd
    have r4 : RdM old (InL Sm2) vm2 ms := hM2.rd
    repeat (first
     | refine O_cons (S_pure (v := .int _ _) rfl rfl rfl rfl (fun _ => rfl) ?_)
     | refine O_cons (S_pure (v := .agg _) rfl rfl rfl rfl (fun _ => rfl) ?_)
     | refine O_cons (S_pure (v := .tup _) rfl rfl rfl rfl (fun _ => rfl) ?_))
    refine O_cons (S_alloc rfl rfl rfl rfl rfl (z := [.int .i64 0, .int .i64 0, nilS, nilS]) rfl fun c9 => ?_)
    refine O_perm (List.perm_append_comm) ?_
    refine O_cons (S_storeW 0 rfl rfl rfl rfl rfl rfl rfl rfl (by exact recW p e hC2.g.cell1 hM2.g.cell1) rfl ?_)
    repeat (first
     | refine J_seq ?_
     | refine J_region ?_
     | refine O_nil ?_
     | refine O_cons (S_pure (v := .int _ _) rfl rfl rfl rfl (fun _ => rfl) ?_)
     | refine O_cons (S_pure (v := .bool _) rfl rfl rfl rfl (fun _ => rfl) ?_)
     | refine O_cons (S_loadA 1 rfl rfl rfl rfl rfl rfl rfl rfl rfl rfl ?_)
     | refine O_cons (S_loadA 2 rfl rfl rfl rfl rfl rfl rfl rfl rfl rfl ?_))
    refine O_cons (S_call (v := .bool (decide (p = p ∧ e = e ∧ cs = cs ∧ ms = ms))) rfl rfl rfl rfl (fun _ => rfl) (fun H' h => c_Same (T := TR) rfl rfl rfl p e p e vc1 vc vm1 vm cs cs ms ms (by omega) (by omega) H' h.wf (r1.at (holds_in (by intro x hx; simp [hx])) h) (hc.at holds_at h) (r2.at (holds_in (by intro x hx; simp [hx])) h) (hms.at holds_at h) N (by omega)) ?_)
    rw [decide_eq_true (⟨rfl, rfl, rfl, rfl⟩ : p = p ∧ e = e ∧ cs = cs ∧ ms = ms)]
    repeat (first
     | refine O_cons (S_pure (v := .bool _) rfl rfl rfl rfl (fun _ => rfl) ?_)
     | refine O_cons (S_loadA 0 rfl rfl rfl rfl rfl rfl rfl rfl rfl rfl ?_)
     | refine O_cons (S_loadA 2 rfl rfl rfl rfl rfl rfl rfl rfl rfl rfl ?_))
    refine O_cons (S_call (v := .bool (decide (p = p ∧ e = e ∧ cs = cs ∧ ms = ms))) rfl rfl rfl rfl (fun _ => rfl) (fun H' h => c_Same (T := TR) rfl rfl rfl p e p e vc2 vc vm2 vm cs cs ms ms (by omega) (by omega) H' h.wf (r3.at (holds_in (by intro x hx; simp [hx])) h) (hc.at holds_at h) (r4.at (holds_in (by intro x hx; simp [hx])) h) (hms.at holds_at h) N (by omega)) ?_)
    rw [decide_eq_true (⟨rfl, rfl, rfl, rfl⟩ : p = p ∧ e = e ∧ cs = cs ∧ ms = ms)]
    repeat (first
     | refine O_nil ?_
     | refine O_cons (S_pure (v := .int _ _) rfl rfl rfl rfl (fun _ => rfl) ?_)
     | refine O_cons (S_pure (v := .bool _) rfl rfl rfl rfl (fun _ => rfl) ?_)
     | refine O_cons (S_pure (v := .str _) rfl rfl rfl rfl (fun _ => rfl) ?_))
    refine J_cond _ rfl (fun h2 => absurd (show ((T.length : Int) != (T.length : Int)) = true from h2) (by simp)) (fun _ => ?_)
    repeat (refine J_skip ?_)
    exact ⟨rfl, rfl, rfl⟩
  · obtain ⟨rfl, rfl⟩ : T = [] ∧ k = 1 := by
      rcases hTk with ⟨_, _, rfl⟩ | h
      · simp at h1
      · exact h
    repeat (first
     | refine J_seq ?_
     | refine J_region ?_
     | refine O_nil ?_
     | refine O_cons (S_pure (v := .int _ _) rfl rfl rfl rfl (fun _ => rfl) ?_)
     | refine O_cons (S_pure (v := .bool _) rfl rfl rfl rfl (fun _ => rfl) ?_)
     | refine O_cons (S_pure (v := .str _) rfl rfl rfl rfl (fun _ => rfl) ?_))
    refine J_condF rfl ?_
    repeat (refine J_skip ?_)
    exact ⟨rfl, rfl, rfl⟩
  obtain ⟨g1, rfl⟩ := upd1 hM
  clear hM
  refine J_drop [] (List.nil_sublist _) ?_
  repeat (first
   | refine J_seq ?_
   | refine J_region ?_
   | refine O_cons (S_pure (v := .str _) rfl rfl rfl rfl (fun _ => rfl) ?_))
  refine O_cons (S_callN (RDec s) rfl rfl rfl rfl (fun _ => rfl) (fun H' hw => ?_) (fun v S hR => hR.own) fun v S hR => ?_)
  · obtain ⟨v, H2, q1, S, q2, q3⟩ := c_Decode (old := old) s (by omega) H' hw N (by omega)
    exact ⟨v, H2, q1, S, q2, q3⟩
  unfold RDec at hR
  cases hd : decR s with
  | none =>
    rw [hd] at hR
    obtain ⟨rfl, rfl⟩ := hR
    repeat (first
     | refine O_cons (S_pure (v := .int _ _) rfl rfl rfl rfl (fun _ => rfl) ?_)
     | refine O_cons (S_pure (v := .agg _) rfl rfl rfl rfl (fun _ => rfl) ?_)
     | refine O_cons (S_pure (v := .tup _) rfl rfl rfl rfl (fun _ => rfl) ?_))
    refine O_cons (S_alloc rfl rfl rfl rfl rfl (z := [.int .i64 0, .int .i64 0, nilS, nilS]) rfl fun c12 => ?_)
    repeat (first
     | refine J_seq ?_
     | refine J_region ?_
     | refine O_nil ?_
     | refine O_cons (S_pure (v := .int _ _) rfl rfl rfl rfl (fun _ => rfl) ?_)
     | refine O_cons (S_pure (v := .bool _) rfl rfl rfl rfl (fun _ => rfl) ?_)
     | refine O_cons (S_storeW 0 rfl rfl rfl rfl rfl rfl rfl rfl rfl rfl ?_))
    refine J_condT rfl ?_
    repeat (first
     | refine J_seq ?_
     | refine J_region ?_
     | refine O_cons (S_pure (v := .int _ _) rfl rfl rfl rfl (fun _ => rfl) ?_)
     | refine O_cons (S_pure (v := .bool _) rfl rfl rfl rfl (fun _ => rfl) ?_)
     | refine O_cons (S_pure (v := .agg _) rfl rfl rfl rfl (fun _ => rfl) ?_)
     | refine O_cons (S_loadA 0 rfl rfl rfl rfl rfl rfl rfl rfl rfl rfl ?_))
    refine O_cons (S_call (v := .bool (decide ((0 : Int) = 0 ∧ (0 : Int) = 0 ∧ ([] : List Ch) = [] ∧ ([] : List Int) = []))) rfl rfl rfl rfl (fun _ => rfl) (fun H' h => c_Same (T := TR) rfl rfl rfl 0 0 0 0 nilS nilS nilS nilS [] [] [] [] (by decide) (by decide) H' h.wf .nil .nil .nil .nil N (by omega)) ?_)
    rw [decide_eq_true (⟨rfl, rfl, rfl, rfl⟩ : (0 : Int) = 0 ∧ (0 : Int) = 0 ∧ ([] : List Ch) = [] ∧ ([] : List Int) = [])]
    repeat (refine O_cons (S_pure (v := .bool _) rfl rfl rfl rfl (fun _ => rfl) ?_))
    refine O_cons (S_call (v := .bool true) rfl rfl rfl rfl (fun _ => rfl) (fun H' h => c_awake H' N (by omega)) ?_)
    repeat (first
     | refine O_nil ?_
     | refine J_ret ?_
     | refine O_cons (S_pure (v := .bool _) rfl rfl rfl rfl (fun _ => rfl) ?_))
    exact end_tmp (v := .bool _) (.inr rfl) (fun _ => rfl) fun H' h => ⟨rfl, h.fr⟩
  | some r =>
    obtain ⟨p', e', cs', ms'⟩ := r
    rw [hd] at hR
    obtain ⟨vc', vm', Sc', Sm', hC', hM', rfl, rfl⟩ := hR
    obtain ⟨hv, hen, hsz⟩ := decR_some hd
    have r1 : RdC old (InL Sc') vc' cs' := hC'.rd
    have r2 : RdM old (InL Sm') vm' ms' := hM'.rd
    have hcl' : cs'.length ≤ 2000 := hv.2.2.2.1
    have hml' : ms'.length ≤ 2000 := by
      have h1 := hv.2.2.2.2.2.1
      have h2 := Nat.div_le_self cs'.length e'.toNat
      omega
    repeat (first
     | refine O_cons (S_pure (v := .int _ _) rfl rfl rfl rfl (fun _ => rfl) ?_)
     | refine O_cons (S_pure (v := .agg _) rfl rfl rfl rfl (fun _ => rfl) ?_)
     | refine O_cons (S_pure (v := .tup _) rfl rfl rfl rfl (fun _ => rfl) ?_))
    refine O_cons (S_alloc rfl rfl rfl rfl rfl (z := [.int .i64 0, .int .i64 0, nilS, nilS]) rfl fun c12 => ?_)
    refine O_perm (List.perm_append_comm) ?_
    refine O_cons (S_storeW 0 rfl rfl rfl rfl rfl rfl rfl rfl (by exact recW p' e' hC'.g.cell1 hM'.g.cell1) rfl ?_)
    repeat (first
     | refine J_seq ?_
     | refine J_region ?_
     | refine O_nil ?_
     | refine O_cons (S_pure (v := .int _ _) rfl rfl rfl rfl (fun _ => rfl) ?_)
     | refine O_cons (S_pure (v := .bool _) rfl rfl rfl rfl (fun _ => rfl) ?_))
    refine J_condF rfl ?_
    repeat (first
     | refine J_seq ?_
     | refine J_region ?_
     | refine J_skip ?_
     | refine O_cons (S_loadA 0 rfl rfl rfl rfl rfl rfl rfl rfl rfl rfl ?_))
    refine O_cons (S_call (v := .tup [.str s, .int .i64 0]) rfl rfl rfl rfl (fun _ => rfl) (fun H' h => by
      have := c_Encode p' e' vc' vm' cs' ms' (by omega) (by omega) H' h.wf (r1.at (holds_in (by intro x hx; simp [hx])) h) (r2.at (holds_in (by intro x hx; simp [hx])) h) (fun _ i => by have := hsz i; omega) N (by omega)
      rw [if_pos hv, hen] at this
      exact this) ?_)
    repeat (first
     | refine J_seq ?_
     | refine J_region ?_
     | refine O_nil ?_
     | refine O_cons (S_pure (v := .int _ _) rfl rfl rfl rfl (fun _ => rfl) ?_)
     | refine O_cons (S_pure (v := .bool _) rfl rfl rfl rfl (fun _ => rfl) ?_)
     | refine O_cons (S_pure (v := .str _) rfl rfl rfl rfl (fun _ => rfl) ?_)
     | refine O_cons (S_pure (v := .tup _) rfl rfl rfl rfl (fun _ => rfl) ?_))
    refine O_guard rfl rfl rfl (fun h1 => ?_) (fun h1 => absurd (show (s == s) = false from h1) (by simp))
    skip
    refine O_cons (S_call (v := .bool true) rfl rfl rfl rfl (fun _ => rfl) (fun H' h => c_awake H' N (by omega)) ?_)
    repeat (first
     | refine O_nil ?_
     | refine J_ret ?_
     | refine O_cons (S_pure (v := .bool _) rfl rfl rfl rfl (fun _ => rfl) ?_))
    exact end_tmp (v := .bool _) (.inr rfl) (fun _ => rfl) fun H' h => ⟨rfl, h.fr⟩
end Go.Proofs.Aw
