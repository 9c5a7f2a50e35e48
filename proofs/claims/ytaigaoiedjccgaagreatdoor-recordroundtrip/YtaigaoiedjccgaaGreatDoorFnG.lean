/-
  What some of the program functions compute, walked once. For the arguments that each theorem names.
-/
import Derived.Test.YtaigaoiedjccgaaGreatDoorFnF
set_option linter.unusedVariables false
set_option linter.unusedSimpArgs false

set_option maxRecDepth 100000
set_option maxHeartbeats 4000000
namespace Go.Proofs.Aw
open Go Go.Ev
variable {old : Nat → Nat → Option AV}

/-- Choices that were appended to nothing. -/
def SlC (cs : List Ch) (v : AV) (S : Kn) : Prop :=
  (cs = [] ∧ v = .raw (.slice none 0 0) ∧ S = []) ∨
  (cs ≠ [] ∧ ∃ b g G sh, v = .nslc b 0 cs.length none ∧ S = [⟨b, true, true, .row (cellsC cs) g G sh false 0 48 false false⟩])

theorem SlC.own {cs : List Ch} {v : AV} {S : Kn} (h : SlC cs v S) : ∀ s ∈ S, s.wr = true ∧ s.gl = true := by
  rcases h with ⟨_, _, rfl⟩ | ⟨_, b, g, G, sh, _, rfl⟩ <;> simp

/-- What decoding a schedule does. -/
def RSched (s : List UInt8) (v : AV) (S : Kn) : Prop :=
  (∃ cs w, decS s = some cs ∧ v = .tup [w, .int .i64 0] ∧ SlC cs w S) ∨ (decS s = none ∧ v = .tup [.raw (.slice none 0 0), .int .i64 12] ∧ S = [])

theorem res_sched {fn : Func} {tm : Tr AV} {H : AH} {i j : Nat} {v w : AV} (hr : fn.results = #[.cell 2 22, .cell 3 28]) (h2 : ev tm (.tmp 2) = .nptr i 0) (h3 : ev tm (.tmp 3) = .nptr j 0) (hi : H.cells i = some [v]) (hj : H.cells j = some [w]) : resultsF (CX old) fn tm H = some (.tup [v, w]) :=
  res_cell2 hr h2 h3 rfl rfl rfl rfl hi hj

theorem cells_last {cs : List Ch} {c : Ch} (h : cs.getLast? = some c) : slice (cellsC cs) ((cs.length - 1) * 2) 2 = some [.int .i64 c.1, .int .i64 c.2] := by
  rw [List.getLast?_eq_getElem?] at h
  exact cellsC_get h

theorem SlI.rd {old : Nat → Nat → Option AV} {ns : List Int} {w : AV} {S : Kn} (h : SlI ns w S) : Rd old 3 1 (InL S) w ns.length (intsV ns) := by
  rcases h with ⟨rfl, rfl, rfl⟩ | ⟨hne, b, g, G, sh, rfl, rfl⟩
  · exact .nil
  · refine .new (row := intsV ns) (wh := false) ⟨_, List.mem_singleton_self _, rfl, rfl⟩ (by simp [intsV]) ?_ (fun _ => rfl) (fun k h => by cases h)
    have : ns.length * 1 = (intsV ns).length := by simp [intsV]
    rw [this]; exact slice_all _

theorem SlC.rd {old : Nat → Nat → Option AV} {cs : List Ch} {w : AV} {S : Kn} (h : SlC cs w S) : RdC old (InL S) w cs := by
  rcases h with ⟨rfl, rfl, rfl⟩ | ⟨hne, b, g, G, sh, rfl, rfl⟩
  · exact .nil
  · refine .new (row := cellsC cs) (wh := false) ⟨_, List.mem_singleton_self _, rfl, rfl⟩ (cellsC_len cs) ?_ (fun _ => rfl) (fun k h => by cases h)
    rw [← cellsC_len]; exact slice_all _

theorem c_SDecode {T : List Entry} (hTD : hasF 91 T = false) (hTCh : hasF 158 T = false) (hTCh1 : hasF 285 T = false) (hTcv : hasF 80 T = false) (hTR : hasF 90 T = false) (hTL : hasF 157 T = false) (hT : hasF 73 T = false) (hT0 : hasF 141 T = false) (hT1 : hasF 84 T = false) (hT2 : hasF 155 T = false) (hT3 : hasF 284 T = false) (hT4 : hasF 142 T = false)
    (s : List UInt8) (hs : s.length < 20000) (H : AH) (hH : Wf H) :
    Con T (CX old) MM 9 (.fn 91) [.str s] H (fun v H' => ∃ S, RSched s v S ∧ Hs H [] H' S) := by
  refine con_fn (nt := 82) [] [] hTD Tryz.func91 rfl rfl rfl (Hs.start hH) fun N hN => ?_
  obtain ⟨N, rfl⟩ : ∃ N', N = N' + 2 := ⟨N - 2, by omega⟩
  repeat (first
   | refine J_seq ?_
   | refine J_region ?_)
  refine O_cons (S_alloc rfl rfl rfl rfl rfl (z := [.raw (.slice none 0 0)]) rfl fun c2 => ?_)
  refine O_cons (S_alloc rfl rfl rfl rfl rfl (z := [.int .i64 0]) rfl fun c3 => ?_)
  repeat (first
   | refine J_seq ?_
   | refine J_region ?_
   | refine O_nil ?_
   | refine O_cons (S_pure (v := .str _) rfl rfl rfl rfl (fun _ => rfl) ?_))
  refine O_cons (S_callN (fun v S => (∃ ns k w, decL s = some (ns, k) ∧ v = .tup [w, .int .i64 (k : Nat), .int .i64 0] ∧ SlI ns w S) ∨ (decL s = none ∧ S = [] ∧ ∃ e : Nat, e ≠ 0 ∧ v = .tup [.raw (.slice none 0 0), .int .i64 0, .int .i64 e])) rfl rfl rfl rfl (fun _ => rfl) (fun H' hw => ?_) (fun v S hR => ?_) fun v S hR => ?_)
  · obtain ⟨v, H2, q1, S, q2, q3⟩ := c_ReadList (old := old) hTR hTL hT hT0 hT1 hT2 hT3 hT4 s hs H' hw (N + 2) (by omega)
    exact ⟨v, H2, q1, S, q2, q3⟩
  · rcases hR with ⟨n, k, w, _, _, h2⟩ | ⟨_, rfl, _⟩
    · exact h2.own
    · simp
  have bad : ∀ (f : Nat → AV) (L : Kn) (hd : decS s = none), f 2 = .nptr c2 0 → f 3 = .nptr c3 0 → L[0]? = some (cel c2 22 (.raw (.slice none 0 0))) → L[1]? = some (cel c3 28 (.int .i64 12)) →
      endJ (CX old) Tryz.f91 82 H [] (fun v H' => ∃ S, RSched s v S ∧ Hs H [] H' S) .ret f L [] := fun f L hd h2 h3 e2 e3 =>
    end_read (v := .tup [.raw (.slice none 0 0), .int .i64 12]) (.inr rfl) (fun H' hh => res_sched rfl h2 h3 (hh.cells e2) (hh.cells e3)) fun H' hh => ⟨[], .inr ⟨hd, rfl, rfl⟩, hh.drop (List.nil_sublist _)⟩
  rcases hR with ⟨ns, k, w, hd, rfl, hB⟩ | ⟨hd, rfl, e, he, rfl⟩
  rotate_left
  · have hds : decS s = none := by simp only [decS, hd]
    repeat (first
     | refine J_seq ?_
     | refine J_region ?_
     | refine O_nil ?_
     | refine O_cons (S_pure (v := .int _ _) rfl rfl rfl rfl (fun _ => rfl) ?_)
     | refine O_cons (S_pure (v := .bool _) rfl rfl rfl rfl (fun _ => rfl) ?_)
     | refine O_cons (S_pure (v := .raw _) rfl rfl rfl rfl (fun _ => rfl) ?_)
     | refine O_cons (S_pure (v := .tup _) rfl rfl rfl rfl (fun _ => rfl) ?_))
    refine O_guard rfl rfl rfl (fun h1 => ?_) (fun h1 => absurd (show (e : Int) = 0 by simpa using h1) (by omega))
    repeat (first
     | refine O_nil ?_
     | refine O_cons (S_pure (v := .bool _) rfl rfl rfl rfl (fun _ => rfl) ?_)
     | refine O_cons (S_off rfl rfl rfl rfl ?_))
    refine J_condT rfl ?_
    repeat (first
     | refine J_seq ?_
     | refine J_region ?_
     | refine O_nil ?_
     | refine J_ret ?_
     | refine O_cons (S_store1 1 (v := .int _ _) rfl rfl rfl rfl rfl rfl rfl rfl rfl rfl rfl ?_)
     | refine O_cons (S_store1 0 (v := .raw _) rfl rfl rfl rfl rfl rfl rfl rfl rfl rfl rfl ?_))
    exact bad _ _ hds rfl rfl rfl rfl
  have hrw : Rd old 3 1 (InL S) w ns.length (intsV ns) := hB.rd
  obtain ⟨b1, b2, b3, b4⟩ := decL_some s.length s (Nat.le_refl _) ns k hd
  have hnl : ns.length < 20000 := by
    have h1 := encL_len ns
    have h2 := congrArg List.length b3
    simp only [List.length_take] at h2
    omega
  repeat (first
   | refine J_seq ?_
   | refine J_region ?_
   | refine O_nil ?_
   | refine O_cons (S_pure (v := .int _ _) rfl rfl rfl rfl (fun _ => rfl) ?_)
   | refine O_cons (S_pure (v := .bool _) rfl rfl rfl rfl (fun _ => rfl) ?_)
   | refine O_cons (S_pure (v := .str _) rfl rfl rfl rfl (fun _ => rfl) ?_)
   | refine O_cons (S_pure (v := .tup _) rfl rfl rfl rfl (fun _ => rfl) ?_)
   | refine O_cons (S_pure (v := (w)) rfl rfl rfl rfl (fun _ => rfl) ?_))
  refine O_guard rfl rfl rfl (fun h1 => ?_) (fun h1 => ?_)
  · have hds : decS s = none := by
      simp only [decS, hd]
      rw [if_pos (.inl (by intro h; rw [h] at h1; simp at h1))]
    repeat (first
     | refine O_nil ?_
     | refine O_cons (S_pure (v := .bool _) rfl rfl rfl rfl (fun _ => rfl) ?_)
     | refine O_cons (S_off rfl rfl rfl rfl ?_))
    refine J_condT rfl ?_
    repeat (first
     | refine J_seq ?_
     | refine J_region ?_
     | refine O_nil ?_
     | refine J_ret ?_
     | refine O_cons (S_store1 1 (v := .int _ _) rfl rfl rfl rfl rfl rfl rfl rfl rfl rfl rfl ?_)
     | refine O_cons (S_store1 0 (v := .raw _) rfl rfl rfl rfl rfl rfl rfl rfl rfl rfl rfl ?_))
    exact bad _ _ hds rfl rfl rfl rfl
  have hk : k = s.length := by
    have : (k : Int) = s.length := by simpa using h1
    omega
  repeat (refine O_cons (S_pure (v := (w)) rfl rfl rfl rfl (fun _ => rfl) ?_))
  refine O_cons (S_lenR hrw rfl rfl rfl rfl rfl rfl rfl rfl rfl rfl ?_)
  repeat (first
   | refine O_nil ?_
   | refine O_cons (S_pure (v := .int _ _) rfl rfl rfl rfl (fun _ => rfl) ?_)
   | refine O_cons (S_pure (v := .bool _) rfl rfl rfl rfl (fun _ => rfl) ?_))
  refine J_cond _ rfl (fun h2 => ?_) (fun h2 => ?_)
  · have hds : decS s = none := by
      simp only [decS, hd]
      rw [if_pos (.inr (by
        intro h
        have e1 : ((ns.length : Int)).tmod 3 = ((ns.length % 3 : Nat) : Int) := rfl
        rw [e1, h] at h2
        simp at h2))]
    repeat (first
     | refine J_seq ?_
     | refine J_region ?_
     | refine O_nil ?_
     | refine J_ret ?_
     | refine O_cons (S_store1 1 (v := .int _ _) rfl rfl rfl rfl rfl rfl rfl rfl rfl rfl rfl ?_)
     | refine O_cons (S_store1 0 (v := .raw _) rfl rfl rfl rfl rfl rfl rfl rfl rfl rfl rfl ?_))
    exact bad _ _ hds rfl rfl rfl rfl
  have hn3 : ns.length % 3 = 0 := by
    have e1 : ((ns.length : Int)).tmod 3 = ((ns.length % 3 : Nat) : Int) := rfl
    rw [e1] at h2
    have : ((ns.length % 3 : Nat) : Int) = 0 := by simpa using h2
    omega
  have hdec : decS s = decG [] ns := by
    simp only [decS, hd]
    rw [if_neg (by rintro (h | h); exact h hk; exact h hn3)]
  clear h1 h2
  repeat (first
   | refine J_seq ?_
   | refine J_region ?_
   | refine J_skip ?_)
  refine O_cons (S_alloc rfl rfl rfl rfl rfl (z := [.raw (.slice none 0 0)]) rfl fun c7 => ?_)
  refine O_perm (M := cel c2 22 (.raw (.slice none 0 0)) :: cel c3 28 (.int .i64 0) :: cel c7 22 (.raw (.slice none 0 0)) :: S) (List.Perm.cons _ (List.Perm.cons _ List.perm_append_comm)) ?_
  repeat (first
   | refine J_seq ?_
   | refine J_region ?_
   | refine O_nil ?_
   | refine O_cons (S_pure (v := (w)) rfl rfl rfl rfl (fun _ => rfl) ?_))
  refine O_cons (S_callX (P := fun v' L' => ∃ cA cB, v' = .func (.func 285) [] [.nptr cA 0, .nptr cB 0] ∧ L' = cel c2 22 (.raw (.slice none 0 0)) :: cel c3 28 (.int .i64 0) :: cel c7 22 (.raw (.slice none 0 0)) :: cel cA 23 w :: cel cB 3 (.int .i64 3) :: S) rfl rfl rfl rfl (fun _ => rfl) (fun H hH => fn_in (nt := 9) hTCh Tryz.func158 rfl rfl rfl hH ?_) ?_)
  · skip
    repeat (first
     | refine J_seq ?_
     | refine J_region ?_)
    refine O_cons (S_box (v := w) rfl rfl rfl rfl rfl rfl fun cA => ?_)
    rw [hrw.cells1]
    refine O_cons (S_box (v := .int .i64 3) rfl rfl rfl rfl rfl rfl fun cB => ?_)
    refine O_perm (M := cel c2 22 (.raw (.slice none 0 0)) :: cel c3 28 (.int .i64 0) :: cel c7 22 (.raw (.slice none 0 0)) :: cel cA 23 w :: cel cB 3 (.int .i64 3) :: S) (by
      refine List.Perm.cons _ (List.Perm.cons _ (List.Perm.cons _ ?_))
      show ((S ++ [_]) ++ [_]).Perm ([_, _] ++ S)
      rw [List.append_assoc]
      exact List.perm_append_comm) ?_
    repeat (first
     | refine J_seq ?_
     | refine J_region ?_
     | refine O_nil ?_
     | refine O_cons (S_pure (v := .bool _) rfl rfl rfl rfl (fun _ => rfl) ?_)
     | refine O_cons (S_pure (v := .raw _) rfl rfl rfl rfl (fun _ => rfl) ?_)
     | refine O_cons (S_load 4 rfl rfl rfl rfl rfl rfl rfl rfl rfl rfl ?_))
    refine J_condF rfl ?_
    repeat (first
     | refine J_seq ?_
     | refine J_region ?_
     | refine J_skip ?_
     | refine O_nil ?_
     | refine J_ret ?_
     | refine O_cons (S_pure (v := .func _ _ _) rfl rfl rfl rfl (fun _ => rfl) ?_))
    exact ret_tmp (v := .func _ _ _) (.inr rfl) (fun _ => rfl) ⟨cA, cB, rfl, rfl⟩
  rintro v' L' ⟨cA, cB, rfl, rfl⟩
  repeat (first
   | refine O_nil ?_
   | refine J_block ?_)
  refine J_abs (fun f' => f' 2 = .nptr c2 0 ∧ f' 3 = .nptr c3 0 ∧ f' 7 = .nptr c7 0 ∧ f' 32 = .func (.func 285) [] [.nptr cA 0, .nptr cB 0]) ⟨rfl, rfl, rfl, rfl⟩ fun f' hM => ?_
  obtain ⟨q2, q3, q7, q32⟩ := hM
  obtain ⟨g0, rfl⟩ := upd4 q2 q3 q7 q32
  clear q2 q3 q7 q32
  refine J_rangeInX (n := N + 1) (nt := 31) (g := 285) (args := fun l => [.yield l, .nptr cA 0, .nptr cB 0])
    (fun L' => ∃ cs vo So, decG [] ns = some cs ∧ SlC cs vo So ∧ L' = cel c2 22 (.raw (.slice none 0 0)) :: cel c3 28 (.int .i64 0) :: cel c7 22 vo :: cel cA 23 w :: cel cB 3 (.int .i64 3) :: (S ++ So))
    (fun L' => decG [] ns = none ∧ L'[0]? = some (cel c2 22 (.raw (.slice none 0 0))) ∧ L'[1]? = some (cel c3 28 (.int .i64 12))) rfl rfl (fun _ _ => rfl) hTCh1 Tryz.func285 rfl (fun _ => rfl) rfl (fun d l => ?_) (fun d L' hP => ?_) (fun d L' hP => ?_)
  rotate_left
  · obtain ⟨cs, vo, So, hg, hC, rfl⟩ := hP
    have hro : RdC old (InL So) vo cs := hC.rd
    repeat (first
     | refine J_seq ?_
     | refine J_region ?_
     | refine O_cons (S_load 3 rfl rfl rfl rfl rfl rfl rfl rfl rfl rfl ?_))
    refine O_cons (S_storeR 1 hro rfl rfl rfl rfl rfl rfl rfl rfl rfl rfl ?_)
    repeat (first
     | refine O_nil ?_
     | refine J_ret ?_
     | refine O_cons (S_store1 2 (v := .int _ _) rfl rfl rfl rfl rfl rfl rfl rfl rfl rfl rfl ?_))
    refine end_coll (v := .tup [vo, .int .i64 0]) (.inr rfl) (fun H' hh => res_sched rfl rfl rfl (hh.cells (p := 0) rfl) (hh.cells (p := 1) rfl)) fun H' hh => ⟨So, .inl ⟨cs, vo, by rw [hdec, hg], rfl, hC⟩, hh.drop ?_⟩
    exact List.Sublist.cons _ (List.Sublist.cons _ (List.Sublist.cons _ (List.Sublist.cons _ (List.Sublist.cons _ (List.sublist_append_right S So)))))
  · obtain ⟨hg, e2, e3⟩ := hP
    exact end_coll (v := .tup [.raw (.slice none 0 0), .int .i64 12]) (.inr rfl) (fun H' hh => res_sched rfl rfl rfl (hh.cells e2) (hh.cells e3)) fun H' hh => ⟨[], .inr ⟨by rw [hdec, hg], rfl, rfl⟩, hh.drop (List.nil_sublist _)⟩
  -- the iterator
  repeat (first
   | refine J_seq ?_
   | refine J_region ?_
   | refine O_nil ?_
   | refine J_block ?_
   | refine O_cons (S_pure (v := .int _ _) rfl rfl rfl rfl (fun _ => rfl) ?_))
  refine J_loop (fun r f L df => df = [] ∧ ∃ (j : Nat) (out : List Ch) (vo : AV) (So : Kn), ns.length ≤ r + 3 * j ∧ 3 * j ≤ ns.length ∧ decG [] ns = decG out (ns.drop (3 * j)) ∧ out.length ≤ 2000 ∧ SlC out vo So ∧ f 0 = .yield l ∧ f 1 = .nptr cA 0 ∧ f 2 = .nptr cB 0 ∧ f 4 = .int .i64 ((3 * j : Nat) : Int) ∧ L = lpS l .ready 91 _ 82 #[33] _ _ d :: dfS d :: cel c2 22 (.raw (.slice none 0 0)) :: cel c3 28 (.int .i64 0) :: cel c7 22 vo :: cel cA 23 w :: cel cB 3 (.int .i64 3) :: (S ++ So)) ns.length (show ns.length < 1000000 by omega) ⟨rfl, 0, [], _, [], by omega, by omega, rfl, by simp, .inl ⟨rfl, rfl, rfl⟩, rfl, rfl, rfl, rfl, by rw [List.append_nil]⟩ fun r f L df hI => ?_
  obtain ⟨rfl, j, out, vo, So, hrj, hjn, hdj, hol, hC, q0, q1, q2, q4, rfl⟩ := hI
  obtain ⟨g1, rfl⟩ := upd4 q0 q1 q2 q4
  clear q0 q1 q2 q4
  repeat (first
   | refine J_seq ?_
   | refine J_region ?_
   | refine O_cons (S_pure (v := .int _ _) rfl rfl rfl rfl (fun _ => rfl) ?_)
   | refine O_cons (S_load 5 rfl rfl rfl rfl rfl rfl rfl rfl rfl rfl ?_))
  refine O_cons (S_lenR hrw rfl rfl rfl rfl rfl rfl rfl rfl rfl rfl ?_)
  repeat (first
   | refine O_nil ?_
   | refine O_cons (S_pure (v := .bool _) rfl rfl rfl rfl (fun _ => rfl) ?_))
  refine J_cond _ rfl (fun hc => ?_) (fun hc => ?_)
  rotate_left
  · have hj : 3 * j = ns.length := by
      have : ¬ ((3 * j : Nat) : Int) < ns.length := of_decide_eq_false hc
      omega
    repeat (refine J_exit ?_)
    refine ret_tmp (v := .tup []) (.inl rfl) (fun _ => rfl) ⟨_, .inl ⟨rfl, out, vo, So, ?_, hC, rfl⟩⟩
    rw [hdj, hj, List.drop_length]; rfl
  have hjlt : 3 * j < ns.length := by
    have : ((3 * j : Nat) : Int) < ns.length := of_decide_eq_true hc
    omega
  have hj3 : 3 * j + 3 ≤ ns.length := by omega
  clear hc
  obtain ⟨hne, bb, gg, GG, sh, rfl, rfl⟩ : ns ≠ [] ∧ ∃ b g G sh, w = .nslc b 0 ns.length none ∧ S = [⟨b, true, true, .row (intsV ns) g G sh false 0 3 false false⟩] := by
    rcases hB with ⟨rfl, _, _⟩ | h
    · simp at hjlt
    · exact h
  obtain ⟨r, rfl⟩ : ∃ r', r = r' + 1 := ⟨r - 1, by omega⟩
  have hro : RdC old (InL So) vo out := hC.rd
  have hg0 : (intsV ns)[3 * j]? = some (.int .i64 ns[3 * j]) := by simp [intsV, hjlt]
  have hg1 : (intsV ns)[3 * j + 1]? = some (.int .i64 ns[3 * j + 1]) := by simp [intsV, show 3 * j + 1 < ns.length by omega]
  have hg2 : (intsV ns)[3 * j + 2]? = some (.int .i64 ns[3 * j + 2]) := by simp [intsV, show 3 * j + 2 < ns.length by omega]
  have hdrop : ns.drop (3 * j) = ns[3 * j] :: ns[3 * j + 1] :: ns[3 * j + 2] :: ns.drop (3 * (j + 1)) := by
    rw [List.drop_eq_getElem_cons hjlt, List.drop_eq_getElem_cons (show 3 * j + 1 < ns.length by omega), List.drop_eq_getElem_cons (show 3 * j + 1 + 1 < ns.length by omega)]
    rfl
  rw [hdrop] at hdj
  generalize ns[3 * j] = n at *
  generalize ns[3 * j + 1] = t at *
  generalize ns[3 * j + 2] = c at *
  repeat (first
   | refine J_seq ?_
   | refine J_skip ?_
   | refine J_block ?_)
  refine J_draw0 (l := [⟨0, []⟩, ⟨1, []⟩, ⟨2, []⟩, ⟨3, []⟩, ⟨4, []⟩, ⟨5, []⟩, ⟨6, []⟩]) (by kernel_rfl) ?_
  repeat (first
   | refine P0_cons rfl (S_pure (v := .int _ _) rfl rfl rfl rfl (fun _ => rfl) ?_)
   | refine P0_cons rfl (S_load 5 rfl rfl rfl rfl rfl rfl rfl rfl rfl rfl ?_)
   | refine P0_cons rfl (S_load 6 rfl rfl rfl rfl rfl rfl rfl rfl rfl rfl ?_))
  refine P0_cons rfl (S_sliceR hrw (holds_in (by simp)) rfl rfl rfl rfl rfl rfl rfl rfl (by decide) rfl (bounds_lo (a := 3 * j) (by omega)) fun v2 hr2 => ?_)
  refine P0_cons rfl (S_lenR hr2 rfl rfl rfl rfl rfl rfl rfl rfl rfl rfl ?_)
  repeat (first
   | refine P0_nil ?_
   | refine P0_cons rfl (S_pure (v := .int _ _) rfl rfl rfl rfl (fun _ => rfl) ?_))
  repeat (first
   | refine J_seq ?_
   | refine J_region ?_
   | refine O_cons (S_pure (v := .yield _) rfl rfl rfl rfl (fun _ => rfl) ?_))
  have emin : (if ((ns.length - 3 * j : Nat) : Int) < 3 then ((ns.length - 3 * j : Nat) : Int) else 3) = 3 := if_neg (by omega)
  rw [emin]
  repeat (first
   | refine O_cons (S_pure (v := .int _ _) rfl rfl rfl rfl (fun _ => rfl) ?_)
   | refine O_cons (S_load 5 rfl rfl rfl rfl rfl rfl rfl rfl rfl rfl ?_))
  have e24 : wrapF .i64 (((3 * j : Nat) : Int) + 3) = ((3 * j + 3 : Nat) : Int) := by rw [wrap_small (by omega) (by omega)]; rfl
  rw [e24]
  refine O_cons (S_slice3k 7 (k := 3 * j) (n' := 3) (c' := 3) rfl rfl rfl rfl rfl rfl rfl rfl rfl rfl rfl (bounds3 (a := 3 * j) (b := 3 * j + 3) (by omega) (by show 3 * j + 3 ≤ ((intsV ns).length - 0) / 1; simp [intsV]; omega)) (by omega) (show 3 * j * 1 = 3 * j by omega) (by omega) (by omega) ?_)
  refine O_cons (S_yieldX (n := N) (args := [.nslc bb (3 * j) 3 (some 3)])
    (fun L2 => (¬ (n < 1 ∨ 2000 - (out.length : Int) < n ∨ okC (t, c) = false ∨ out.getLast? = some (t, c))) ∧ ∃ vo2 So2 sj, SlC (out ++ List.replicate n.toNat (t, c)) vo2 So2 ∧ L2 = dfS d :: cel c2 22 (.raw (.slice none 0 0)) :: cel c3 28 (.int .i64 0) :: cel c7 22 vo2 :: cel cA 23 (.nslc bb 0 ns.length none) :: cel cB 3 (.int .i64 3) :: ⟨bb, true, true, .row (intsV ns) gg GG sh false 0 3 false false⟩ :: sj :: So2)
    (fun L2 => (n < 1 ∨ 2000 - (out.length : Int) < n ∨ okC (t, c) = false ∨ out.getLast? = some (t, c)) ∧ ∃ L1, L2 = dfS d :: L1 ∧ L1[0]? = some (cel c2 22 (.raw (.slice none 0 0))) ∧ L1[1]? = some (cel c3 28 (.int .i64 12)))
    rfl rfl rfl rfl rfl (fun _ => rfl) rfl rfl rfl ?_ (fun L2 hP => ?_) (fun L2 hP => ?_))
  rotate_left
  · obtain ⟨hnb, vo2, So2, sj, hC2, rfl⟩ := hP
    refine O_erase 8 ?_
    repeat (first
     | refine O_nil ?_
     | refine O_cons (S_pure (v := .bool _) rfl rfl rfl rfl (fun _ => rfl) ?_))
    refine J_condF rfl ?_
    repeat (first
     | refine J_region ?_
     | refine J_skip ?_
     | refine O_nil ?_
     | refine O_cons (S_pure (v := .int _ _) rfl rfl rfl rfl (fun _ => rfl) ?_)
     | refine O_cons (S_load 6 rfl rfl rfl rfl rfl rfl rfl rfl rfl rfl ?_))
    simp only [not_or, Bool.not_eq_false] at hnb
    refine ⟨r, rfl, rfl, j + 1, out ++ List.replicate n.toNat (t, c), vo2, So2, by omega, by omega, ?_, ?_, hC2, rfl, rfl, rfl, ?_, rfl⟩
    · rw [hdj]
      simp only [decG]
      rw [if_neg (by simp only [not_or, Bool.not_eq_false]; exact hnb)]
    · simp; omega
    · show AV.int .i64 (wrapF .i64 (((3 * j : Nat) : Int) + 3)) = _
      rw [e24]; rfl
  · obtain ⟨hb, L1, rfl, e2, e3⟩ := hP
    repeat (first
     | refine O_nil ?_
     | refine O_cons (S_pure (v := .bool _) rfl rfl rfl rfl (fun _ => rfl) ?_))
    refine J_condT rfl ?_
    repeat (refine J_ret ?_)
    refine ret_tmp (v := .tup []) (.inr rfl) (fun _ => rfl) ⟨L1, .inr ⟨rfl, ?_, e2, e3⟩⟩
    rw [hdj]
    simp only [decG]
    rw [if_pos hb]
  -- the body
  repeat (first
   | refine J_region ?_
   | refine O_nil ?_
   | refine O_cons (S_pure (v := .nslc _ _ _ _) rfl rfl rfl rfl (fun _ => rfl) ?_))
  refine ⟨rfl, rfl, _, rfl, ?_⟩
  repeat (first
   | refine J_seq ?_
   | refine J_block ?_)
  refine J_draw0 (l := [⟨0, []⟩, ⟨1, []⟩, ⟨2, []⟩, ⟨3, []⟩, ⟨4, []⟩, ⟨5, []⟩, ⟨6, []⟩, ⟨7, []⟩, ⟨8, []⟩, ⟨9, []⟩, ⟨10, []⟩, ⟨11, []⟩, ⟨12, []⟩]) (by kernel_rfl) ?_
  repeat (first
   | refine P0_cons rfl (S_pure (v := .nptr _ _) rfl rfl rfl rfl (fun _ => rfl) ?_)
   | refine P0_cons rfl (S_pure (v := .nslc _ _ _ _) rfl rfl rfl rfl (fun _ => rfl) ?_))
  refine P0_cons rfl (S_load 7 rfl rfl rfl rfl rfl rfl rfl rfl rfl hg0 ?_)
  repeat (first
   | refine P0_cons rfl (S_pure (v := .nptr _ _) rfl rfl rfl rfl (fun _ => rfl) ?_)
   | refine P0_cons rfl (S_pure (v := .nslc _ _ _ _) rfl rfl rfl rfl (fun _ => rfl) ?_))
  refine P0_cons rfl (S_load 7 rfl rfl rfl rfl rfl rfl rfl rfl rfl hg1 ?_)
  repeat (first
   | refine P0_cons rfl (S_pure (v := .nptr _ _) rfl rfl rfl rfl (fun _ => rfl) ?_)
   | refine P0_cons rfl (S_pure (v := .nslc _ _ _ _) rfl rfl rfl rfl (fun _ => rfl) ?_))
  refine P0_cons rfl (S_load 7 rfl rfl rfl rfl rfl rfl rfl rfl rfl hg2 ?_)
  repeat (refine P0_cons rfl (S_pure (v := .agg _) rfl rfl rfl rfl (fun _ => rfl) ?_))
  refine P0_cons rfl (S_alloc rfl rfl rfl rfl rfl (z := [.int .i64 0, .int .i64 0]) rfl fun c10 => ?_)
  refine P0_perm (List.Perm.cons _ <| List.Perm.cons _ <| List.Perm.cons _ <| List.Perm.cons _ <| List.Perm.cons _ <| List.Perm.cons _ <| List.Perm.cons _ <| List.Perm.cons _ <| List.perm_append_comm) ?_
  repeat (first
   | refine P0_nil ?_
   | refine P0_cons rfl (S_pure (v := .int _ _) rfl rfl rfl rfl (fun _ => rfl) ?_)
   | refine P0_cons rfl (S_storeW 8 rfl rfl rfl rfl rfl rfl rfl rfl rfl rfl ?_))
  repeat (refine J_seq ?_)
  refine J_midL (fun e f' => e = .norm ∧ f' 9 = .int .i64 n ∧ f' 10 = .nptr c10 0 ∧ f' 7 = .nptr c7 0 ∧ f' 2 = .nptr c2 0 ∧ f' 3 = .nptr c3 0 ∧ f' 72 = .bool (decide (n < 1 ∨ 2000 - (out.length : Int) < n ∨ okC (t, c) = false ∨ out.getLast? = some (t, c)))) ?_ (fun e f' hM => ?_)
  · have e50 : wrapF .i64 (2000 - (out.length : Int)) = 2000 - (out.length : Int) := wrap_small (by omega) (by omega)
    refine J_draw0 (l := [⟨0, []⟩, ⟨1, []⟩, ⟨2, []⟩, ⟨3, []⟩, ⟨4, []⟩, ⟨5, []⟩, ⟨6, []⟩, ⟨7, []⟩, ⟨8, []⟩, ⟨9, []⟩, ⟨10, []⟩, ⟨11, []⟩, ⟨12, []⟩, ⟨13, []⟩, ⟨14, []⟩, ⟨15, []⟩, ⟨16, []⟩, ⟨17, []⟩, ⟨18, []⟩, ⟨19, []⟩, ⟨20, []⟩, ⟨21, []⟩, ⟨22, []⟩, ⟨23, []⟩, ⟨24, []⟩, ⟨25, []⟩, ⟨26, []⟩, ⟨27, []⟩, ⟨28, []⟩]) (by kernel_rfl) ?_
    repeat (first
     | refine P0_cons rfl (S_pure (v := .int _ _) rfl rfl rfl rfl (fun _ => rfl) ?_)
     | refine P0_cons rfl (S_pure (v := .bool _) rfl rfl rfl rfl (fun _ => rfl) ?_))
    refine P0_guard rfl rfl rfl rfl (fun h1 => ?_) (fun h1 => ?_)
    · have h1' : n < 1 := of_decide_eq_true h1
      repeat (first
       | refine P0_nil ?_
       | refine P0_cons rfl (S_pure (v := .bool _) rfl rfl rfl rfl (fun _ => rfl) ?_)
       | refine P0_cons rfl (S_off rfl rfl rfl rfl ?_))
      refine ⟨rfl, rfl, rfl, rfl, rfl, rfl, rfl, rfl, ?_⟩
      exact congrArg AV.bool (decide_eq_true (Or.inl h1')).symm
    have h1' : ¬ n < 1 := of_decide_eq_false h1
    repeat (first
     | refine P0_cons rfl (S_pure (v := .int _ _) rfl rfl rfl rfl (fun _ => rfl) ?_)
     | refine P0_cons rfl (S_load 4 rfl rfl rfl rfl rfl rfl rfl rfl rfl rfl ?_))
    refine P0_cons rfl (S_lenR hro rfl rfl rfl rfl rfl rfl rfl rfl rfl rfl ?_)
    repeat (first
     | refine P0_cons rfl (S_pure (v := .int _ _) rfl rfl rfl rfl (fun _ => rfl) ?_)
     | refine P0_cons rfl (S_pure (v := .bool _) rfl rfl rfl rfl (fun _ => rfl) ?_))
    refine P0_guard rfl rfl rfl rfl (fun h2 => ?_) (fun h2 => ?_)
    · have h2' : 2000 - (out.length : Int) < n := by rw [← e50]; exact of_decide_eq_true h2
      repeat (first
       | refine P0_nil ?_
       | refine P0_cons rfl (S_pure (v := .bool _) rfl rfl rfl rfl (fun _ => rfl) ?_)
       | refine P0_cons rfl (S_off rfl rfl rfl rfl ?_))
      refine ⟨rfl, rfl, rfl, rfl, rfl, rfl, rfl, rfl, ?_⟩
      exact congrArg AV.bool (decide_eq_true (Or.inr (Or.inl h2'))).symm
    have h2' : ¬ 2000 - (out.length : Int) < n := by rw [← e50]; exact of_decide_eq_false h2
    refine P0_cons rfl (S_loadA 8 rfl rfl rfl rfl rfl rfl rfl rfl rfl rfl ?_)
    refine P0_cons rfl (S_call (v := .bool (okC (t, c))) rfl rfl rfl rfl (fun _ => rfl) (fun H' h => c_cvalid hTcv (t, c) H' h.wf N (by omega)) ?_)
    repeat (refine P0_cons rfl (S_pure (v := .bool _) rfl rfl rfl rfl (fun _ => rfl) ?_))
    refine P0_guard rfl rfl rfl rfl (fun h3 => ?_) (fun h3 => ?_)
    · have h3' : okC (t, c) = false := by simpa using h3
      repeat (first
       | refine P0_nil ?_
       | refine P0_cons rfl (S_pure (v := .bool _) rfl rfl rfl rfl (fun _ => rfl) ?_)
       | refine P0_cons rfl (S_off rfl rfl rfl rfl ?_))
      refine ⟨rfl, rfl, rfl, rfl, rfl, rfl, rfl, rfl, ?_⟩
      exact congrArg AV.bool (decide_eq_true (Or.inr (Or.inr (Or.inl h3')))).symm
    have h3' : okC (t, c) = true := by simpa using h3
    repeat (refine P0_cons rfl (S_load 4 rfl rfl rfl rfl rfl rfl rfl rfl rfl rfl ?_))
    refine P0_cons rfl (S_lenR hro rfl rfl rfl rfl rfl rfl rfl rfl rfl rfl ?_)
    repeat (refine P0_cons rfl (S_pure (v := .bool _) rfl rfl rfl rfl (fun _ => rfl) ?_))
    refine P0_guard rfl rfl rfl rfl (fun h4 => ?_) (fun h4 => ?_)
    rotate_left
    · have h4' : out = [] := by
        have : ¬ (0 : Int) < out.length := of_decide_eq_false h4
        exact List.eq_nil_of_length_eq_zero (by omega)
      repeat (first
       | refine P0_nil ?_
       | refine P0_cons rfl (S_pure (v := .bool _) rfl rfl rfl rfl (fun _ => rfl) ?_)
       | refine P0_cons rfl (S_off rfl rfl rfl rfl ?_))
      refine ⟨rfl, rfl, rfl, rfl, rfl, rfl, rfl, rfl, ?_⟩
      exact congrArg AV.bool (decide_eq_false (by rintro (h | h | h | h); exact h1' h; exact h2' h; (rw [h3'] at h; cases h); (rw [h4'] at h; cases h))).symm
    have h4' : 0 < out.length := by
      have : (0 : Int) < out.length := of_decide_eq_true h4
      omega
    obtain ⟨lc, hlc⟩ : ∃ lc, out.getLast? = some lc := by
      cases hh : out.getLast? with
      | none => rw [List.getLast?_eq_none_iff] at hh; rw [hh] at h4'; simp at h4'
      | some lc => exact ⟨lc, rfl⟩
    have e66 : wrapF .i64 ((out.length : Int) - 1) = ((out.length - 1 : Nat) : Int) := by rw [wrap_small (by omega) (by omega)]; omega
    repeat (refine P0_cons rfl (S_load 4 rfl rfl rfl rfl rfl rfl rfl rfl rfl rfl ?_))
    refine P0_cons rfl (S_lenR hro rfl rfl rfl rfl rfl rfl rfl rfl rfl rfl ?_)
    repeat (refine P0_cons rfl (S_pure (v := .int _ _) rfl rfl rfl rfl (fun _ => rfl) ?_))
    rw [e66]
    refine P0_cons rfl (S_elemR hro rfl rfl rfl rfl rfl rfl rfl rfl rfl rfl (ix := out.length - 1) (by omega) ?_)
    refine P0_cons rfl (S_loadR rfl hro (holds_in (by simp; intro s hs; simp [hs])) rfl rfl rfl rfl rfl rfl rfl rfl rfl (cells_last hlc) ?_)
    refine P0_cons rfl (S_loadA 8 rfl rfl rfl rfl rfl rfl rfl rfl rfl rfl ?_)
    refine P0_cons rfl (S_bin (a := chV lc) (b := chV (t, c)) rfl rfl rfl rfl rfl rfl rfl (eql_ch _ _ _ _) ?_)
    repeat (first
     | refine P0_nil ?_
     | refine P0_cons rfl (S_pure (v := .bool _) rfl rfl rfl rfl (fun _ => rfl) ?_))
    refine ⟨rfl, rfl, rfl, rfl, rfl, rfl, rfl, rfl, ?_⟩
    show AV.bool (decide (lc = (t, c))) = _
    congr 1
    rw [decide_eq_decide]
    constructor
    · rintro rfl; exact .inr (.inr (.inr hlc))
    · rintro (h | h | h | h)
      · exact absurd h h1'
      · exact absurd h h2'
      · rw [h3'] at h; cases h
      · rw [hlc] at h; injection h
  obtain ⟨rfl, q9, q10, q7, q2, q3, q72⟩ := hM
  obtain ⟨g2, rfl⟩ := upd6 q9 q10 q7 q2 q3 q72
  clear q9 q10 q7 q2 q3 q72
  skip
  refine J_cond _ rfl (fun hb => ?_) (fun hb => ?_)
  · have hb' := of_decide_eq_true hb
    repeat (first
     | refine J_seq ?_
     | refine J_region ?_
     | refine O_nil ?_
     | refine J_ret ?_
     | refine O_cons (S_store1 3 (v := .int _ _) rfl rfl rfl rfl rfl rfl rfl rfl rfl rfl rfl ?_)
     | refine O_cons (S_store1 2 (v := .raw _) rfl rfl rfl rfl rfl rfl rfl rfl rfl rfl rfl ?_))
    exact ⟨rfl, _, rfl, .inr ⟨rfl, hb', _, rfl, rfl, rfl⟩⟩
  have hb' := of_decide_eq_false hb
  have hn1 : 1 ≤ n ∧ n ≤ 2000 := by simp only [not_or] at hb'; omega
  have hn2 : out.length + n.toNat ≤ 2000 := by simp only [not_or] at hb'; omega
  have hnn : ((n.toNat : Nat) : Int) = n := by omega
  repeat (first
   | refine J_seq ?_
   | refine J_region ?_
   | refine J_skip ?_
   | refine O_nil ?_
   | refine J_block ?_
   | refine O_cons (S_pure (v := .int _ _) rfl rfl rfl rfl (fun _ => rfl) ?_))
  refine J_loop (fun r f L df => df = [] ∧ ∃ (k : Nat) (vo2 : AV) (So2 : Kn), r + k = n.toNat ∧ f 73 = .int .i64 n ∧ f 74 = .int .i64 (k : Int) ∧ f 7 = .nptr c7 0 ∧ f 10 = .nptr c10 0 ∧ SlC (out ++ List.replicate k (t, c)) vo2 So2 ∧ L = lpS l .busy 91 _ 82 #[33] _ _ d :: dfS d :: cel c2 22 (.raw (.slice none 0 0)) :: cel c3 28 (.int .i64 0) :: cel c7 22 vo2 :: cel cA 23 (.nslc bb 0 ns.length none) :: cel cB 3 (.int .i64 3) :: ⟨bb, true, true, .row (intsV ns) gg GG sh false 0 3 false false⟩ :: ⟨c10, true, true, .row [.int .i64 t, .int .i64 c] c10 0 false false 0 48 true false⟩ :: So2) n.toNat (show n.toNat < 1000000 by omega) ⟨rfl, 0, vo, So, rfl, rfl, rfl, rfl, rfl, by simpa using hC, rfl⟩ fun r f L df hI => ?_
  obtain ⟨rfl, k, vo2, So2, hrk, q73, q74, q7, q10, hC2, rfl⟩ := hI
  obtain ⟨g3, rfl⟩ := upd4 q73 q74 q7 q10
  clear q73 q74 q7 q10
  have hrep : out ++ List.replicate (k + 1) (t, c) = (out ++ List.replicate k (t, c)) ++ [(t, c)] := by rw [List.replicate_succ', List.append_assoc]
  have ek : wrapF .i64 ((k : Int) + 1) = ((k + 1 : Nat) : Int) := by rw [wrap_small (by omega) (by omega)]; rfl
  repeat (first
   | refine J_seq ?_
   | refine J_region ?_
   | refine O_nil ?_
   | refine O_cons (S_pure (v := .bool _) rfl rfl rfl rfl (fun _ => rfl) ?_))
  refine J_cond _ rfl (fun hk => ?_) (fun hk => ?_)
  rotate_left
  · have hk' : k = n.toNat := by
      have : ¬ (k : Int) < n := of_decide_eq_false hk
      omega
    subst hk'
    repeat (refine J_exit ?_)
    exact ⟨rfl, _, rfl, .inl ⟨rfl, hb', vo2, So2, _, hC2, rfl⟩⟩
  obtain ⟨r, rfl⟩ : ∃ r', r = r' + 1 := ⟨r - 1, by have : (k : Int) < n := of_decide_eq_true hk; omega⟩
  rcases hC2 with ⟨hnil, rfl, rfl⟩ | ⟨hne2, b2, g2, G2, sh2, rfl, rfl⟩
  · skip
    repeat (first
     | refine J_seq ?_
     | refine J_region ?_
     | refine J_skip ?_
     | refine J_block ?_
     | refine O_cons (S_load 4 rfl rfl rfl rfl rfl rfl rfl rfl rfl rfl ?_)
     | refine O_cons (S_loadA 8 rfl rfl rfl rfl rfl rfl rfl rfl rfl rfl ?_))
    refine O_cons (S_bsP rfl rfl rfl rfl rfl (a := .int _ _) (b := .int _ _) rfl rfl rfl rfl rfl fun sr => ?_)
    refine O_cons (S_app0 (n := 1) rfl rfl rfl rfl rfl rfl rfl rfl rfl rfl rfl rfl rfl rfl rfl (Src.row (p := 9) rfl rfl rfl) (by decide) (show (3 * 1 + 4096) * 16 ≤ 100000000000000 by decide) fun j' => ?_)
    refine O_erase 9 ?_
    repeat (first
     | refine J_region ?_
     | refine O_nil ?_
     | refine O_cons (S_pure (v := .int _ _) rfl rfl rfl rfl (fun _ => rfl) ?_)
     | refine O_cons (S_store1 4 (v := .nslc _ _ _ _) rfl rfl rfl rfl rfl rfl rfl rfl rfl rfl rfl ?_))
    refine ⟨r, rfl, rfl, k + 1, _, _, by omega, rfl, ?_, rfl, rfl, .inr ⟨by simp, j', j', 0, false, ?_, ?_⟩, rfl⟩
    · exact congrArg (AV.int .i64) ek
    · rw [hrep, hnil]; rfl
    · rw [hrep, hnil]; rfl
  · have hlk : (out ++ List.replicate k (t, c)).length ≤ 4000 := by simp; omega
    repeat (first
     | refine J_seq ?_
     | refine J_region ?_
     | refine J_skip ?_
     | refine J_block ?_
     | refine O_cons (S_load 4 rfl rfl rfl rfl rfl rfl rfl rfl rfl rfl ?_)
     | refine O_cons (S_loadA 8 rfl rfl rfl rfl rfl rfl rfl rfl rfl rfl ?_))
    refine O_cons (S_bsP rfl rfl rfl rfl rfl (a := .int _ _) (b := .int _ _) rfl rfl rfl rfl rfl fun sr => ?_)
    refine O_cons (S_appB 9 (k := (out ++ List.replicate k (t, c)).length) (n := 1) rfl rfl rfl rfl rfl rfl rfl rfl rfl rfl rfl rfl rfl rfl rfl (cellsC_len _) rfl (Src.row (p := 10) rfl rfl rfl) (by decide) (Nat.zero_le _) (show (3 * ((out ++ List.replicate k (t, c)).length + 1) + 4096) * 16 ≤ 100000000000000 by omega) fun j' G' => ?_)
    refine O_erase 9 ?_
    repeat (first
     | refine J_region ?_
     | refine O_nil ?_
     | refine O_cons (S_pure (v := .int _ _) rfl rfl rfl rfl (fun _ => rfl) ?_)
     | refine O_cons (S_store1 4 (v := .nslc _ _ _ _) rfl rfl rfl rfl rfl rfl rfl rfl rfl rfl rfl ?_))
    refine ⟨r, rfl, rfl, k + 1, _, _, by omega, rfl, ?_, rfl, rfl, .inr ⟨by simp, j', g2, G', true, ?_, ?_⟩, rfl⟩
    · exact congrArg (AV.int .i64) ek
    · rw [hrep]
      show AV.nslc j' 0 ((out ++ List.replicate k (t, c)).length + 1) none = _
      rw [List.length_append (bs := [(t, c)])]; rfl
    · have e : cellsC (out ++ List.replicate (k + 1) (t, c)) = cellsC (out ++ List.replicate k (t, c)) ++ [.int .i64 t, .int .i64 c] := by rw [hrep, cellsC_app _ [(t, c)]]; rfl
      rw [e]; rfl
end Go.Proofs.Aw
