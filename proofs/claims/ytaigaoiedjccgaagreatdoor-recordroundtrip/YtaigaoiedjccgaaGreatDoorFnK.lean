/-
  What some of the program functions compute, walked once. For the arguments that each theorem names.
-/
import Derived.Test.YtaigaoiedjccgaaGreatDoorFnG
import Derived.Test.YtaigaoiedjccgaaGreatDoorFnJ
import Derived.Test.YtaigaoiedjccgaaGreatDoorSyD
set_option linter.unusedVariables false
set_option linter.unusedSimpArgs false

set_option maxRecDepth 100000
set_option maxHeartbeats 8000000
namespace Go.Proofs.Aw
open Go Go.Ev
variable {old : Nat → Nat → Option AV}

/-- What reading a frame does to the recording that is read. -/
def RNext (i : Nat) (p e : Int) (cs : List Ch) (ms : List Int) (vc vm : AV) (Sc Sm rest : Kn) (r : Option (List Ch × List Int × Nat)) (v : AV) (L : Kn) : Prop :=
  match r with
  | none => v = .int .i64 0 ∧ L = recS i p e vc vm :: (Sc ++ (Sm ++ rest))
  | some (l, m, n) => v = .int .i64 (n : Int) ∧ ∃ vc' vm' Sc' Sm', SlC (cs ++ l) vc' Sc' ∧ SlI (ms ++ m) vm' Sm' ∧ L = recS i p e vc' vm' :: (Sc' ++ (Sm' ++ rest))

theorem perm_f (m c r l x s : Slot) (rest : Kn) : (m :: c :: r :: l :: x :: s :: rest).Perm (x :: c :: m :: r :: l :: s :: rest) :=
  (List.perm_middle (l₁ := [m, c, r, l]) (a := x) (l₂ := s :: rest)).trans (List.Perm.cons x (List.Perm.swap c m _))

theorem perm_g (c r x s : Slot) (rest : Kn) : (c :: r :: x :: s :: rest).Perm (x :: c :: r :: s :: rest) :=
  List.perm_middle (l₁ := [c, r]) (a := x) (l₂ := s :: rest)

theorem SlC.g {cs : List Ch} {v : AV} {S : Kn} (h : SlC cs v S) : SlG 48 (cellsC cs) cs.length v S := by
  rcases h with ⟨rfl, rfl, rfl⟩ | ⟨hne, b, g, G, sh, rfl, rfl⟩
  · exact .inl ⟨rfl, rfl, rfl, rfl⟩
  · exact .inr ⟨fun h => hne (List.eq_nil_of_length_eq_zero h), b, g, G, sh, rfl, rfl⟩
theorem SlI.g {cs : List Int} {v : AV} {S : Kn} (h : SlI cs v S) : SlG 3 (intsV cs) cs.length v S := by
  rcases h with ⟨rfl, rfl, rfl⟩ | ⟨hne, b, g, G, sh, rfl, rfl⟩
  · exact .inl ⟨rfl, rfl, rfl, rfl⟩
  · exact .inr ⟨fun h => hne (List.eq_nil_of_length_eq_zero h), b, g, G, sh, rfl, rfl⟩
theorem SlC.of {cs : List Ch} {v : AV} {S : Kn} {c : List AV} {k : Nat} (h : SlG 48 c k v S) (h1 : c = cellsC cs) (h2 : k = cs.length) : SlC cs v S := by
  subst h1 h2
  rcases h with ⟨h0, _, rfl, rfl⟩ | ⟨hne, b, g, G, sh, rfl, rfl⟩
  · exact .inl ⟨List.eq_nil_of_length_eq_zero h0, rfl, rfl⟩
  · exact .inr ⟨fun h => hne (by rw [h]; rfl), b, g, G, sh, rfl, rfl⟩
theorem SlI.of {cs : List Int} {v : AV} {S : Kn} {c : List AV} {k : Nat} (h : SlG 3 c k v S) (h1 : c = intsV cs) (h2 : k = cs.length) : SlI cs v S := by
  subst h1 h2
  rcases h with ⟨h0, _, rfl, rfl⟩ | ⟨hne, b, g, G, sh, rfl, rfl⟩
  · exact .inl ⟨List.eq_nil_of_length_eq_zero h0, rfl, rfl⟩
  · exact .inr ⟨fun h => hne (by rw [h]; rfl), b, g, G, sh, rfl, rfl⟩

theorem i_next (i : Nat) (p : Int) (E count : Nat) (vc vm : AV) (cs : List Ch) (ms : List Int) (Sc Sm rest : Kn) (s : List UInt8) (hC : SlC cs vc Sc) (hM : SlI ms vm Sm) (hE : 1 ≤ E) (hE2 : E ≤ 2000) (hcc : cs.length ≤ count) (hc2 : count ≤ 2000) (hml : ms.length ≤ 2000) (hs : s.length < 20000) :
    Inn TR (CX old) MM 12 50 [.nptr i 0, .int .i64 (count : Int), .str s] (recS i p E vc vm :: (Sc ++ (Sm ++ rest))) (RNext i p E cs ms vc vm Sc Sm rest (nextR E (count - cs.length) s)) := by
  refine inn_fn (nt := 112) rfl Tryz.func50 rfl rfl rfl fun N H0 Wr hN => ?_
  have hrc : RdC old (InL Sc) vc cs := hC.rd
  have e22 : wrapF .i64 ((count : Int) - (cs.length : Int)) = ((count - cs.length : Nat) : Int) := by rw [wrap_small (by omega) (by omega)]; omega
  repeat (first
   | refine J_seq ?_
   | refine J_region ?_
   | refine O_nil ?_
   | refine O_cons (S_field0 rfl rfl rfl rfl rfl rfl rfl rfl rfl ?_)
   | refine O_cons (S_pure (v := .int _ _) rfl rfl rfl rfl (fun _ => rfl) ?_)
   | refine O_cons (S_pure (v := .nptr _ _) rfl rfl rfl rfl (fun _ => rfl) ?_)
   | refine O_cons (S_load 0 rfl rfl rfl rfl rfl rfl rfl rfl rfl rfl ?_))
  refine O_cons (S_lenR hrc rfl rfl rfl rfl rfl rfl rfl rfl rfl rfl ?_)
  repeat (first
   | refine J_seq ?_
   | refine J_region ?_
   | refine O_nil ?_
   | refine O_cons (S_pure (v := .int _ _) rfl rfl rfl rfl (fun _ => rfl) ?_)
   | refine O_cons (S_pure (v := .str _) rfl rfl rfl rfl (fun _ => rfl) ?_))
  rw [e22]
  have hleft : count - cs.length ≤ 2000 := by omega
  have hcl2 : cs.length ≤ 2000 := by omega
  generalize hLE : count - cs.length = left at *
  have none_of : nextR E left s = none → ∀ (v : AV) (L : Kn), v = .int .i64 0 → L = recS i p E vc vm :: (Sc ++ (Sm ++ rest)) → RNext i p E cs ms vc vm Sc Sm rest (nextR E left s) v L := fun h v L hv hL => by rw [h]; exact ⟨hv, hL⟩
  refine O_cons (S_callV _ rfl rfl rfl rfl (fun _ => rfl) (fun H' hw => c_Open (T := TR) rfl rfl rfl rfl rfl rfl rfl rfl rfl rfl rfl rfl rfl s (by omega) H' hw N (by omega)) fun v hv => ?_)
  rcases hv with ⟨t, n, ho, rfl⟩ | ⟨ho, e, he, rfl⟩
  rotate_left
  · have hf : nextR E left s = none := by
      unfold nextR
      split
      · rfl
      · simp only [ho]
    repeat (first
     | refine J_seq ?_
     | refine J_region ?_
     | refine O_nil ?_
     | refine O_cons (S_pure (v := .int _ _) rfl rfl rfl rfl (fun _ => rfl) ?_)
     | refine O_cons (S_pure (v := .bool _) rfl rfl rfl rfl (fun _ => rfl) ?_)
     | refine O_cons (S_pure (v := .str _) rfl rfl rfl rfl (fun _ => rfl) ?_)
     | refine O_cons (S_pure (v := .tup _) rfl rfl rfl rfl (fun _ => rfl) ?_))
    refine O_guard rfl rfl rfl (fun h1 => ?_) (fun h1 => ?_)
    · skip
      repeat (first
       | refine O_nil ?_
       | refine O_cons (S_pure (v := .bool _) rfl rfl rfl rfl (fun _ => rfl) ?_)
       | refine O_cons (S_off rfl rfl rfl rfl ?_))
      refine J_condT rfl ?_
      repeat (first
       | refine J_seq ?_
       | refine J_region ?_
       | refine O_nil ?_
       | refine J_ret ?_
       | refine O_cons (S_pure (v := .int _ _) rfl rfl rfl rfl (fun _ => rfl) ?_))
      exact ret_tmp (v := .int _ _) (.inr rfl) (fun _ => rfl) (none_of hf _ _ rfl rfl)
    · skip
      repeat (first
       | refine O_nil ?_
       | refine O_cons (S_pure (v := .int _ _) rfl rfl rfl rfl (fun _ => rfl) ?_)
       | refine O_cons (S_pure (v := .bool _) rfl rfl rfl rfl (fun _ => rfl) ?_))
      refine J_cond _ rfl (fun _ => ?_) (fun g => absurd (show (e : Int) = 0 by simpa using g) (by omega))
      repeat (first
       | refine J_seq ?_
       | refine J_region ?_
       | refine O_nil ?_
       | refine J_ret ?_
       | refine O_cons (S_pure (v := .int _ _) rfl rfl rfl rfl (fun _ => rfl) ?_))
      exact ret_tmp (v := .int _ _) (.inr rfl) (fun _ => rfl) (none_of hf _ _ rfl rfl)
  obtain ⟨a1, a2, a3, a4⟩ := open_some ho
  have htl : t.length ≤ s.length := by
    have := congrArg List.length a2
    simp only [sealB, List.length_append, List.length_take] at this
    omega
  repeat (first
   | refine J_seq ?_
   | refine J_region ?_
   | refine O_nil ?_
   | refine O_cons (S_pure (v := .int _ _) rfl rfl rfl rfl (fun _ => rfl) ?_)
   | refine O_cons (S_pure (v := .bool _) rfl rfl rfl rfl (fun _ => rfl) ?_)
   | refine O_cons (S_pure (v := .str _) rfl rfl rfl rfl (fun _ => rfl) ?_)
   | refine O_cons (S_pure (v := .tup _) rfl rfl rfl rfl (fun _ => rfl) ?_))
  refine O_guard rfl rfl rfl (fun h1 => ?_) (fun h1 => ?_)
  · have hl0 : left = 0 := by
      have : (left : Int) = 0 := by simpa using h1
      omega
    have hf : nextR E left s = none := by unfold nextR; rw [if_pos hl0]
    repeat (first
     | refine O_nil ?_
     | refine O_cons (S_pure (v := .bool _) rfl rfl rfl rfl (fun _ => rfl) ?_)
     | refine O_cons (S_off rfl rfl rfl rfl ?_))
    refine J_condT rfl ?_
    repeat (first
     | refine J_seq ?_
     | refine J_region ?_
     | refine O_nil ?_
     | refine J_ret ?_
     | refine O_cons (S_pure (v := .int _ _) rfl rfl rfl rfl (fun _ => rfl) ?_))
    exact ret_tmp (v := .int _ _) (.inr rfl) (fun _ => rfl) (none_of hf _ _ rfl rfl)
  have hl0 : left ≠ 0 := by
    intro h
    rw [h] at h1
    simp at h1
  clear h1
  repeat (first
   | refine O_nil ?_
   | refine O_cons (S_pure (v := .int _ _) rfl rfl rfl rfl (fun _ => rfl) ?_)
   | refine O_cons (S_pure (v := .bool _) rfl rfl rfl rfl (fun _ => rfl) ?_))
  refine J_condF rfl ?_
  repeat (first
   | refine J_seq ?_
   | refine J_region ?_
   | refine J_skip ?_
   | refine O_cons (S_pure (v := .str _) rfl rfl rfl rfl (fun _ => rfl) ?_))
  -- the list
  refine O_cons (S_callN (fun v S => (∃ ns k w, decL t = some (ns, k) ∧ v = .tup [w, .int .i64 (k : Nat), .int .i64 0] ∧ SlI ns w S) ∨ (decL t = none ∧ S = [] ∧ ∃ e : Nat, e ≠ 0 ∧ v = .tup [.raw (.slice none 0 0), .int .i64 0, .int .i64 e])) rfl rfl rfl rfl (fun _ => rfl) (fun H' hw => ?_) (fun v S hR => ?_) fun v S hR => ?_)
  · obtain ⟨v, H2, q1, S, q2, q3⟩ := c_ReadList (T := TR) (old := old) rfl rfl rfl rfl rfl rfl rfl rfl t (by omega) H' hw N (by omega)
    exact ⟨v, H2, q1, S, q2, q3⟩
  · rcases hR with ⟨n, k, w, _, _, h2⟩ | ⟨_, rfl, _⟩
    · exact h2.own
    · simp
  refine O_drop (recS i p E vc vm :: (Sc ++ (Sm ++ rest))) (List.sublist_append_left _ _) ?_
  rcases hR with ⟨ns, k, w, hd, rfl, -⟩ | ⟨hd, -, e, he, rfl⟩
  rotate_left
  · have hf : nextR E left s = none := by
      unfold nextR
      rw [if_neg hl0]
      simp only [ho, hd]
    repeat (first
     | refine J_seq ?_
     | refine J_region ?_
     | refine O_nil ?_
     | refine O_cons (S_pure (v := .int _ _) rfl rfl rfl rfl (fun _ => rfl) ?_)
     | refine O_cons (S_pure (v := .bool _) rfl rfl rfl rfl (fun _ => rfl) ?_)
     | refine O_cons (S_pure (v := .raw _) rfl rfl rfl rfl (fun _ => rfl) ?_)
     | refine O_cons (S_pure (v := .tup _) rfl rfl rfl rfl (fun _ => rfl) ?_))
    refine J_cond _ rfl (fun _ => ?_) (fun g => absurd (show (e : Int) = 0 by simpa using g) (by omega))
    repeat (first
     | refine J_seq ?_
     | refine J_region ?_
     | refine O_nil ?_
     | refine J_ret ?_
     | refine O_cons (S_pure (v := .int _ _) rfl rfl rfl rfl (fun _ => rfl) ?_))
    exact ret_tmp (v := .int _ _) (.inr rfl) (fun _ => rfl) (none_of hf _ _ rfl rfl)
  obtain ⟨_, hk, _, _⟩ := decL_some t.length t (Nat.le_refl _) ns k hd
  repeat (first
   | refine J_seq ?_
   | refine J_region ?_
   | refine O_nil ?_
   | refine O_cons (S_pure (v := .int _ _) rfl rfl rfl rfl (fun _ => rfl) ?_)
   | refine O_cons (S_pure (v := .bool _) rfl rfl rfl rfl (fun _ => rfl) ?_)
   | refine O_cons (S_pure (v := .tup _) rfl rfl rfl rfl (fun _ => rfl) ?_)
   | refine O_cons (S_pure (v := (w)) rfl rfl rfl rfl (fun _ => rfl) ?_))
  refine J_condF rfl ?_
  repeat (first
   | refine J_seq ?_
   | refine J_region ?_
   | refine J_skip ?_
   | refine O_cons (S_pure (v := .int _ _) rfl rfl rfl rfl (fun _ => rfl) ?_)
   | refine O_cons (S_pure (v := .str _) rfl rfl rfl rfl (fun _ => rfl) ?_))
  refine O_cons (S_sliceS rfl rfl rfl rfl rfl rfl rfl (bounds_hi (b := k) hk) ?_)
  refine O_cons (S_callN (RSched (t.take k)) rfl rfl rfl rfl (fun _ => rfl) (fun H' hw => ?_) (fun v S hR => ?_) fun v S hR => ?_)
  · obtain ⟨v, H2, q1, S, q2, q3⟩ := c_SDecode (T := TR) (old := old) rfl rfl rfl rfl rfl rfl rfl rfl rfl rfl rfl rfl (t.take k) (by simp; omega) H' hw N (by omega)
    exact ⟨v, H2, q1, S, q2, q3⟩
  · rcases hR with ⟨_, w, _, _, h2⟩ | ⟨_, _, rfl⟩
    · exact h2.own
    · simp
  rcases hR with ⟨l, w2, hds, rfl, hC2⟩ | ⟨hds, rfl, rfl⟩
  rotate_left
  · have hf : nextR E left s = none := by
      unfold nextR
      rw [if_neg hl0]
      simp only [ho, hd, hds]
    repeat (first
     | refine J_seq ?_
     | refine J_region ?_
     | refine O_nil ?_
     | refine O_cons (S_pure (v := .int _ _) rfl rfl rfl rfl (fun _ => rfl) ?_)
     | refine O_cons (S_pure (v := .bool _) rfl rfl rfl rfl (fun _ => rfl) ?_)
     | refine O_cons (S_pure (v := .raw _) rfl rfl rfl rfl (fun _ => rfl) ?_)
     | refine O_cons (S_pure (v := .tup _) rfl rfl rfl rfl (fun _ => rfl) ?_)
     | refine O_cons (S_off rfl rfl rfl rfl ?_))
    refine J_condT rfl ?_
    repeat (first
     | refine J_seq ?_
     | refine J_region ?_
     | refine O_nil ?_
     | refine J_ret ?_
     | refine O_cons (S_pure (v := .int _ _) rfl rfl rfl rfl (fun _ => rfl) ?_))
    exact ret_tmp (v := .int _ _) (.inr rfl) (fun _ => rfl) (none_of hf _ _ rfl (List.append_nil _))
  obtain ⟨_, _, hll⟩ := decS_some hds
  have hr2 : RdC old (InL S) w2 l := hC2.rd
  have hnx : nextR E left s = (if l.length ≠ min left E then none else
        if l.length = E then (let a := numR (t.drop k) false
          if a.2.2 = true ∨ a.2.1 ≠ [] ∨ ¬ hashI a.1 then none else some (l, [a.1], n))
        else if t.drop k ≠ [] then none else some (l, [], n)) := by
    unfold nextR
    rw [if_neg hl0]
    simp only [ho, hd, hds]
  refine O_perm (M := recS i p E vc vm :: (S ++ (Sc ++ (Sm ++ rest)))) (List.Perm.cons _ List.perm_append_comm) ?_
  have emin : (if (E : Int) < (left : Int) then (E : Int) else (left : Int)) = ((min left E : Nat) : Int) := by
    by_cases h : (E : Int) < (left : Int)
    · rw [if_pos h, Nat.min_eq_right (by omega)]
    · rw [if_neg h, Nat.min_eq_left (by omega)]
  repeat (first
   | refine J_seq ?_
   | refine J_region ?_
   | refine O_nil ?_
   | refine O_cons (S_pure (v := .int _ _) rfl rfl rfl rfl (fun _ => rfl) ?_)
   | refine O_cons (S_pure (v := .bool _) rfl rfl rfl rfl (fun _ => rfl) ?_)
   | refine O_cons (S_pure (v := .tup _) rfl rfl rfl rfl (fun _ => rfl) ?_)
   | refine O_cons (S_pure (v := (w2)) rfl rfl rfl rfl (fun _ => rfl) ?_))
  refine O_cons (S_lenR hr2 rfl rfl rfl rfl rfl rfl rfl rfl rfl rfl ?_)
  repeat (first
   | refine O_nil ?_
   | refine O_cons (S_field0 rfl rfl rfl rfl rfl rfl rfl rfl rfl ?_)
   | refine O_cons (S_pure (v := .int _ _) rfl rfl rfl rfl (fun _ => rfl) ?_)
   | refine O_cons (S_pure (v := .bool _) rfl rfl rfl rfl (fun _ => rfl) ?_)
   | refine O_cons (S_pure (v := .nptr _ _) rfl rfl rfl rfl (fun _ => rfl) ?_)
   | refine O_cons (S_load 0 rfl rfl rfl rfl rfl rfl rfl rfl rfl rfl ?_))
  rw [emin]
  refine J_cond _ rfl (fun h1 => ?_) (fun h1 => ?_)
  · have h1' : l.length ≠ min left E := by
      intro h
      rw [h] at h1
      simp at h1
    have hf : nextR E left s = none := by rw [hnx, if_pos h1']
    repeat (first
     | refine J_seq ?_
     | refine J_region ?_
     | refine O_nil ?_
     | refine J_ret ?_
     | refine O_cons (S_pure (v := .int _ _) rfl rfl rfl rfl (fun _ => rfl) ?_))
    exact ret_tmpD (v := .int _ _) (recS i p E vc vm :: (Sc ++ (Sm ++ rest))) (List.Sublist.cons_cons _ (List.sublist_append_right S _)) (.inr rfl) (fun _ => rfl) (none_of hf _ _ rfl rfl)
  have hlm : l.length = min left E := by
    have : (l.length : Int) = ((min left E : Nat) : Int) := by simpa using h1
    omega
  clear h1
  rw [if_neg (by simpa using hlm)] at hnx
  have hlpos : 1 ≤ l.length := by omega
  obtain ⟨hlne, b2, g2, G2, sh2, rfl, rfl⟩ : l ≠ [] ∧ ∃ b g G sh, w2 = .nslc b 0 l.length none ∧ S = [⟨b, true, true, .row (cellsC l) g G sh false 0 48 false false⟩] := by
    rcases hC2 with ⟨rfl, _, _⟩ | h
    · simp at hlpos
    · exact h
  have hdr : (t.drop k).take (t.length - k) = t.drop k := List.take_of_length_le (by simp)
  repeat (first
   | refine J_seq ?_
   | refine J_region ?_
   | refine J_skip ?_
   | refine O_cons (S_pure (v := .int _ _) rfl rfl rfl rfl (fun _ => rfl) ?_)
   | refine O_cons (S_pure (v := .str _) rfl rfl rfl rfl (fun _ => rfl) ?_))
  refine O_cons (S_sliceS rfl rfl rfl rfl rfl rfl rfl (bounds_lo (a := k) hk) ?_)
  rw [hdr]
  repeat (refine O_cons (S_pure (v := .agg _) rfl rfl rfl rfl (fun _ => rfl) ?_))
  refine O_cons (S_box (v := .agg [.str (t.drop k), .bool false]) rfl rfl rfl rfl rfl rfl fun ri => ?_)
  refine O_perm (List.perm_append_comm) ?_
  repeat (first
   | refine J_seq ?_
   | refine J_region ?_
   | refine O_nil ?_
   | refine O_cons (S_field0 rfl rfl rfl rfl rfl rfl rfl rfl rfl ?_)
   | refine O_cons (S_pure (v := .int _ _) rfl rfl rfl rfl (fun _ => rfl) ?_)
   | refine O_cons (S_pure (v := .bool _) rfl rfl rfl rfl (fun _ => rfl) ?_)
   | refine O_cons (S_pure (v := .nptr _ _) rfl rfl rfl rfl (fun _ => rfl) ?_)
   | refine O_cons (S_pure (v := .nslc _ _ _ _) rfl rfl rfl rfl (fun _ => rfl) ?_)
   | refine O_cons (S_pure (v := .raw _) rfl rfl rfl rfl (fun _ => rfl) ?_)
   | refine O_cons (S_load 1 rfl rfl rfl rfl rfl rfl rfl rfl rfl rfl ?_))
  refine J_abs (fun f' => f' 0 = .nptr i 0 ∧ f' 9 = .int .i64 (n : Int) ∧ f' 13 = .nslc b2 0 l.length none ∧ f' 14 = .nptr ri 0 ∧ f' 15 = nilS ∧ f' 74 = .bool ((l.length : Int) == (E : Int))) ⟨rfl, rfl, rfl, rfl, rfl, rfl⟩ fun f' hM => ?_
  obtain ⟨q0, q9, q13, q14, q15, q74⟩ := hM
  obtain ⟨g0, rfl⟩ := upd6 q0 q9 q13 q14 q15 q74
  clear q0 q9 q13 q14 q15 q74
  have hgC := hC.g
  have hgM := hM.g
  refine J_cond _ rfl (fun h1 => ?_) (fun h1 => ?_)
  · have hfull : l.length = E := by
      have : (l.length : Int) = (E : Int) := by simpa using h1
      omega
    rw [if_pos hfull] at hnx
    repeat (first
     | refine J_region ?_
     | refine O_cons (S_pure (v := .nptr _ _) rfl rfl rfl rfl (fun _ => rfl) ?_))
    refine O_cons (S_callI rfl rfl rfl rfl (fun _ => rfl) rfl (i_number ri (t.drop k) false _ (by simp; omega)) (by omega) (List.Perm.refl _) fun v' L' hP => ?_)
    obtain ⟨rfl, rfl⟩ := hP
    generalize numR (t.drop k) false = ra at *
    obtain ⟨mk, s1, w1⟩ := ra
    simp only at hnx
    skip
    refine O_cons (S_bs1 rfl rfl rfl rfl rfl (v := .int _ _) rfl rfl rfl rfl rfl rfl fun sl => ?_)
    refine O_perm (List.perm_append_comm) ?_
    repeat (first
     | refine J_seq ?_
     | refine J_region ?_
     | refine O_nil ?_
     | refine O_cons (S_pure (v := .nptr _ _) rfl rfl rfl rfl (fun _ => rfl) ?_)
     | refine O_cons (S_pure (v := .nslc _ _ _ _) rfl rfl rfl rfl (fun _ => rfl) ?_))
    refine O_cons (S_callI rfl rfl rfl rfl (fun _ => rfl) rfl (i_done ri s1 w1 _) (by omega) (List.Perm.swap _ _ _) fun v' L' hP => ?_)
    obtain ⟨rfl, rfl⟩ := hP
    repeat (refine O_cons (S_pure (v := .bool _) rfl rfl rfl rfl (fun _ => rfl) ?_))
    refine O_guard rfl rfl rfl (fun h2 => ?_) (fun h2 => ?_)
    · have h2' : ¬ (w1 = false ∧ s1 = []) := by simpa only [Bool.not_eq_true', decide_eq_false_iff_not] using h2
      have hf : nextR E left s = none := by
        rw [hnx, if_pos]
        by_cases hw : w1 = true
        · exact Or.inl hw
        · exact Or.inr (Or.inl fun h => h2' ⟨by simpa using hw, h⟩)
      repeat (first
       | refine O_nil ?_
       | refine O_cons (S_pure (v := .bool _) rfl rfl rfl rfl (fun _ => rfl) ?_)
       | refine O_cons (S_off rfl rfl rfl rfl ?_))
      refine J_condT rfl ?_
      repeat (first
       | refine J_seq ?_
       | refine J_region ?_
       | refine O_nil ?_
       | refine J_ret ?_
       | refine O_cons (S_pure (v := .int _ _) rfl rfl rfl rfl (fun _ => rfl) ?_))
      exact ret_tmpD (v := .int _ _) (recS i p E vc vm :: (Sc ++ (Sm ++ rest))) (List.Sublist.cons _ (List.Sublist.cons _ (List.Sublist.cons_cons _ (List.sublist_append_right _ _)))) (.inr rfl) (fun _ => rfl) (none_of hf _ _ rfl rfl)
    have h2' : w1 = false ∧ s1 = [] := by simpa only [Bool.not_eq_false', decide_eq_true_eq] using h2
    repeat (first
     | refine O_cons (S_pure (v := .int _ _) rfl rfl rfl rfl (fun _ => rfl) ?_)
     | refine O_cons (S_pure (v := .bool _) rfl rfl rfl rfl (fun _ => rfl) ?_)
     | refine O_cons (S_pure (v := .nptr _ _) rfl rfl rfl rfl (fun _ => rfl) ?_)
     | refine O_cons (S_pure (v := .nslc _ _ _ _) rfl rfl rfl rfl (fun _ => rfl) ?_)
     | refine O_cons (S_load 1 rfl rfl rfl rfl rfl rfl rfl rfl rfl rfl ?_))
    refine O_cons (S_call (v := .bool (decide (0 ≤ mk) && decide (mk < 1099511627776))) rfl rfl rfl rfl (fun _ => rfl) (fun H' h => c_isHash (T := TR) rfl mk H' h.wf N (by omega)) ?_)
    repeat (first
     | refine O_nil ?_
     | refine O_cons (S_pure (v := .bool _) rfl rfl rfl rfl (fun _ => rfl) ?_))
    refine J_cond _ rfl (fun h3 => ?_) (fun h3 => ?_)
    · have h3' : ¬ hashI mk := by
        intro ⟨a, b⟩
        simp [a, b] at h3
      have hf : nextR E left s = none := by rw [hnx, if_pos (Or.inr (Or.inr h3'))]
      repeat (first
       | refine J_seq ?_
       | refine J_region ?_
       | refine O_nil ?_
       | refine J_ret ?_
       | refine O_cons (S_pure (v := .int _ _) rfl rfl rfl rfl (fun _ => rfl) ?_))
      exact ret_tmpD (v := .int _ _) (recS i p E vc vm :: (Sc ++ (Sm ++ rest))) (List.Sublist.cons _ (List.Sublist.cons _ (List.Sublist.cons_cons _ (List.sublist_append_right _ _)))) (.inr rfl) (fun _ => rfl) (none_of hf _ _ rfl rfl)
    have h3' : hashI mk := by unfold hashI; simpa using h3
    have hf : nextR E left s = some (l, [mk], n) := by
      rw [hnx, if_neg]
      rintro (h | h | h)
      · rw [h2'.1] at h; cases h
      · exact h h2'.2
      · exact h h3'
    repeat (first
     | refine J_seq ?_
     | refine J_skip ?_)
    refine J_draw (l := [⟨0, []⟩, ⟨1, []⟩, ⟨2, []⟩, ⟨3, []⟩, ⟨4, []⟩, ⟨5, []⟩, ⟨6, []⟩, ⟨8, []⟩, ⟨9, []⟩, ⟨10, []⟩, ⟨11, []⟩, ⟨12, []⟩, ⟨7, [11]⟩, ⟨13, []⟩, ⟨14, []⟩, ⟨15, []⟩, ⟨16, []⟩, ⟨17, []⟩, ⟨18, []⟩, ⟨19, []⟩]) (by kernel_rfl) ?_
    repeat (first
     | refine P_cons1 rfl rfl (S_field0 rfl rfl rfl rfl rfl rfl rfl rfl rfl ?_)
     | refine P_cons1 rfl rfl (S_pure (v := .nptr _ _) rfl rfl rfl rfl (fun _ => rfl) ?_)
     | refine P_cons1 rfl rfl (S_pure (v := .nslc _ _ _ _) rfl rfl rfl rfl (fun _ => rfl) ?_)
     | refine P_cons2 rfl rfl rfl (S_load 2 rfl rfl rfl rfl rfl rfl rfl rfl rfl rfl ?_))
    refine P_consA1 rfl rfl (S_appSl (n := l.length) (k := cs.length) hgC (perm_mid [_, _, _, _] Sc (Sm ++ rest)) rfl rfl rfl rfl rfl rfl rfl rfl rfl rfl rfl rfl rfl rfl (cellsC_len cs) rfl (Src.row (p := 3) rfl (cellsC_len l) (cellsC_cell l)) (by omega) (by show (3 * (cs.length + l.length) + 4096) * 16 ≤ 100000000000000; omega) fun vc' sc' hC' => ⟨fun H' hH' => still_load 2 rfl rfl rfl hH' rfl rfl rfl rfl hgM.same (still_no rfl still_done), ?_⟩)
    refine P_perm (List.perm_append_comm) ?_
    skip
    refine P_cons1 rfl rfl (S_appSl (n := 1) (k := ms.length) hgM (perm_mid [_, _, _, _, _] Sm rest) rfl rfl rfl rfl rfl rfl rfl rfl rfl rfl rfl rfl rfl rfl (show (intsV ms).length = ms.length * 1 by simp [intsV]) rfl (Src.row (p := 2) rfl rfl rfl) (by decide) (by show (3 * (ms.length + 1) + 4096) * 8 ≤ 100000000000000; omega) fun vm' sm' hM' => ?_)
    refine P_perm (List.perm_append_comm) ?_
    repeat (first
     | refine P_cons1 rfl rfl (S_field0 rfl rfl rfl rfl rfl rfl rfl rfl rfl ?_)
     | refine P_cons1 rfl rfl (S_pure (v := .nptr _ _) rfl rfl rfl rfl (fun _ => rfl) ?_))
    refine P_cons1 rfl rfl (S_storeSl 4 hC' rfl rfl rfl rfl rfl rfl rfl rfl rfl rfl ?_)
    repeat (first
     | refine P_cons1 rfl rfl (S_field0 rfl rfl rfl rfl rfl rfl rfl rfl rfl ?_)
     | refine P_cons1 rfl rfl (S_pure (v := .nptr _ _) rfl rfl rfl rfl (fun _ => rfl) ?_))
    refine P_cons1 rfl rfl (S_storeSl 4 hM' rfl rfl rfl rfl rfl rfl rfl rfl rfl rfl ?_)
    repeat (refine P_nil ?_)
    repeat (first
     | refine J_seq ?_
     | refine J_region ?_
     | refine O_nil ?_
     | refine J_ret ?_
     | refine O_cons (S_pure (v := .int _ _) rfl rfl rfl rfl (fun _ => rfl) ?_))
    refine ret_tmpPD (v := .int _ _) _ (recS i p E vc' vm' :: sc' :: sm' :: rest) (perm_f _ _ _ _ _ _ _) (List.Sublist.cons_cons _ (List.Sublist.cons_cons _ (List.Sublist.cons_cons _ (List.Sublist.cons _ (List.Sublist.cons _ (List.Sublist.cons _ (List.Sublist.refl _))))))) (.inr rfl) (fun _ => rfl) ?_
    rw [hf]
    exact ⟨rfl, vc', vm', [sc'], [sm'], SlC.of hC' (cellsC_app cs l).symm (by simp), SlI.of hM' (by simp [intsV]) (by simp), rfl⟩
  · have hfull : ¬ l.length = E := by
      intro h
      rw [h] at h1
      simp at h1
    rw [if_neg hfull] at hnx
    repeat (first
     | refine J_seq ?_
     | refine J_region ?_
     | refine J_skip ?_
     | refine O_cons (S_pure (v := .nptr _ _) rfl rfl rfl rfl (fun _ => rfl) ?_))
    refine O_cons (S_callI rfl rfl rfl rfl (fun _ => rfl) rfl (i_done ri (t.drop k) false _) (by omega) (List.Perm.refl _) fun v' L' hP => ?_)
    obtain ⟨rfl, rfl⟩ := hP
    repeat (refine O_cons (S_pure (v := .bool _) rfl rfl rfl rfl (fun _ => rfl) ?_))
    refine O_guard rfl rfl rfl (fun h2 => ?_) (fun h2 => ?_)
    · have h2' : ¬ (false = false ∧ t.drop k = []) := by simpa only [Bool.not_eq_true', decide_eq_false_iff_not] using h2
      have hf : nextR E left s = none := by rw [hnx, if_pos (fun h => h2' ⟨rfl, h⟩)]
      repeat (first
       | refine O_nil ?_
       | refine O_cons (S_pure (v := .bool _) rfl rfl rfl rfl (fun _ => rfl) ?_)
       | refine O_cons (S_off rfl rfl rfl rfl ?_))
      refine J_condT rfl ?_
      repeat (first
       | refine J_seq ?_
       | refine J_region ?_
       | refine O_nil ?_
       | refine J_ret ?_
       | refine O_cons (S_pure (v := .int _ _) rfl rfl rfl rfl (fun _ => rfl) ?_))
      exact ret_tmpD (v := .int _ _) (recS i p E vc vm :: (Sc ++ (Sm ++ rest))) (List.Sublist.cons _ (List.Sublist.cons_cons _ (List.sublist_append_right _ _))) (.inr rfl) (fun _ => rfl) (none_of hf _ _ rfl rfl)
    have h2' : false = false ∧ t.drop k = [] := by simpa only [Bool.not_eq_false', decide_eq_true_eq] using h2
    have hf : nextR E left s = some (l, [], n) := by rw [hnx, if_neg (fun h => h h2'.2)]
    repeat (first
     | refine O_nil ?_
     | refine O_cons (S_pure (v := .int _ _) rfl rfl rfl rfl (fun _ => rfl) ?_)
     | refine O_cons (S_pure (v := .bool _) rfl rfl rfl rfl (fun _ => rfl) ?_)
     | refine O_cons (S_pure (v := .raw _) rfl rfl rfl rfl (fun _ => rfl) ?_)
     | refine O_cons (S_off rfl rfl rfl rfl ?_))
    refine J_condF rfl ?_
    repeat (first
     | refine J_seq ?_
     | refine J_skip ?_)
    refine J_draw (l := [⟨0, []⟩, ⟨1, []⟩, ⟨2, []⟩, ⟨3, []⟩, ⟨4, []⟩, ⟨5, []⟩, ⟨6, []⟩, ⟨8, []⟩, ⟨9, []⟩, ⟨10, []⟩, ⟨11, []⟩, ⟨12, []⟩, ⟨7, [11]⟩, ⟨13, []⟩, ⟨14, []⟩, ⟨15, []⟩, ⟨16, []⟩, ⟨17, []⟩, ⟨18, []⟩, ⟨19, []⟩]) (by kernel_rfl) ?_
    repeat (first
     | refine P_cons1 rfl rfl (S_field0 rfl rfl rfl rfl rfl rfl rfl rfl rfl ?_)
     | refine P_cons1 rfl rfl (S_pure (v := .nptr _ _) rfl rfl rfl rfl (fun _ => rfl) ?_)
     | refine P_cons1 rfl rfl (S_pure (v := .nslc _ _ _ _) rfl rfl rfl rfl (fun _ => rfl) ?_)
     | refine P_cons1 rfl rfl (S_pure (v := .raw _) rfl rfl rfl rfl (fun _ => rfl) ?_)
     | refine P_cons2 rfl rfl rfl (S_load 1 rfl rfl rfl rfl rfl rfl rfl rfl rfl rfl ?_))
    refine P_consA1 rfl rfl (S_appSl (n := l.length) (k := cs.length) hgC (perm_mid [_, _, _] Sc (Sm ++ rest)) rfl rfl rfl rfl rfl rfl rfl rfl rfl rfl rfl rfl rfl rfl (cellsC_len cs) rfl (Src.row (p := 2) rfl (cellsC_len l) (cellsC_cell l)) (by omega) (by show (3 * (cs.length + l.length) + 4096) * 16 ≤ 100000000000000; omega) fun vc' sc' hC' => ⟨fun H' hH' => still_load 1 rfl rfl rfl hH' rfl rfl rfl rfl hgM.same (still_no rfl still_done), ?_⟩)
    refine P_perm (List.perm_append_comm) ?_
    skip
    refine P_cons1 rfl rfl (S_appSl0 (k := ms.length) hgM (perm_mid [_, _, _, _] Sm rest) rfl rfl rfl rfl rfl rfl rfl rfl rfl rfl rfl rfl rfl (show (intsV ms).length = ms.length * 1 by simp [intsV]) rfl ?_)
    refine P_perm (perm_mid [_, _, _, _] Sm rest).symm ?_
    repeat (first
     | refine P_cons1 rfl rfl (S_field0 rfl rfl rfl rfl rfl rfl rfl rfl rfl ?_)
     | refine P_cons1 rfl rfl (S_pure (v := .nptr _ _) rfl rfl rfl rfl (fun _ => rfl) ?_))
    refine P_cons1 rfl rfl (S_storeSl 2 hC' rfl rfl rfl rfl rfl rfl rfl rfl rfl rfl ?_)
    repeat (first
     | refine P_cons1 rfl rfl (S_field0 rfl rfl rfl rfl rfl rfl rfl rfl rfl ?_)
     | refine P_cons1 rfl rfl (S_pure (v := .nptr _ _) rfl rfl rfl rfl (fun _ => rfl) ?_))
    refine P_cons1 rfl rfl (S_storeSl 2 hgM rfl rfl rfl rfl rfl rfl rfl rfl rfl rfl ?_)
    repeat (refine P_nil ?_)
    repeat (first
     | refine J_seq ?_
     | refine J_region ?_
     | refine O_nil ?_
     | refine J_ret ?_
     | refine O_cons (S_pure (v := .int _ _) rfl rfl rfl rfl (fun _ => rfl) ?_))
    refine ret_tmpPD (v := .int _ _) _ (recS i p E vc' vm :: sc' :: (Sm ++ rest)) (perm_g _ _ _ _ _) (List.Sublist.cons_cons _ (List.Sublist.cons_cons _ (List.Sublist.cons _ (List.Sublist.cons _ (List.Sublist.refl _))))) (.inr rfl) (fun _ => rfl) ?_
    rw [hf]
    exact ⟨rfl, vc', vm, [sc'], Sm, SlC.of hC' (cellsC_app cs l).symm (by simp), by rw [List.append_nil]; exact hM, rfl⟩
end Go.Proofs.Aw
