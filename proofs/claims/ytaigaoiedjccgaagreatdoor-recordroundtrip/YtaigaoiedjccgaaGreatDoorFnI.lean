/-
  What some of the program functions compute, walked once. For the arguments that each theorem names.
-/
import Derived.Test.YtaigaoiedjccgaaGreatDoorFnH
import Derived.Test.YtaigaoiedjccgaaGreatDoorAwD
set_option linter.unusedVariables false
set_option linter.unusedSimpArgs false

set_option maxRecDepth 100000
set_option maxHeartbeats 4000000
namespace Go.Proofs.Aw
open Go Go.Ev
variable {old : Nat → Nat → Option AV}

theorem c_text (H : AH) : Con TR (CX old) MM 1 (.fn 18) [.str nameM] H (fun v H' => v = .tup [.str txtM, .int .i64 0] ∧ Fr H [] H') := fun n hn => by
  obtain ⟨n, rfl⟩ : ∃ n', n = n' + 1 := ⟨n - 1, by omega⟩
  exact ⟨_, H, rfl, rfl, Fr.refl _ _⟩

theorem c_awake (H : AH) : Con TR (CX old) MM 1 (.fn 5) [] H (fun v H' => v = .bool true ∧ Fr H [] H') := fun n hn => by
  obtain ⟨n, rfl⟩ : ∃ n', n = n' + 1 := ⟨n - 1, by omega⟩
  exact ⟨_, H, rfl, rfl, Fr.refl _ _⟩

/-- A recording's object. -/
abbrev recS (i : Nat) (p e : Int) (vc vm : AV) : Slot := ⟨i, true, true, .row [.int .i64 p, .int .i64 e, vc, vm] i 0 false false 0 25 true false⟩

theorem perm_y (r w x : Slot) (S q : Kn) : ((r :: w :: (S ++ q)) ++ [x]).Perm (w :: (S ++ x :: r :: q)) :=
  (List.perm_append_comm (l₁ := r :: w :: (S ++ q)) (l₂ := [x])).trans ((List.Perm.cons x (perm_x r w S q)).trans (perm_x x w S (r :: q)))

theorem perm_3 (w a b r : Slot) (S q : Kn) : (w :: (S ++ a :: b :: r :: q)).Perm (a :: b :: r :: w :: (S ++ q)) :=
  (perm_x a w S (b :: r :: q)).symm.trans (List.Perm.cons a ((perm_x b w S (r :: q)).symm.trans (List.Perm.cons b (perm_x r w S q).symm)))

theorem perm_3x (w a b r x : Slot) (S q : Kn) : ((a :: b :: r :: w :: (S ++ q)) ++ [x]).Perm (w :: (S ++ x :: a :: b :: r :: q)) :=
  (List.perm_append_comm (l₁ := a :: b :: r :: w :: (S ++ q)) (l₂ := [x])).trans ((List.Perm.cons x (perm_3 w a b r S q).symm).trans (perm_x x w S (a :: b :: r :: q)))

theorem flat3 (a b c : Int) : [a, b, c].flatMap encInt = encInt a ++ (encInt b ++ encInt c) := by simp

theorem i_Encode1 (i c1 : Nat) (p e : Int) (vc vm : AV) (cs : List Ch) (R : Nat → AObj → Prop) (hc : RdC old R vc cs) (hp : fitsI p) (he : fitsI e) (hl : cs.length ≤ 2000) (H0 : AH) (Wr : List Nat) (rest : Kn) :
    InnY TR (CX old) MM 7 16 ([.nptr i 0] ++ [.nptr c1 0]) H0 Wr (wrt i (.raw (.pointer none)) (.raw (.slice none 0 0)) false :: recS c1 p e vc vm :: rest) (fun v' L' => v' = .tup [] ∧ ∃ a w S', PA i a ∧ BufT (txtM ++ (encInt p ++ (encInt e ++ encInt (cs.length : Int)))) w S' ∧ L' = wrt i a w false :: (S' ++ recS c1 p e vc vm :: rest)) := by
  have l1 := encInt_len p
  have l2 := encInt_len e
  have l3 := encInt_len (cs.length : Int)
  refine inn_fnY (nt := 18) rfl Tryz.func16 rfl rfl rfl fun N hN => ?_
  repeat (first
   | refine J_seq ?_
   | refine J_region ?_
   | refine O_cons (S_pure (v := .nptr _ _) rfl rfl rfl rfl (fun _ => rfl) ?_))
  refine O_cons (S_call (v := .tup [.str txtM, .int .i64 0]) rfl rfl rfl rfl (fun _ => rfl) (fun H' h => c_text H' N (by omega)) ?_)
  repeat (first
   | refine O_cons (S_pure (v := .int _ _) rfl rfl rfl rfl (fun _ => rfl) ?_)
   | refine O_cons (S_pure (v := .str _) rfl rfl rfl rfl (fun _ => rfl) ?_))
  refine O_cons (S_callI rfl rfl rfl rfl (fun _ => rfl) rfl (i_put (T := TR) rfl rfl rfl i (.raw (.pointer none)) (.raw (.slice none 0 0)) [] (recS c1 p e vc vm :: rest) [] txtM (.inl rfl) (.inl ⟨rfl, rfl, rfl⟩) (by decide) (by decide)) (by omega) (List.Perm.refl _) fun v' L' hP => ?_)
  obtain ⟨rfl, w, S, hB, rfl⟩ := hP
  refine O_perm (perm_x _ _ _ _).symm ?_
  repeat (first
   | refine J_region ?_
   | refine O_nil ?_
   | refine O_cons (S_field0 rfl rfl rfl rfl rfl rfl rfl rfl rfl ?_)
   | refine O_cons (S_pure (v := .nptr _ _) rfl rfl rfl rfl (fun _ => rfl) ?_)
   | refine O_cons (S_load 0 rfl rfl rfl rfl rfl rfl rfl rfl rfl rfl ?_))
  refine O_cons (S_lenR hc rfl rfl rfl rfl rfl rfl rfl rfl rfl rfl ?_)
  refine O_cons (S_bs3 rfl rfl rfl rfl rfl (a := .int _ _) (b := .int _ _) (c := .int _ _) rfl rfl rfl rfl rfl rfl rfl rfl rfl rfl fun sl => ?_)
  refine O_cons (S_callI rfl rfl rfl rfl (fun _ => rfl) rfl (i_numbers (T := TR) rfl rfl rfl rfl rfl rfl rfl rfl rfl i (.nptr i 0) w S (recS c1 p e vc vm :: rest) _ (.inr rfl) hB [p, e, (cs.length : Int)] sl sl 0 3 true true false false true false 0 (by
    intro n hn
    simp only [List.mem_cons, List.not_mem_nil, or_false] at hn
    rcases hn with rfl | rfl | rfl
    · exact hp
    · exact he
    · unfold fitsI; omega) (by simp) (by simp [txtM])) (by omega) (perm_y _ _ _ _ _) fun v' L' hP => ?_)
  obtain ⟨rfl, a', w2, S2, ha2, hB2, rfl⟩ := hP
  repeat (refine O_nil ?_)
  refine ret_tmpD (v := .tup []) (wrt i a' w2 false :: (S2 ++ recS c1 p e vc vm :: rest)) (List.Sublist.cons_cons _ ((List.Sublist.refl S2).append (List.sublist_cons_self _ _))) (.inl rfl) (fun _ => rfl) ⟨rfl, a', w2, S2, ha2, ?_, rfl⟩
  rw [List.nil_append, flat3] at hB2
  exact hB2

theorem mark_drop {ms : List Int} {k : Nat} (h : k < ms.length) : markB (ms.drop k) = encInt ms[k] := by
  rw [List.drop_eq_getElem_cons h]; rfl
theorem mark_nil {ms : List Int} {k : Nat} (h : ¬ k < ms.length) : markB (ms.drop k) = [] := by
  rw [List.drop_eq_nil_of_le (by omega)]; rfl

theorem i_Encode2 (i c5 c6 c1 : Nat) (p e : Int) (vl vc vm : AV) (l : List Ch) (k : Nat) (ms : List Int) (H0 : AH) (Wr : List Nat) (rest : Kn) (hr : RdC old (AtO H0 Wr) vl l) (hms : RdM old (AtO H0 Wr) vm ms) (hl : l.length ≤ 2000) (hok : ∀ c ∈ l, okC c = true) (hh : ∀ m ∈ ms, hashI m) (hlen : (encS l).length ≤ 10000) :
    InnY TR (CX old) MM 10 21 ([.nptr i 0] ++ [.nptr c5 0, .nptr c6 0, .nptr c1 0]) H0 Wr (wrt i (.raw (.pointer none)) (.raw (.slice none 0 0)) false :: cel c5 22 vl :: cel c6 3 (.int .i64 (k : Int)) :: recS c1 p e vc vm :: rest) (fun v' L' => v' = .tup [] ∧ ∃ a w S', PA i a ∧ BufT (encS l ++ markB (ms.drop k)) w S' ∧ L' = wrt i a w false :: (S' ++ cel c5 22 vl :: cel c6 3 (.int .i64 (k : Int)) :: recS c1 p e vc vm :: rest)) := by
  refine inn_fnY (nt := 24) rfl Tryz.func21 rfl rfl rfl fun N hN => ?_
  repeat (first
   | refine J_seq ?_
   | refine J_region ?_
   | refine O_cons (S_pure (v := .nptr _ _) rfl rfl rfl rfl (fun _ => rfl) ?_)
   | refine O_cons (S_load 1 rfl rfl rfl rfl rfl rfl rfl rfl rfl rfl ?_))
  refine O_cons (S_call (v := .tup [.str (encS l), .int .i64 0]) rfl rfl rfl rfl (fun _ => rfl) (fun H' h => c_SEncode (T := TR) rfl rfl rfl rfl rfl rfl rfl rfl rfl rfl rfl rfl rfl rfl rfl rfl rfl vl l hl hok H' h.wf (hr.at holds_at h) N (by omega)) ?_)
  repeat (first
   | refine O_cons (S_pure (v := .int _ _) rfl rfl rfl rfl (fun _ => rfl) ?_)
   | refine O_cons (S_pure (v := .str _) rfl rfl rfl rfl (fun _ => rfl) ?_))
  have hne : encS l ≠ [] := by
    intro h
    have := encL_len (runsL l)
    have h2 : (encL (runsL l)).length = 0 := by
      have : encL (runsL l) = [] := h
      rw [this]; rfl
    omega
  refine O_cons (S_callI rfl rfl rfl rfl (fun _ => rfl) rfl (i_put (T := TR) rfl rfl rfl i (.raw (.pointer none)) (.raw (.slice none 0 0)) [] (cel c5 22 vl :: cel c6 3 (.int .i64 (k : Int)) :: recS c1 p e vc vm :: rest) [] (encS l) (.inl rfl) (.inl ⟨rfl, rfl, rfl⟩) hne (by simp; omega)) (by omega) (List.Perm.refl _) fun v' L' hP => ?_)
  obtain ⟨rfl, w, S, hB, rfl⟩ := hP
  rw [List.nil_append] at hB
  refine O_perm (perm_3 _ _ _ _ _ _) ?_
  repeat (first
   | refine J_seq ?_
   | refine J_region ?_
   | refine O_nil ?_
   | refine O_cons (S_field0 rfl rfl rfl rfl rfl rfl rfl rfl rfl ?_)
   | refine O_cons (S_load 1 rfl rfl rfl rfl rfl rfl rfl rfl rfl rfl ?_)
   | refine O_cons (S_load 2 rfl rfl rfl rfl rfl rfl rfl rfl rfl rfl ?_))
  refine O_cons (S_lenR hms rfl rfl rfl rfl rfl rfl rfl rfl rfl rfl ?_)
  repeat (first
   | refine O_nil ?_
   | refine O_cons (S_pure (v := .bool _) rfl rfl rfl rfl (fun _ => rfl) ?_))
  refine J_cond _ rfl (fun hk => ?_) (fun hk => ?_)
  · have hlt : k < ms.length := by have := of_decide_eq_true hk; omega
    repeat (first
     | refine J_region ?_
     | refine O_cons (S_field0 rfl rfl rfl rfl rfl rfl rfl rfl rfl ?_)
     | refine O_cons (S_pure (v := .nptr _ _) rfl rfl rfl rfl (fun _ => rfl) ?_)
     | refine O_cons (S_load 1 rfl rfl rfl rfl rfl rfl rfl rfl rfl rfl ?_)
     | refine O_cons (S_load 2 rfl rfl rfl rfl rfl rfl rfl rfl rfl rfl ?_))
    refine O_cons (S_elemR hms rfl rfl rfl rfl rfl rfl rfl rfl rfl rfl hlt ?_)
    refine O_cons (S_load1R rfl hms holds_at rfl rfl rfl rfl rfl rfl rfl rfl (getI hlt) ?_)
    refine O_cons (S_bs1 rfl rfl rfl rfl rfl (v := .int _ _) rfl rfl rfl rfl rfl rfl fun sl => ?_)
    refine O_cons (S_callI rfl rfl rfl rfl (fun _ => rfl) rfl (i_numbers (T := TR) rfl rfl rfl rfl rfl rfl rfl rfl rfl i (.nptr i 0) w S (cel c5 22 vl :: cel c6 3 (.int .i64 (k : Int)) :: recS c1 p e vc vm :: rest) _ (.inr rfl) hB [ms[k]] sl sl 0 1 true true false false true false 0 (by
      intro n hn
      rw [List.mem_singleton] at hn
      subst hn
      exact hash_fits (hh _ (List.getElem_mem hlt))) (by simp) (by omega)) (by omega) (perm_3x _ _ _ _ _ _ _) fun v' L' hP => ?_)
    obtain ⟨rfl, a', w2, S2, ha2, hB2, rfl⟩ := hP
    repeat (refine O_nil ?_)
    refine ret_tmpD (v := .tup []) (wrt i a' w2 false :: (S2 ++ cel c5 22 vl :: cel c6 3 (.int .i64 (k : Int)) :: recS c1 p e vc vm :: rest)) (List.Sublist.cons_cons _ ((List.Sublist.refl S2).append (List.sublist_cons_self _ _))) (.inl rfl) (fun _ => rfl) ⟨rfl, a', w2, S2, ha2, ?_, rfl⟩
    rw [mark_drop hlt]
    simpa using hB2
  · have hlt : ¬ k < ms.length := by have := of_decide_eq_false hk; omega
    repeat (refine J_skip ?_)
    refine ret_tmpP (v := .tup []) (wrt i (.nptr i 0) w false :: (S ++ cel c5 22 vl :: cel c6 3 (.int .i64 (k : Int)) :: recS c1 p e vc vm :: rest)) (perm_3 _ _ _ _ _ _).symm (.inl rfl) (fun _ => rfl) ⟨rfl, _, w, S, .inr rfl, ?_, rfl⟩
    rw [mark_nil hlt, List.append_nil]
    exact hB
end Go.Proofs.Aw

set_option maxRecDepth 100000
set_option maxHeartbeats 4000000
namespace Go.Proofs.Aw
open Go Go.Ev
variable {old : Nat → Nat → Option AV}

theorem sealB_len (x : List UInt8) (_h : x.length ≤ 20000) : (sealB x).length ≤ x.length + 13 := by
  have := encInt_len (x.length : Int)
  simp [sealB, sumB_len]
  omega

theorem perm7 (a b c d e f g : Slot) : [a, b, c, d, e, f, g].Perm (f :: g :: c :: [a, b, d, e]) :=
  (List.perm_append_comm (l₁ := [a, b, c, d, e]) (l₂ := [f, g])).trans (List.Perm.cons f (List.Perm.cons g (List.perm_middle (l₁ := [a, b]) (a := c) (l₂ := [d, e]))))

theorem c_Encode (p e : Int) (vc vm : AV) (cs : List Ch) (ms : List Int) (hl : cs.length < 1000000) (hm : ms.length < 1000000) (H : AH) (hH : Wf H) (hc : RdC old (AtO H []) vc cs) (hms : RdM old (AtO H []) vm ms) (hsm : validR p e cs ms → smallF e.toNat cs) :
    Con TR (CX old) MM 20 (.fn 6) [recV p e vc vm] H (fun v H' => v = (if validR p e cs ms then .tup [.str (encR p e cs ms), .int .i64 0] else .tup [.str [], .int .i64 1]) ∧ Fr H [] H') := by
  refine con_fn (nt := 21) [] [] rfl Tryz.func6 rfl rfl rfl (Hs.start hH) fun N hN => ?_
  obtain ⟨N, rfl⟩ : ∃ N', N = N' + 2 := ⟨N - 2, by omega⟩
  repeat (first
   | refine J_seq ?_
   | refine J_region ?_)
  refine O_cons (S_box (v := recV p e vc vm) rfl rfl rfl rfl rfl rfl fun c1 => ?_)
  repeat (first
   | refine J_seq ?_
   | refine J_region ?_
   | refine O_nil ?_
   | refine O_cons (S_pure (v := .int _ _) rfl rfl rfl rfl (fun _ => rfl) ?_)
   | refine O_cons (S_pure (v := .str _) rfl rfl rfl rfl (fun _ => rfl) ?_)
   | refine O_cons (S_loadA 0 rfl rfl rfl rfl rfl rfl rfl rfl rfl rfl ?_))
  refine O_cons (S_call (v := .bool (decide (validR p e cs ms))) rfl rfl rfl rfl (fun _ => rfl) (fun H' h => c_valid (T := TR) rfl rfl rfl rfl rfl rfl rfl p e vc vm cs ms hl hm H' h.wf (hc.at holds_at h) (hms.at holds_at h) (N + 2) (by omega)) ?_)
  repeat (first
   | refine O_nil ?_
   | refine O_cons (S_pure (v := .bool _) rfl rfl rfl rfl (fun _ => rfl) ?_))
  refine J_cond _ rfl (fun hv => ?_) (fun hv => ?_)
  · have hv' : ¬ validR p e cs ms := by simpa using hv
    repeat (first
     | refine J_seq ?_
     | refine J_region ?_
     | refine O_nil ?_
     | refine J_ret ?_
     | refine O_cons (S_pure (v := .int _ _) rfl rfl rfl rfl (fun _ => rfl) ?_)
     | refine O_cons (S_pure (v := .str _) rfl rfl rfl rfl (fun _ => rfl) ?_))
    refine end_tmp (v := .tup _) (.inr rfl) (fun _ => rfl) fun H' h => ⟨?_, h.fr⟩
    rw [if_neg hv']; rfl
  have hv' : validR p e cs ms := by simpa using hv
  clear hv
  rw [if_pos hv']
  have hsm' := hsm hv'
  obtain ⟨v1, v2, v3, v4, v5, v6, v7⟩ := hv'
  have fp := hash_fits v1
  have fe : fitsI e := by unfold fitsI; omega
  have fn : fitsI (cs.length : Int) := by unfold fitsI; omega
  have l1 := encInt_len p
  have l2 := encInt_len e
  have l3 := encInt_len (cs.length : Int)
  repeat (first
   | refine J_seq ?_
   | refine J_region ?_
   | refine J_skip ?_
   | refine O_cons (S_pure (v := .func _ _ _) rfl rfl rfl rfl (fun _ => rfl) ?_))
  refine O_cons (S_callY rfl rfl rfl rfl (fun _ => rfl) rfl (i_sealed (T := TR) rfl rfl rfl rfl rfl rfl rfl rfl rfl rfl rfl rfl rfl 16 [.nptr c1 0] _ _ Tryz.func16 rfl 7 _ _ [recS c1 p e vc vm] (txtM ++ (encInt p ++ (encInt e ++ encInt (cs.length : Int)))) (by simp [txtM]) (by simp [txtM]; omega) (fun i => i_Encode1 i c1 p e vc vm cs _ hc fp fe v4 _ _ [])) (by omega) (List.Perm.refl _) fun v' L' hP => ?_)
  obtain ⟨rfl, rfl⟩ := hP
  refine O_cons (S_alloc rfl rfl rfl rfl rfl (z := [.str []]) rfl fun c4 => ?_)
  repeat (first
   | refine J_seq ?_
   | refine J_region ?_
   | refine O_nil ?_
   | refine O_cons (S_loadA 0 rfl rfl rfl rfl rfl rfl rfl rfl rfl rfl ?_)
   | refine O_cons (S_store1 1 (v := .str _) rfl rfl rfl rfl rfl rfl rfl rfl rfl rfl rfl ?_))
  refine O_cons (S_callX (P := fun v' L' => ∃ cR, v' = .func (.func 46) [] [.nptr cR 0] ∧ L' = [recS c1 p e vc vm, cel c4 9 (.str (headF p e cs.length)), recS cR p e vc vm]) rfl rfl rfl rfl (fun _ => rfl) (fun H hH => fn_in (T := TR) (C := (CX old)) (m := MM) (n := N + 1) (g := 20) (args := [recV p e vc vm]) (nt := 4) rfl Tryz.func20 rfl rfl rfl hH ?_) ?_)
  · skip
    repeat (first
     | refine J_seq ?_
     | refine J_region ?_)
    refine O_cons (S_box (v := recV p e vc vm) rfl rfl rfl rfl rfl rfl fun cR => ?_)
    repeat (first
     | refine J_seq ?_
     | refine J_region ?_
     | refine O_nil ?_
     | refine J_ret ?_
     | refine O_cons (S_pure (v := .raw _) rfl rfl rfl rfl (fun _ => rfl) ?_)
     | refine O_cons (S_pure (v := .func _ _ _) rfl rfl rfl rfl (fun _ => rfl) ?_))
    exact ret_tmp (v := .func _ _ _) (.inr rfl) (fun _ => rfl) ⟨cR, rfl, rfl⟩
  rintro v' L' ⟨cR, rfl, rfl⟩
  repeat (first
   | refine O_nil ?_
   | refine J_block ?_)
  obtain ⟨E, rfl⟩ : ∃ E : Nat, e = (E : Int) := ⟨e.toNat, by omega⟩
  rw [Int.toNat_natCast] at hsm' v6
  have hE : 1 ≤ E ∧ E ≤ 2000 := by omega
  have hhl : (headF p E cs.length).length ≤ 1000 := by
    have := sealB_len (txtM ++ (encInt p ++ (encInt (E : Int) ++ encInt (cs.length : Int)))) (by simp [txtM]; omega)
    unfold headF
    simp [txtM] at this ⊢
    omega
  refine J_abs (fun f' => f' 1 = .nptr c1 0 ∧ f' 4 = .nptr c4 0 ∧ f' 13 = .func (.func 46) [] [.nptr cR 0]) ⟨rfl, rfl, rfl⟩ fun f' hM => ?_
  obtain ⟨q1, q4, q13⟩ := hM
  obtain ⟨g0, rfl⟩ := upd3 q1 q4 q13
  clear q1 q4 q13
  refine J_rangeIn (T := TR) (n := N + 1) (nt := 34) (g := 46) (args := fun l => [.yield l, .nptr cR 0]) (fun L' => L' = [recS c1 p E vc vm, cel c4 9 (.str (encR p E cs ms)), recS cR p E vc vm]) rfl rfl (fun _ _ => rfl) rfl Tryz.func46 rfl (fun _ => rfl) rfl (fun d l => ?_) (fun d L' hP => ?_)
  rotate_left
  · subst hP
    repeat (first
     | refine J_seq ?_
     | refine J_region ?_
     | refine O_nil ?_
     | refine J_ret ?_
     | refine O_cons (S_pure (v := .int _ _) rfl rfl rfl rfl (fun _ => rfl) ?_)
     | refine O_cons (S_pure (v := .str _) rfl rfl rfl rfl (fun _ => rfl) ?_)
     | refine O_cons (S_load 2 rfl rfl rfl rfl rfl rfl rfl rfl rfl rfl ?_))
    exact end_coll (.inr rfl) (fun _ _ => rfl) fun H' hH' => ⟨rfl, hH'.fr⟩
  repeat (first
   | refine J_seq ?_
   | refine J_region ?_
   | refine O_nil ?_
   | refine J_block ?_
   | refine O_cons (S_pure (v := .int _ _) rfl rfl rfl rfl (fun _ => rfl) ?_))
  refine J_loop (fun r f L df => df = [] ∧ ∃ (q : Nat) (o : List UInt8), cs.length ≤ r + q * E ∧ o ++ framesF E (cs.drop (q * E)) (ms.drop q) = encR p E cs ms ∧ o.length ≤ 1000 + q * 11000 ∧ f 0 = .yield l ∧ f 1 = .nptr cR 0 ∧ f 3 = .int .i64 ((q * E : Nat) : Int) ∧ L = lpS l .ready 6 _ 21 #[14, 15] _ _ d :: dfS d :: [recS c1 p E vc vm, cel c4 9 (.str o), recS cR p E vc vm]) cs.length hl ⟨rfl, 0, headF p E cs.length, by omega, ?_, by omega, rfl, rfl, ?_, rfl⟩ fun r f L df hI => ?_
  · unfold encR; rw [Nat.zero_mul, List.drop_zero, List.drop_zero, Int.toNat_natCast]
  · rw [Nat.zero_mul]; rfl
  obtain ⟨rfl, q, o, hr, ho, hol, q0, q1, q3, rfl⟩ := hI
  obtain ⟨g1, rfl⟩ := upd3 q0 q1 q3
  clear q0 q1 q3
  repeat (first
   | refine J_seq ?_
   | refine J_region ?_
   | refine O_cons (S_field0 rfl rfl rfl rfl rfl rfl rfl rfl rfl ?_)
   | refine O_cons (S_pure (v := .int _ _) rfl rfl rfl rfl (fun _ => rfl) ?_)
   | refine O_cons (S_load 4 rfl rfl rfl rfl rfl rfl rfl rfl rfl rfl ?_))
  refine O_cons (S_lenR hc rfl rfl rfl rfl rfl rfl rfl rfl rfl rfl ?_)
  repeat (first
   | refine O_nil ?_
   | refine O_cons (S_pure (v := .bool _) rfl rfl rfl rfl (fun _ => rfl) ?_))
  refine J_cond _ rfl (fun hk => ?_) (fun hk => ?_)
  rotate_left
  · have hge : cs.length ≤ q * E := by
      have : ¬ ((q * E : Nat) : Int) < cs.length := of_decide_eq_false hk
      omega
    rw [List.drop_eq_nil_of_le hge, framesF_nil, List.append_nil] at ho
    subst ho
    repeat (refine J_exit ?_)
    exact ret_tmp (v := .tup []) (.inl rfl) (fun _ => rfl) ⟨_, rfl, rfl⟩
  have hlt : q * E < cs.length := by
    have : ((q * E : Nat) : Int) < cs.length := of_decide_eq_true hk
    omega
  clear hk
  have hq1 : (q + 1) * E = q * E + E := Nat.succ_mul q E
  have hqq : q ≤ q * E := Nat.le_mul_of_pos_right q (by omega)
  have hdiv : q * E / E = q := Nat.mul_div_cancel q (by omega)
  have hchl := hsm' q
  have hchne : cs.drop (q * E) ≠ [] := by
    intro h
    have := congrArg List.length h
    simp only [List.length_drop, List.length_nil] at this
    omega
  have hfr := framesF_cons (show E ≠ 0 by omega) hchne (ms.drop q)
  rw [List.drop_drop, List.drop_drop] at hfr
  have hmk : (markB (ms.drop q)).length ≤ 9 := by
    cases ms.drop q with
    | nil => simp [markB]
    | cons m ms => exact (encInt_len m).2
  have hokl : ∀ c ∈ (cs.drop (q * E)).take E, okC c = true := fun c h => v5 c (List.mem_of_mem_drop (List.mem_of_mem_take h))
  have hll : ((cs.drop (q * E)).take E).length ≤ 2000 := by simp; omega
  have e17 : wrapF .i64 (((q * E : Nat) : Int) + (E : Int)) = ((q * E + E : Nat) : Int) := by
    generalize q * E = i at *
    rw [wrap_small (by omega) (by omega)]; rfl
  have emin : (if (cs.length : Int) < ((q * E + E : Nat) : Int) then (cs.length : Int) else ((q * E + E : Nat) : Int)) = ((min (q * E + E) cs.length : Nat) : Int) := by
    generalize q * E = i at *
    by_cases h : (cs.length : Int) < ((i + E : Nat) : Int)
    · rw [if_pos h, Nat.min_eq_right (by omega)]
    · rw [if_neg h, Nat.min_eq_left (by omega)]
  have hbE : min (q * E + E) cs.length - q * E = ((cs.drop (q * E)).take E).length := by
    rw [List.length_take, List.length_drop]
    generalize q * E = i at *
    omega
  have hcell : ((cellsC cs).drop (q * E * 2)).take ((min (q * E + E) cs.length - q * E) * 2) = cellsC ((cs.drop (q * E)).take E) := by
    rw [hbE, cellsC_drop, cellsC_take, List.length_take]
    congr 1
    generalize cs.drop (q * E) = l
    by_cases h : E ≤ l.length
    · rw [Nat.min_eq_left h]
    · rw [Nat.min_eq_right (by omega), List.take_length, List.take_of_length_le (by omega)]
  obtain ⟨r, rfl⟩ : ∃ r', r = r' + 1 := ⟨r - 1, by omega⟩
  repeat (first
   | refine J_seq ?_
   | refine J_region ?_
   | refine J_skip ?_
   | refine J_block ?_
   | refine O_cons (S_field0 rfl rfl rfl rfl rfl rfl rfl rfl rfl ?_)
   | refine O_cons (S_pure (v := .int _ _) rfl rfl rfl rfl (fun _ => rfl) ?_)
   | refine O_cons (S_load 4 rfl rfl rfl rfl rfl rfl rfl rfl rfl rfl ?_))
  refine O_cons (S_lenR hc rfl rfl rfl rfl rfl rfl rfl rfl rfl rfl ?_)
  repeat (first
   | refine J_seq ?_
   | refine O_nil ?_
   | refine O_cons (S_pure (v := .int _ _) rfl rfl rfl rfl (fun _ => rfl) ?_))
  rw [e17, emin]
  refine J_draw0 (l := [⟨0, []⟩, ⟨1, []⟩, ⟨2, []⟩, ⟨3, []⟩, ⟨4, []⟩, ⟨5, []⟩, ⟨6, []⟩, ⟨7, []⟩, ⟨8, []⟩, ⟨9, []⟩, ⟨10, []⟩, ⟨11, []⟩]) (by kernel_rfl) ?_
  repeat (first
   | refine P0_cons rfl (S_field0 rfl rfl rfl rfl rfl rfl rfl rfl rfl ?_)
   | refine P0_cons rfl (S_pure (v := .int _ _) rfl rfl rfl rfl (fun _ => rfl) ?_)
   | refine P0_cons rfl (S_pure (v := .yield _) rfl rfl rfl rfl (fun _ => rfl) ?_)
   | refine P0_cons rfl (S_load 4 rfl rfl rfl rfl rfl rfl rfl rfl rfl rfl ?_))
  refine P0_cons rfl (S_sliceR hc holds_at rfl rfl rfl rfl rfl rfl rfl rfl (by decide) rfl (bounds2 (a := q * E) (b := min (q * E + E) cs.length) (by omega) (by omega)) fun v2 hr2 => ?_)
  rw [hcell, hbE] at hr2
  repeat (first
   | refine P0_cons rfl (S_field0 rfl rfl rfl rfl rfl rfl rfl rfl rfl ?_)
   | refine P0_cons rfl (S_pure (v := .int _ _) rfl rfl rfl rfl (fun _ => rfl) ?_)
   | refine P0_cons rfl (S_load 4 rfl rfl rfl rfl rfl rfl rfl rfl rfl rfl ?_))
  refine P0_cons rfl (S_bin (a := .int .i64 ((q * E : Nat) : Int)) (b := .int .i64 (E : Int)) (v := .int .i64 (q : Int)) rfl rfl rfl rfl rfl rfl rfl (by rw [quo_ok (q * E) E (by omega) (by omega), Int.toNat_natCast, hdiv]) ?_)
  refine P0_cons rfl (S_yield (T := TR) (n := N) (args := [v2, .int .i64 (q : Int)]) (fun L2 => ∃ j5 j6, L2 = dfS d :: [recS c1 p E vc vm, cel c4 9 (.str (o ++ sealB (encS ((cs.drop (q * E)).take E) ++ markB (ms.drop q)))), recS cR p E vc vm, j5, j6]) rfl rfl rfl rfl rfl (fun _ => rfl) rfl rfl rfl ?_ fun L2 hP => ?_)
  · skip
    repeat (first
     | refine J_seq ?_
     | refine J_region ?_)
    refine O_cons (S_alloc rfl rfl rfl rfl rfl (z := [.raw (.slice none 0 0)]) rfl fun c5 => ?_)
    refine O_cons (S_storeR 5 hr2 rfl rfl rfl rfl rfl rfl rfl rfl rfl rfl ?_)
    repeat (first
     | refine J_region ?_
     | refine O_nil ?_)
    refine O_cons (S_alloc rfl rfl rfl rfl rfl (z := [.int .i64 0]) rfl fun c6 => ?_)
    repeat (first
     | refine O_nil ?_
     | refine O_cons (S_store1 6 (v := .int _ _) rfl rfl rfl rfl rfl rfl rfl rfl rfl rfl rfl ?_))
    refine ⟨rfl, rfl, _, rfl, ?_⟩
    repeat (refine J_block ?_)
    refine J_draw (l := [⟨0, []⟩, ⟨1, []⟩, ⟨2, [0]⟩, ⟨3, []⟩, ⟨4, []⟩]) (by kernel_rfl) ?_
    refine P_cons2 rfl rfl rfl (S_load 3 rfl rfl rfl rfl rfl rfl rfl rfl rfl rfl ?_)
    repeat (refine P_cons1 rfl rfl (S_pure (v := .func _ _ _) rfl rfl rfl rfl (fun _ => rfl) ?_))
    refine P_consA1 rfl rfl (S_callY rfl rfl rfl rfl (fun _ => rfl) rfl (i_sealed (T := TR) rfl rfl rfl rfl rfl rfl rfl rfl rfl rfl rfl rfl rfl 21 [.nptr c5 0, .nptr c6 0, .nptr c1 0] _ _ Tryz.func21 rfl 10 _ _ _ (encS ((cs.drop (q * E)).take E) ++ markB (ms.drop q)) (by
      intro h
      have h1 := encL_len (runsL ((cs.drop (q * E)).take E))
      have h2 := congrArg List.length h
      simp only [List.length_append, List.length_nil] at h2
      have h3 : (encS ((cs.drop (q * E)).take E)).length = (encL (runsL ((cs.drop (q * E)).take E))).length := rfl
      omega) (by rw [List.length_append]; omega) (fun i => i_Encode2 i c5 c6 c1 p E v2 vc vm ((cs.drop (q * E)).take E) q ms _ _ _ hr2 hms hll hokl v7 hchl)) (by omega) (perm7 _ _ _ _ _ _ _) fun v' L' hP => ⟨?_, ?_⟩)
    · obtain ⟨rfl, rfl⟩ := hP
      exact fun H' hH' => still_load 5 rfl rfl rfl hH' rfl rfl rfl rfl (same_str _) still_done
    obtain ⟨rfl, rfl⟩ := hP
    refine P_perm (perm7 _ _ _ _ _ _ _).symm ?_
    have hsl := sealB_len (encS ((cs.drop (q * E)).take E) ++ markB (ms.drop q)) (by rw [List.length_append]; omega)
    rw [List.length_append] at hsl
    refine P_cons1 rfl rfl (S_bin (a := .str o) (b := .str (sealB (encS ((cs.drop (q * E)).take E) ++ markB (ms.drop q)))) (v := .str (o ++ sealB (encS ((cs.drop (q * E)).take E) ++ markB (ms.drop q)))) rfl rfl rfl rfl rfl rfl rfl (str_cat (by omega)) ?_)
    repeat (first
     | refine P_nil ?_
     | refine P_cons1 rfl rfl (S_store1 3 (v := .str _) rfl rfl rfl rfl rfl rfl rfl rfl rfl rfl rfl ?_))
    skip
    exact ⟨rfl, rfl, _, rfl, _, _, rfl⟩
  obtain ⟨j5, j6, rfl⟩ := hP
  repeat (first
   | refine P0_nil ?_
   | refine P0_cons rfl (S_pure (v := .bool _) rfl rfl rfl rfl (fun _ => rfl) ?_))
  skip
  refine J_condF rfl ?_
  refine J_erase 5 (J_erase 5 ?_)
  repeat (first
   | refine J_region ?_
   | refine J_skip ?_
   | refine O_nil ?_
   | refine O_cons (S_field0 rfl rfl rfl rfl rfl rfl rfl rfl rfl ?_)
   | refine O_cons (S_pure (v := .int _ _) rfl rfl rfl rfl (fun _ => rfl) ?_)
   | refine O_cons (S_load 4 rfl rfl rfl rfl rfl rfl rfl rfl rfl rfl ?_))
  have hsl := sealB_len (encS ((cs.drop (q * E)).take E) ++ markB (ms.drop q)) (by rw [List.length_append]; omega)
  rw [List.length_append] at hsl
  refine ⟨r, rfl, rfl, q + 1, _, by omega, ?_, ?_, rfl, rfl, ?_, rfl⟩
  · rw [List.append_assoc, hq1, ← hfr]; exact ho
  · rw [List.length_append]; omega
  · show AV.int .i64 (wrapF .i64 (((q * E : Nat) : Int) + (E : Int))) = _
    rw [e17, hq1]
end Go.Proofs.Aw
