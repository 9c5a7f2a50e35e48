/-
  What some of the program functions compute, walked once. For the arguments that each theorem names.
-/
import Derived.Test.YtaigaoiedjccgaaGreatDoorFnE
import Derived.Test.YtaigaoiedjccgaaGreatDoorSyD
import Derived.Test.YtaigaoiedjccgaaGreatDoorFnF
set_option linter.unusedVariables false
set_option linter.unusedSimpArgs false

set_option maxRecDepth 100000
set_option maxHeartbeats 4000000
namespace Go.Proofs.Aw
open Go Go.Ev
variable {old : Nat → Nat → Option AV}

/-- A writer: its builder, and whether something is wrong. -/
abbrev wrt (i : Nat) (a v : AV) (b : Bool) : Slot := bld i 99 a v [.bool b]

theorem liesW (b : Bool) : LiesB 99 [.bool b] := by
  show liesAt Tryz.prog Tryz.prog.depth 99 ((1 + 1 + 1) / Tryz.prog.cellsOf 99) 0 97 1 = true
  kernel_rfl

theorem i_put {T : List Entry} (hTp : hasF 17 T = false) (hTc : hasF 81 T = false) (hTw : hasF 43 T = false) (i : Nat) (a v : AV) (S rest : Kn) (done x : List UInt8) (ha : PA i a) (hB : BufT done v S) (hx : x ≠ []) (hlen : done.length + x.length ≤ 1000000) :
    Inn T (CX old) MM 3 17 [.nptr i 0, .str x, .int .i64 0] (wrt i a v false :: (S ++ rest)) (fun v' L' => v' = .tup [] ∧ ∃ w S', BufT (done ++ x) w S' ∧ L' = wrt i (.nptr i 0) w false :: (S' ++ rest)) := by
  refine inn_fn (nt := 22) hTp Tryz.func17 rfl rfl rfl fun N H0 Wr hN => ?_
  repeat (first
   | refine J_seq ?_
   | refine J_region ?_
   | refine O_nil ?_
   | refine O_cons (S_field0 rfl rfl rfl rfl rfl rfl rfl rfl rfl ?_)
   | refine O_cons (S_pure (v := .int _ _) rfl rfl rfl rfl (fun _ => rfl) ?_)
   | refine O_cons (S_pure (v := .bool _) rfl rfl rfl rfl (fun _ => rfl) ?_)
   | refine O_cons (S_pure (v := .str _) rfl rfl rfl rfl (fun _ => rfl) ?_)
   | refine O_cons (S_pure (v := .nptr _ _) rfl rfl rfl rfl (fun _ => rfl) ?_)
   | refine O_cons (S_load 0 rfl rfl rfl rfl rfl rfl rfl rfl rfl rfl ?_)
   | refine O_cons (S_store1 0 (v := .bool _) rfl rfl rfl rfl rfl rfl rfl rfl rfl rfl rfl ?_))
  refine O_cons (S_callI rfl rfl rfl rfl (fun _ => rfl) rfl (i_WriteString hTc hTw i 99 a v [.bool false] S rest done x ha (liesW false) hB hx hlen) hN (List.Perm.refl _) fun v' L' hP => ?_)
  obtain ⟨rfl, w, S', hB', hp⟩ := hP
  repeat (refine O_nil ?_)
  exact ret_tmpP (v := .tup []) _ hp (.inl rfl) (fun _ => rfl) ⟨rfl, w, S', hB', rfl⟩

theorem i_numbers {T : List Entry} (hTn : hasF 19 T = false) (hTp : hasF 17 T = false) (hTc : hasF 81 T = false) (hTw : hasF 43 T = false) (hTI : hasF 45 T = false) (hT0 : hasF 83 T = false) (hT1 : hasF 84 T = false) (hT2 : hasF 155 T = false) (hT3 : hasF 284 T = false)
    (i : Nat) (a v : AV) (S rest : Kn) (done : List UInt8) (ha : PA i a) (hB : BufT done v S) (ns : List Int) (j g gen cap : Nat) (wr gl sh ext wh sg : Bool) (frz : Nat) (hf : ∀ n ∈ ns, fitsI n) (hns : ns.length ≤ 100) (hlen : done.length ≤ 500000) :
    Inn T (CX old) MM 6 19 [.nptr i 0, .nslc j 0 ns.length (some cap)] (wrt i a v false :: (S ++ ⟨j, wr, gl, .row (intsV ns) g gen sh ext frz 3 wh sg⟩ :: rest)) (fun v' L' => v' = .tup [] ∧ ∃ a' w S', PA i a' ∧ BufT (done ++ ns.flatMap encInt) w S' ∧ L' = wrt i a' w false :: (S' ++ ⟨j, wr, gl, .row (intsV ns) g gen sh ext frz 3 wh sg⟩ :: rest)) := by
  refine inn_fn (nt := 19) hTn Tryz.func19 rfl rfl rfl fun N H0 Wr hN => ?_
  repeat (first
   | refine J_seq ?_
   | refine J_region ?_
   | refine O_nil ?_
   | refine J_block ?_
   | refine O_cons (S_pure (v := .int _ _) rfl rfl rfl rfl (fun _ => rfl) ?_)
   | refine O_cons (S_pure (v := .nslc _ _ _ _) rfl rfl rfl rfl (fun _ => rfl) ?_))
  refine J_loop (fun r f L df => df = [] ∧ ∃ (k : Nat) (a' w : AV) (S' : Kn), r + k = ns.length ∧ f 0 = .nptr i 0 ∧ f 6 = .nslc j 0 ns.length (some cap) ∧ f 7 = .int .i64 (ns.length : Int) ∧ f 8 = .int .i64 (k : Int) ∧ PA i a' ∧ BufT (done ++ (ns.take k).flatMap encInt) w S' ∧ L = wrt i a' w false :: (S' ++ ⟨j, wr, gl, .row (intsV ns) g gen sh ext frz 3 wh sg⟩ :: rest)) ns.length (show ns.length < 1000000 by omega) ⟨rfl, 0, a, v, S, rfl, rfl, rfl, rfl, rfl, ha, by simpa using hB, rfl⟩ fun r f L df hI => ?_
  obtain ⟨rfl, k, a', w, S', hr, q0, q6, q7, q8, ha', hB', rfl⟩ := hI
  obtain ⟨g0, rfl⟩ := upd4 q0 q6 q7 q8
  clear q0 q6 q7 q8
  have htk : ((ns.take k).flatMap encInt).length ≤ 900 := by
    have := flat_len (ns.take k)
    simp only [List.length_take] at this
    omega
  repeat (first
   | refine J_seq ?_
   | refine J_region ?_
   | refine O_nil ?_
   | refine O_cons (S_pure (v := .bool _) rfl rfl rfl rfl (fun _ => rfl) ?_))
  refine J_cond _ rfl (fun hc => ?_) (fun hc => ?_)
  · have hlt : k < ns.length := by have := of_decide_eq_true hc; omega
    obtain ⟨r, rfl⟩ : ∃ r', r = r' + 1 := ⟨r - 1, by omega⟩
    have hg : (intsV ns)[k]? = some (.int .i64 ns[k]) := by simp [intsV, hlt]
    have hfk : fitsI ns[k] := hf _ (List.getElem_mem hlt)
    refine J_perm (M := ⟨j, wr, gl, .row (intsV ns) g gen sh ext frz 3 wh sg⟩ :: wrt i a' w false :: (S' ++ rest)) (perm_x _ _ _ _).symm ?_
    repeat (first
     | refine J_seq ?_
     | refine J_region ?_
     | refine J_skip ?_
     | refine J_block ?_)
    refine O_cons (S_elem rfl rfl rfl rfl rfl rfl rfl rfl rfl hlt (k := k) (show 0 + k * 1 = k by omega) ?_)
    refine O_cons (S_load 0 rfl rfl rfl rfl rfl rfl rfl rfl rfl hg ?_)
    repeat (first
     | refine J_region ?_
     | refine O_nil ?_
     | refine O_cons (S_pure (v := .int _ _) rfl rfl rfl rfl (fun _ => rfl) ?_)
     | refine O_cons (S_pure (v := .nptr _ _) rfl rfl rfl rfl (fun _ => rfl) ?_))
    refine O_cons (S_call (v := .tup [.str (encInt ns[k]), .int .i64 0]) rfl rfl rfl rfl (fun _ => rfl) (fun H' h => by
      have := c_Int (old := old) hTI hT0 hT1 hT2 hT3 ns[k] H' h.wf N (by omega)
      rw [if_pos hfk] at this
      exact this) ?_)
    have hel := encInt_len ns[k]
    repeat (first
     | refine O_cons (S_pure (v := .int _ _) rfl rfl rfl rfl (fun _ => rfl) ?_)
     | refine O_cons (S_pure (v := .str _) rfl rfl rfl rfl (fun _ => rfl) ?_))
    refine O_cons (S_callI rfl rfl rfl rfl (fun _ => rfl) rfl (i_put hTp hTc hTw i a' w S' (⟨j, wr, gl, .row (intsV ns) g gen sh ext frz 3 wh sg⟩ :: rest) _ (encInt ns[k]) ha' hB' (by intro h; rw [h] at hel; simp at hel) (by rw [List.length_append]; omega)) (by omega) (perm_x _ _ _ _) fun v' L' hP => ?_)
    obtain ⟨rfl, w2, S2, hB2, rfl⟩ := hP
    repeat (first
     | refine J_region ?_
     | refine O_nil ?_
     | refine O_cons (S_pure (v := .int _ _) rfl rfl rfl rfl (fun _ => rfl) ?_))
    refine ⟨r, rfl, rfl, k + 1, _, w2, S2, by omega, rfl, rfl, rfl, ?_, .inr rfl, ?_, rfl⟩
    · show AV.int .i64 (wrapF .i64 ((k : Int) + 1)) = _
      rw [wrap_small (by omega) (by omega)]; rfl
    · have : (ns.take (k + 1)).flatMap encInt = (ns.take k).flatMap encInt ++ encInt ns[k] := by
        have h0 : ns[k]? = some ns[k] := by simp [hlt]
        rw [List.take_add_one, h0]
        simp only [Option.toList_some, List.flatMap_append, List.flatMap_cons, List.flatMap_nil, List.append_nil]
      rw [this, ← List.append_assoc]; exact hB2
  · have hk : k = ns.length := by have := of_decide_eq_false hc; omega
    subst hk
    rw [List.take_length] at hB'
    repeat (refine J_exit ?_)
    exact ret_tmp (v := .tup []) (.inl rfl) (fun _ => rfl) ⟨rfl, a', w, S', ha', hB', rfl⟩

/-- A frame of what a function writes. -/
theorem i_sealed {T : List Entry} (hTse : hasF 15 T = false) (hTbs : hasF 42 T = false) (hTs : hasF 41 T = false) (hTb : hasF 36 T = false) (hTS : hasF 37 T = false) (hTe : hasF 74 T = false) (hTa : hasF 75 T = false) (hTv : hasF 76 T = false) (hTI : hasF 45 T = false) (hT0 : hasF 83 T = false) (hT1 : hasF 84 T = false) (hT2 : hasF 155 T = false) (hT3 : hasF 284 T = false)
    (g : FuncId) (caps : List AV) (fn : Func) (cd : Code) (hfn : ((CX old)).P.funcs[g]? = some fn) (hbody : fn.body = some cd) (k : Nat) (H0 : AH) (Wr : List Nat) (L : Kn) (x : List UInt8) (hx : x ≠ []) (hlen : x.length ≤ 100000)
    (hI : ∀ i, InnY T (CX old) MM k g ([.nptr i 0] ++ caps) H0 Wr (wrt i (.raw (.pointer none)) (.raw (.slice none 0 0)) false :: L) (fun v' L' => v' = .tup [] ∧ ∃ a w S', PA i a ∧ BufT x w S' ∧ L' = wrt i a w false :: (S' ++ L))) :
    InnY T (CX old) MM (max k 6 + 1) 15 [.func (.func g) [] caps] H0 Wr L (fun v' L' => v' = .str (sealB x) ∧ L' = L) := by
  refine inn_fnY (nt := 20) hTse Tryz.func15 rfl rfl rfl fun N hN => ?_
  repeat (first
   | refine J_seq ?_
   | refine J_region ?_
   | refine O_nil ?_
   | refine O_cons (S_pure (v := .str _) rfl rfl rfl rfl (fun _ => rfl) ?_)
   | refine O_cons (S_pure (v := .agg _) rfl rfl rfl rfl (fun _ => rfl) ?_))
  refine O_cons (S_box (v := .agg [.raw (.pointer none), .raw (.slice none 0 0), .bool false]) rfl rfl rfl rfl rfl rfl fun i => ?_)
  refine O_perm (List.perm_append_comm) ?_
  repeat (first
   | refine J_seq ?_
   | refine J_region ?_
   | refine O_nil ?_
   | refine O_cons (S_pure (v := .nptr _ _) rfl rfl rfl rfl (fun _ => rfl) ?_)
   | refine O_cons (S_pure (v := .func _ _ _) rfl rfl rfl rfl (fun _ => rfl) ?_))
  refine O_cons (S_callY (T := T) (k := k) (n := N) (g := g) (args := [.nptr i 0] ++ caps) rfl rfl rfl rfl (fun H => by
    show callFn (CX old) g ([] ++ [AV.nptr i 0] ++ caps) H = _
    rw [List.nil_append]
    simp only [callFn, hfn, hbody]) rfl (hI i) (by omega) (List.Perm.refl _) fun v' L' hP => ?_)
  obtain ⟨rfl, a, w, S', ha, hB, rfl⟩ := hP
  repeat (first
   | refine J_seq ?_
   | refine J_region ?_
   | refine O_nil ?_
   | refine O_cons (S_field0 rfl rfl rfl rfl rfl rfl rfl rfl rfl ?_)
   | refine O_cons (S_pure (v := .nptr _ _) rfl rfl rfl rfl (fun _ => rfl) ?_))
  refine O_cons (S_callI rfl rfl rfl rfl (fun _ => rfl) rfl (i_BString hTbs i 99 a w [.bool false] S' L x hB hx (by omega)) (by omega) (List.Perm.refl _) fun v' L' hP => ?_)
  obtain ⟨rfl, rfl⟩ := hP
  refine O_cons (S_call (v := .tup [.str (sealB x), .int .i64 0]) rfl rfl rfl rfl (fun _ => rfl) (fun H' h => c_Seal hTs hTb hTS hTe hTa hTv hTI hT0 hT1 hT2 hT3 x hlen H' h.wf N (by omega)) ?_)
  repeat (first
   | refine J_seq ?_
   | refine J_region ?_
   | refine O_nil ?_
   | refine J_ret ?_
   | refine O_cons (S_pure (v := .int _ _) rfl rfl rfl rfl (fun _ => rfl) ?_)
   | refine O_cons (S_pure (v := .str _) rfl rfl rfl rfl (fun _ => rfl) ?_)
   | refine O_cons (S_pure (v := .tup _) rfl rfl rfl rfl (fun _ => rfl) ?_))
  exact ret_tmp (v := .str _) (.inr rfl) (fun _ => rfl) ⟨rfl, rfl⟩
end Go.Proofs.Aw

set_option maxRecDepth 100000
set_option maxHeartbeats 4000000
namespace Go.Proofs.Aw
open Go Go.Ev
variable {old : Nat → Nat → Option AV}

/-- Integers that can be read. -/
abbrev RdM (old : Nat → Nat → Option AV) (R : Nat → AObj → Prop) (v : AV) (ms : List Int) : Prop := Rd old 3 1 R v ms.length (intsV ms)

instance (p e : Int) (cs : List Ch) (ms : List Int) : Decidable (validR p e cs ms) := by unfold validR; exact inferInstance

/-- A recording's value. -/
abbrev recV (p e : Int) (vc vm : AV) : AV := .agg [.int .i64 p, .int .i64 e, vc, vm]

theorem quo_ok (n : Nat) (e : Int) (he : 1 ≤ e) (hn : n < 1000000000) (cx cy : Bool) : binF (CX old) .quo 3 cx cy (.int .i64 (n : Int)) (.int .i64 e) = some (.int .i64 ((n / e.toNat : Nat) : Int)) := by
  show intOpF .quo .i64 (n : Int) e = _
  obtain ⟨m, rfl⟩ : ∃ m : Nat, e = (m : Int) := ⟨e.toNat, by omega⟩
  have e1 : ((n : Int)).tdiv (m : Int) = ((n / m : Nat) : Int) := rfl
  have e2 : n / m ≤ n := Nat.div_le_self n m
  simp only [intOpF]
  rw [if_neg (by omega), e1, Int.toNat_natCast]
  generalize n / m = q at *
  rw [wrap_small (by omega) (by omega)]

theorem getI {ms : List Int} {k : Nat} (h : k < ms.length) : (intsV ms)[k * 1]? = some (.int .i64 ms[k]) := by simp [intsV, h]

theorem c_valid {T : List Entry} (hTv : hasF 14 T = false) (hTh : hasF 39 T = false) (hTk : hasF 40 T = false) (hTC : hasF 78 T = false) (hTI : hasF 149 T = false) (hT1 : hasF 79 T = false) (hT : hasF 80 T = false)
    (p e : Int) (vc vm : AV) (cs : List Ch) (ms : List Int) (hl : cs.length < 1000000) (hm : ms.length < 1000000) (H : AH) (hH : Wf H) (hc : RdC old (AtO H []) vc cs) (hms : RdM old (AtO H []) vm ms) :
    Con T (CX old) MM 6 (.fn 14) [recV p e vc vm] H (fun v H' => v = .bool (decide (validR p e cs ms)) ∧ Fr H [] H') := by
  refine con_fn (nt := 48) [] [] hTv Tryz.func14 rfl rfl rfl (Hs.start hH) fun N hN => ?_
  repeat (first
   | refine J_seq ?_
   | refine J_region ?_)
  refine O_cons (S_box (v := recV p e vc vm) rfl rfl rfl rfl rfl rfl fun i => ?_)
  repeat (first
   | refine J_seq ?_
   | refine O_nil ?_
   | refine O_cons (S_pure (v := .bool _) rfl rfl rfl rfl (fun _ => rfl) ?_))
  refine J_midL (fun e' f' => e' = .norm ∧ f' 1 = .nptr i 0 ∧ f' 36 = .bool (!decide (hashI p ∧ 1 ≤ e ∧ e ≤ 2000 ∧ cs.length ≤ 2000 ∧ (∀ c ∈ cs, okC c = true) ∧ ms.length = cs.length / e.toNat))) ?_ (fun e' f' hM => ?_)
  · skip
    refine J_draw0 (l := [⟨0, []⟩, ⟨1, []⟩, ⟨2, []⟩, ⟨3, []⟩, ⟨4, []⟩, ⟨5, []⟩, ⟨6, []⟩, ⟨7, []⟩, ⟨8, []⟩, ⟨9, []⟩, ⟨10, []⟩, ⟨11, []⟩, ⟨12, []⟩, ⟨13, []⟩, ⟨14, []⟩, ⟨15, []⟩, ⟨16, []⟩, ⟨17, []⟩, ⟨18, []⟩, ⟨19, []⟩, ⟨20, []⟩, ⟨21, []⟩, ⟨22, []⟩, ⟨23, []⟩, ⟨24, []⟩, ⟨25, []⟩, ⟨26, []⟩, ⟨27, []⟩, ⟨28, []⟩, ⟨29, []⟩, ⟨30, []⟩, ⟨31, []⟩]) (by kernel_rfl) ?_
    repeat (first
     | refine P0_cons rfl (S_field0 rfl rfl rfl rfl rfl rfl rfl rfl rfl ?_)
     | refine P0_cons rfl (S_load 0 rfl rfl rfl rfl rfl rfl rfl rfl rfl rfl ?_))
    refine P0_cons rfl (S_call (v := .bool (decide (0 ≤ p) && decide (p < 1099511627776))) rfl rfl rfl rfl (fun _ => rfl) (fun H' h => c_isHash hTh p H' h.wf N (by omega)) ?_)
    repeat (refine P0_cons rfl (S_pure (v := .bool _) rfl rfl rfl rfl (fun _ => rfl) ?_))
    refine P0_guard rfl rfl rfl rfl (fun h1 => ?_) (fun h1 => ?_)
    · have h1' : ¬ hashI p := by
        intro ⟨a, b⟩
        simp [a, b] at h1
      repeat (first
       | refine P0_nil ?_
       | refine P0_cons rfl (S_pure (v := .bool _) rfl rfl rfl rfl (fun _ => rfl) ?_)
       | refine P0_cons rfl (S_off rfl rfl rfl rfl ?_))
      refine ⟨rfl, rfl, rfl, rfl, ?_⟩
      exact congrArg (fun b => AV.bool (!b)) (decide_eq_false (fun h => h1' h.1)).symm
    have h1' : hashI p := by unfold hashI; simpa using h1
    repeat (first
     | refine P0_cons rfl (S_field0 rfl rfl rfl rfl rfl rfl rfl rfl rfl ?_)
     | refine P0_cons rfl (S_pure (v := .bool _) rfl rfl rfl rfl (fun _ => rfl) ?_)
     | refine P0_cons rfl (S_load 0 rfl rfl rfl rfl rfl rfl rfl rfl rfl rfl ?_))
    refine P0_guard rfl rfl rfl rfl (fun h2 => ?_) (fun h2 => ?_)
    · have h2' : e < 1 := of_decide_eq_true h2
      repeat (first
       | refine P0_nil ?_
       | refine P0_cons rfl (S_pure (v := .bool _) rfl rfl rfl rfl (fun _ => rfl) ?_)
       | refine P0_cons rfl (S_off rfl rfl rfl rfl ?_))
      refine ⟨rfl, rfl, rfl, rfl, ?_⟩
      exact congrArg (fun b => AV.bool (!b)) (decide_eq_false (fun h => by omega)).symm
    have h2' : ¬ e < 1 := of_decide_eq_false h2
    repeat (first
     | refine P0_cons rfl (S_field0 rfl rfl rfl rfl rfl rfl rfl rfl rfl ?_)
     | refine P0_cons rfl (S_pure (v := .bool _) rfl rfl rfl rfl (fun _ => rfl) ?_)
     | refine P0_cons rfl (S_load 0 rfl rfl rfl rfl rfl rfl rfl rfl rfl rfl ?_))
    refine P0_guard rfl rfl rfl rfl (fun h3 => ?_) (fun h3 => ?_)
    · have h3' : 2000 < e := of_decide_eq_true h3
      repeat (first
       | refine P0_nil ?_
       | refine P0_cons rfl (S_pure (v := .bool _) rfl rfl rfl rfl (fun _ => rfl) ?_)
       | refine P0_cons rfl (S_off rfl rfl rfl rfl ?_))
      refine ⟨rfl, rfl, rfl, rfl, ?_⟩
      exact congrArg (fun b => AV.bool (!b)) (decide_eq_false (fun h => by omega)).symm
    have h3' : ¬ 2000 < e := of_decide_eq_false h3
    repeat (first
     | refine P0_cons rfl (S_field0 rfl rfl rfl rfl rfl rfl rfl rfl rfl ?_)
     | refine P0_cons rfl (S_load 0 rfl rfl rfl rfl rfl rfl rfl rfl rfl rfl ?_))
    refine P0_cons rfl (S_call (v := .int .i64 (if 2000 < cs.length then 4 else if cs.all okC = true then 0 else 2)) rfl rfl rfl rfl (fun _ => rfl) (fun H' h => c_Check hTk hTC hTI hT1 hT vc cs hl H' h.wf (hc.at holds_at h) N (by omega)) ?_)
    repeat (refine P0_cons rfl (S_pure (v := .bool _) rfl rfl rfl rfl (fun _ => rfl) ?_))
    refine P0_guard rfl rfl rfl rfl (fun h4 => ?_) (fun h4 => ?_)
    · have h4' : ¬ (cs.length ≤ 2000 ∧ ∀ c ∈ cs, okC c = true) := by
        intro ⟨a, b⟩
        rw [if_neg (by omega), if_pos (List.all_eq_true.2 b)] at h4
        simp at h4
      repeat (first
       | refine P0_nil ?_
       | refine P0_cons rfl (S_pure (v := .bool _) rfl rfl rfl rfl (fun _ => rfl) ?_)
       | refine P0_cons rfl (S_off rfl rfl rfl rfl ?_))
      refine ⟨rfl, rfl, rfl, rfl, ?_⟩
      exact congrArg (fun b => AV.bool (!b)) (decide_eq_false (fun h => h4' ⟨h.2.2.2.1, h.2.2.2.2.1⟩)).symm
    have h4' : cs.length ≤ 2000 ∧ ∀ c ∈ cs, okC c = true := by
      by_cases a : 2000 < cs.length
      · rw [if_pos a] at h4; simp at h4
      · rw [if_neg a] at h4
        by_cases b : cs.all okC = true
        · exact ⟨by omega, List.all_eq_true.1 b⟩
        · rw [if_neg b] at h4; simp at h4
    repeat (first
     | refine P0_cons rfl (S_field0 rfl rfl rfl rfl rfl rfl rfl rfl rfl ?_)
     | refine P0_cons rfl (S_load 0 rfl rfl rfl rfl rfl rfl rfl rfl rfl rfl ?_))
    refine P0_cons rfl (S_lenR hms rfl rfl rfl rfl rfl rfl rfl rfl rfl rfl ?_)
    repeat (first
     | refine P0_cons rfl (S_field0 rfl rfl rfl rfl rfl rfl rfl rfl rfl ?_)
     | refine P0_cons rfl (S_load 0 rfl rfl rfl rfl rfl rfl rfl rfl rfl rfl ?_))
    refine P0_cons rfl (S_lenR hc rfl rfl rfl rfl rfl rfl rfl rfl rfl rfl ?_)
    repeat (first
     | refine P0_cons rfl (S_field0 rfl rfl rfl rfl rfl rfl rfl rfl rfl ?_)
     | refine P0_cons rfl (S_load 0 rfl rfl rfl rfl rfl rfl rfl rfl rfl rfl ?_))
    refine P0_cons rfl (S_bin (a := .int .i64 (cs.length : Int)) (b := .int .i64 e) rfl rfl rfl rfl rfl rfl rfl (quo_ok cs.length e (by omega) (by omega) _ _) ?_)
    repeat (first
     | refine P0_nil ?_
     | refine P0_cons rfl (S_pure (v := .bool _) rfl rfl rfl rfl (fun _ => rfl) ?_))
    refine ⟨rfl, rfl, rfl, rfl, ?_⟩
    by_cases h5 : ms.length = cs.length / e.toNat
    · have e5 : ((ms.length : Int) != ((cs.length / e.toNat : Nat) : Int)) = false := by rw [h5]; simp
      refine (congrArg AV.bool e5).trans ?_
      exact congrArg (fun b => AV.bool (!b)) (decide_eq_true ⟨h1', by omega, by omega, h4'.1, h4'.2, h5⟩).symm
    · have e5 : ((ms.length : Int) != ((cs.length / e.toNat : Nat) : Int)) = true := by
        rw [bne_iff_ne]
        intro h
        exact h5 (Int.ofNat.inj h)
      refine (congrArg AV.bool e5).trans ?_
      exact congrArg (fun b => AV.bool (!b)) (decide_eq_false (fun h => h5 h.2.2.2.2.2)).symm
  obtain ⟨rfl, q1, q36⟩ := hM
  obtain ⟨g, rfl⟩ := upd2 q1 q36
  clear q1 q36
  skip
  refine J_cond _ rfl (fun hb => ?_) (fun hb => ?_)
  · have hb' := of_decide_eq_false (by simpa only [Bool.not_eq_true'] using hb)
    repeat (first
     | refine J_seq ?_
     | refine J_region ?_
     | refine O_nil ?_
     | refine J_ret ?_
     | refine O_cons (S_pure (v := .bool _) rfl rfl rfl rfl (fun _ => rfl) ?_))
    refine end_tmp (v := .bool _) (.inr rfl) (fun _ => rfl) fun H' h => ⟨?_, h.fr⟩
    exact congrArg AV.bool (decide_eq_false (fun h => hb' ⟨h.1, h.2.1, h.2.2.1, h.2.2.2.1, h.2.2.2.2.1, h.2.2.2.2.2.1⟩)).symm
  have hb' : hashI p ∧ 1 ≤ e ∧ e ≤ 2000 ∧ cs.length ≤ 2000 ∧ (∀ c ∈ cs, okC c = true) ∧ ms.length = cs.length / e.toNat := by simpa using hb
  clear hb
  repeat (first
   | refine J_seq ?_
   | refine J_region ?_
   | refine J_skip ?_
   | refine O_cons (S_field0 rfl rfl rfl rfl rfl rfl rfl rfl rfl ?_)
   | refine O_cons (S_load 0 rfl rfl rfl rfl rfl rfl rfl rfl rfl rfl ?_))
  refine O_cons (S_lenR hms rfl rfl rfl rfl rfl rfl rfl rfl rfl rfl ?_)
  repeat (first
   | refine O_nil ?_
   | refine J_block ?_
   | refine O_cons (S_pure (v := .int _ _) rfl rfl rfl rfl (fun _ => rfl) ?_))
  refine J_loopL (I := fun r f => ∃ k, r + k = ms.length ∧ f 38 = vm ∧ f 39 = .int .i64 (ms.length : Int) ∧ f 40 = .int .i64 (k : Int) ∧ ∀ m ∈ ms.take k, hashI m) ms.length hm ⟨0, rfl, rfl, rfl, rfl, by simp⟩ fun r f hI => ?_
  obtain ⟨k, hr, q38, q39, q40, hall⟩ := hI
  obtain ⟨g1, rfl⟩ := upd3 q38 q39 q40
  clear q38 q39 q40
  repeat (first
   | refine J_seq ?_
   | refine J_region ?_
   | refine O_nil ?_
   | refine O_cons (S_pure (v := .bool _) rfl rfl rfl rfl (fun _ => rfl) ?_))
  refine J_cond _ rfl (fun hk => ?_) (fun hk => ?_)
  · have hlt : k < ms.length := by have := of_decide_eq_true hk; omega
    have hg : ms[k]? = some ms[k] := by simp [hlt]
    obtain ⟨r, rfl⟩ : ∃ r', r = r' + 1 := ⟨r - 1, by omega⟩
    repeat (first
     | refine J_seq ?_
     | refine J_region ?_
     | refine J_skip ?_
     | refine J_block ?_)
    refine O_cons (S_elemR hms rfl rfl rfl rfl rfl rfl rfl rfl rfl rfl hlt ?_)
    refine O_cons (S_load1R rfl hms holds_at rfl rfl rfl rfl rfl rfl rfl rfl (getI hlt) ?_)
    repeat (first
     | refine J_seq ?_
     | refine J_region ?_
     | refine O_nil ?_
     | refine O_cons (S_pure (v := .int _ _) rfl rfl rfl rfl (fun _ => rfl) ?_))
    refine O_cons (S_call (v := .bool (decide (0 ≤ ms[k]) && decide (ms[k] < 1099511627776))) rfl rfl rfl rfl (fun _ => rfl) (fun H' h => c_isHash hTh ms[k] H' h.wf N (by omega)) ?_)
    repeat (first
     | refine O_nil ?_
     | refine O_cons (S_pure (v := .bool _) rfl rfl rfl rfl (fun _ => rfl) ?_))
    refine J_cond _ rfl (fun h1 => ?_) (fun h1 => ?_)
    · have h1' : ¬ hashI ms[k] := by
        intro ⟨a, b⟩
        simp [a, b] at h1
      repeat (first
       | refine J_seq ?_
       | refine J_region ?_
       | refine O_nil ?_
       | refine J_ret ?_
       | refine O_cons (S_pure (v := .bool _) rfl rfl rfl rfl (fun _ => rfl) ?_))
      refine end_tmp (v := .bool _) (.inr rfl) (fun _ => rfl) fun H' h => ⟨?_, h.fr⟩
      exact congrArg AV.bool (decide_eq_false (fun h => h1' (h.2.2.2.2.2.2 _ (List.getElem_mem hlt)))).symm
    · have h1' : hashI ms[k] := by unfold hashI; simpa using h1
      repeat (first
       | refine J_region ?_
       | refine J_skip ?_
       | refine O_nil ?_
       | refine O_cons (S_pure (v := .int _ _) rfl rfl rfl rfl (fun _ => rfl) ?_))
      refine ⟨rfl, rfl, r, rfl, k + 1, by omega, rfl, rfl, ?_, ?_⟩
      · show AV.int .i64 (wrapF .i64 ((k : Int) + 1)) = _
        rw [wrap_small (by omega) (by omega)]; rfl
      · intro c hc
        rw [List.take_add_one, hg] at hc
        rcases List.mem_append.1 hc with h | h
        · exact hall c h
        · rw [Option.toList_some, List.mem_singleton] at h
          rw [h]; exact h1'
  · have hlt : ¬ k < ms.length := by have := of_decide_eq_false hk; omega
    have hk' : k = ms.length := by omega
    subst hk'
    rw [List.take_length] at hall
    repeat (first
     | refine J_seq ?_
     | refine J_region ?_
     | refine O_nil ?_
     | refine J_ret ?_
     | refine J_exit ?_
     | refine O_cons (S_pure (v := .bool _) rfl rfl rfl rfl (fun _ => rfl) ?_))
    refine end_tmp (v := .bool _) (.inr rfl) (fun _ => rfl) fun H' h => ⟨?_, h.fr⟩
    obtain ⟨a1, a2, a3, a4, a5, a6⟩ := hb'
    exact congrArg AV.bool (decide_eq_true (⟨a1, a2, a3, a4, a5, a6, hall⟩ : validR p e cs ms)).symm
end Go.Proofs.Aw

set_option maxRecDepth 100000
set_option maxHeartbeats 4000000
namespace Go.Proofs.Aw
open Go Go.Ev
variable {old : Nat → Nat → Option AV}

theorem neq_ch (c d : Ch) (cx cy : Bool) : binF (CX old) .neq 48 cx cy (chV c) (chV d) = some (.bool (!decide (c = d))) := by
  have h := eql_ch (old := old) c d cx cy
  have h' : (eqAgg ((CX old)).P 48 [.int .i64 c.1, .int .i64 c.2] [.int .i64 d.1, .int .i64 d.2]).map AV.bool = some (.bool (decide (c = d))) := h
  show (eqAgg ((CX old)).P 48 [.int .i64 c.1, .int .i64 c.2] [.int .i64 d.1, .int .i64 d.2]).map (fun r => AV.bool !r) = _
  cases hh : eqAgg ((CX old)).P 48 [.int .i64 c.1, .int .i64 c.2] [.int .i64 d.1, .int .i64 d.2] with
  | none => rw [hh] at h'; cases h'
  | some r =>
    rw [hh] at h'
    simp only [Option.map_some, Option.some.injEq, AV.bool.injEq] at h'
    rw [h']; rfl

theorem c_Same32 {T : List Entry} (hT : hasF 24 T = false) (va vb : AV) (cs ds : List Ch) (hl : cs.length < 1000000) (H : AH) (hH : Wf H) (ha : RdC old (AtO H []) va cs) (hb : RdC old (AtO H []) vb ds) :
    Con T (CX old) MM 1 (.fn 24) [va, vb] H (fun v H' => v = .bool (decide (cs = ds)) ∧ Fr H [] H') := by
  refine con_fn (nt := 26) [] [] hT Tryz.func24 rfl rfl rfl (Hs.start hH) fun N hN => ?_
  repeat (first
   | refine J_seq ?_
   | refine J_region ?_
   | refine O_nil ?_
   | refine O_cons (S_pure (v := .bool _) rfl rfl rfl rfl (fun _ => rfl) ?_)
   | refine O_cons (S_pure (v := (va)) rfl rfl rfl rfl (fun _ => rfl) ?_))
  refine O_cons (S_lenR ha rfl rfl rfl rfl rfl rfl rfl rfl rfl rfl ?_)
  repeat (refine O_cons (S_pure (v := (vb)) rfl rfl rfl rfl (fun _ => rfl) ?_))
  refine O_cons (S_lenR hb rfl rfl rfl rfl rfl rfl rfl rfl rfl rfl ?_)
  repeat (first
   | refine O_nil ?_
   | refine O_cons (S_pure (v := .bool _) rfl rfl rfl rfl (fun _ => rfl) ?_))
  refine J_cond _ rfl (fun h1 => ?_) (fun h1 => ?_)
  · have h1' : cs ≠ ds := by
      rintro rfl
      simp at h1
    repeat (first
     | refine J_seq ?_
     | refine J_region ?_
     | refine O_nil ?_
     | refine J_ret ?_
     | refine O_cons (S_pure (v := .bool _) rfl rfl rfl rfl (fun _ => rfl) ?_))
    refine end_tmp (v := .bool _) (.inr rfl) (fun _ => rfl) fun H' h => ⟨?_, h.fr⟩
    exact congrArg AV.bool (decide_eq_false h1').symm
  have hle : cs.length = ds.length := by
    have : (cs.length : Int) = ds.length := by simpa using h1
    omega
  repeat (first
   | refine J_seq ?_
   | refine J_region ?_
   | refine J_skip ?_
   | refine O_nil ?_
   | refine J_block ?_
   | refine O_cons (S_pure (v := .int _ _) rfl rfl rfl rfl (fun _ => rfl) ?_))
  refine J_loopL (I := fun r f => ∃ k, r + k = cs.length ∧ f 0 = va ∧ f 1 = vb ∧ f 5 = .int .i64 (k : Int) ∧ cs.take k = ds.take k) cs.length hl ⟨0, rfl, rfl, rfl, rfl, by simp⟩ fun r f hI => ?_
  obtain ⟨k, hr, q0, q1, q5, heq⟩ := hI
  obtain ⟨g, rfl⟩ := upd3 q0 q1 q5
  clear q0 q1 q5
  repeat (first
   | refine J_seq ?_
   | refine J_region ?_
   | refine O_cons (S_pure (v := .int _ _) rfl rfl rfl rfl (fun _ => rfl) ?_)
   | refine O_cons (S_pure (v := (va)) rfl rfl rfl rfl (fun _ => rfl) ?_))
  refine O_cons (S_lenR ha rfl rfl rfl rfl rfl rfl rfl rfl rfl rfl ?_)
  repeat (first
   | refine O_nil ?_
   | refine O_cons (S_pure (v := .bool _) rfl rfl rfl rfl (fun _ => rfl) ?_))
  refine J_cond _ rfl (fun hk => ?_) (fun hk => ?_)
  · have hlt : k < cs.length := by have := of_decide_eq_true hk; omega
    have hg : cs[k]? = some cs[k] := by simp [hlt]
    have hg2 : ds[k]? = some (ds[k]'(by omega)) := List.getElem?_eq_getElem (by omega)
    obtain ⟨r, rfl⟩ : ∃ r', r = r' + 1 := ⟨r - 1, by omega⟩
    repeat (first
     | refine J_seq ?_
     | refine J_skip ?_
     | refine J_block ?_)
    refine J_draw0 (l := [⟨0, []⟩, ⟨1, []⟩, ⟨2, []⟩, ⟨3, []⟩, ⟨4, []⟩, ⟨5, []⟩, ⟨6, []⟩, ⟨7, []⟩, ⟨8, []⟩]) (by kernel_rfl) ?_
    repeat (first
     | refine P0_cons rfl (S_pure (v := .int _ _) rfl rfl rfl rfl (fun _ => rfl) ?_)
     | refine P0_cons rfl (S_pure (v := (va)) rfl rfl rfl rfl (fun _ => rfl) ?_))
    refine P0_cons rfl (S_elemR ha rfl rfl rfl rfl rfl rfl rfl rfl rfl rfl hlt ?_)
    refine P0_cons rfl (S_loadR rfl ha holds_at rfl rfl rfl rfl rfl rfl rfl rfl rfl (cellsC_get hg) ?_)
    repeat (first
     | refine P0_cons rfl (S_pure (v := .int _ _) rfl rfl rfl rfl (fun _ => rfl) ?_)
     | refine P0_cons rfl (S_pure (v := (vb)) rfl rfl rfl rfl (fun _ => rfl) ?_))
    refine P0_cons rfl (S_elemR hb rfl rfl rfl rfl rfl rfl rfl rfl rfl rfl (show k < ds.length by omega) ?_)
    refine P0_cons rfl (S_loadR rfl hb holds_at rfl rfl rfl rfl rfl rfl rfl rfl rfl (cellsC_get hg2) ?_)
    refine P0_cons rfl (S_bin (a := chV cs[k]) (b := chV (ds[k]'(by omega))) rfl rfl rfl rfl rfl rfl rfl (neq_ch _ _ _ _) ?_)
    repeat (refine P0_nil ?_)
    skip
    refine J_cond _ rfl (fun h2 => ?_) (fun h2 => ?_)
    · have h2' : cs[k] ≠ ds[k]'(by omega) := by simpa using h2
      repeat (first
       | refine J_seq ?_
       | refine J_region ?_
       | refine O_nil ?_
       | refine J_ret ?_
       | refine O_cons (S_pure (v := .bool _) rfl rfl rfl rfl (fun _ => rfl) ?_))
      refine end_tmp (v := .bool _) (.inr rfl) (fun _ => rfl) fun H' h => ⟨?_, h.fr⟩
      refine congrArg AV.bool (decide_eq_false fun h => h2' ?_).symm
      subst h
      rfl
    · have h2' : cs[k] = ds[k]'(by omega) := by simpa using h2
      repeat (first
       | refine J_region ?_
       | refine J_skip ?_
       | refine O_nil ?_
       | refine O_cons (S_pure (v := .int _ _) rfl rfl rfl rfl (fun _ => rfl) ?_))
      refine ⟨rfl, rfl, r, rfl, k + 1, by omega, rfl, rfl, ?_, ?_⟩
      · show AV.int .i64 (wrapF .i64 ((k : Int) + 1)) = _
        rw [wrap_small (by omega) (by omega)]; rfl
      · rw [List.take_add_one, List.take_add_one, hg, hg2, heq, h2']
  · have hlt : ¬ k < cs.length := by have := of_decide_eq_false hk; omega
    rw [List.take_of_length_le (by omega), List.take_of_length_le (by omega)] at heq
    repeat (first
     | refine J_seq ?_
     | refine J_region ?_
     | refine O_nil ?_
     | refine J_ret ?_
     | refine J_exit ?_
     | refine O_cons (S_pure (v := .bool _) rfl rfl rfl rfl (fun _ => rfl) ?_))
    refine end_tmp (v := .bool _) (.inr rfl) (fun _ => rfl) fun H' h => ⟨?_, h.fr⟩
    exact congrArg AV.bool (decide_eq_true heq).symm

theorem c_Same01 {T : List Entry} (hT : hasF 25 T = false) (va vb : AV) (cs ds : List Int) (hl : cs.length < 1000000) (H : AH) (hH : Wf H) (ha : RdM old (AtO H []) va cs) (hb : RdM old (AtO H []) vb ds) :
    Con T (CX old) MM 1 (.fn 25) [va, vb] H (fun v H' => v = .bool (decide (cs = ds)) ∧ Fr H [] H') := by
  refine con_fn (nt := 26) [] [] hT Tryz.func25 rfl rfl rfl (Hs.start hH) fun N hN => ?_
  repeat (first
   | refine J_seq ?_
   | refine J_region ?_
   | refine O_nil ?_
   | refine O_cons (S_pure (v := .bool _) rfl rfl rfl rfl (fun _ => rfl) ?_)
   | refine O_cons (S_pure (v := (va)) rfl rfl rfl rfl (fun _ => rfl) ?_))
  refine O_cons (S_lenR ha rfl rfl rfl rfl rfl rfl rfl rfl rfl rfl ?_)
  repeat (refine O_cons (S_pure (v := (vb)) rfl rfl rfl rfl (fun _ => rfl) ?_))
  refine O_cons (S_lenR hb rfl rfl rfl rfl rfl rfl rfl rfl rfl rfl ?_)
  repeat (first
   | refine O_nil ?_
   | refine O_cons (S_pure (v := .bool _) rfl rfl rfl rfl (fun _ => rfl) ?_))
  refine J_cond _ rfl (fun h1 => ?_) (fun h1 => ?_)
  · have h1' : cs ≠ ds := by
      rintro rfl
      simp at h1
    repeat (first
     | refine J_seq ?_
     | refine J_region ?_
     | refine O_nil ?_
     | refine J_ret ?_
     | refine O_cons (S_pure (v := .bool _) rfl rfl rfl rfl (fun _ => rfl) ?_))
    refine end_tmp (v := .bool _) (.inr rfl) (fun _ => rfl) fun H' h => ⟨?_, h.fr⟩
    exact congrArg AV.bool (decide_eq_false h1').symm
  have hle : cs.length = ds.length := by
    have : (cs.length : Int) = ds.length := by simpa using h1
    omega
  repeat (first
   | refine J_seq ?_
   | refine J_region ?_
   | refine J_skip ?_
   | refine O_nil ?_
   | refine J_block ?_
   | refine O_cons (S_pure (v := .int _ _) rfl rfl rfl rfl (fun _ => rfl) ?_))
  refine J_loopL (I := fun r f => ∃ k, r + k = cs.length ∧ f 0 = va ∧ f 1 = vb ∧ f 5 = .int .i64 (k : Int) ∧ cs.take k = ds.take k) cs.length hl ⟨0, rfl, rfl, rfl, rfl, by simp⟩ fun r f hI => ?_
  obtain ⟨k, hr, q0, q1, q5, heq⟩ := hI
  obtain ⟨g, rfl⟩ := upd3 q0 q1 q5
  clear q0 q1 q5
  repeat (first
   | refine J_seq ?_
   | refine J_region ?_
   | refine O_cons (S_pure (v := .int _ _) rfl rfl rfl rfl (fun _ => rfl) ?_)
   | refine O_cons (S_pure (v := (va)) rfl rfl rfl rfl (fun _ => rfl) ?_))
  refine O_cons (S_lenR ha rfl rfl rfl rfl rfl rfl rfl rfl rfl rfl ?_)
  repeat (first
   | refine O_nil ?_
   | refine O_cons (S_pure (v := .bool _) rfl rfl rfl rfl (fun _ => rfl) ?_))
  refine J_cond _ rfl (fun hk => ?_) (fun hk => ?_)
  · have hlt : k < cs.length := by have := of_decide_eq_true hk; omega
    have hlt2 : k < ds.length := by omega
    have hg : cs[k]? = some cs[k] := by simp [hlt]
    have hg2 : ds[k]? = some ds[k] := List.getElem?_eq_getElem (by omega)
    obtain ⟨r, rfl⟩ : ∃ r', r = r' + 1 := ⟨r - 1, by omega⟩
    repeat (first
     | refine J_seq ?_
     | refine J_skip ?_
     | refine J_block ?_)
    refine J_draw0 (l := [⟨0, []⟩, ⟨1, []⟩, ⟨2, []⟩, ⟨3, []⟩, ⟨4, []⟩, ⟨5, []⟩, ⟨6, []⟩, ⟨7, []⟩, ⟨8, []⟩]) (by kernel_rfl) ?_
    repeat (first
     | refine P0_cons rfl (S_pure (v := .int _ _) rfl rfl rfl rfl (fun _ => rfl) ?_)
     | refine P0_cons rfl (S_pure (v := (va)) rfl rfl rfl rfl (fun _ => rfl) ?_))
    refine P0_cons rfl (S_elemR ha rfl rfl rfl rfl rfl rfl rfl rfl rfl rfl hlt ?_)
    refine P0_cons rfl (S_load1R rfl ha holds_at rfl rfl rfl rfl rfl rfl rfl rfl (getI hlt) ?_)
    repeat (first
     | refine P0_cons rfl (S_pure (v := .int _ _) rfl rfl rfl rfl (fun _ => rfl) ?_)
     | refine P0_cons rfl (S_pure (v := (vb)) rfl rfl rfl rfl (fun _ => rfl) ?_))
    refine P0_cons rfl (S_elemR hb rfl rfl rfl rfl rfl rfl rfl rfl rfl rfl hlt2 ?_)
    refine P0_cons rfl (S_load1R rfl hb holds_at rfl rfl rfl rfl rfl rfl rfl rfl (getI hlt2) ?_)
    repeat (first
     | refine P0_nil ?_
     | refine P0_cons rfl (S_pure (v := .bool _) rfl rfl rfl rfl (fun _ => rfl) ?_))
    skip
    refine J_cond _ rfl (fun h2 => ?_) (fun h2 => ?_)
    · have h2' : cs[k] ≠ ds[k] := by simpa using h2
      repeat (first
       | refine J_seq ?_
       | refine J_region ?_
       | refine O_nil ?_
       | refine J_ret ?_
       | refine O_cons (S_pure (v := .bool _) rfl rfl rfl rfl (fun _ => rfl) ?_))
      refine end_tmp (v := .bool _) (.inr rfl) (fun _ => rfl) fun H' h => ⟨?_, h.fr⟩
      refine congrArg AV.bool (decide_eq_false fun h => h2' ?_).symm
      subst h
      rfl
    · have h2' : cs[k] = ds[k] := by simpa using h2
      repeat (first
       | refine J_region ?_
       | refine J_skip ?_
       | refine O_nil ?_
       | refine O_cons (S_pure (v := .int _ _) rfl rfl rfl rfl (fun _ => rfl) ?_))
      refine ⟨rfl, rfl, r, rfl, k + 1, by omega, rfl, rfl, ?_, ?_⟩
      · show AV.int .i64 (wrapF .i64 ((k : Int) + 1)) = _
        rw [wrap_small (by omega) (by omega)]; rfl
      · rw [List.take_add_one, List.take_add_one, hg, hg2, heq, h2']
  · have hlt : ¬ k < cs.length := by have := of_decide_eq_false hk; omega
    rw [List.take_of_length_le (by omega), List.take_of_length_le (by omega)] at heq
    repeat (first
     | refine J_seq ?_
     | refine J_region ?_
     | refine O_nil ?_
     | refine J_ret ?_
     | refine J_exit ?_
     | refine O_cons (S_pure (v := .bool _) rfl rfl rfl rfl (fun _ => rfl) ?_))
    refine end_tmp (v := .bool _) (.inr rfl) (fun _ => rfl) fun H' h => ⟨?_, h.fr⟩
    exact congrArg AV.bool (decide_eq_true heq).symm

theorem c_Same {T : List Entry} (hTs : hasF 9 T = false) (hT3 : hasF 24 T = false) (hT1 : hasF 25 T = false) (p e p' e' : Int) (va vb ma mb : AV) (cs ds : List Ch) (ms ns : List Int) (hl : cs.length < 1000000) (hm : ms.length < 1000000) (H : AH) (hH : Wf H) (ha : RdC old (AtO H []) va cs) (hb : RdC old (AtO H []) vb ds) (hma : RdM old (AtO H []) ma ms) (hmb : RdM old (AtO H []) mb ns) :
    Con T (CX old) MM 2 (.fn 9) [recV p e va ma, recV p' e' vb mb] H (fun v H' => v = .bool (decide (p = p' ∧ e = e' ∧ cs = ds ∧ ms = ns)) ∧ Fr H [] H') := by
  refine con_fn (nt := 31) [] [] hTs Tryz.func9 rfl rfl rfl (Hs.start hH) fun N hN => ?_
  repeat (first
   | refine J_seq ?_
   | refine J_region ?_)
  refine O_cons (S_box (v := recV p e va ma) rfl rfl rfl rfl rfl rfl fun i => ?_)
  refine O_cons (S_box (v := recV p' e' vb mb) rfl rfl rfl rfl rfl rfl fun i' => ?_)
  repeat (first
   | refine J_seq ?_
   | refine J_region ?_
   | refine O_nil ?_
   | refine O_cons (S_field0 rfl rfl rfl rfl rfl rfl rfl rfl rfl ?_)
   | refine O_cons (S_pure (v := .bool _) rfl rfl rfl rfl (fun _ => rfl) ?_)
   | refine O_cons (S_load 0 rfl rfl rfl rfl rfl rfl rfl rfl rfl rfl ?_)
   | refine O_cons (S_load 1 rfl rfl rfl rfl rfl rfl rfl rfl rfl rfl ?_))
  refine O_guard rfl rfl rfl (fun h1 => ?_) (fun h1 => ?_)
  rotate_left
  · have h1' : p ≠ p' := by simpa using h1
    repeat (first
     | refine O_nil ?_
     | refine J_ret ?_
     | refine O_cons (S_pure (v := .bool _) rfl rfl rfl rfl (fun _ => rfl) ?_)
     | refine O_cons (S_off rfl rfl rfl rfl ?_))
    refine end_tmp (v := .bool _) (.inr rfl) (fun _ => rfl) fun H' h => ⟨?_, h.fr⟩
    exact congrArg AV.bool (decide_eq_false fun h => h1' h.1).symm
  have h1' : p = p' := by simpa using h1
  repeat (first
   | refine O_cons (S_field0 rfl rfl rfl rfl rfl rfl rfl rfl rfl ?_)
   | refine O_cons (S_pure (v := .bool _) rfl rfl rfl rfl (fun _ => rfl) ?_)
   | refine O_cons (S_load 0 rfl rfl rfl rfl rfl rfl rfl rfl rfl rfl ?_)
   | refine O_cons (S_load 1 rfl rfl rfl rfl rfl rfl rfl rfl rfl rfl ?_))
  refine O_guard rfl rfl rfl (fun h2 => ?_) (fun h2 => ?_)
  rotate_left
  · have h2' : e ≠ e' := by simpa using h2
    repeat (first
     | refine O_nil ?_
     | refine J_ret ?_
     | refine O_cons (S_pure (v := .bool _) rfl rfl rfl rfl (fun _ => rfl) ?_)
     | refine O_cons (S_off rfl rfl rfl rfl ?_))
    refine end_tmp (v := .bool _) (.inr rfl) (fun _ => rfl) fun H' h => ⟨?_, h.fr⟩
    exact congrArg AV.bool (decide_eq_false fun h => h2' h.2.1).symm
  have h2' : e = e' := by simpa using h2
  repeat (first
   | refine O_cons (S_field0 rfl rfl rfl rfl rfl rfl rfl rfl rfl ?_)
   | refine O_cons (S_load 0 rfl rfl rfl rfl rfl rfl rfl rfl rfl rfl ?_)
   | refine O_cons (S_load 1 rfl rfl rfl rfl rfl rfl rfl rfl rfl rfl ?_))
  refine O_cons (S_call (v := .bool (decide (cs = ds))) rfl rfl rfl rfl (fun _ => rfl) (fun H' h => c_Same32 hT3 va vb cs ds hl H' h.wf (ha.at holds_at h) (hb.at holds_at h) N (by omega)) ?_)
  repeat (refine O_cons (S_pure (v := .bool _) rfl rfl rfl rfl (fun _ => rfl) ?_))
  refine O_guard rfl rfl rfl (fun h3 => ?_) (fun h3 => ?_)
  rotate_left
  · have h3' := of_decide_eq_false h3
    repeat (first
     | refine O_nil ?_
     | refine J_ret ?_
     | refine O_cons (S_pure (v := .bool _) rfl rfl rfl rfl (fun _ => rfl) ?_)
     | refine O_cons (S_off rfl rfl rfl rfl ?_))
    refine end_tmp (v := .bool _) (.inr rfl) (fun _ => rfl) fun H' h => ⟨?_, h.fr⟩
    exact congrArg AV.bool (decide_eq_false fun h => h3' h.2.2.1).symm
  have h3' := of_decide_eq_true h3
  repeat (first
   | refine O_cons (S_field0 rfl rfl rfl rfl rfl rfl rfl rfl rfl ?_)
   | refine O_cons (S_load 0 rfl rfl rfl rfl rfl rfl rfl rfl rfl rfl ?_)
   | refine O_cons (S_load 1 rfl rfl rfl rfl rfl rfl rfl rfl rfl rfl ?_))
  refine O_cons (S_call (v := .bool (decide (ms = ns))) rfl rfl rfl rfl (fun _ => rfl) (fun H' h => c_Same01 hT1 ma mb ms ns hm H' h.wf (hma.at holds_at h) (hmb.at holds_at h) N (by omega)) ?_)
  repeat (first
   | refine O_nil ?_
   | refine J_ret ?_
   | refine O_cons (S_pure (v := .bool _) rfl rfl rfl rfl (fun _ => rfl) ?_))
  refine end_tmp (v := .bool _) (.inr rfl) (fun _ => rfl) fun H' h => ⟨?_, h.fr⟩
  refine congrArg AV.bool ?_
  rw [decide_eq_decide]
  exact ⟨fun h => ⟨h1', h2', h3', h⟩, fun h => h.2.2.2⟩

theorem c_Great {T : List Entry} (hT : hasF 4 T = false) (p e : Int) (va ma : AV) (cs : List Ch) (ms : List Int) (H : AH) (hH : Wf H) (ha : RdC old (AtO H []) va cs) (hma : RdM old (AtO H []) ma ms) :
    Con T (CX old) MM 1 (.fn 4) [recV p e va ma] H (fun v H' => v = .bool (decide (60 < cs.length ∨ 60 < ms.length)) ∧ Fr H [] H') := by
  refine con_fn (nt := 13) [] [] hT Tryz.func4 rfl rfl rfl (Hs.start hH) fun N hN => ?_
  repeat (first
   | refine J_seq ?_
   | refine J_region ?_)
  refine O_cons (S_box (v := recV p e va ma) rfl rfl rfl rfl rfl rfl fun i => ?_)
  repeat (first
   | refine J_seq ?_
   | refine J_region ?_
   | refine O_nil ?_
   | refine O_cons (S_field0 rfl rfl rfl rfl rfl rfl rfl rfl rfl ?_)
   | refine O_cons (S_pure (v := .bool _) rfl rfl rfl rfl (fun _ => rfl) ?_)
   | refine O_cons (S_load 0 rfl rfl rfl rfl rfl rfl rfl rfl rfl rfl ?_))
  refine O_cons (S_lenR ha rfl rfl rfl rfl rfl rfl rfl rfl rfl rfl ?_)
  repeat (refine O_cons (S_pure (v := .bool _) rfl rfl rfl rfl (fun _ => rfl) ?_))
  refine O_guard rfl rfl rfl (fun h1 => ?_) (fun h1 => ?_)
  · have h1' : (60 : Int) < cs.length := of_decide_eq_true h1
    repeat (first
     | refine O_nil ?_
     | refine J_ret ?_
     | refine O_cons (S_pure (v := .bool _) rfl rfl rfl rfl (fun _ => rfl) ?_)
     | refine O_cons (S_off rfl rfl rfl rfl ?_))
    refine end_tmp (v := .bool _) (.inr rfl) (fun _ => rfl) fun H' h => ⟨?_, h.fr⟩
    exact congrArg AV.bool (decide_eq_true (by omega)).symm
  have h1' : ¬ (60 : Int) < cs.length := of_decide_eq_false h1
  repeat (first
   | refine O_cons (S_field0 rfl rfl rfl rfl rfl rfl rfl rfl rfl ?_)
   | refine O_cons (S_load 0 rfl rfl rfl rfl rfl rfl rfl rfl rfl rfl ?_))
  refine O_cons (S_lenR hma rfl rfl rfl rfl rfl rfl rfl rfl rfl rfl ?_)
  repeat (first
   | refine O_nil ?_
   | refine J_ret ?_
   | refine O_cons (S_pure (v := .bool _) rfl rfl rfl rfl (fun _ => rfl) ?_))
  refine end_tmp (v := .bool _) (.inr rfl) (fun _ => rfl) fun H' h => ⟨?_, h.fr⟩
  refine congrArg AV.bool ?_
  rw [decide_eq_decide]
  omega
end Go.Proofs.Aw
