/-
  What some of the program functions compute, walked once. For the arguments that each theorem names.
-/
import Derived.Test.YtaigaoiedjccgaaGreatDoorFnE
import Derived.Test.YtaigaoiedjccgaaGreatDoorSyD
set_option linter.unusedVariables false
set_option linter.unusedSimpArgs false

set_option maxRecDepth 100000
set_option maxHeartbeats 4000000
namespace Go.Proofs.Aw
open Go Go.Ev
variable {old : Nat → Nat → Option AV}

theorem c_cvalid {T : List Entry} (hT : hasF 80 T = false) (c : Ch) (H : AH) (hH : Wf H) : Con T (CX old) MM 1 (.fn 80) [chV c] H (fun v H' => v = .bool (okC c) ∧ Fr H [] H') := by
  obtain ⟨a, b⟩ := c
  refine con_fn (nt := 27) [] [] hT Tryz.func80 rfl rfl rfl (Hs.start hH) fun k _ => ?_
  repeat (first
   | refine J_seq ?_
   | refine J_region ?_)
  refine O_cons (S_box (v := chV (a, b)) rfl rfl rfl rfl rfl rfl fun i => ?_)
  repeat (first
   | refine J_seq ?_
   | refine J_region ?_
   | refine O_nil ?_
   | refine O_cons (S_field0 rfl rfl rfl rfl rfl rfl rfl rfl rfl ?_)
   | refine O_cons (S_pure (v := .bool _) rfl rfl rfl rfl (fun _ => rfl) ?_)
   | refine O_cons (S_load 0 rfl rfl rfl rfl rfl rfl rfl rfl rfl rfl ?_))
  refine J_cond _ rfl (fun h1 => ?_) (fun h1 => ?_)
  · have h1' : a = -1 := by simpa using h1
    repeat (first
     | refine J_seq ?_
     | refine J_region ?_
     | refine O_nil ?_
     | refine J_ret ?_
     | refine O_cons (S_field0 rfl rfl rfl rfl rfl rfl rfl rfl rfl ?_)
     | refine O_cons (S_pure (v := .bool _) rfl rfl rfl rfl (fun _ => rfl) ?_)
     | refine O_cons (S_load 0 rfl rfl rfl rfl rfl rfl rfl rfl rfl rfl ?_))
    exact end_tmp (v := .bool _) (.inr rfl) (fun _ => rfl) fun H' h => ⟨by simp [okC, h1']; rfl, h.fr⟩
  have h1' : a ≠ -1 := by simpa using h1
  repeat (first
   | refine J_seq ?_
   | refine J_region ?_
   | refine J_skip ?_
   | refine O_cons (S_field0 rfl rfl rfl rfl rfl rfl rfl rfl rfl ?_)
   | refine O_cons (S_pure (v := .bool _) rfl rfl rfl rfl (fun _ => rfl) ?_)
   | refine O_cons (S_load 0 rfl rfl rfl rfl rfl rfl rfl rfl rfl rfl ?_))
  refine O_guard rfl rfl rfl (fun h2 => ?_) (fun h2 => ?_)
  rotate_left
  · skip
    repeat (first
     | refine O_nil ?_
     | refine J_ret ?_
     | refine O_cons (S_pure (v := .bool _) rfl rfl rfl rfl (fun _ => rfl) ?_)
     | refine O_cons (S_off rfl rfl rfl rfl ?_))
    exact end_tmp (v := .bool _) (.inr rfl) (fun _ => rfl) fun H' h => ⟨by simp [okC, h1', h2], h.fr⟩
  repeat (first
   | refine O_cons (S_field0 rfl rfl rfl rfl rfl rfl rfl rfl rfl ?_)
   | refine O_cons (S_pure (v := .bool _) rfl rfl rfl rfl (fun _ => rfl) ?_)
   | refine O_cons (S_load 0 rfl rfl rfl rfl rfl rfl rfl rfl rfl rfl ?_))
  refine O_guard rfl rfl rfl (fun h3 => ?_) (fun h3 => ?_)
  rotate_left
  · skip
    repeat (first
     | refine O_nil ?_
     | refine J_ret ?_
     | refine O_cons (S_pure (v := .bool _) rfl rfl rfl rfl (fun _ => rfl) ?_)
     | refine O_cons (S_off rfl rfl rfl rfl ?_))
    exact end_tmp (v := .bool _) (.inr rfl) (fun _ => rfl) fun H' h => ⟨by simp [okC, h1', h2, h3], h.fr⟩
  repeat (first
   | refine O_cons (S_field0 rfl rfl rfl rfl rfl rfl rfl rfl rfl ?_)
   | refine O_cons (S_pure (v := .bool _) rfl rfl rfl rfl (fun _ => rfl) ?_)
   | refine O_cons (S_load 0 rfl rfl rfl rfl rfl rfl rfl rfl rfl rfl ?_))
  refine O_guard rfl rfl rfl (fun h4 => ?_) (fun h4 => ?_)
  · skip
    repeat (first
     | refine O_nil ?_
     | refine J_ret ?_
     | refine O_cons (S_field0 rfl rfl rfl rfl rfl rfl rfl rfl rfl ?_)
     | refine O_cons (S_pure (v := .bool _) rfl rfl rfl rfl (fun _ => rfl) ?_)
     | refine O_cons (S_load 0 rfl rfl rfl rfl rfl rfl rfl rfl rfl rfl ?_))
    exact end_tmp (v := .bool _) (.inr rfl) (fun _ => rfl) fun H' h => ⟨by simp [okC, h1', h2, h3, h4], h.fr⟩
  · skip
    repeat (first
     | refine O_nil ?_
     | refine J_ret ?_
     | refine O_cons (S_pure (v := .bool _) rfl rfl rfl rfl (fun _ => rfl) ?_)
     | refine O_cons (S_off rfl rfl rfl rfl ?_))
    exact end_tmp (v := .bool _) (.inr rfl) (fun _ => rfl) fun H' h => ⟨by simp [okC, h1', h2, h3, h4], h.fr⟩

theorem c_Check1 {T : List Entry} (hT1 : hasF 79 T = false) (hT : hasF 80 T = false) (c : Ch) (H : AH) (hH : Wf H) : Con T (CX old) MM 2 (.fn 79) [chV c] H (fun v H' => v = .bool (!okC c) ∧ Fr H [] H') := by
  refine con_fn (nt := 6) [] [] hT1 Tryz.func79 rfl rfl rfl (Hs.start hH) fun N hN => ?_
  repeat (first
   | refine J_seq ?_
   | refine J_region ?_)
  refine O_cons (S_box (v := chV c) rfl rfl rfl rfl rfl rfl fun i => ?_)
  repeat (first
   | refine J_seq ?_
   | refine J_region ?_
   | refine O_nil ?_
   | refine O_cons (S_pure (v := .bool _) rfl rfl rfl rfl (fun _ => rfl) ?_)
   | refine O_cons (S_loadA 0 rfl rfl rfl rfl rfl rfl rfl rfl rfl rfl ?_))
  refine O_cons (S_call (v := .bool (okC c)) rfl rfl rfl rfl (fun _ => rfl) (fun H' h => c_cvalid hT c H' h.wf N (by omega)) ?_)
  repeat (first
   | refine O_nil ?_
   | refine J_ret ?_
   | refine O_cons (S_pure (v := .bool _) rfl rfl rfl rfl (fun _ => rfl) ?_))
  exact end_tmp (v := .bool _) (.inr rfl) (fun _ => rfl) fun H' h => ⟨rfl, h.fr⟩

/-- Choices that can be read. -/
abbrev RdC (old : Nat → Nat → Option AV) (R : Nat → AObj → Prop) (v : AV) (cs : List Ch) : Prop := Rd old 48 2 R v cs.length (cellsC cs)

theorem c_IndexFunc {T : List Entry} (hTI : hasF 149 T = false) (hT1 : hasF 79 T = false) (hT : hasF 80 T = false) (v : AV) (cs : List Ch) (hl : cs.length < 1000000) (H : AH) (hH : Wf H) (hr : RdC old (AtO H []) v cs) :
    Con T (CX old) MM 3 (.fn 149) [v, .func (.func 79) [] []] H (fun v H' => ((v = .int .i64 (-1) ∧ ∀ c ∈ cs, okC c = true) ∨ ∃ k : Nat, v = .int .i64 k ∧ ∃ c ∈ cs, okC c = false) ∧ Fr H [] H') := by
  refine con_fn (nt := 19) [] [] hTI Tryz.func149 rfl rfl rfl (Hs.start hH) fun N hN => ?_
  repeat (first
   | refine J_seq ?_
   | refine J_region ?_
   | refine O_nil ?_
   | refine O_cons (S_pure (v := .int _ _) rfl rfl rfl rfl (fun _ => rfl) ?_)
   | refine O_cons (S_pure (v := (v)) rfl rfl rfl rfl (fun _ => rfl) ?_))
  refine O_cons (S_lenR hr rfl rfl rfl rfl rfl rfl rfl rfl rfl rfl ?_)
  repeat (first
   | refine O_nil ?_
   | refine J_block ?_
   | refine O_cons (S_pure (v := .int _ _) rfl rfl rfl rfl (fun _ => rfl) ?_))
  refine J_loop (fun r f L df => df = [] ∧ L = [] ∧ ∃ k, r + k = cs.length ∧ f 0 = v ∧ f 1 = .func (.func 79) [] [] ∧ f 7 = .int .i64 (cs.length : Int) ∧ f 8 = .int .i64 (k : Int) ∧ ∀ c ∈ cs.take k, okC c = true) cs.length hl ⟨rfl, rfl, 0, rfl, rfl, rfl, rfl, rfl, by simp⟩ fun r f L df hI => ?_
  obtain ⟨rfl, rfl, k, hr', q0, q1, q7, q8, hok⟩ := hI
  obtain ⟨g, rfl⟩ := upd4 q0 q1 q7 q8
  clear q0 q1 q7 q8
  repeat (first
   | refine J_seq ?_
   | refine J_region ?_
   | refine O_nil ?_
   | refine O_cons (S_pure (v := .bool _) rfl rfl rfl rfl (fun _ => rfl) ?_))
  refine J_cond _ rfl (fun hc => ?_) (fun hc => ?_)
  · have hlt : k < cs.length := by have := of_decide_eq_true hc; omega
    have hg : cs[k]? = some cs[k] := by simp [hlt]
    obtain ⟨r, rfl⟩ : ∃ r', r = r' + 1 := ⟨r - 1, by omega⟩
    repeat (first
     | refine J_seq ?_
     | refine J_region ?_
     | refine J_skip ?_
     | refine O_nil ?_
     | refine J_block ?_
     | refine O_cons (S_pure (v := .int _ _) rfl rfl rfl rfl (fun _ => rfl) ?_)
     | refine O_cons (S_pure (v := .func _ _ _) rfl rfl rfl rfl (fun _ => rfl) ?_)
     | refine O_cons (S_pure (v := (v)) rfl rfl rfl rfl (fun _ => rfl) ?_))
    refine O_cons (S_elemR hr rfl rfl rfl rfl rfl rfl rfl rfl rfl rfl hlt ?_)
    refine O_cons (S_loadR rfl hr holds_at rfl rfl rfl rfl rfl rfl rfl rfl rfl (cellsC_get hg) ?_)
    refine O_cons (S_call (v := .bool (!okC cs[k])) rfl rfl rfl rfl (fun _ => rfl) (fun H' h => c_Check1 hT1 hT cs[k] H' h.wf N (by omega)) ?_)
    repeat (refine O_nil ?_)
    refine J_cond _ rfl (fun h2 => ?_) (fun h2 => ?_)
    · skip
      repeat (first
       | refine J_seq ?_
       | refine J_region ?_
       | refine O_nil ?_
       | refine J_ret ?_
       | refine O_cons (S_pure (v := .int _ _) rfl rfl rfl rfl (fun _ => rfl) ?_))
      exact end_tmp (v := .int _ _) (.inr rfl) (fun _ => rfl) fun H' h => ⟨.inr ⟨k, rfl, cs[k], List.getElem_mem hlt, by simpa using h2⟩, h.fr⟩
    · skip
      repeat (first
       | refine J_region ?_
       | refine J_skip ?_
       | refine O_nil ?_
       | refine O_cons (S_pure (v := .int _ _) rfl rfl rfl rfl (fun _ => rfl) ?_))
      refine ⟨r, rfl, rfl, rfl, k + 1, by omega, rfl, rfl, rfl, ?_, ?_⟩
      · show AV.int .i64 (wrapF .i64 ((k : Int) + 1)) = _
        rw [wrap_small (by omega) (by omega)]; rfl
      · intro c hc
        rw [List.take_add_one, hg] at hc
        rcases List.mem_append.1 hc with h | h
        · exact hok c h
        · rw [Option.toList_some, List.mem_singleton] at h
          rw [h]; simpa using h2
  · have hlt : ¬ k < cs.length := by have := of_decide_eq_false hc; omega
    have hk : k = cs.length := by omega
    subst hk
    rw [List.take_length] at hok
    repeat (first
     | refine J_seq ?_
     | refine J_region ?_
     | refine O_nil ?_
     | refine J_ret ?_
     | refine J_exit ?_
     | refine O_cons (S_pure (v := .int _ _) rfl rfl rfl rfl (fun _ => rfl) ?_))
    exact end_tmp (v := .int _ _) (.inr rfl) (fun _ => rfl) fun H' h => ⟨.inl ⟨rfl, hok⟩, h.fr⟩

theorem c_ContainsFunc {T : List Entry} (hTC : hasF 78 T = false) (hTI : hasF 149 T = false) (hT1 : hasF 79 T = false) (hT : hasF 80 T = false) (v : AV) (cs : List Ch) (hl : cs.length < 1000000) (H : AH) (hH : Wf H) (hr : RdC old (AtO H []) v cs) :
    Con T (CX old) MM 4 (.fn 78) [v, .func (.func 79) [] []] H (fun v H' => v = .bool (!cs.all okC) ∧ Fr H [] H') := by
  refine con_fn (nt := 9) [] [] hTC Tryz.func78 rfl rfl rfl (Hs.start hH) fun N hN => ?_
  repeat (first
   | refine J_seq ?_
   | refine J_region ?_
   | refine O_nil ?_
   | refine O_cons (S_pure (v := .bool _) rfl rfl rfl rfl (fun _ => rfl) ?_)
   | refine O_cons (S_pure (v := .func _ _ _) rfl rfl rfl rfl (fun _ => rfl) ?_)
   | refine O_cons (S_pure (v := (v)) rfl rfl rfl rfl (fun _ => rfl) ?_))
  refine O_cons (S_callR _ rfl rfl rfl rfl (fun _ => rfl) (fun H' h => c_IndexFunc hTI hT1 hT v cs hl H' h.wf (hr.at (Y := ⟨⟨evCallP T (CX old) MM N, (CX old), MM, none, 78, 9⟩, H, []⟩) holds_at h) N (by omega)) fun v' hv => ?_)
  rcases hv with ⟨rfl, hok⟩ | ⟨k, rfl, c, hc, hok⟩
  · skip
    repeat (first
     | refine O_nil ?_
     | refine J_ret ?_
     | refine O_cons (S_pure (v := .bool _) rfl rfl rfl rfl (fun _ => rfl) ?_))
    refine end_tmp (v := .bool _) (.inr rfl) (fun _ => rfl) fun H' h => ⟨?_, h.fr⟩
    rw [List.all_eq_true.2 hok]; rfl
  · skip
    repeat (first
     | refine O_nil ?_
     | refine J_ret ?_
     | refine O_cons (S_pure (v := .bool _) rfl rfl rfl rfl (fun _ => rfl) ?_))
    refine end_tmp (v := .bool _) (.inr rfl) (fun _ => rfl) fun H' h => ⟨?_, h.fr⟩
    have h1 : cs.all okC = false := by
      rw [List.all_eq_false]
      exact ⟨c, hc, by simp [hok]⟩
    rw [h1]
    show AV.bool (decide ((0 : Int) ≤ (k : Int))) = _
    rw [decide_eq_true (by omega)]; rfl

theorem c_Check {T : List Entry} (hTk : hasF 40 T = false) (hTC : hasF 78 T = false) (hTI : hasF 149 T = false) (hT1 : hasF 79 T = false) (hT : hasF 80 T = false) (v : AV) (cs : List Ch) (hl : cs.length < 1000000) (H : AH) (hH : Wf H) (hr : RdC old (AtO H []) v cs) :
    Con T (CX old) MM 5 (.fn 40) [v] H (fun v H' => v = .int .i64 (if 2000 < cs.length then 4 else if cs.all okC = true then 0 else 2) ∧ Fr H [] H') := by
  refine con_fn (nt := 8) [] [] hTk Tryz.func40 rfl rfl rfl (Hs.start hH) fun N hN => ?_
  repeat (first
   | refine J_seq ?_
   | refine J_region ?_
   | refine O_nil ?_
   | refine O_cons (S_pure (v := .int _ _) rfl rfl rfl rfl (fun _ => rfl) ?_)
   | refine O_cons (S_pure (v := (v)) rfl rfl rfl rfl (fun _ => rfl) ?_))
  refine O_cons (S_lenR hr rfl rfl rfl rfl rfl rfl rfl rfl rfl rfl ?_)
  repeat (first
   | refine O_nil ?_
   | refine O_cons (S_pure (v := .bool _) rfl rfl rfl rfl (fun _ => rfl) ?_))
  refine J_cond _ rfl (fun hc => ?_) (fun hc => ?_)
  · have hlt : 2000 < cs.length := by have := of_decide_eq_true hc; omega
    repeat (first
     | refine J_seq ?_
     | refine J_region ?_
     | refine O_nil ?_
     | refine J_ret ?_
     | refine O_cons (S_pure (v := .int _ _) rfl rfl rfl rfl (fun _ => rfl) ?_))
    refine end_tmp (v := .int _ _) (.inr rfl) (fun _ => rfl) fun H' h => ⟨?_, h.fr⟩
    rw [if_pos hlt]
  have hlt : ¬ 2000 < cs.length := by have := of_decide_eq_false hc; omega
  repeat (first
   | refine J_seq ?_
   | refine J_region ?_
   | refine J_skip ?_
   | refine O_cons (S_pure (v := (v)) rfl rfl rfl rfl (fun _ => rfl) ?_))
  refine O_cons (S_call (v := .bool (!cs.all okC)) rfl rfl rfl rfl (fun _ => rfl) (fun H' h => c_ContainsFunc hTC hTI hT1 hT v cs hl H' h.wf (hr.at (Y := ⟨⟨evCallP T (CX old) MM N, (CX old), MM, none, 40, 8⟩, H, []⟩) holds_at h) N (by omega)) ?_)
  repeat (refine O_nil ?_)
  refine J_cond _ rfl (fun h2 => ?_) (fun h2 => ?_)
  · skip
    repeat (first
     | refine J_seq ?_
     | refine J_region ?_
     | refine O_nil ?_
     | refine J_ret ?_
     | refine O_cons (S_pure (v := .int _ _) rfl rfl rfl rfl (fun _ => rfl) ?_))
    refine end_tmp (v := .int _ _) (.inr rfl) (fun _ => rfl) fun H' h => ⟨?_, h.fr⟩
    rw [if_neg hlt, if_neg (by simpa using h2)]
  · skip
    repeat (first
     | refine J_seq ?_
     | refine J_region ?_
     | refine J_skip ?_
     | refine O_nil ?_
     | refine J_ret ?_
     | refine O_cons (S_pure (v := .int _ _) rfl rfl rfl rfl (fun _ => rfl) ?_))
    refine end_tmp (v := .int _ _) (.inr rfl) (fun _ => rfl) fun H' h => ⟨?_, h.fr⟩
    rw [if_neg hlt, if_pos (by simpa using h2)]
end Go.Proofs.Aw

set_option maxRecDepth 100000
set_option maxHeartbeats 4000000
namespace Go.Proofs.Aw
open Go Go.Ev
variable {old : Nat → Nat → Option AV}

theorem eql_ch (c d : Ch) (cx cy : Bool) : binF (CX old) .eql 48 cx cy (chV c) (chV d) = some (.bool (decide (c = d))) := by
  obtain ⟨a, b⟩ := c
  obtain ⟨a', b'⟩ := d
  have e : binF (CX old) .eql 48 cx cy (chV (a, b)) (chV (a', b')) = (match (if IntKind.i64 = IntKind.i64 then some (a == a') else none : Option Bool) with
      | some true => (match (if IntKind.i64 = IntKind.i64 then some (b == b') else none : Option Bool) with
        | some true => some true
        | some false => some false
        | none => none)
      | some false => some false
      | none => none : Option Bool).map AV.bool := by kernel_rfl
  rw [e, if_pos rfl, if_pos rfl]
  by_cases h1 : a = a'
  · by_cases h2 : b = b'
    · subst h1; subst h2; simp
    · have : (b == b') = false := by simpa using h2
      have h1' : (a == a') = true := by simpa using h1
      rw [h1', this]; simp [h2]
  · have : (a == a') = false := by simpa using h1
    rw [this]; simp [h1]

theorem c_SEncode {T : List Entry} (hTs : hasF 22 T = false) (hTr : hasF 47 T = false) (hTr1 : hasF 85 T = false) (hTk : hasF 40 T = false) (hTC : hasF 78 T = false) (hTI : hasF 149 T = false) (hT1 : hasF 79 T = false) (hT : hasF 80 T = false)
    (hTL : hasF 48 T = false) (hTc : hasF 81 T = false) (hTb : hasF 86 T = false) (hTw : hasF 43 T = false) (hTbs : hasF 42 T = false) (hTf : hasF 83 T = false) (hTi : hasF 84 T = false) (hTd : hasF 155 T = false) (hTd1 : hasF 284 T = false)
    (v : AV) (cs : List Ch) (hl : cs.length ≤ 2000) (hok : ∀ c ∈ cs, okC c = true) (H : AH) (hH : Wf H) (hr : RdC old (AtO H []) v cs) :
    Con T (CX old) MM 9 (.fn 22) [v] H (fun v H' => v = .tup [.str (encS cs), .int .i64 0] ∧ Fr H [] H') := by
  have hfit := runsL_fits cs.length cs (Nat.le_refl _) (by omega) hok
  have hrl := (runsL_len cs.length cs (Nat.le_refl _)).1
  refine con_fn (nt := 29) [] [] hTs Tryz.func22 rfl rfl rfl (Hs.start hH) fun N hN => ?_
  obtain ⟨N, rfl⟩ : ∃ N', N = N' + 2 := ⟨N - 2, by omega⟩
  repeat (first
   | refine J_seq ?_
   | refine J_region ?_
   | refine O_nil ?_
   | refine O_cons (S_pure (v := .int _ _) rfl rfl rfl rfl (fun _ => rfl) ?_)
   | refine O_cons (S_pure (v := .str _) rfl rfl rfl rfl (fun _ => rfl) ?_)
   | refine O_cons (S_pure (v := (v)) rfl rfl rfl rfl (fun _ => rfl) ?_))
  refine O_cons (S_call (v := .int .i64 0) rfl rfl rfl rfl (fun _ => rfl) (fun H' h => by
    have := c_Check hTk hTC hTI hT1 hT v cs (by omega) H' h.wf (hr.at (Y := ⟨⟨evCallP T (CX old) MM (N + 2), (CX old), MM, none, 22, 29⟩, H, []⟩) holds_at h) (N + 2) (by omega)
    rw [if_neg (by omega), if_pos (List.all_eq_true.2 hok)] at this
    exact this) ?_)
  repeat (first
   | refine J_seq ?_
   | refine J_region ?_
   | refine O_nil ?_
   | refine O_cons (S_pure (v := .int _ _) rfl rfl rfl rfl (fun _ => rfl) ?_)
   | refine O_cons (S_pure (v := .bool _) rfl rfl rfl rfl (fun _ => rfl) ?_))
  refine J_condF rfl ?_
  repeat (first
   | refine J_seq ?_
   | refine J_region ?_
   | refine J_skip ?_)
  refine O_cons (S_alloc rfl rfl rfl rfl rfl (z := [.raw (.slice none 0 0)]) rfl fun c5 => ?_)
  repeat (first
   | refine J_seq ?_
   | refine J_region ?_
   | refine O_nil ?_
   | refine O_cons (S_pure (v := (v)) rfl rfl rfl rfl (fun _ => rfl) ?_))
  refine O_cons (S_callX (P := fun v' L' => ∃ c1, v' = .func (.func 85) [] [.nptr c1 0] ∧ L' = [cel c5 23 (.raw (.slice none 0 0)), cel c1 22 v]) rfl rfl rfl rfl (fun _ => rfl) (fun H hH => fn_in (nt := 4) hTr Tryz.func47 rfl rfl rfl hH ?_) ?_)
  · skip
    repeat (first
     | refine J_seq ?_
     | refine J_region ?_)
    refine O_cons (S_box (v := v) rfl rfl rfl rfl rfl rfl fun c1 => ?_)
    rw [hr.cells1]
    repeat (first
     | refine J_seq ?_
     | refine J_region ?_
     | refine O_nil ?_
     | refine J_ret ?_
     | refine O_cons (S_pure (v := .raw _) rfl rfl rfl rfl (fun _ => rfl) ?_)
     | refine O_cons (S_pure (v := .func _ _ _) rfl rfl rfl rfl (fun _ => rfl) ?_))
    exact ret_tmp (v := .func _ _ _) (.inr rfl) (fun _ => rfl) ⟨c1, rfl, rfl⟩
  rintro v' L' ⟨c1, rfl, rfl⟩
  repeat (first
   | refine O_nil ?_
   | refine J_block ?_)
  refine J_rangeIn (n := N + 1) (nt := 33) (g := 85) (args := fun l => [.yield l, .nptr c1 0]) (fun L' => ∃ vn vl S, SlI (runsL cs) vn S ∧ L' = cel c5 23 vn :: cel c1 22 vl :: S) rfl rfl (fun _ _ => rfl) hTr1 Tryz.func85 rfl (fun _ => rfl) rfl (fun d l => ?_) (fun d L' hP => ?_)
  · skip
    repeat (refine J_block ?_)
    refine J_loop (fun r f L df => df = [] ∧ ∃ (done : List Int) (cs' : List Ch) (v' vn : AV) (S : Kn), cs'.length ≤ r ∧ done ++ runsL cs' = runsL cs ∧ RdC old (AtO H []) v' cs' ∧ cs'.length ≤ 2000 ∧ SlI done vn S ∧ f 0 = .yield l ∧ f 1 = .nptr c1 0 ∧ L = lpS l .ready 22 _ 29 #[15, 16] _ _ d :: dfS d :: cel c5 23 vn :: cel c1 22 v' :: S) cs.length (show cs.length < 1000000 by omega) ⟨rfl, [], cs, v, _, [], Nat.le_refl _, rfl, hr, hl, .inl ⟨rfl, rfl, rfl⟩, rfl, rfl, rfl⟩ fun r f L df hI => ?_
    obtain ⟨rfl, done, cs', v', vn, S, hrr, hdone, hr', hl', hB, q0, q1, rfl⟩ := hI
    obtain ⟨g2, rfl⟩ := upd2 q0 q1
    clear q0 q1
    repeat (first
     | refine J_seq ?_
     | refine J_region ?_
     | refine O_cons (S_load 3 rfl rfl rfl rfl rfl rfl rfl rfl rfl rfl ?_))
    refine O_cons (S_lenR hr' rfl rfl rfl rfl rfl rfl rfl rfl rfl rfl ?_)
    repeat (first
     | refine O_nil ?_
     | refine O_cons (S_pure (v := .bool _) rfl rfl rfl rfl (fun _ => rfl) ?_))
    refine J_cond _ rfl (fun hc => ?_) (fun hc => ?_)
    rotate_left
    · have hn : cs' = [] := by
        have : ¬ (0 : Int) < cs'.length := of_decide_eq_false hc
        exact List.eq_nil_of_length_eq_zero (by omega)
      subst hn
      rw [runsL_nil, List.append_nil] at hdone
      subst hdone
      repeat (refine J_exit ?_)
      exact ret_tmp (v := .tup []) (.inl rfl) (fun _ => rfl) ⟨_, rfl, vn, v', S, hB, rfl⟩
    have hpos : 0 < cs'.length := by
      have : (0 : Int) < cs'.length := of_decide_eq_true hc
      omega
    obtain ⟨c0, l0, rfl⟩ : ∃ c0 l0, cs' = c0 :: l0 := List.exists_cons_of_length_pos hpos
    clear hc
    have hdlen : done.length ≤ 6000 := by
      have := congrArg List.length hdone
      simp only [List.length_append] at this
      omega
    repeat (first
     | refine J_seq ?_
     | refine J_region ?_
     | refine J_skip ?_
     | refine O_nil ?_
     | refine J_block ?_
     | refine O_cons (S_pure (v := .int _ _) rfl rfl rfl rfl (fun _ => rfl) ?_))
    refine J_midL (fun e f' => e = .exit 2 ∧ f' 0 = .yield l ∧ f' 1 = .nptr c1 0 ∧ f' 3 = .int .i64 ((runLen c0 l0 + 1 : Nat) : Int)) ?_ (fun e f' hM => ?_)
    · refine J_loopL (I := fun r f => ∃ m : Nat, r + m = l0.length + 1 ∧ 1 ≤ m ∧ f 0 = .yield l ∧ f 1 = .nptr c1 0 ∧ f 3 = .int .i64 (m : Int) ∧ ∀ j, j + 1 < m → l0[j]? = some c0) l0.length (show l0.length < 1000000 by simp at hl'; omega) ⟨1, rfl, Nat.le_refl _, rfl, rfl, rfl, fun j hj => by omega⟩ fun r f hI => ?_
      obtain ⟨m, hrm, hm1, q0, q1, q3, hall⟩ := hI
      obtain ⟨g3, rfl⟩ := upd3 q0 q1 q3
      clear q0 q1 q3
      repeat (refine J_seq ?_)
      refine J_draw0 (l := [⟨0, []⟩, ⟨1, []⟩, ⟨2, []⟩, ⟨3, []⟩, ⟨4, []⟩, ⟨5, []⟩, ⟨6, []⟩, ⟨7, []⟩, ⟨8, []⟩, ⟨9, []⟩, ⟨10, []⟩, ⟨11, []⟩, ⟨12, []⟩, ⟨13, []⟩]) (by kernel_rfl) ?_
      repeat (first
       | refine P0_cons rfl (S_pure (v := .int _ _) rfl rfl rfl rfl (fun _ => rfl) ?_)
       | refine P0_cons rfl (S_load 3 rfl rfl rfl rfl rfl rfl rfl rfl rfl rfl ?_))
      refine P0_cons rfl (S_lenR hr' rfl rfl rfl rfl rfl rfl rfl rfl rfl rfl ?_)
      repeat (refine P0_cons rfl (S_pure (v := .bool _) rfl rfl rfl rfl (fun _ => rfl) ?_))
      refine P0_guard rfl rfl rfl rfl (fun h1 => ?_) (fun h1 => ?_)
      rotate_left
      · have hme : m = l0.length + 1 := by
          have : ¬ (m : Int) < ((c0 :: l0).length : Nat) := of_decide_eq_false h1
          simp only [List.length_cons] at this
          omega
        repeat (first
         | refine P0_nil ?_
         | refine P0_cons rfl (S_pure (v := .bool _) rfl rfl rfl rfl (fun _ => rfl) ?_)
         | refine P0_cons rfl (S_off rfl rfl rfl rfl ?_))
        skip
        refine J_condF rfl ?_
        repeat (refine J_exit ?_)
        refine ⟨rfl, rfl, rfl, rfl, rfl, ?_⟩
        show AV.int .i64 (m : Int) = _
        rw [runLen_eq c0 l0 l0.length (fun j hj => hall j (by omega)) (by simp), hme]
      have hmlt : m < l0.length + 1 := by
        have : (m : Int) < ((c0 :: l0).length : Nat) := of_decide_eq_true h1
        simp only [List.length_cons] at this
        omega
      have hg : (c0 :: l0)[m]? = some l0[m - 1] := by
        obtain ⟨m, rfl⟩ : ∃ m', m = m' + 1 := ⟨m - 1, by omega⟩
        simp only [List.getElem?_cons_succ, Nat.add_sub_cancel]
        exact List.getElem?_eq_getElem (by omega)
      repeat (first
       | refine P0_cons rfl (S_pure (v := .int _ _) rfl rfl rfl rfl (fun _ => rfl) ?_)
       | refine P0_cons rfl (S_load 3 rfl rfl rfl rfl rfl rfl rfl rfl rfl rfl ?_))
      refine P0_cons rfl (S_elemR hr' rfl rfl rfl rfl rfl rfl rfl rfl rfl rfl (ix := m) (by simp; omega) ?_)
      refine P0_cons rfl (S_loadR rfl hr' holds_at rfl rfl rfl rfl rfl rfl rfl rfl rfl (cellsC_get hg) ?_)
      repeat (refine P0_cons rfl (S_load 3 rfl rfl rfl rfl rfl rfl rfl rfl rfl rfl ?_))
      refine P0_cons rfl (S_elemR hr' rfl rfl rfl rfl rfl rfl rfl rfl rfl rfl (ix := 0) (by simp) ?_)
      refine P0_cons rfl (S_loadR rfl hr' holds_at rfl rfl rfl rfl rfl rfl rfl rfl rfl (cellsC_get (k := 0) (c := c0) rfl) ?_)
      refine P0_cons rfl (S_bin (a := chV l0[m - 1]) (b := chV c0) rfl rfl rfl rfl rfl rfl rfl (eql_ch _ _ _ _) ?_)
      repeat (first
       | refine P0_nil ?_
       | refine P0_cons rfl (S_pure (v := .bool _) rfl rfl rfl rfl (fun _ => rfl) ?_))
      skip
      refine J_cond _ rfl (fun h2 => ?_) (fun h2 => ?_)
      · have h2' : l0[m - 1] = c0 := of_decide_eq_true h2
        obtain ⟨r, rfl⟩ : ∃ r', r = r' + 1 := ⟨r - 1, by omega⟩
        repeat (first
         | refine J_region ?_
         | refine J_skip ?_
         | refine O_nil ?_
         | refine J_block ?_
         | refine O_cons (S_pure (v := .int _ _) rfl rfl rfl rfl (fun _ => rfl) ?_))
        refine ⟨rfl, rfl, r, rfl, m + 1, by omega, by omega, rfl, rfl, ?_, fun j hj => ?_⟩
        · show AV.int .i64 (wrapF .i64 ((m : Int) + 1)) = _
          simp only [List.length_cons] at hl'
          rw [wrap_small (by omega) (by omega)]; rfl
        · by_cases hj' : j + 1 < m
          · exact hall j hj'
          · have : j = m - 1 := by omega
            subst this
            rw [← h2']
            exact List.getElem?_eq_getElem (by omega)
      · have h2' : l0[m - 1] ≠ c0 := of_decide_eq_false h2
        repeat (refine J_exit ?_)
        refine ⟨rfl, rfl, rfl, rfl, rfl, ?_⟩
        show AV.int .i64 (m : Int) = _
        rw [runLen_eq c0 l0 (m - 1) (fun j hj => hall j (by omega)) (by rw [List.getElem?_eq_getElem (by omega)]; simpa using h2')]
        congr 1
        omega
    obtain ⟨rfl, q0, q1, q3⟩ := hM
    obtain ⟨g3, rfl⟩ := upd3 q0 q1 q3
    clear q0 q1 q3
    have hle := runLen_le c0 l0
    simp only [List.length_cons] at hl' hrr
    have hd2 : done ++ [((runLen c0 l0 + 1 : Nat) : Int), c0.1, c0.2] ++ runsL (l0.drop (runLen c0 l0)) = runsL cs := by
      rw [← hdone, runsL_cons, List.append_assoc]; rfl
    generalize hmE : runLen c0 l0 + 1 = m at *
    repeat (first
     | refine J_seq ?_
     | refine J_region ?_
     | refine O_cons (S_pure (v := .int _ _) rfl rfl rfl rfl (fun _ => rfl) ?_)
     | refine O_cons (S_pure (v := .yield _) rfl rfl rfl rfl (fun _ => rfl) ?_)
     | refine O_cons (S_load 3 rfl rfl rfl rfl rfl rfl rfl rfl rfl rfl ?_))
    refine O_cons (S_elemR hr' rfl rfl rfl rfl rfl rfl rfl rfl rfl rfl (ix := 0) (by simp) ?_)
    refine O_cons (S_loadR rfl hr' holds_at rfl rfl rfl rfl rfl rfl rfl rfl rfl (cellsC_get (k := 0) (c := c0) rfl) ?_)
    refine O_cons (S_yield (n := N) (args := [.int .i64 (m : Int), chV c0]) (fun L2 => ∃ vn2 S2, SlI (done ++ [(m : Int), c0.1, c0.2]) vn2 S2 ∧ L2 = dfS d :: cel c5 23 vn2 :: cel c1 22 v' :: S2) rfl rfl rfl rfl rfl (fun _ => rfl) rfl rfl rfl ?_ fun L2 hP => ?_)
    · rcases hB with ⟨rfl, rfl, rfl⟩ | ⟨hne, bb, g0, G0, sh, rfl, rfl⟩
      · skip
        repeat (first
         | refine J_seq ?_
         | refine J_region ?_
         | refine O_nil ?_
         | refine O_cons (S_pure (v := .int _ _) rfl rfl rfl rfl (fun _ => rfl) ?_))
        refine O_cons (S_alloc rfl rfl rfl rfl rfl (z := [.int .i64 0, .int .i64 0]) rfl fun c7 => ?_)
        repeat (first
         | refine O_nil ?_
         | refine O_cons (S_storeW 4 rfl rfl rfl rfl rfl rfl rfl rfl rfl rfl ?_))
        refine ⟨rfl, rfl, _, rfl, ?_⟩
        repeat (first
         | refine J_region ?_
         | refine J_block ?_
         | refine O_cons (S_field0 rfl rfl rfl rfl rfl rfl rfl rfl rfl ?_)
         | refine O_cons (S_pure (v := .int _ _) rfl rfl rfl rfl (fun _ => rfl) ?_)
         | refine O_cons (S_load 2 rfl rfl rfl rfl rfl rfl rfl rfl rfl rfl ?_)
         | refine O_cons (S_load 4 rfl rfl rfl rfl rfl rfl rfl rfl rfl rfl ?_))
        refine O_cons (S_bs3 rfl rfl rfl rfl rfl (a := .int _ _) (b := .int _ _) (c := .int _ _) rfl rfl rfl rfl rfl rfl rfl rfl rfl rfl fun sr => ?_)
        refine O_cons (S_app0 (n := 3) rfl rfl rfl rfl rfl rfl rfl rfl rfl rfl rfl rfl rfl rfl rfl (Src.row (p := 5) rfl rfl rfl) (by decide) (show (3 * 3 + 4096) * 8 ≤ 100000000000000 by decide) fun j => ?_)
        refine O_erase 4 (O_erase 4 ?_)
        repeat (first
         | refine O_nil ?_
         | refine O_cons (S_store1 2 (v := .nslc _ _ _ _) rfl rfl rfl rfl rfl rfl rfl rfl rfl rfl rfl ?_))
        exact ⟨rfl, rfl, _, rfl, _, _, .inr ⟨by simp, j, j, 0, false, rfl, rfl⟩, rfl⟩
      · skip
        repeat (first
         | refine J_seq ?_
         | refine J_region ?_
         | refine O_nil ?_
         | refine O_cons (S_pure (v := .int _ _) rfl rfl rfl rfl (fun _ => rfl) ?_))
        refine O_cons (S_alloc rfl rfl rfl rfl rfl (z := [.int .i64 0, .int .i64 0]) rfl fun c7 => ?_)
        repeat (first
         | refine O_nil ?_
         | refine O_cons (S_storeW 5 rfl rfl rfl rfl rfl rfl rfl rfl rfl rfl ?_))
        refine ⟨rfl, rfl, _, rfl, ?_⟩
        repeat (first
         | refine J_region ?_
         | refine J_block ?_
         | refine O_cons (S_field0 rfl rfl rfl rfl rfl rfl rfl rfl rfl ?_)
         | refine O_cons (S_pure (v := .int _ _) rfl rfl rfl rfl (fun _ => rfl) ?_)
         | refine O_cons (S_load 2 rfl rfl rfl rfl rfl rfl rfl rfl rfl rfl ?_)
         | refine O_cons (S_load 5 rfl rfl rfl rfl rfl rfl rfl rfl rfl rfl ?_))
        refine O_cons (S_bs3 rfl rfl rfl rfl rfl (a := .int _ _) (b := .int _ _) (c := .int _ _) rfl rfl rfl rfl rfl rfl rfl rfl rfl rfl fun sr => ?_)
        refine O_cons (S_appB 4 (k := done.length) (n := 3) rfl rfl rfl rfl rfl rfl rfl rfl rfl rfl rfl rfl rfl rfl rfl (show (intsV done).length = done.length * 1 by simp [intsV]) rfl (Src.row (p := 6) rfl rfl rfl) (by decide) (Nat.zero_le _) (show (3 * (done.length + 3) + 4096) * 8 ≤ 100000000000000 by omega) fun j G => ?_)
        refine O_erase 4 (O_erase 4 ?_)
        repeat (first
         | refine O_nil ?_
         | refine O_cons (S_store1 2 (v := .nslc _ _ _ _) rfl rfl rfl rfl rfl rfl rfl rfl rfl rfl rfl ?_))
        refine ⟨rfl, rfl, _, rfl, _, _, .inr ⟨by simp, j, g0, G, true, ?_, ?_⟩, rfl⟩
        · show AV.nslc j 0 (done.length + 3) none = _
          simp
        · simp [intsV]
    · obtain ⟨vn2, S2, hB2, rfl⟩ := hP
      repeat (first
       | refine O_nil ?_
       | refine O_cons (S_pure (v := .bool _) rfl rfl rfl rfl (fun _ => rfl) ?_))
      refine J_condF rfl ?_
      repeat (first
       | refine J_region ?_
       | refine J_skip ?_
       | refine O_cons (S_pure (v := .int _ _) rfl rfl rfl rfl (fun _ => rfl) ?_)
       | refine O_cons (S_load 3 rfl rfl rfl rfl rfl rfl rfl rfl rfl rfl ?_))
      refine O_cons (S_sliceR hr' holds_at rfl rfl rfl rfl rfl rfl rfl rfl (by decide) rfl (bounds_lo (a := m) (by simp; omega)) fun v2 hr2 => ?_)
      refine O_cons (S_storeR 3 hr2 rfl rfl rfl rfl rfl rfl rfl rfl rfl rfl ?_)
      repeat (refine O_nil ?_)
      have e1 : (c0 :: l0).length - m = (l0.drop (m - 1)).length := by simp; omega
      have e2 : ((cellsC (c0 :: l0)).drop (m * 2)).take (((c0 :: l0).length - m) * 2) = cellsC (l0.drop (m - 1)) := by
        rw [cellsC_drop, cellsC_take]
        obtain ⟨m, rfl⟩ : ∃ m', m = m' + 1 := ⟨m - 1, by omega⟩
        rw [List.drop_succ_cons, Nat.add_sub_cancel, List.take_of_length_le (by simp)]
      have hr3 : RdC old (AtO H []) v2 (l0.drop (m - 1)) := by
        have := hr2
        rw [e2, e1] at this
        exact this
      obtain ⟨r, rfl⟩ : ∃ r', r = r' + 1 := ⟨r - 1, by omega⟩
      refine ⟨r, rfl, rfl, done ++ [(m : Int), c0.1, c0.2], l0.drop (m - 1), v2, vn2, S2, ?_, ?_, hr3, ?_, hB2, rfl, rfl, rfl⟩
      · simp; omega
      · rw [← hd2, show m - 1 = runLen c0 l0 by omega]
      · simp; omega
  · obtain ⟨vn, vl, S, hB, rfl⟩ := hP
    repeat (first
     | refine J_seq ?_
     | refine J_region ?_
     | refine O_cons (S_load 1 rfl rfl rfl rfl rfl rfl rfl rfl rfl rfl ?_))
    refine O_cons (S_callI rfl rfl rfl rfl (fun _ => rfl) rfl (i_List hTL hTc hTb hTw hTbs hTf hTi hTd hTd1 (runsL cs) vn S [dfS d, cel c5 23 vn, cel c1 22 vl] hB hfit (by omega)) (by omega) (List.perm_append_comm (l₁ := [dfS d, cel c5 23 vn, cel c1 22 vl]) (l₂ := S)) fun v' L' hP => ?_)
    obtain ⟨rfl, rfl⟩ := hP
    refine O_perm (List.perm_append_comm (l₁ := S)) ?_
    repeat (first
     | refine O_nil ?_
     | refine J_ret ?_
     | refine O_cons (S_pure (v := .int _ _) rfl rfl rfl rfl (fun _ => rfl) ?_)
     | refine O_cons (S_pure (v := .str _) rfl rfl rfl rfl (fun _ => rfl) ?_))
    exact end_coll (.inr rfl) (fun _ _ => rfl) fun H' hH' => ⟨rfl, hH'.fr⟩
end Go.Proofs.Aw
