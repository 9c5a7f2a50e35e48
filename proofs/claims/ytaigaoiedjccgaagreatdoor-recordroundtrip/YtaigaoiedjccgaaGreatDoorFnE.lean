/-
  What some of the program functions compute, walked once. For the arguments that each theorem names.
-/
import Derived.Test.YtaigaoiedjccgaaGreatDoorFnD
import Derived.Test.YtaigaoiedjccgaaGreatDoorSyC
set_option linter.unusedVariables false
set_option linter.unusedSimpArgs false

set_option maxRecDepth 100000
set_option maxHeartbeats 4000000
namespace Go.Proofs.Aw
open Go Go.Ev
variable {old : Nat → Nat → Option AV}

/-- A strings.Builder, at the head of an object. -/
abbrev bld (i e : Nat) (a v : AV) (tail : List AV) : Slot := ⟨i, true, true, .row (a :: v :: tail) i 0 false false 0 e true false⟩

def PA (i : Nat) (a : AV) : Prop := a = .raw (.pointer none) ∨ a = .nptr i 0

def LiesB (e : Nat) (tail : List AV) : Prop := liesAt Tryz.prog Tryz.prog.depth e ((tail.length + 1 + 1) / Tryz.prog.cellsOf e) 0 97 1 = true

theorem neq_self (i : Nat) (cx cy : Bool) : binF (CX old) .neq 95 cx cy (.nptr i 0) (.nptr i 0) = some (.bool false) := by
  have h : Nat.beq i i = true := by simp
  show ((match Nat.beq i i, tiOf (CX old).P 97 with | true, some ti => (match Nat.beq ti.size 0 with | true => none | false => some (Nat.beq 0 0)) | _, _ => none : Option Bool).map fun r => AV.bool !r) = _
  rw [h]; rfl

theorem i_copyCheck {T : List Entry} (hT : hasF 81 T = false) (i e : Nat) (a v : AV) (tail : List AV) (rest : Kn) (ha : PA i a) (hl : LiesB e tail) :
    Inn T (CX old) MM 1 81 [.nptr i 0] (bld i e a v tail :: rest) (fun v' L' => v' = .tup [] ∧ L' = bld i e (.nptr i 0) v tail :: rest) := by
  refine inn_fn (nt := 20) hT Tryz.func81 rfl rfl rfl fun N H0 Wr hN => ?_
  rcases ha with rfl | rfl
  · skip
    repeat (first
     | refine J_seq ?_
     | refine J_region ?_
     | refine O_nil ?_
     | refine O_cons (S_field0 rfl rfl rfl rfl rfl rfl rfl rfl rfl ?_)
     | refine O_cons (S_pure (v := .bool _) rfl rfl rfl rfl (fun _ => rfl) ?_)
     | refine O_cons (S_pure (v := .nptr _ _) rfl rfl rfl rfl (fun _ => rfl) ?_)
     | refine O_cons (S_load 0 rfl rfl rfl rfl rfl rfl rfl rfl rfl rfl ?_))
    refine J_condT rfl ?_
    repeat (first
     | refine J_region ?_
     | refine O_cons (S_pure (v := .nptr _ _) rfl rfl rfl rfl (fun _ => rfl) ?_))
    refine O_cons (S_unsafe 0 rfl rfl rfl rfl rfl rfl rfl rfl rfl rfl rfl ?_)
    repeat (refine O_cons (S_pure (v := .nptr _ _) rfl rfl rfl rfl (fun _ => rfl) ?_))
    refine O_cons (S_safe 0 rfl rfl rfl rfl rfl rfl rfl rfl rfl rfl rfl hl ?_)
    repeat (first
     | refine O_nil ?_
     | refine O_cons (S_field0 rfl rfl rfl rfl rfl rfl rfl rfl rfl ?_)
     | refine O_cons (S_pure (v := .nptr _ _) rfl rfl rfl rfl (fun _ => rfl) ?_)
     | refine O_cons (S_store1 0 (v := .nptr _ _) rfl rfl rfl rfl rfl rfl rfl rfl rfl rfl rfl ?_))
    exact ret_tmp (v := .tup []) (.inl rfl) (fun _ => rfl) ⟨rfl, rfl⟩
  · skip
    repeat (first
     | refine J_seq ?_
     | refine J_region ?_
     | refine O_nil ?_
     | refine O_cons (S_field0 rfl rfl rfl rfl rfl rfl rfl rfl rfl ?_)
     | refine O_cons (S_pure (v := .bool _) rfl rfl rfl rfl (fun _ => rfl) ?_)
     | refine O_cons (S_pure (v := .nptr _ _) rfl rfl rfl rfl (fun _ => rfl) ?_)
     | refine O_cons (S_load 0 rfl rfl rfl rfl rfl rfl rfl rfl rfl rfl ?_))
    refine J_condF rfl ?_
    repeat (first
     | refine J_seq ?_
     | refine J_region ?_
     | refine O_cons (S_field0 rfl rfl rfl rfl rfl rfl rfl rfl rfl ?_)
     | refine O_cons (S_pure (v := .nptr _ _) rfl rfl rfl rfl (fun _ => rfl) ?_)
     | refine O_cons (S_load 0 rfl rfl rfl rfl rfl rfl rfl rfl rfl rfl ?_))
    refine O_cons (S_bin (a := .nptr i 0) (b := .nptr i 0) rfl rfl rfl rfl rfl rfl rfl (neq_self i _ _) ?_)
    repeat (refine O_nil ?_)
    refine J_condF rfl ?_
    repeat (refine J_skip ?_)
    exact ret_tmp (v := .tup []) (.inl rfl) (fun _ => rfl) ⟨rfl, rfl⟩

theorem i_WriteString {T : List Entry} (hTc : hasF 81 T = false) (hT : hasF 43 T = false) (i e : Nat) (a v : AV) (tail : List AV) (S rest : Kn) (done x : List UInt8) (ha : PA i a) (hl : LiesB e tail) (hB : BufT done v S) (hx : x ≠ []) (hlen : done.length + x.length ≤ 1000000) :
    Inn T (CX old) MM 2 43 [.nptr i 0, .str x] (bld i e a v tail :: (S ++ rest)) (fun v' L' => v' = .tup [.int .i64 x.length, .raw .nilIface] ∧ ∃ w S', BufT (done ++ x) w S' ∧ L'.Perm (bld i e (.nptr i 0) w tail :: (S' ++ rest))) := by
  have hx0 : x.length ≠ 0 := fun h => hx (List.eq_nil_of_length_eq_zero h)
  refine inn_fn (nt := 19) hT Tryz.func43 rfl rfl rfl fun N H0 Wr hN => ?_
  repeat (first
   | refine J_seq ?_
   | refine J_region ?_
   | refine O_nil ?_
   | refine O_cons (S_pure (v := .int _ _) rfl rfl rfl rfl (fun _ => rfl) ?_)
   | refine O_cons (S_pure (v := .nptr _ _) rfl rfl rfl rfl (fun _ => rfl) ?_)
   | refine O_cons (S_pure (v := .raw _) rfl rfl rfl rfl (fun _ => rfl) ?_))
  refine O_cons (S_callI rfl rfl rfl rfl (fun _ => rfl) rfl (i_copyCheck hTc i e a v tail (S ++ rest) ha hl) hN (List.Perm.refl _) fun v' L' hP => ?_)
  obtain ⟨rfl, rfl⟩ := hP
  rcases hB with ⟨rfl, rfl, rfl⟩ | ⟨hne, bb, g0, G0, sh, rfl, rfl⟩
  · skip
    repeat (first
     | refine J_seq ?_
     | refine J_region ?_
     | refine O_nil ?_
     | refine O_cons (S_field0 rfl rfl rfl rfl rfl rfl rfl rfl rfl ?_)
     | refine O_cons (S_pure (v := .str _) rfl rfl rfl rfl (fun _ => rfl) ?_)
     | refine O_cons (S_pure (v := .nptr _ _) rfl rfl rfl rfl (fun _ => rfl) ?_)
     | refine O_cons (S_load 0 rfl rfl rfl rfl rfl rfl rfl rfl rfl rfl ?_))
    refine O_cons (S_app0 (n := x.length) (new := bytesV x) rfl rfl rfl rfl rfl rfl rfl rfl rfl rfl rfl rfl rfl rfl rfl Src.str hx0 (show (3 * x.length + 4096) * 1 ≤ 100000000000000 by omega) fun j => ?_)
    repeat (first
     | refine J_seq ?_
     | refine J_region ?_
     | refine O_nil ?_
     | refine J_ret ?_
     | refine O_cons (S_field0 rfl rfl rfl rfl rfl rfl rfl rfl rfl ?_)
     | refine O_cons (S_pure (v := .int _ _) rfl rfl rfl rfl (fun _ => rfl) ?_)
     | refine O_cons (S_pure (v := .str _) rfl rfl rfl rfl (fun _ => rfl) ?_)
     | refine O_cons (S_pure (v := .nptr _ _) rfl rfl rfl rfl (fun _ => rfl) ?_)
     | refine O_cons (S_pure (v := .raw _) rfl rfl rfl rfl (fun _ => rfl) ?_)
     | refine O_cons (S_store1 0 (v := .nslc _ _ _ _) rfl rfl rfl rfl rfl rfl rfl rfl rfl rfl rfl ?_))
    refine ret_tmp (v := .tup _) (.inr rfl) (fun _ => rfl) ⟨rfl, _, [⟨j, true, true, .row (bytesV x) j 0 false false 0 5 false false⟩], .inr ⟨by simpa using hx, j, j, 0, false, rfl, rfl⟩, ?_⟩
    exact List.Perm.cons _ (List.perm_append_comm (l₁ := rest))
  · skip
    repeat (first
     | refine J_seq ?_
     | refine J_region ?_
     | refine O_nil ?_
     | refine O_cons (S_field0 rfl rfl rfl rfl rfl rfl rfl rfl rfl ?_)
     | refine O_cons (S_pure (v := .str _) rfl rfl rfl rfl (fun _ => rfl) ?_)
     | refine O_cons (S_pure (v := .nptr _ _) rfl rfl rfl rfl (fun _ => rfl) ?_)
     | refine O_cons (S_load 0 rfl rfl rfl rfl rfl rfl rfl rfl rfl rfl ?_))
    refine O_cons (S_appB 1 (k := done.length) (n := x.length) (new := bytesV x) rfl rfl rfl rfl rfl rfl rfl rfl rfl rfl rfl rfl rfl rfl rfl (show (bytesV done).length = done.length * 1 by simp [bytesV]) rfl Src.str hx0 (Nat.zero_le _) (show (3 * (done.length + x.length) + 4096) * 1 ≤ 100000000000000 by omega) fun j G => ?_)
    repeat (first
     | refine J_seq ?_
     | refine J_region ?_
     | refine O_nil ?_
     | refine J_ret ?_
     | refine O_cons (S_field0 rfl rfl rfl rfl rfl rfl rfl rfl rfl ?_)
     | refine O_cons (S_pure (v := .int _ _) rfl rfl rfl rfl (fun _ => rfl) ?_)
     | refine O_cons (S_pure (v := .str _) rfl rfl rfl rfl (fun _ => rfl) ?_)
     | refine O_cons (S_pure (v := .nptr _ _) rfl rfl rfl rfl (fun _ => rfl) ?_)
     | refine O_cons (S_pure (v := .raw _) rfl rfl rfl rfl (fun _ => rfl) ?_)
     | refine O_cons (S_store1 0 (v := .nslc _ _ _ _) rfl rfl rfl rfl rfl rfl rfl rfl rfl rfl rfl ?_))
    refine ret_tmp (v := .tup _) (.inr rfl) (fun _ => rfl) ⟨rfl, .nslc j 0 (done.length + x.length) none, [⟨j, true, true, .row (bytesV done ++ bytesV x) g0 G true false 0 5 false false⟩], .inr ⟨by simp [hne], j, g0, G, true, ?_, ?_⟩, ?_⟩
    rotate_left
    · simp [bytesV]
    · exact List.Perm.cons _ (List.perm_append_comm (l₁ := rest))
    · simp
end Go.Proofs.Aw

set_option maxRecDepth 100000
set_option maxHeartbeats 4000000
namespace Go.Proofs.Aw
open Go Go.Ev
variable {old : Nat → Nat → Option AV}

theorem i_WriteByte {T : List Entry} (hTc : hasF 81 T = false) (hT : hasF 86 T = false) (i e : Nat) (a v : AV) (tail : List AV) (S rest : Kn) (done : List UInt8) (x : UInt8) (ha : PA i a) (hl : LiesB e tail) (hB : BufT done v S) (hlen : done.length ≤ 1000000) :
    Inn T (CX old) MM 2 86 [.nptr i 0, .int .u8 x.toNat] (bld i e a v tail :: (S ++ rest)) (fun v' L' => v' = .raw .nilIface ∧ ∃ w S', BufT (done ++ [x]) w S' ∧ S' ≠ [] ∧ L' = bld i e (.nptr i 0) w tail :: (S' ++ rest)) := by
  refine inn_fn (nt := 17) hT Tryz.func86 rfl rfl rfl fun N H0 Wr hN => ?_
  repeat (first
   | refine J_seq ?_
   | refine J_region ?_
   | refine O_nil ?_
   | refine O_cons (S_pure (v := .nptr _ _) rfl rfl rfl rfl (fun _ => rfl) ?_)
   | refine O_cons (S_pure (v := .raw _) rfl rfl rfl rfl (fun _ => rfl) ?_))
  refine O_cons (S_callI rfl rfl rfl rfl (fun _ => rfl) rfl (i_copyCheck hTc i e a v tail (S ++ rest) ha hl) hN (List.Perm.refl _) fun v' L' hP => ?_)
  obtain ⟨rfl, rfl⟩ := hP
  rcases hB with ⟨rfl, rfl, rfl⟩ | ⟨hne, bb, g0, G0, sh, rfl, rfl⟩
  · skip
    repeat (first
     | refine J_seq ?_
     | refine J_region ?_
     | refine O_nil ?_
     | refine O_cons (S_field0 rfl rfl rfl rfl rfl rfl rfl rfl rfl ?_)
     | refine O_cons (S_pure (v := .int _ _) rfl rfl rfl rfl (fun _ => rfl) ?_)
     | refine O_cons (S_pure (v := .nptr _ _) rfl rfl rfl rfl (fun _ => rfl) ?_)
     | refine O_cons (S_load 0 rfl rfl rfl rfl rfl rfl rfl rfl rfl rfl ?_))
    refine O_cons (S_bs1 rfl rfl rfl rfl rfl (v := .int _ _) rfl rfl rfl rfl rfl rfl fun sr => ?_)
    refine O_perm (List.perm_append_comm) ?_
    refine O_cons (S_app0 (n := 1) (new := bytesV [x]) rfl rfl rfl rfl rfl rfl rfl rfl rfl rfl rfl rfl rfl rfl rfl (Src.row (p := 0) rfl rfl rfl) (by decide) (show (3 * 1 + 4096) * 1 ≤ 100000000000000 by omega) fun j => ?_)
    refine O_erase 0 ?_
    repeat (first
     | refine J_seq ?_
     | refine J_region ?_
     | refine O_nil ?_
     | refine J_ret ?_
     | refine O_cons (S_field0 rfl rfl rfl rfl rfl rfl rfl rfl rfl ?_)
     | refine O_cons (S_pure (v := .nptr _ _) rfl rfl rfl rfl (fun _ => rfl) ?_)
     | refine O_cons (S_pure (v := .raw _) rfl rfl rfl rfl (fun _ => rfl) ?_)
     | refine O_cons (S_store1 0 (v := .nslc _ _ _ _) rfl rfl rfl rfl rfl rfl rfl rfl rfl rfl rfl ?_))
    exact ret_tmpP (v := .raw .nilIface) (bld i e (.nptr i 0) (.nslc j 0 1 none) tail :: ⟨j, true, true, .row (bytesV [x]) j 0 false false 0 5 false false⟩ :: rest) (List.Perm.cons _ (List.perm_append_comm (l₁ := rest))) (.inr rfl) (fun _ => rfl) ⟨rfl, _, _, .inr ⟨by simp, j, j, 0, false, rfl, rfl⟩, by simp, rfl⟩
  · skip
    repeat (first
     | refine J_seq ?_
     | refine J_region ?_
     | refine O_nil ?_
     | refine O_cons (S_field0 rfl rfl rfl rfl rfl rfl rfl rfl rfl ?_)
     | refine O_cons (S_pure (v := .int _ _) rfl rfl rfl rfl (fun _ => rfl) ?_)
     | refine O_cons (S_pure (v := .nptr _ _) rfl rfl rfl rfl (fun _ => rfl) ?_)
     | refine O_cons (S_load 0 rfl rfl rfl rfl rfl rfl rfl rfl rfl rfl ?_))
    refine O_cons (S_bs1 rfl rfl rfl rfl rfl (v := .int _ _) rfl rfl rfl rfl rfl rfl fun sr => ?_)
    refine O_perm (List.perm_append_comm) ?_
    refine O_cons (S_appB 2 (k := done.length) (n := 1) (new := bytesV [x]) rfl rfl rfl rfl rfl rfl rfl rfl rfl rfl rfl rfl rfl rfl rfl (show (bytesV done).length = done.length * 1 by simp [bytesV]) rfl (Src.row (p := 0) rfl rfl rfl) (by decide) (Nat.zero_le _) (show (3 * (done.length + 1) + 4096) * 1 ≤ 100000000000000 by omega) fun j G => ?_)
    refine O_erase 0 ?_
    repeat (first
     | refine J_seq ?_
     | refine J_region ?_
     | refine O_nil ?_
     | refine J_ret ?_
     | refine O_cons (S_field0 rfl rfl rfl rfl rfl rfl rfl rfl rfl ?_)
     | refine O_cons (S_pure (v := .nptr _ _) rfl rfl rfl rfl (fun _ => rfl) ?_)
     | refine O_cons (S_pure (v := .raw _) rfl rfl rfl rfl (fun _ => rfl) ?_)
     | refine O_cons (S_store1 0 (v := .nslc _ _ _ _) rfl rfl rfl rfl rfl rfl rfl rfl rfl rfl rfl ?_))
    refine ret_tmpP (v := .raw .nilIface) (bld i e (.nptr i 0) (.nslc j 0 (done.length + 1) none) tail :: ⟨j, true, true, .row (bytesV done ++ bytesV [x]) g0 G true false 0 5 false false⟩ :: rest) (List.Perm.cons _ (List.perm_append_comm (l₁ := rest))) (.inr rfl) (fun _ => rfl) ⟨rfl, .nslc j 0 (done.length + 1) none, [⟨j, true, true, .row (bytesV done ++ bytesV [x]) g0 G true false 0 5 false false⟩], .inr ⟨by simp, j, g0, G, true, ?_, ?_⟩, by simp, rfl⟩
    · simp
    · simp [bytesV]

theorem i_BString {T : List Entry} (hT : hasF 42 T = false) (i e : Nat) (a v : AV) (tail : List AV) (S rest : Kn) (done : List UInt8) (hB : BufT done v S) (hne : done ≠ []) (hlen : done.length ≤ 1000000) :
    Inn T (CX old) MM 1 42 [.nptr i 0] (bld i e a v tail :: (S ++ rest)) (fun v' L' => v' = .str done ∧ L' = rest) := by
  rcases hB with ⟨rfl, _⟩ | ⟨_, bb, g0, G0, sh, rfl, rfl⟩
  · exact absurd rfl hne
  have hd0 : done.length ≠ 0 := fun h => hne (List.eq_nil_of_length_eq_zero h)
  refine inn_fn (nt := 14) hT Tryz.func42 rfl rfl rfl fun N H0 Wr hN => ?_
  repeat (first
   | refine J_seq ?_
   | refine J_region ?_
   | refine O_nil ?_
   | refine O_cons (S_pure (v := .str _) rfl rfl rfl rfl (fun _ => rfl) ?_))
  refine J_draw0 (l := [⟨0, []⟩, ⟨1, []⟩, ⟨2, []⟩, ⟨3, []⟩, ⟨4, []⟩, ⟨5, []⟩, ⟨6, []⟩, ⟨7, []⟩, ⟨8, []⟩, ⟨9, []⟩, ⟨10, []⟩, ⟨11, []⟩]) (by kernel_rfl) ?_
  repeat (first
   | refine P0_cons rfl (S_field0 rfl rfl rfl rfl rfl rfl rfl rfl rfl ?_)
   | refine P0_cons rfl (S_pure (v := .nptr _ _) rfl rfl rfl rfl (fun _ => rfl) ?_)
   | refine P0_cons rfl (S_load 0 rfl rfl rfl rfl rfl rfl rfl rfl rfl rfl ?_))
  refine P0_cons rfl (S_uData 1 rfl rfl rfl rfl rfl rfl rfl rfl rfl rfl (by simp [bytesV]; omega) ?_)
  repeat (first
   | refine P0_cons rfl (S_field0 rfl rfl rfl rfl rfl rfl rfl rfl rfl ?_)
   | refine P0_cons rfl (S_pure (v := .int _ _) rfl rfl rfl rfl (fun _ => rfl) ?_)
   | refine P0_cons rfl (S_pure (v := .nptr _ _) rfl rfl rfl rfl (fun _ => rfl) ?_)
   | refine P0_cons rfl (S_load 0 rfl rfl rfl rfl rfl rfl rfl rfl rfl rfl ?_))
  refine P0_cons rfl (S_uStr 1 rfl rfl rfl rfl rfl rfl rfl rfl rfl rfl rfl rfl rfl rfl hd0 (by omega) fun gg => ?_)
  repeat (first
   | refine P0_nil ?_
   | refine P0_cons rfl (S_pure (v := .str _) rfl rfl rfl rfl (fun _ => rfl) ?_))
  repeat (refine J_ret ?_)
  exact ret_tmpD rest (List.Sublist.cons _ (List.Sublist.cons _ (List.Sublist.refl _))) (.inr rfl) (fun _ => rfl) ⟨rfl, rfl⟩
end Go.Proofs.Aw

set_option maxRecDepth 100000
set_option maxHeartbeats 4000000
namespace Go.Proofs.Aw
open Go Go.Ev
variable {old : Nat → Nat → Option AV}

theorem perm_x (x b : Slot) (S r : Kn) : (x :: b :: (S ++ r)).Perm (b :: (S ++ x :: r)) :=
  (List.perm_middle (l₁ := b :: S) (l₂ := r) (a := x)).symm

theorem flat_len : ∀ ns : List Int, (ns.flatMap encInt).length ≤ 9 * ns.length
  | [] => Nat.le_refl _
  | n :: ns => by
    have := flat_len ns
    have := encInt_len n
    simp only [List.flatMap_cons, List.length_append, List.length_cons]
    omega

theorem liesB0 : LiesB 97 [] := by unfold LiesB; kernel_rfl

theorem i_List {T : List Entry} (hTL : hasF 48 T = false) (hTc : hasF 81 T = false) (hTb : hasF 86 T = false) (hTw : hasF 43 T = false) (hTs : hasF 42 T = false) (hT0 : hasF 83 T = false) (hT1 : hasF 84 T = false) (hT2 : hasF 155 T = false) (hT3 : hasF 284 T = false) (ns : List Int) (v : AV) (S rest : Kn) (hS : SlI ns v S) (hf : ∀ n ∈ ns, fitsI n) (hlen : ns.length ≤ 20000) :
    Inn T (CX old) MM 6 48 [v] (S ++ rest) (fun v' L' => v' = .tup [.str (encL ns), .int .i64 0] ∧ L' = S ++ rest) := by
  refine inn_fn (nt := 25) hTL Tryz.func48 rfl rfl rfl fun N H0 Wr hN => ?_
  rcases hS with ⟨rfl, rfl, rfl⟩ | ⟨hne, bb, g0, G0, sh, rfl, rfl⟩
  · skip
    repeat (first
     | refine J_seq ?_
     | refine J_region ?_
     | refine O_nil ?_
     | refine O_cons (S_pure (v := .int _ _) rfl rfl rfl rfl (fun _ => rfl) ?_)
     | refine O_cons (S_pure (v := .bool _) rfl rfl rfl rfl (fun _ => rfl) ?_)
     | refine O_cons (S_pure (v := .str _) rfl rfl rfl rfl (fun _ => rfl) ?_)
     | refine O_cons (S_pure (v := .raw _) rfl rfl rfl rfl (fun _ => rfl) ?_))
    refine J_condF rfl ?_
    repeat (first
     | refine J_seq ?_
     | refine J_region ?_
     | refine J_skip ?_)
    refine O_cons (S_alloc rfl rfl rfl rfl rfl (z := [.raw (.pointer none), .raw (.slice none 0 0)]) rfl fun i => ?_)
    refine O_perm (List.perm_append_comm) ?_
    repeat (first
     | refine J_seq ?_
     | refine J_region ?_
     | refine O_nil ?_
     | refine J_block ?_
     | refine O_cons (S_pure (v := .int _ _) rfl rfl rfl rfl (fun _ => rfl) ?_)
     | refine O_cons (S_pure (v := .raw _) rfl rfl rfl rfl (fun _ => rfl) ?_))
    refine J_loop (fun r f L df => df = [] ∧ r = 0 ∧ f 4 = .nptr i 0 ∧ f 11 = .int .i64 0 ∧ f 12 = .int .i64 0 ∧ L = bld i 97 (.raw (.pointer none)) (.raw (.slice none 0 0)) [] :: rest) 0 (show (0 : Nat) < 1000000 by decide) ⟨rfl, rfl, rfl, rfl, rfl, rfl⟩ fun r f L df hI => ?_
    obtain ⟨rfl, rfl, q4, q11, q12, rfl⟩ := hI
    obtain ⟨g, rfl⟩ := upd3 q4 q11 q12
    clear q4 q11 q12
    repeat (first
     | refine J_seq ?_
     | refine J_region ?_
     | refine O_nil ?_
     | refine O_cons (S_pure (v := .bool _) rfl rfl rfl rfl (fun _ => rfl) ?_))
    refine J_condF rfl ?_
    repeat (first
     | refine J_seq ?_
     | refine J_region ?_
     | refine J_exit ?_)
    refine O_cons (S_callI rfl rfl rfl rfl (fun _ => rfl) rfl (i_WriteByte hTc hTb i 97 _ _ [] [] rest [] 1 (.inl rfl) liesB0 (.inl ⟨rfl, rfl, rfl⟩) (by decide)) (by omega) (List.Perm.refl _) fun v' L' hP => ?_)
    obtain ⟨rfl, w, S', hB, _, rfl⟩ := hP
    repeat (first
     | refine J_seq ?_
     | refine J_region ?_
     | refine O_nil ?_)
    refine O_cons (S_callI rfl rfl rfl rfl (fun _ => rfl) rfl (i_BString hTs i 97 _ _ [] _ rest _ hB (by simp) (by simp)) (by omega) (List.Perm.refl _) fun v' L' hP => ?_)
    obtain ⟨rfl, rfl⟩ := hP
    repeat (first
     | refine O_nil ?_
     | refine J_ret ?_
     | refine O_cons (S_pure (v := .int _ _) rfl rfl rfl rfl (fun _ => rfl) ?_)
     | refine O_cons (S_pure (v := .str _) rfl rfl rfl rfl (fun _ => rfl) ?_))
    exact ret_tmp (v := .tup _) (.inr rfl) (fun _ => rfl) ⟨rfl, rfl⟩
  · skip
    repeat (first
     | refine J_seq ?_
     | refine J_region ?_
     | refine O_nil ?_
     | refine O_cons (S_pure (v := .int _ _) rfl rfl rfl rfl (fun _ => rfl) ?_)
     | refine O_cons (S_pure (v := .bool _) rfl rfl rfl rfl (fun _ => rfl) ?_)
     | refine O_cons (S_pure (v := .str _) rfl rfl rfl rfl (fun _ => rfl) ?_)
     | refine O_cons (S_pure (v := .nslc _ _ _ _) rfl rfl rfl rfl (fun _ => rfl) ?_))
    refine J_cond _ rfl (fun hc => absurd (show (20000 : Int) < ns.length from of_decide_eq_true hc) (by omega)) (fun _ => ?_)
    repeat (first
     | refine J_seq ?_
     | refine J_region ?_
     | refine J_skip ?_)
    refine O_cons (S_alloc rfl rfl rfl rfl rfl (z := [.raw (.pointer none), .raw (.slice none 0 0)]) rfl fun i => ?_)
    refine O_perm (M := ⟨bb, true, true, .row (intsV ns) g0 G0 sh false 0 3 false false⟩ :: bld i 97 (.raw (.pointer none)) (.raw (.slice none 0 0)) [] :: rest) (List.Perm.cons _ List.perm_append_comm) ?_
    repeat (first
     | refine J_seq ?_
     | refine J_region ?_
     | refine O_nil ?_
     | refine J_block ?_
     | refine O_cons (S_pure (v := .int _ _) rfl rfl rfl rfl (fun _ => rfl) ?_)
     | refine O_cons (S_pure (v := .nslc _ _ _ _) rfl rfl rfl rfl (fun _ => rfl) ?_))
    refine J_loop (fun r f L df => df = [] ∧ ∃ (k : Nat) (a w : AV) (S' : Kn), r + k = ns.length ∧ f 4 = .nptr i 0 ∧ f 10 = .nslc bb 0 ns.length none ∧ f 11 = .int .i64 (ns.length : Int) ∧ f 12 = .int .i64 (k : Int) ∧ PA i a ∧ BufT ((ns.take k).flatMap encInt) w S' ∧ L = ⟨bb, true, true, .row (intsV ns) g0 G0 sh false 0 3 false false⟩ :: bld i 97 a w [] :: (S' ++ rest)) ns.length (show ns.length < 1000000 by omega) ⟨rfl, 0, _, _, _, rfl, rfl, rfl, rfl, rfl, .inl rfl, .inl ⟨rfl, rfl, rfl⟩, rfl⟩ fun r f L df hI => ?_
    obtain ⟨rfl, k, a, w, S', hr, q4, q10, q11, q12, ha, hB, rfl⟩ := hI
    obtain ⟨g, rfl⟩ := upd4 q4 q10 q11 q12
    clear q4 q10 q11 q12
    have htk : ((ns.take k).flatMap encInt).length ≤ 9 * 20000 := by
      have := flat_len (ns.take k)
      simp only [List.length_take] at this
      omega
    repeat (first
     | refine J_seq ?_
     | refine J_region ?_
     | refine O_nil ?_
     | refine O_cons (S_pure (v := .bool _) rfl rfl rfl rfl (fun _ => rfl) ?_))
    refine J_cond _ rfl (fun hc => ?_) (fun hc => ?_)
    · have hlt : k < ns.length := by have := of_decide_eq_true hc; omega
      obtain ⟨r, rfl⟩ : ∃ r', r = r' + 1 := ⟨r - 1, by omega⟩
      have hg : (intsV ns)[k]? = some (.int .i64 ns[k]) := by simp [intsV, hlt]
      have hfk : fitsI ns[k] := hf _ (List.getElem_mem hlt)
      repeat (first
       | refine J_seq ?_
       | refine J_region ?_
       | refine J_skip ?_
       | refine J_block ?_)
      refine O_cons (S_elem rfl rfl rfl rfl rfl rfl rfl rfl rfl hlt (k := k) (show 0 + k * 1 = k by omega) ?_)
      refine O_cons (S_load 0 rfl rfl rfl rfl rfl rfl rfl rfl rfl hg ?_)
      repeat (first
       | refine J_seq ?_
       | refine J_region ?_
       | refine O_nil ?_
       | refine O_cons (S_pure (v := .int _ _) rfl rfl rfl rfl (fun _ => rfl) ?_))
      refine O_cons (S_call (v := .bool true) rfl rfl rfl rfl (fun _ => rfl) (fun H' h => by
        have := c_fits (old := old) hT0 ns[k] H' h.wf N (by omega)
        rw [decide_eq_true hfk.1, decide_eq_true hfk.2] at this
        exact this) ?_)
      repeat (first
       | refine O_nil ?_
       | refine O_cons (S_pure (v := .bool _) rfl rfl rfl rfl (fun _ => rfl) ?_))
      refine J_condF rfl ?_
      repeat (first
       | refine J_region ?_
       | refine J_skip ?_
       | refine O_cons (S_pure (v := .int _ _) rfl rfl rfl rfl (fun _ => rfl) ?_))
      refine O_cons (S_call (v := .str (encInt ns[k])) rfl rfl rfl rfl (fun _ => rfl) (fun H' h => c_integer hT1 hT2 hT3 ns[k] hfk.1 hfk.2 H' h.wf N (by omega)) ?_)
      have hel := encInt_len ns[k]
      refine O_cons (S_callI rfl rfl rfl rfl (fun _ => rfl) rfl (i_WriteString hTc hTw i 97 a w [] S' (⟨bb, true, true, .row (intsV ns) g0 G0 sh false 0 3 false false⟩ :: rest) _ (encInt ns[k]) ha liesB0 hB (by intro h; rw [h] at hel; simp at hel) (by omega)) (by omega) (perm_x _ _ _ _) fun v' L' hP => ?_)
      obtain ⟨rfl, w2, S2, hB2, hP⟩ := hP
      refine O_perm (hP.trans (perm_x _ _ _ _).symm) ?_
      repeat (first
       | refine J_region ?_
       | refine O_nil ?_
       | refine O_cons (S_pure (v := .int _ _) rfl rfl rfl rfl (fun _ => rfl) ?_))
      refine ⟨r, rfl, rfl, k + 1, _, w2, S2, by omega, rfl, rfl, rfl, ?_, .inr rfl, ?_, rfl⟩
      · show AV.int .i64 (wrapF .i64 ((k : Int) + 1)) = _
        rw [wrap_small (by omega) (by omega)]; rfl
      · have : (ns.take (k + 1)).flatMap encInt = (ns.take k).flatMap encInt ++ encInt ns[k] := by
          have h0 : ns[k]? = some ns[k] := by simp [hlt]
          rw [List.take_add_one, h0]
          simp only [Option.toList_some, List.flatMap_append, List.flatMap_cons, List.flatMap_nil, List.append_nil]
        rw [this]; exact hB2
    · have hk : k = ns.length := by have := of_decide_eq_false hc; omega
      subst hk
      rw [List.take_length] at hB htk
      repeat (first
       | refine J_seq ?_
       | refine J_region ?_
       | refine J_exit ?_)
      refine O_cons (S_callI rfl rfl rfl rfl (fun _ => rfl) rfl (i_WriteByte hTc hTb i 97 a w [] S' (⟨bb, true, true, .row (intsV ns) g0 G0 sh false 0 3 false false⟩ :: rest) _ 1 ha liesB0 hB (by omega)) (by omega) (perm_x _ _ _ _) fun v' L' hP => ?_)
      obtain ⟨rfl, w2, S2, hB2, _, rfl⟩ := hP
      repeat (first
       | refine J_seq ?_
       | refine J_region ?_
       | refine O_nil ?_)
      refine O_cons (S_callI rfl rfl rfl rfl (fun _ => rfl) rfl (i_BString hTs i 97 _ _ [] _ (⟨bb, true, true, .row (intsV ns) g0 G0 sh false 0 3 false false⟩ :: rest) _ hB2 (by simp) (by simp at htk ⊢; omega)) (by omega) (List.Perm.refl _) fun v' L' hP => ?_)
      obtain ⟨rfl, rfl⟩ := hP
      repeat (first
       | refine O_nil ?_
       | refine J_ret ?_
       | refine O_cons (S_pure (v := .int _ _) rfl rfl rfl rfl (fun _ => rfl) ?_)
       | refine O_cons (S_pure (v := .str _) rfl rfl rfl rfl (fun _ => rfl) ?_))
      exact ret_tmp (v := .tup _) (.inr rfl) (fun _ => rfl) ⟨rfl, rfl⟩
end Go.Proofs.Aw
