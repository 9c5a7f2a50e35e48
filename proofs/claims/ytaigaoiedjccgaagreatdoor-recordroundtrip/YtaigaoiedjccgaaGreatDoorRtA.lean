/-
  The walk of the whole function RecordRoundTrip: it answers true. For every recording and every text.
-/
import Derived.Test.YtaigaoiedjccgaaGreatDoorFnL
import Derived.CallsIn
set_option linter.unusedVariables false
set_option linter.unusedSimpArgs false

set_option maxRecDepth 100000
namespace Go.Proofs.Aw
open Go Go.Ev

/-- The whole numbers that a world holds. -/
def oldOf (w : World) (b o : Nat) : Option AV :=
  match decide (b < w.heap.size), w.cell? ⟨b, o, none⟩ with
  | true, some (.int k n) => some (.int k n)
  | _, _ => none

theorem oldOf_mk {w : World} {b o : Nat} {k : IntKind} {n : Int} (hc : w.cell? ⟨b, o, none⟩ = some (.int k n)) : oldOf w b o = some (.int k n) := by
  have hb : b < w.heap.size := by
    unfold World.cell? at hc
    cases hh : w.heap[b]? with
    | none => simp only [hh] at hc; cases hc
    | some x => exact (Array.getElem?_eq_some_iff.1 hh).1
  unfold oldOf
  rw [decide_eq_true hb, hc]

theorem oldOf_some {w : World} {b o : Nat} {v : AV} (h : oldOf w b o = some v) : b < w.heap.size ∧ ∃ k n, w.cell? ⟨b, o, none⟩ = some (.int k n) ∧ v = .int k n := by
  unfold oldOf at h
  split at h
  · rename_i k n h1 h2
    cases h
    exact ⟨of_decide_eq_true h1, k, n, h2, rfl⟩
  · cases h

def H00 : AH := ⟨0, 0, .leaf, .leaf⟩
theorem wf00 : Wf H00 := ⟨Nat.le_refl _, fun _ _ => rfl⟩

theorem rel0 (w : World) : Rel (CX (oldOf w)) w.heap.size (fun _ => none) H00 w where
  lt := fun i β h => by cases h
  obj := fun i β h => by cases h
  sep := fun i j βi βj h => by cases h
  tip := fun i j βi βj c g gen frz e wh sg c' gen' ext' frz' e' wh' sg' h => by cases h
  age := fun i β c g gen ext frz e wh sg h => by cases h
  old := fun b o v h => by
    obtain ⟨h1, k, n, h2, rfl⟩ := oldOf_some (w := w) h
    exact ⟨by rw [h2]; simp [AV.conc], h1, fun ρ => by simp [AV.Ok, AV.conc]⟩
  base := Nat.le_refl _

abbrev r00 : Rho := fun _ => none

theorem walk (w : World) (p e : Int) (vc vm : AV) (cs : List Ch) (ms : List Int) (s : ByteArray) (hc : RdC (oldOf w) (AtO H00 []) vc cs) (hm : RdM (oldOf w) (AtO H00 []) vm ms) (oc : vc.Ok r00) (om : vm.Ok r00) :
    Calls Tryz.prog 3 #[.agg #[.int .i64 p, .int .i64 e, vc.conc r00, vm.conc r00], .string s] w fun e' w' => e' = .returned (.bool true) ∧ (w'.os = w.os ∧ w'.output = w.output) ∧ ∀ b, b < w.heap.size → w'.heap[b]? = w.heap[b]? := by
  obtain ⟨v, H', hev, rfl, _⟩ := c_RoundTrip (old := oldOf w) p e vc vm cs ms s.data.toList H00 wf00 hc hm 30 (Nat.le_refl _)
  have hok := evCallP_ok (fit_CX (oldOf w)) (ok_TR (oldOf w)) MM 30 (.fn 3) _ _ _ _ hev w.heap.size r00 w (rel0 w) (fun v hv => by
    simp only [List.mem_cons, List.not_mem_nil, or_false] at hv
    rcases hv with rfl | rfl
    · simp [AV.Ok, AV.Oks, oc, om]
    · simp [AV.Ok])
  have hcl : clos r00 [recV p e vc vm, .str s.data.toList] = #[.agg #[.int .i64 p, .int .i64 e, vc.conc r00, vm.conc r00], .string s] := by
    simp [clos, AV.conc, AV.concs]
  rw [hcl] at hok
  refine (callsIn_wide.1 hok).mono fun e' w' hq => ?_
  obtain ⟨ρ', q1, q2, _⟩ := hq
  refine ⟨by rw [q2]; simp [AV.conc], q1.out, fun b hb => q1.keeps.2 b hb fun i β h => by cases h⟩

theorem cells_range (K : Nat → Int) : ∀ n : Nat, cellsC ((List.range n).map fun i => (K (2 * i), K (2 * i + 1))) = (List.range (n * 2)).map fun x => AV.int .i64 (K x)
  | 0 => rfl
  | n + 1 => by
    rw [List.range_succ, List.map_append, cellsC_app, cells_range K n, show (n + 1) * 2 = n * 2 + 1 + 1 by omega, List.range_succ, List.range_succ, List.map_append, List.map_append, List.append_assoc]
    congr 1
    simp [cellsC, Nat.mul_comm]

/-- Choices in old memory. -/
theorem rdC_old (w : World) (b o len cap : Nat) (hl : len ≤ cap) (h : ∀ x, x < len * 2 → ∃ n, w.cell? ⟨b, o + x, none⟩ = some (.int .i64 n)) : ∃ cs : List Ch, RdC (oldOf w) (AtO H00 []) (.oslc b o len cap) cs := by
  let K : Nat → Int := fun x => match w.cell? ⟨b, o + x, none⟩ with
    | some (.int .i64 n) => n
    | _ => 0
  refine ⟨(List.range len).map fun i => (K (2 * i), K (2 * i + 1)), ?_⟩
  have hlen : ((List.range len).map fun i => (K (2 * i), K (2 * i + 1))).length = len := by simp
  unfold RdC
  rw [hlen, cells_range K len]
  refine .old hl (by simp) fun j hj => ?_
  simp only [List.length_map, List.length_range] at hj
  obtain ⟨n, hn⟩ := h j hj
  rw [oldOf_mk hn]
  simp only [List.getElem_map, List.getElem_range, K, hn]

/-- Marks in old memory. -/
theorem rdM_old (w : World) (b o len cap : Nat) (hl : len ≤ cap) (h : ∀ x, x < len → ∃ n, w.cell? ⟨b, o + x, none⟩ = some (.int .i64 n)) : ∃ ms : List Int, RdM (oldOf w) (AtO H00 []) (.oslc b o len cap) ms := by
  let K : Nat → Int := fun x => match w.cell? ⟨b, o + x, none⟩ with
    | some (.int .i64 n) => n
    | _ => 0
  refine ⟨(List.range len).map K, ?_⟩
  have hlen : ((List.range len).map K).length = len := by simp
  unfold RdM
  rw [hlen]
  refine .old hl (by simp [intsV]) fun j hj => ?_
  simp only [intsV, List.length_map, List.length_range] at hj
  obtain ⟨n, hn⟩ := h j hj
  rw [oldOf_mk hn]
  simp only [intsV, List.getElem_map, List.getElem_range, K, hn]
end Go.Proofs.Aw
