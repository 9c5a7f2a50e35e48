/-
  The function RecordRoundTrip as the row wants it: it answers true and its arguments read behind the call as before. For every recording and every text; the package variables that the row lists start as the text of the program lays them.
-/
import Derived.Test.YtaigaoiedjccgaaGreatDoorRtA
import Derived.Test.YtaigaoiedjccgaaGreatDoorRows
import Derived.Test.YtaigaoiedjccgaaGreatDoorTie
import Derived.Test.YtaigaoiedjccgaaGreatDoorCards
import Derived.WalkKit
import Derived.ProofKit
import Derived.OpenShut
import Derived.ShutString
import Derived.ChangeOld
import Derived.Below
import Derived.Carry
import Derived.Lay
import Derived.LaidOnce
import Derived.SevenTiedAt
import Derived.Deep.Slices
import Derived.Deep.Fields
import Derived.ChangeSame
import Derived.Lib.SmallJoins
import Derived.Handed
set_option linter.unusedVariables false
set_option linter.unusedSimpArgs false

/-
  The Go function RecordRoundTrip answers true for every recording and every text, and its arguments read behind the call as they read before. The package variables that the row lists start as the program's text lays them.
-/
namespace Go.Proofs.YtaigaoiedjccgaaGreatDoor
open Go.ChangeShapes Go.WideShapes Go.ChangeAt Go.RowKit Go.Joins Go.Deep
open Go.ChangeMaps (open_string shut_string)

section
variable {H : Type} {enc : TypeId × Value → H} {P : Program} {w : World} {base : Nat} {spare : Nat → Bool} {held : Bool}
/-- A slice of structs, each field one cell. -/
theorem open_fields {t e : TypeId} {fs : Array Field} {fuel : Nat} {cs : List Value} {x : DataW H × List MemPlace} (ht : P.underlying t = some (.slice e)) (he : P.underlying e = some (.struct fs))
    (hone : oneCellFields P fs = true) (hC : P.cellsOf e = fs.size) (h : DataW.trod enc P w base spare held fuel t cs = some x) :
    (cs = [.slice none 0 0]) ∨
    ∃ (a : Addr) (len cap m : Nat), cs = [.slice (some a) len cap] ∧ len ≤ cap ∧ m = (if spare a.block then cap else len) ∧
      ∀ i, i < m → ∀ (j : Nat) (f : Field), fs[j]? = some f → ∃ (v : Value) (n : Nat) (y : DataW H × List MemPlace), w.cell? (a.add (i * fs.size + j)) = some v ∧ DataW.trod enc P w base spare held n f.type [v] = some y := by
  rcases open_slice ht h with ⟨h0, _⟩ | ⟨a, len, cap, m, n, D, Pl, hcs, hb, hl, hm, hmm, hx, hi⟩
  · exact .inl h0
  · refine .inr ⟨a, len, cap, m, hcs, hl, hmm, fun i him j f hj => ?_⟩
    obtain ⟨cs', hc, ht'⟩ := hi i him
    rw [hC] at hc
    obtain ⟨ys, n', hn', hy, hlen, hyl, hf⟩ := DataW.trod_struct he ht'
    obtain ⟨_, hcl, hat⟩ := World.cells?_some hc
    obtain ⟨ho, hk⟩ := hone_of hone j f hj
    have hjl : j < fs.size := (Array.getElem?_eq_some_iff.1 hj).1
    have hcell := hat j hjl
    have hv : cs'[j]? = some (cs'[j]'(by omega)) := List.getElem?_eq_getElem (by omega)
    have h1 := hf j f hj
    rw [ho, hk] at h1
    have hone' : (cs'.drop j).take 1 = [cs'[j]'(by omega)] := by
      rw [List.drop_eq_getElem_cons (by omega)]
      rfl
    rw [hone'] at h1
    have hys : ys[j]? = some (ys[j]'(by omega)) := List.getElem?_eq_getElem (by omega)
    refine ⟨_, _, _, ?_, h1.trans hys⟩
    rw [← Go.Deep.add_add, hcell, hv]
end

theorem own : ownKnob Tryz.prog.godebug = none := by kernel_rfl
theorem laidOut : laidOutB Tryz.prog = true := by kernel_rfl
def laidOf : List (String × DataW Unit) := Rows.recordRoundTripRow.laid

theorem add_eq {a : Addr} (h : a.spot = none) (x : Nat) : a.add x = ⟨a.block, a.off + x, none⟩ := by
  unfold Addr.add
  obtain ⟨b, o, s⟩ := a
  simp only at h
  subst h
  split
  · rename_i h0; subst h0; rfl
  · rfl

theorem spot_of {P : Program} {w : World} {r : Reach} {b0 : Nat} {t e : TypeId} {a : Addr} {l c : Nat} (ht : P.underlying t = some (.slice e)) (h : Cell.okWide P w r b0 t (.slice (some a) l c)) : a.spot = none := by
  simp only [Cell.okWide, Cell.ok, ht] at h
  exact h.2.2.2.1

theorem cell_types : Tryz.prog.cellTypes Tryz.prog.depth 25 = some [3, 3, 22, 23] := by kernel_rfl

/-- The choices that came in. -/
theorem open_choices {H : Type} {enc : TypeId × Value → H} {W : World} {n : Nat} {u : Value} {y : DataW H × List MemPlace} (hok : ∀ a l c, u = .slice (some a) l c → a.spot = none)
    (h : DataW.trod enc Tryz.prog W 0 (fun _ => true) true n 22 [u] = some y) : ∃ (vc : Ev.AV) (cs : List Ev.Ch), Aw.RdC (Aw.oldOf W) (Ev.AtO Aw.H00 []) vc cs ∧ vc.Ok Aw.r00 ∧ vc.conc Aw.r00 = u := by
  rcases open_fields Tryz.underlying22 Tryz.underlying48 (by kernel_rfl) (by kernel_rfl) h with hn | ⟨a, len, cap, m, hcs, hl, hm, hi⟩
  · have hu : u = .slice none 0 0 := by simpa using hn
    subst hu
    exact ⟨.raw (.slice none 0 0), [], .nil, by simp [Ev.AV.Ok], by simp [Ev.AV.conc]⟩
  · have hu : u = .slice (some a) len cap := by simpa using hcs
    subst hu
    have hsp := hok a len cap rfl
    have hmc : m = cap := by simpa using hm
    subst hmc
    obtain ⟨cs, hr⟩ := Aw.rdC_old W a.block a.off len m hl (fun x hx => by
      have h2 : x / 2 < m := by omega
      have hx2 : x = x / 2 * 2 + x % 2 := by omega
      rcases (by omega : x % 2 = 0 ∨ x % 2 = 1) with h0 | h0
      · obtain ⟨v, n', y', hc, ht⟩ := hi (x / 2) h2 0 _ rfl
        obtain ⟨k, hk, _, _⟩ := DataW.trod_int Tryz.underlying3 ht
        rw [add_eq hsp] at hc
        refine ⟨k, ?_⟩
        rw [h0] at hx2
        rw [hx2]
        have : v = .int .i64 k := by simpa using hk
        rw [← this]
        exact hc
      · obtain ⟨v, n', y', hc, ht⟩ := hi (x / 2) h2 1 _ rfl
        obtain ⟨k, hk, _, _⟩ := DataW.trod_int Tryz.underlying3 ht
        rw [add_eq hsp] at hc
        refine ⟨k, ?_⟩
        rw [h0] at hx2
        rw [hx2]
        have : v = .int .i64 k := by simpa using hk
        rw [← this]
        exact hc)
    refine ⟨_, cs, hr, by simp [Ev.AV.Ok], ?_⟩
    simp only [Ev.AV.conc]
    obtain ⟨b, o, sp⟩ := a
    simp only at hsp
    subst hsp
    rfl

/-- The marks that came in. -/
theorem open_marks {H : Type} {enc : TypeId × Value → H} {W : World} {n : Nat} {u : Value} {y : DataW H × List MemPlace} (hok : ∀ a l c, u = .slice (some a) l c → a.spot = none)
    (h : DataW.trod enc Tryz.prog W 0 (fun _ => true) true n 23 [u] = some y) : ∃ (vc : Ev.AV) (cs : List Int), Aw.RdM (Aw.oldOf W) (Ev.AtO Aw.H00 []) vc cs ∧ vc.Ok Aw.r00 ∧ vc.conc Aw.r00 = u := by
  rcases open_ints Tryz.underlying23 Tryz.underlying3 (by kernel_rfl) h with ⟨hn, _⟩ | ⟨a, len, cap, zs, hcs, _, hl, _, hz, _, hcell, _⟩
  · have hu : u = .slice none 0 0 := by simpa using hn
    subst hu
    exact ⟨.raw (.slice none 0 0), [], .nil, by simp [Ev.AV.Ok], by simp [Ev.AV.conc]⟩
  · have hu : u = .slice (some a) len cap := by simpa using hcs
    subst hu
    have hsp := hok a len cap rfl
    have hzc : zs.length = cap := by simpa using hz
    obtain ⟨cs, hr⟩ := Aw.rdM_old W a.block a.off len cap hl (fun x hx => by
      have hc := hcell x (by omega)
      rw [add_eq hsp] at hc
      exact ⟨_, hc⟩)
    refine ⟨_, cs, hr, by simp [Ev.AV.Ok], ?_⟩
    simp only [Ev.AV.conc]
    obtain ⟨b, o, sp⟩ := a
    simp only at hsp
    subst hsp
    rfl

set_option maxRecDepth 100000 in
theorem lifted (os : Os) (started : os.Started) (H : Type) (enc : TypeId × Value → H) :
    ReturnsInHanded {} Tryz.checked os 3 .any (fun w args => (Rows.recordRoundTripSpec.pre enc Tryz.prog Tryz.f3 [] false w args ∧ laidMetH Tryz.prog laidOf w) ∧ sizedMet enc Tryz.prog Tryz.f3 (OpenSpec.ofChange Rows.recordRoundTripSpec) false w args)
      (Rows.recordRoundTripSpec.post enc Tryz.prog Tryz.f3 false true false false) := by
  refine returnsInHanded_of_change_and (C := Tryz.checked) (X := fun w _ => laidMetH Tryz.prog laidOf w) (fun _ _ _ hh h => h.of_heap hh) own started (by kernel_rfl) Tryz.func3
    (ChangeSpec.witness_shaped (enc := enc) (C := Tryz.checked) (os := os) (X := fun w _ => laidMetH Tryz.prog laidOf w) false (World.laidAll Tryz.prog os laidOf) #[.agg #[.int .i64 0, .int .i64 0, .slice none 0 0, .slice none 0 0], .string ⟨#[]⟩] 8 (World.laidAll_os _ _ _)
      (World.shaped_of_ZipB (by kernel_rfl) (by kernel_rfl)) (by kernel_rfl) (by kernel_rfl) (by kernel_rfl)
      (by rw [MakeChecks.laidMetH_plain _ _ _ (by kernel_rfl)]; exact laidMet_laidAll _ (by kernel_rfl) (by kernel_rfl))) ?_
  intro W base args ds gs before hval0 hW _ _ _ _
  have hval : ∀ (j : Nat) t v, Tryz.f3.params[j]? = some t → args[j]? = some v → Value.okWide Tryz.prog W .any base t v := hval0
  have hW' := hW
  obtain ⟨p, q, hA0, hV, rfl, _, _⟩ := hW
  have hA : DataW.TrodAll enc Tryz.prog W 0 (fun _ => true) true Tryz.f3.params.toList args.toList ds p := hA0
  rw [Tryz.params3] at hA hval
  obtain ⟨v0, vs0, d0, ds0, p0, q0, hargs, rfl, rfl, h0, r0⟩ := trodAll_cons hA
  obtain ⟨v1, vs1, d1, ds1, p1, q1, rfl, rfl, rfl, h1, r1⟩ := trodAll_cons r0
  obtain ⟨rfl, rfl, rfl⟩ := trodAll_nil r1
  obtain rfl : args = #[v0, v1] := by cases args; simp_all
  obtain ⟨rfl, rfl⟩ := trodVars_none hV
  have k0 := h0
  have lt0 : ∀ x ∈ p0, x.block < W.heap.size := by obtain ⟨m, hm⟩ := k0; exact DataW.trod_lt m _ _ _ hm
  obtain ⟨s, rfl, rfl, rfl, w1⟩ := open_string Tryz.underlying9 (hval 1 9 v1 rfl rfl) h1
  have hv0 := hval 0 25 v0 rfl rfl
  obtain ⟨u0, u1, u2, u3, y0, y1, y2, y3, n, rfl, hd0, hp0, t0, t1, t2, t3⟩ := open_agg4 Tryz.underlying25 (by kernel_rfl) (by kernel_rfl) hv0 h0
  have hcells : ∀ i v, (#[u0, u1, u2, u3] : Array Value)[i]? = some v → ∃ u, [3, 3, 22, 23][i % 4]? = some u ∧ Cell.okWide Tryz.prog W .any base u v := by
    have hh := hv0
    unfold Value.okWide at hh
    rw [Tryz.underlying25] at hh
    obtain ⟨cs', hcs', _, ts, hts, _, hall⟩ := hh
    cases hcs'
    rw [cell_types] at hts
    cases hts
    exact hall
  have s2 : ∀ a l c, u2 = .slice (some a) l c → a.spot = none := fun a l c e => by
    obtain ⟨u, hu, hk⟩ := hcells 2 u2 rfl
    cases hu
    subst e
    exact spot_of Tryz.underlying22 hk
  have s3 : ∀ a l c, u3 = .slice (some a) l c → a.spot = none := fun a l c e => by
    obtain ⟨u, hu, hk⟩ := hcells 3 u3 rfl
    cases hu
    subst e
    exact spot_of Tryz.underlying23 hk
  obtain ⟨n0, c0, _, _⟩ := DataW.trod_int Tryz.underlying3 t0
  obtain ⟨n1, c1, _, _⟩ := DataW.trod_int Tryz.underlying3 t1
  have c0' : u0 = .int .i64 n0 := by simpa using c0
  have c1' : u1 = .int .i64 n1 := by simpa using c1
  subst c0' c1'
  obtain ⟨vc, cs, hrc, oc, rfl⟩ := open_choices s2 t2
  obtain ⟨vm, ms, hrm, om, rfl⟩ := open_marks s3 t3
  clear hA0 hval0
  refine (Aw.walk W n0 n1 vc vm cs ms s hrc hrm oc om).mono fun e W' ⟨he, ho, hb⟩ => ?_
  subst he
  have same : ∀ x ∈ p0, W.sameAt W' x := fun x hx => by
    have hlt := lt0 x hx
    cases x with
    | cell b o => exact World.cell?_of_block (w := W) (hb b hlt)
    | map b => exact hb b hlt
  exact ⟨_, rfl, _, _, _, [], _, [], hW', trodAll_mk1 (shut_bool Tryz.underlying4 _), trodAll_cons_mk (WideElems.Trod_stays laidOut (by kernel_rfl) (of_decide_eq_true (by kernel_rfl)) k0 same (fun x hx => by simpa using lt0 x hx)) (trodAll_cons_mk (shut_string Tryz.underlying9 w1) trodAll_mk0), rfl,
    ⟨ho.1, ho.2, fun i hi => by rw [hb i hi]; split <;> simp_all⟩, fun h => by cases h⟩

end Go.Proofs.YtaigaoiedjccgaaGreatDoor
