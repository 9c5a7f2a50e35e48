/-
  A part of the evaluator by names: that what it answers is what the machine does. For every program and every world in which the given facts hold.
-/
import Derived.Test.YtaigaoiedjccgaaGreatDoorEvA
import Derived.Laws.Strings
import Derived.Laws.Concat
import Derived.Laws.BytesString
import Derived.IntWalk
import Derived.Laws.StructEq
set_option linter.unusedVariables false
set_option linter.unusedSimpArgs false

namespace Go.Ev

variable {C : Ctx} {N : Nat} {ρ : Rho} {H : AH} {w : World} {nt : Nat} {tm : Tr AV} {a : Act}

def vs (s : Sem Value) : Sem Next := do pure (.value (← s))
def us (s : Sem Unit) : Sem Next := do s; pure .skip

theorem run_vs {P : Program} {s : Sem Value} {x : Value} {w w' : World} (h : s.run P w = .ok x w') : (vs s).run P w = .ok (.value x) w' := by simp [vs, h]
theorem run_us {P : Program} {s : Sem Unit} {w w' : World} (h : s.run P w = .ok () w') : (us s).run P w = .ok .skip w' := by simp [us, h]

theorem OpOk.vs {s : Sem Value} {v : AV} (h : Rel C N ρ H w) (hr : s.run C.P w = .ok (v.conc ρ) w) (hv : v.Ok ρ) : OpOk C N ρ H w (vs s) (.val v H) := OpOk.pure h (run_vs hr) hv

theorem val_inv {H : AH} {v : Option AV} {r : OR} (h : val H v = some r) : ∃ x, v = some x ∧ r = .val x H := by
  cases v with
  | none => cases h
  | some x => cases h; exact ⟨x, rfl, rfl⟩

theorem valH_inv {v : Option (AV × AH)} {r : OR} (h : valH v = some r) : ∃ x H', v = some (x, H') ∧ r = .val x H' := by
  cases v with
  | none => cases h
  | some x => obtain ⟨x, H'⟩ := x; cases h; exact ⟨x, H', rfl, rfl⟩

theorem op_move {x : Operand} {r : OR} (h : Rel C N ρ H w) (ht : TmOk ρ nt tm a.tmps) (e : opMove x C tm H = some r) : OpOk C N ρ H w (pure (.value (a.eval x))) r := by
  cases e
  have := ev_ok ht x
  exact OpOk.pure h (by simp [this.1]) this.2

theorem op_pick {c x y : Operand} {r : OR} (h : Rel C N ρ H w) (ht : TmOk ρ nt tm a.tmps) (e : opPick c x y C tm H = some r) :
    OpOk C N ρ H w (do pure (.value (if ← asBool (a.eval c) then a.eval x else a.eval y))) r := by
  have hc := (ev_ok ht c).1
  unfold opPick at e
  split at e
  · rename_i hb
    cases e
    rw [hb] at hc
    have := ev_ok ht x
    exact OpOk.pure h (by simp [hc, AV.conc, asBool, this.1]) this.2
  · rename_i hb
    cases e
    rw [hb] at hc
    have := ev_ok ht y
    exact OpOk.pure h (by simp [hc, AV.conc, asBool, this.1]) this.2
  · cases e

/-- A new row of cells. -/
theorem alloc_row {c : List AV} {e : TypeId} (h : Rel C N ρ H w) (hc : ∀ x ∈ c, x.Ok ρ) :
    ∃ β : Base, β.blk = w.heap.size ∧ β.off = 0 ∧ β.esz = C.P.cellsOf e ∧ Steps' C N ρ H w (ρ.put H.n β) (newRow H c e) (w.alloc (.cells (clos ρ c) e)) := by
  refine ⟨⟨w.heap.size, 0, 0, C.P.cellsOf e⟩, rfl, rfl, rfl, ?_⟩
  have hl : ρ.le (ρ.put H.n ⟨w.heap.size, 0, 0, C.P.cellsOf e⟩) := Rho.le_put h.none_n
  refine Steps'.alloc h rfl (fun _ _ _ _ _ _ _ _ he => by cases he) ?_
  intro _
  refine ⟨⟨clos ρ c, (0, 0), alloc_new, by simp [clos], fun j hj => ?_, fun _ => ⟨rfl, by simp [clos]⟩, fun hh => (by cases hh), fun j _ _ hh => (by simp at hh), fun _ => .inl rfl⟩, fun x hx => (conc_le hl x (hc x hx)).2, rfl⟩
  simp [clos, hj, (conc_le hl _ (hc _ (List.getElem_mem hj))).1]

theorem op_alloc {e : TypeId} {r : OR} (h : Rel C N ρ H w) (he : opAlloc e C tm H = some r) : OpOk C N ρ H w (vs (Instr.alloc e true (.tuple #[]))) r := by
  unfold opAlloc zeroOf at he
  cases ht : tiOf C.P e with
  | none => rw [ht] at he; cases he
  | some ti =>
    rw [ht] at he
    cases he
    have hti := tiOf_ok ht
    obtain ⟨z, hz, hzc, _, hzo⟩ := hti.run_zero (w := w)
    obtain ⟨β, hb, ho, _, hs⟩ := alloc_row (C := C) (e := e) h (hzo ρ)
    refine ⟨_, _, run_vs ?_, ?_, hs⟩
    · simp [Instr.alloc, hz, newVar, Go.newRow, hzc ρ, AV.conc, Rho.put_b, hb, ho, clos]
    · simp [AV.Ok, Rho.put]

theorem cells_conc (ρ : Rho) (v : AV) : (v.conc ρ).cells = clos ρ v.cells := by
  cases v with
  | agg l => simp [AV.conc, Value.cells, AV.cells, clos, concs_eq]
  | raw v =>
    cases v with
    | agg cs => simp only [AV.conc, Value.cells, AV.cells, clos, ofScalars_conc]
    | _ => simp [AV.conc, Value.cells, AV.cells, clos]
  | _ => simp [AV.conc, Value.cells, AV.cells, clos]

theorem cells_ok {ρ : Rho} {v : AV} (h : v.Ok ρ) : ∀ x ∈ v.cells, x.Ok ρ := by
  cases v with
  | agg l => simpa [AV.cells, AV.Ok, oks_iff] using h
  | raw v =>
    cases v with
    | agg cs =>
      intro x hx
      obtain ⟨y, _, rfl⟩ := List.mem_map.1 hx
      exact ofScalar_ok ρ y
    | _ => simp [AV.cells, AV.Ok]
  | _ => simpa [AV.cells] using h

theorem op_box {e : TypeId} {x : Operand} {r : OR} (h : Rel C N ρ H w) (ht : TmOk ρ nt tm a.tmps) (he : opBox e x C tm H = some r) : OpOk C N ρ H w (vs (Instr.box e (a.eval x))) r := by
  cases he
  obtain ⟨hv, hok⟩ := ev_ok ht x
  obtain ⟨β, hb, ho, _, hs⟩ := alloc_row (C := C) (e := e) h (cells_ok hok)
  refine ⟨_, _, run_vs ?_, ?_, hs⟩
  · simp [Instr.box, newVar, Go.newRow, hv, cells_conc, AV.conc, Rho.put_b, hb, ho]
  · simp [AV.Ok, Rho.put]

/-- A live row of the run, in the world. -/
theorem Rel.row {i : Nat} {c : List AV} {e : TypeId} (h : Rel C N ρ H w) (hi : ρ i ≠ none) (hr : H.row i = some (c, e)) :
    ∃ frz wh sg, RowOk C ρ (ρ.b i) c frz e wh sg w := by
  cases hb : ρ i with
  | none => exact absurd hb hi
  | some β =>
    obtain ⟨o, ho, hob⟩ := h.obj i β hb
    unfold AH.row at hr
    rw [ho] at hr
    cases o with
    | row c' g gen sh ext frz e' wh sg =>
      simp only at hr
      cases hl : H.live g gen sh with
      | false => rw [hl] at hr; cases hr
      | true =>
        rw [hl] at hr
        cases hr
        have := hob hl
        rw [show ρ.b i = β by simp [Rho.b, hb]]
        exact ⟨frz, wh, sg, this⟩
    | _ => cases hr

theorem cells_row {H : AH} {i : Nat} {c : List AV} (h : H.cells i = some c) : ∃ e, H.row i = some (c, e) := by
  unfold AH.cells at h
  unfold AH.row
  split at h
  · rename_i o c' g gen sh ext frz e wh sg ho
    split at h
    · rename_i hl
      cases h
      exact ⟨e, by first | rfl | simp [ho, hl]⟩
    · cases h
  · cases h

theorem RowOk.cell {β : Base} {c : List AV} {frz : Nat} {e : TypeId} {wh sg : Bool} (h : RowOk C ρ β c frz e wh sg w) {j : Nat} {v : AV} (hj : c[j]? = some v) :
    w.cell? ⟨β.blk, β.off + j, none⟩ = some (v.conc ρ) ∧ v.Ok ρ := by
  obtain ⟨⟨cs, fr, h1, h2, h3, _⟩, ok, _⟩ := h
  obtain ⟨hlt, he⟩ := List.getElem?_eq_some_iff.1 hj
  have := h3 j hlt
  rw [he] at this
  exact ⟨by simp [World.cell?, h1, this], by rw [← he]; exact ok _ (List.getElem_mem hlt)⟩

theorem Rel.cells {i : Nat} {c : List AV} (h : Rel C N ρ H w) (hi : ρ i ≠ none) (hr : H.cells i = some c) {j : Nat} {v : AV} (hj : c[j]? = some v) :
    w.cell? ⟨(ρ.b i).blk, (ρ.b i).off + j, none⟩ = some (v.conc ρ) ∧ v.Ok ρ := by
  obtain ⟨e, he⟩ := cells_row hr
  obtain ⟨frz, wh, sg, hrow⟩ := h.row hi he
  exact hrow.cell hj

theorem read1_ok {x v : AV} (h : Rel C N ρ H w) (hx : x.Ok ρ) (hr : read1 C H x = some v) :
    ∃ b o, x.conc ρ = .pointer (some ⟨b, o, none⟩) ∧ w.cell? ⟨b, o, none⟩ = some (v.conc ρ) ∧ v.Ok ρ := by
  unfold read1 at hr
  split at hr
  · rename_i i o
    split at hr
    · rename_i c hc
      have := h.cells hx hc hr
      exact ⟨_, _, rfl, this⟩
    · cases hr
  · rename_i b o
    obtain ⟨h1, _, h3⟩ := h.old b o v hr
    exact ⟨b, o, rfl, h1, (h3 ρ).1⟩
  · cases hr

theorem slice_some {α : Type} {l l' : List α} {k n : Nat} (h : slice l k n = some l') : k + n ≤ l.length ∧ l'.length = n ∧ ∀ j, j < n → l'[j]? = l[k + j]? := by
  unfold slice at h
  split at h
  · rename_i hb
    cases h
    have := Nat.le_of_ble_eq_true hb
    refine ⟨this, by simp; omega, fun j hj => ?_⟩
    rw [List.getElem?_take, if_pos hj, List.getElem?_drop]
  · cases h

theorem mapM_some {α β : Type} {f : α → Option β} : ∀ {l : List α} {r : List β}, l.mapM f = some r → r.length = l.length ∧ ∀ j (h : j < l.length), ∃ y, f l[j] = some y ∧ r[j]? = some y
  | [], r, h => by
    simp at h
    subst h
    simp
  | x :: l, r, h => by
    rw [List.mapM_cons] at h
    cases hx : f x with
    | none => rw [hx] at h; cases h
    | some y =>
      rw [hx] at h
      cases hl : l.mapM f with
      | none => rw [hl] at h; cases h
      | some ys =>
        rw [hl] at h
        cases h
        obtain ⟨h1, h2⟩ := mapM_some hl
        refine ⟨by simp [h1], fun j hj => ?_⟩
        cases j with
        | zero => exact ⟨y, hx, rfl⟩
        | succ j => simpa using h2 j (by simpa using hj)

theorem readN_ok {x : AV} {k n : Nat} {l : List AV} (h : Rel C N ρ H w) (hx : x.Ok ρ) (hr : readN C H x k n = some l) :
    l.length = n ∧ (∀ v ∈ l, v.Ok ρ) ∧ ∃ b o, x.conc ρ = .pointer (some ⟨b, o, none⟩) ∧ ∀ j (hj : j < l.length), w.cell? ⟨b, o + k + j, none⟩ = some (l[j].conc ρ) := by
  unfold readN at hr
  split at hr
  · rename_i i o
    split at hr
    · rename_i c hc
      obtain ⟨h1, h2, h3⟩ := slice_some hr
      have key : ∀ j (hj : j < l.length), w.cell? ⟨(ρ.b i).blk, (ρ.b i).off + (o + k + j), none⟩ = some (l[j].conc ρ) ∧ l[j].Ok ρ := fun j hj => by
        have := h3 j (by omega)
        rw [List.getElem?_eq_getElem hj] at this
        exact h.cells hx hc this.symm
      refine ⟨h2, fun v hv => ?_, _, _, rfl, fun j hj => ?_⟩
      · obtain ⟨j, hj, rfl⟩ := List.getElem_of_mem hv
        exact (key j hj).2
      · have := (key j hj).1
        rw [← this]
        congr 2
        omega
    · cases hr
  · rename_i b o
    obtain ⟨h1, h2⟩ := mapM_some hr
    simp only [List.length_range'] at h1 h2
    have key : ∀ j (hj : j < l.length), w.cell? ⟨b, o + k + j, none⟩ = some (l[j].conc ρ) ∧ l[j].Ok ρ := fun j hj => by
      obtain ⟨y, hy, hly⟩ := h2 j (by omega)
      rw [List.getElem?_eq_getElem hj] at hly
      cases hly
      simp only [List.getElem_range', Nat.one_mul] at hy
      obtain ⟨p1, _, p3⟩ := h.old b _ _ hy
      exact ⟨p1, (p3 ρ).1⟩
    refine ⟨h1, fun v hv => ?_, b, o, rfl, fun j hj => (key j hj).1⟩
    obtain ⟨j, hj, rfl⟩ := List.getElem_of_mem hv
    exact (key j hj).2
  · cases hr

theorem loadCells_ok {b o : Nat} {l : List AV} {n : Nat} (hl : l.length = n) (hc : ∀ j (hj : j < l.length), w.cell? ⟨b, o + j, none⟩ = some (l[j].conc ρ)) :
    (loadCells ⟨b, o, none⟩ n).run C.P w = .ok (clos ρ l) w := by
  rw [run_loadCells (l.map (AV.conc ρ)) (by simpa using hl) fun j hj => by
    simp only [List.length_map] at hj
    rw [hc j hj]
    simp]
  rfl

theorem load_ok {t : TypeId} {x v : AV} (h : Rel C N ρ H w) (hx : x.Ok ρ) (hr : loadF C H t x = some v) : (Instr.loadAt t (x.conc ρ)).run C.P w = .ok (v.conc ρ) w ∧ v.Ok ρ := by
  unfold loadF at hr
  cases ht : tiOf C.P t with
  | none => rw [ht] at hr; cases hr
  | some ti =>
    rw [ht] at hr
    have hti := tiOf_ok ht
    simp only at hr
    cases hag : ti.agg with
    | true =>
      rw [hag] at hr
      simp only at hr
      cases hn : readN C H x 0 ti.size with
      | none => rw [hn] at hr; cases hr
      | some l =>
        rw [hn] at hr
        cases hr
        obtain ⟨h1, h2, b, o, h3, h4⟩ := readN_ok h hx hn
        refine ⟨?_, by simpa [AV.Ok, oks_iff] using h2⟩
        simp only [Instr.loadAt, h3, Instr.sureAddr, Sem.run_bind, Sem.run_pure, Result.andThen_ok, loadVar, hti.run_agg, hag, if_true, hti.run_size]
        rw [loadCells_ok h1 fun j hj => by have := h4 j hj; simpa using this]
        simp [AV.conc, concs_eq, clos]
    | false =>
      rw [hag] at hr
      simp only at hr
      obtain ⟨b, o, h1, h2, h3⟩ := read1_ok h hx hr
      refine ⟨?_, h3⟩
      simp [Instr.loadAt, h1, Instr.sureAddr, loadVar, hti.run_agg, hag, h2]

theorem op_load {t : TypeId} {x : Operand} {r : OR} (h : Rel C N ρ H w) (ht : TmOk ρ nt tm a.tmps) (he : opLoad t x C tm H = some r) : OpOk C N ρ H w (vs (Instr.loadAt t (a.eval x))) r := by
  obtain ⟨v, hv, rfl⟩ := val_inv he
  obtain ⟨h1, h2⟩ := ev_ok ht x
  obtain ⟨h3, h4⟩ := load_ok h h2 hv
  exact OpOk.vs h (by rw [h1]; exact h3) h4

theorem op_store {t : TypeId} {x y : Operand} {r : OR} (h : Rel C N ρ H w) (ht : TmOk ρ nt tm a.tmps) (he : opStore t x y C tm H = some r) :
    OpOk C N ρ H w (us (Instr.storeAt t (a.eval x) (a.eval y))) r := by
  obtain ⟨h1, h2⟩ := ev_ok ht x
  obtain ⟨h3, h4⟩ := ev_ok ht y
  unfold opStore at he
  cases hs : storeF C H t (ev tm x) (ev tm y) with
  | none => rw [hs] at he; cases he
  | some H' =>
    rw [hs] at he
    cases he
    unfold storeF at hs
    cases hti' : tiOf C.P t with
    | none => rw [hti'] at hs; cases hs
    | some ti =>
      rw [hti'] at hs
      have hti := tiOf_ok hti'
      simp only at hs
      split at hs
      · rename_i i o hx
        split at hs
        · rename_i hc
          simp only [Bool.and_eq_true, List.all_eq_true] at hc
          have hlen := Nat.eq_of_beq_eq_true hc.1
          rw [hx] at h2
          cases hb : ρ i with
          | none => exact absurd hb h2
          | some β =>
            obtain ⟨w', hw, hst⟩ := Steps'.put (P := C.P) h hs hb (cells_ok h4) hc.2
            refine ⟨ρ, w', run_us ?_, hst⟩
            have hbb : ρ.b i = β := by simp [Rho.b, hb]
            simp only [Instr.storeAt, h1, hx, AV.conc, hbb, Instr.sureAddr, Sem.run_bind, Sem.run_pure, Result.andThen_ok, storeVar, hti.run_size, h3, cells_conc]
            have : (clos ρ (ev tm y).cells).size = ti.size := by simp [clos, hlen]
            simp only [this, ne_eq, not_true_eq_false, if_false, Sem.run_ite]
            simpa [clos] using hw
        · cases hs
      · cases hs

end Go.Ev

namespace Go.Ev

variable {C : Ctx} {N : Nat} {ρ : Rho} {H : AH} {w : World} {nt : Nat} {tm : Tr AV} {a : Act}

/-! ### Numbers -/

theorem wrap_u (k : IntKind) (hk : k.signed = false) (n : Int) : k.wrap n = n % (2 : Int) ^ k.bits := by
  simp [IntKind.wrap, hk]

theorem wrapF_eq (k : IntKind) (n : Int) : wrapF k n = k.wrap n := by
  unfold wrapF
  split
  · split
    · rename_i m hm
      have := Nat.le_of_ble_eq_true hm
      exact (IntWalk.i64_in _ ⟨by simp only [Int.ofNat_eq_natCast]; omega, by simp only [Int.ofNat_eq_natCast]; omega⟩).symm
    · rfl
  · split
    · rename_i m hm
      have := Nat.le_of_ble_eq_true hm
      exact (IntWalk.i64_in _ ⟨by omega, by omega⟩).symm
    · rfl
  · rename_i m
    rw [wrap_u .u8 rfl]
    have e : (2 : Int) ^ IntKind.u8.bits = 256 := by decide
    rw [e]
    show ((m % 256 : Nat) : Int) = (m : Int) % 256
    omega
  · rename_i m
    rw [wrap_u .u64 rfl]
    have e : (2 : Int) ^ IntKind.u64.bits = 18446744073709551616 := by decide
    rw [e]
    show ((m % 18446744073709551616 : Nat) : Int) = (m : Int) % 18446744073709551616
    omega
  · rfl

theorem natOf_some {v : AV} {n : Nat} (h : natOf v = some n) : ∃ k, v = .int k (.ofNat n) := by
  unfold natOf at h
  split at h
  · cases h; exact ⟨_, rfl⟩
  · cases h

theorem run_asIntOf {P : Program} {k : IntKind} {n : Int} : (asIntOf (.int k n)).run P w = .ok (k, n) w := by simp [asIntOf]

theorem op_un {t : TypeId} {op : UnOp} {x : Operand} {r : OR} (h : Rel C N ρ H w) (ht : TmOk ρ nt tm a.tmps) (he : opUn op x C tm H = some r) : OpOk C N ρ H w (vs (Op.unary op (a.eval x))) r := by
  obtain ⟨v, hv, rfl⟩ := val_inv he
  obtain ⟨h1, h2⟩ := ev_ok ht x
  unfold unF at hv
  split at hv
  · rename_i b hx
    cases hv
    exact OpOk.vs h (by simp [h1, hx, AV.conc, Op.unary]) (by simp [AV.Ok])
  · rename_i k n hx
    cases hv
    exact OpOk.vs h (by simp [h1, hx, AV.conc, Op.unary, Op.intArith, wrapF_eq]) (by simp [AV.Ok])
  · rename_i k n hx
    cases hv
    exact OpOk.vs h (by simp [h1, hx, AV.conc, Op.unary, Op.intBits]) (by simp [AV.Ok])
  · cases hv

theorem intOp_ok {op : BinOp} {t : TypeId} {k : IntKind} {x y : Int} {v : AV} (hs : op ≠ .shl) (hs' : op ≠ .shr) (h : intOpF op k x y = some v) :
    (binOp op t (.int k x) (.int k y)).run C.P w = .ok (v.conc ρ) w ∧ v.Ok ρ := by
  cases op <;> simp only [intOpF, intCmpF, Option.map_some, Option.map_none, Option.some.injEq] at h <;> try (exact absurd rfl hs) <;> try (exact absurd rfl hs')
  all_goals first
    | (subst h; exact ⟨by simp [binOp, Op.intArith, Op.intBits, Op.intCmp, AV.conc, wrapF_eq], by simp [AV.Ok]⟩)
    | (split at h
       · cases h
       · rename_i hy
         cases h
         exact ⟨by simp [binOp, Op.intDiv, hy, AV.conc, wrapF_eq], by simp [AV.Ok]⟩)
    | cases h

theorem shift_ok {op : BinOp} {t : TypeId} {k k' : IntKind} {x y : Int} {v : AV} (hop : op = .shl ∨ op = .shr) (h : shiftF op k x y = some v) :
    (binOp op t (.int k x) (.int k' y)).run C.P w = .ok (v.conc ρ) w ∧ v.Ok ρ := by
  unfold shiftF at h
  split at h
  · cases h
  · rename_i hy
    have e : ∀ n : Nat, (((2 ^ n : Nat)) : Int) = (2 : Int) ^ n := fun n => by simp
    rcases hop with rfl | rfl
    · simp only [Option.some.injEq] at h
      subst h
      refine ⟨?_, by simp [AV.Ok]⟩
      simp only [binOp, Op.shift, if_neg hy, AV.conc, wrapF_eq, e]
      rfl
    · simp only [Option.some.injEq] at h
      subst h
      refine ⟨?_, by simp [AV.Ok]⟩
      simp only [binOp, Op.shift, if_neg hy, AV.conc, e]
      rfl

theorem str_add {P : Program} {x y : List UInt8} (h : x.length + y.length ≤ 1000000000) : (Op.stringOp .add ⟨x.toArray⟩ ⟨y.toArray⟩).run P w = .ok (.string ⟨(x ++ y).toArray⟩) w := by
  have hh : (ByteArray.mk x.toArray).size + (ByteArray.mk y.toArray).size ≤ 9223372036854775807 := by show x.toArray.size + y.toArray.size ≤ _; simp only [List.size_toArray]; omega
  have := run_string_add_sum (P := P) (w := w) (ByteArray.mk x.toArray) (ByteArray.mk y.toArray) hh
  rw [this, ByteArray.mk_append_mk]

theorem str_ok {op : BinOp} {t : TypeId} {x y : List UInt8} {v : AV} (h : strOpF op x y = some v) :
    (binOp op t (.string ⟨x.toArray⟩) (.string ⟨y.toArray⟩)).run C.P w = .ok (v.conc ρ) w ∧ v.Ok ρ := by
  cases op
  case add =>
    simp only [strOpF] at h
    cases hb : Nat.ble (x.length + y.length) 1000000000 with
    | false => rw [hb] at h; cases h
    | true =>
      rw [hb] at h
      cases h
      exact ⟨by simp only [binOp]; rw [str_add (Nat.le_of_ble_eq_true hb)]; rfl, by simp [AV.Ok]⟩
  all_goals simp only [strOpF, Option.some.injEq] at h
  all_goals first
    | (subst h; exact ⟨by simp [binOp, Op.stringOp, AV.conc], by simp [AV.Ok]⟩)
    | cases h

/-! ### Equality -/

/-- What 'binOp' asks ahead of a comparison is idle where neither value is nil at an interface type, nor an aggregate. -/
theorem guard_idle {P : Program} {op : BinOp} {t : TypeId} {cx cy : Operand} {x y : Value} (h1 : ∀ l, x ≠ .agg l) (h2 : x ≠ .nilIface ∨ y ≠ .nilIface) : (eqGuard op t cx cy x y).run P w = .ok () w := by
  have key : ∀ b : Bool, (eqGuard op t cx cy x y).run P w = .ok () w := by
    intro _
    cases x <;> first | exact absurd rfl (h1 _) | (cases y <;> first | (rcases h2 with h | h <;> exact absurd rfl h) | (cases op <;> simp [eqGuard]))
  exact key true

theorem op_nilCheck_aux : True := trivial

/-! ### Addresses -/

theorem off_ok {x v : AV} {k : Nat} (h : offAddr x k = some v) : ∃ b o, x.conc ρ = .pointer (some ⟨b, o, none⟩) ∧ v.conc ρ = .pointer (some ⟨b, o + k, none⟩) ∧ (x.Ok ρ → v.Ok ρ) := by
  unfold offAddr at h
  split at h
  · cases h; exact ⟨_, _, rfl, by simp only [AV.conc, Nat.add_assoc], fun h => h⟩
  · cases h; exact ⟨_, _, rfl, rfl, fun _ => trivial⟩
  · cases h

theorem fieldOf_some {s : TypeId} {f : Nat} {fd : Field} (h : fieldOf C s f = some fd) : ∃ fs, C.P.underlying s = some (.struct fs) ∧ fs[f]? = some fd := by
  unfold fieldOf at h
  split at h
  · rename_i fs hfs
    exact ⟨fs, hfs, h⟩
  · cases h

theorem op_fieldAddr {t : TypeId} {f : Nat} {x : Operand} {r : OR} (h : Rel C N ρ H w) (ht : TmOk ρ nt tm a.tmps) (he : opFieldAddr t x f C tm H = some r) :
    OpOk C N ρ H w (vs (Instr.fieldAt t (a.eval x) f)) r := by
  obtain ⟨v, hv, rfl⟩ := val_inv he
  obtain ⟨h1, h2⟩ := ev_ok ht x
  unfold fieldAddrF at hv
  split at hv
  · cases hv
  · rename_i fd hfd
    split at hv
    · cases hv
    · rename_i ti hti
      split at hv
      · cases hv
      · rename_i hz
        obtain ⟨fs, hfs, hf⟩ := fieldOf_some hfd
        obtain ⟨b, o, c1, c2, c3⟩ := off_ok (ρ := ρ) hv
        have hsz : ti.size ≠ 0 := fun e => by rw [e] at hz; cases hz
        refine OpOk.vs h ?_ (c3 h2)
        simp only [Instr.fieldAt, Sem.run_bind, run_under hfs, Result.andThen_ok, hf, h1, c1, Instr.sureAddr, Sem.run_pure, fieldPlace, (tiOf_ok hti).run_size, hsz, if_false, Sem.run_ite, add_none, c2]

theorem op_field {t : TypeId} {f : Nat} {x : Operand} {r : OR} (h : Rel C N ρ H w) (ht : TmOk ρ nt tm a.tmps) (he : opField t x f C tm H = some r) :
    OpOk C N ρ H w (vs (Instr.field t (a.eval x) f)) r := by
  obtain ⟨v, hv, rfl⟩ := val_inv he
  obtain ⟨h1, h2⟩ := ev_ok ht x
  unfold fieldF at hv
  split at hv
  · rename_i l fd hx hfd
    obtain ⟨fs, hfs, hf⟩ := fieldOf_some hfd
    rw [hx] at h1 h2
    have hall : ∀ v ∈ l, v.Ok ρ := by simpa [AV.Ok, oks_iff] using h2
    split at hv
    · cases hv
    · rename_i ti hti
      have hto := tiOf_ok hti
      have hag := hto.run_agg (w := w)
      split at hv
      · rename_i hb
        rw [hb] at hag
        cases hs : slice l fd.offset ti.size with
        | none => rw [hs] at hv; cases hv
        | some l' =>
          rw [hs] at hv
          cases hv
          obtain ⟨s1, s2, s3⟩ := slice_some hs
          have hl' : l' = (l.drop fd.offset).take ti.size := by
            unfold slice at hs
            split at hs
            · exact (Option.some.inj hs).symm
            · cases hs
          refine OpOk.vs h ?_ ?_
          · simp only [Instr.field, Sem.run_bind, run_under hfs, Result.andThen_ok, hf, h1, AV.conc, asAgg, Sem.run_pure, part, hag, if_true, hto.run_size, concs_eq, Sem.run_ite, hl']
            congr 2
            apply Array.ext_getElem?
            intro j
            simp [List.map_take, List.map_drop, Array.getElem?_extract, List.getElem?_take]
          · rw [AV.Ok, oks_iff]
            intro v hv
            rw [hl'] at hv
            exact hall v (List.mem_of_mem_drop (List.mem_of_mem_take hv))
      · rename_i hb
        rw [hb] at hag
        refine OpOk.vs h ?_ (hall v (List.mem_of_getElem? hv))
        simp [Instr.field, run_under hfs, hf, h1, AV.conc, asAgg, part, hag, concs_eq, hv]
  · cases hv

theorem op_indexAddr {t : TypeId} {x i : Operand} {r : OR} (h : Rel C N ρ H w) (ht : TmOk ρ nt tm a.tmps) (he : opIndexAddr t x i C tm H = some r) :
    OpOk C N ρ H w (vs (Instr.indexAt t (a.eval x) (a.eval i))) r := by
  obtain ⟨v, hv, rfl⟩ := val_inv he
  obtain ⟨h1, h2⟩ := ev_ok ht x
  obtain ⟨h3, _⟩ := ev_ok ht i
  unfold indexAddrF at hv
  split at hv
  · cases hv
  · rename_i n hn
    obtain ⟨k, hk⟩ := natOf_some hn
    rw [hk] at h3
    split at hv
    · rename_i len e hu
      split at hv
      · rename_i ti hti
        split at hv
        · rename_i hlt
          have hlt' : n < len := by simpa [Nat.blt_eq] using hlt
          obtain ⟨b, o, c1, c2, c3⟩ := off_ok (ρ := ρ) hv
          refine OpOk.vs h ?_ (c3 h2)
          simp only [Instr.indexAt, h3, AV.conc, Sem.run_bind, run_asIntOf, Result.andThen_ok, run_under hu, h1, c1, Instr.sureAddr, Sem.run_pure]
          simp [hlt', (tiOf_ok hti).run_size, add_none, c2, run_under hu]
        · cases hv
      · cases hv
    · rename_i e hu
      split at hv
      · rename_i ti hti
        split at hv
        · rename_i j o l c hx
          rw [hx] at h1 h2
          split at hv
          · rename_i hlt
            have hlt' : n < l := by simpa [Nat.blt_eq] using hlt
            cases hv
            refine OpOk.vs h ?_ h2
            simp only [Instr.indexAt, h3, AV.conc, Sem.run_bind, run_asIntOf, Result.andThen_ok, run_under hu, h1, Sem.run_pure]
            simp [hlt', (tiOf_ok hti).run_size, add_none, run_under hu, Nat.add_assoc]
          · cases hv
        · rename_i b o l c hx
          rw [hx] at h1 h2
          split at hv
          · rename_i hlt
            have hlt' : n < l := by simpa [Nat.blt_eq] using hlt
            cases hv
            refine OpOk.vs h ?_ trivial
            simp only [Instr.indexAt, h3, AV.conc, Sem.run_bind, run_asIntOf, Result.andThen_ok, run_under hu, h1, Sem.run_pure]
            simp [hlt', (tiOf_ok hti).run_size, add_none, run_under hu]
          · cases hv
        · cases hv
      · cases hv
    · cases hv

theorem op_extract {x : Operand} {i : Nat} {r : OR} (h : Rel C N ρ H w) (ht : TmOk ρ nt tm a.tmps) (he : opExtract x i C tm H = some r) : OpOk C N ρ H w (vs (Instr.extract (a.eval x) i)) r := by
  obtain ⟨h1, h2⟩ := ev_ok ht x
  unfold opExtract at he
  split at he
  · rename_i l hx
    obtain ⟨v, hv, rfl⟩ := val_inv he
    rw [hx] at h1 h2
    have hall : ∀ v ∈ l, v.Ok ρ := by simpa [AV.Ok, oks_iff] using h2
    exact OpOk.vs h (by simp [Instr.extract, h1, AV.conc, concs_eq, hv]) (hall v (List.mem_of_getElem? hv))
  · cases he

theorem op_makeFunc {f : Fn} {x y : Array Operand} {r : OR} (h : Rel C N ρ H w) (ht : TmOk ρ nt tm a.tmps) (he : opMakeFunc f x y C tm H = some r) :
    OpOk C N ρ H w (vs (Instr.makeFunc f (x.map a.eval) (y.map a.eval))) r := by
  unfold opMakeFunc at he
  split at he
  · cases he
  · cases he
    obtain ⟨h1, h2⟩ := evs_ok ht x
    obtain ⟨h3, h4⟩ := evs_ok ht y
    refine OpOk.vs h ?_ ?_
    · rw [h1, h3]
      simp only [Instr.makeFunc, Sem.run_pure, AV.conc, concs_eq]
    · rw [AV.Ok, oks_iff, oks_iff]
      exact ⟨h2, h4⟩

theorem op_makeInterface {t : TypeId} {x : Operand} {r : OR} (h : Rel C N ρ H w) (ht : TmOk ρ nt tm a.tmps) (he : opMakeInterface t x C tm H = some r) :
    OpOk C N ρ H w (vs (Instr.makeInterface t (a.eval x))) r := by
  obtain ⟨h1, h2⟩ := ev_ok ht x
  unfold opMakeInterface at he
  split at he
  · cases he
  · rename_i d hd hni
    cases he
    refine OpOk.vs h ?_ h2
    simp only [Instr.makeInterface, Sem.run_bind, run_under hni, Result.andThen_ok, h1]
    cases d <;> first | rfl | exact absurd rfl (hd _)
  · cases he

theorem op_makeMap {t : TypeId} {x : Option Operand} {r : OR} (h : Rel C N ρ H w) (he : opMakeMap t x C tm H = some r) :
    OpOk C N ρ H w (vs (Instr.makeMap t (x.map a.eval))) r := by
  unfold opMakeMap at he
  split at he
  · cases he
    refine ⟨_, _, run_vs (w' := w.alloc (.map #[] 0)) ?_, ?_, Steps'.alloc (β := ⟨w.heap.size, 0, 0, 0⟩) h rfl (fun _ _ _ _ _ _ _ _ he => by cases he) ⟨by simpa using alloc_new, fun e he => by cases he⟩⟩
    · simp [Instr.makeMap, AV.conc, Rho.put_b]
    · simp [AV.Ok, Rho.put]
  · cases he

end Go.Ev

namespace Go.Ev

variable {C : Ctx} {N : Nat} {ρ : Rho} {H : AH} {w : World} {nt : Nat} {tm : Tr AV} {a : Act}

theorem eqPlain_ok {P : Program} {d : Nat} {t : TypeId} {x y : AV} {b : Bool} (h : eqPlain (P.underlying t) x y = some b) :
    (Op.equalIn (d + 1) t (x.conc ρ) (y.conc ρ)).run P w = .ok b w ∧ TypeDesc.isAgg ((P.underlying t).getD .invalid) = false := by
  unfold eqPlain at h
  split at h
  · rename_i a b hu
    cases h
    exact ⟨by simp only [AV.conc]; exact run_equalIn_bool' w d t _ _ hu, by rw [hu]; rfl⟩
  · rename_i k0 k a k' b hu
    split at h
    · rename_i hk
      subst hk
      cases h
      exact ⟨by simp only [AV.conc]; exact run_equalIn_int w d t _ _ _ _ hu, by rw [hu]; rfl⟩
    · cases h
  · rename_i a b hu
    cases h
    refine ⟨?_, by rw [hu]; rfl⟩
    simp only [AV.conc]
    rw [run_equalIn_string w d t _ _ hu, ByteArray.toList_mk, ByteArray.toList_mk]
  · cases h

/-- One plain cell of an aggregate. -/
theorem run_part_cell {P : Program} {t : TypeId} {cs : Array Value} {o : Nat} {v : Value} {d : TypeDesc} (hu : P.underlying t = some d) (ha : TypeDesc.isAgg d = false) (hc : cs[o]? = some v) :
    (part t cs o).run P w = .ok v w := by
  have : (isAgg t).run P w = .ok false w := by
    simp only [isAgg, Sem.run_bind, run_under hu, Result.andThen_ok]
    cases d <;> simp_all [TypeDesc.isAgg]
  simp [part, this, hc]

theorem underlying_of_eqPlain {P : Program} {t : TypeId} {x y : AV} {b : Bool} (h : eqPlain (P.underlying t) x y = some b) : ∃ d, P.underlying t = some d := by
  cases hu : P.underlying t with
  | none => rw [hu] at h; cases h
  | some d => exact ⟨d, rfl⟩

theorem eqFields_ok {P : Program} {d : Nat} {X Y : Array Value} : ∀ (fs : List Field) (n : Nat) (xs ys : List AV) (b : Bool), eqFields P fs n xs ys = some b →
    (∀ j (h : j < xs.length), X[n + j]? = some (xs[j].conc ρ)) → (∀ j (h : j < ys.length), Y[n + j]? = some (ys[j].conc ρ)) → (Op.eqFields (d + 1) X Y fs).run P w = .ok b w
  | [], n, xs, ys, b, h, _, _ => by
    simp only [eqFields, Option.some.injEq] at h
    subst h
    rfl
  | f :: fs, n, [], ys, b, h, _, _ => by simp [eqFields] at h
  | f :: fs, n, x :: xs, [], b, h, _, _ => by simp [eqFields] at h
  | f :: fs, n, x :: xs, y :: ys, b, h, hX, hY => by
    simp only [eqFields] at h
    split at h
    · cases h
    · rename_i hc
      simp only [Bool.and_eq_true] at hc
      have hn : f.name ≠ "_" := by simpa using hc.1
      have ho := Nat.eq_of_beq_eq_true hc.2
      have h0 := hX 0 (by simp)
      have h1 := hY 0 (by simp)
      simp only [Nat.add_zero, List.getElem_cons_zero] at h0 h1
      have hrec := fun (hh : eqFields P fs (n + 1) xs ys = some b) => eqFields_ok (P := P) (d := d) (X := X) (Y := Y) fs (n + 1) xs ys b hh
        (fun j hj => by have := hX (j + 1) (by simpa using hj); simp only [List.getElem_cons_succ] at this; rw [← this]; congr 1; omega)
        (fun j hj => by have := hY (j + 1) (by simpa using hj); simp only [List.getElem_cons_succ] at this; rw [← this]; congr 1; omega)
      simp only [Op.eqFields, hn, ne_eq, not_false_eq_true, if_true, Sem.run_bind, ho]
      split at h
      · rename_i he
        obtain ⟨e1, e2⟩ := eqPlain_ok (w := w) (ρ := ρ) (d := d) he
        obtain ⟨dd, hu⟩ := underlying_of_eqPlain he
        rw [hu] at e2
        rw [run_part_cell hu e2 h0]
        simp only [Result.andThen_ok]
        rw [run_part_cell hu e2 h1]
        simp only [Result.andThen_ok, e1, Bool.not_true, Bool.false_eq_true, if_false]
        exact hrec h
      · rename_i he
        cases h
        obtain ⟨e1, e2⟩ := eqPlain_ok (w := w) (ρ := ρ) (d := d) he
        obtain ⟨dd, hu⟩ := underlying_of_eqPlain he
        rw [hu] at e2
        rw [run_part_cell hu e2 h0]
        simp only [Result.andThen_ok]
        rw [run_part_cell hu e2 h1]
        simp only [Result.andThen_ok, e1, Bool.not_false, if_true, Sem.run_pure]
      · cases h

theorem eqElems_ok {P : Program} {d : Nat} {e : TypeId} {X Y : Array Value} : ∀ (len k : Nat) (xs ys : List AV) (b : Bool), eqElems (P.underlying e) len xs ys = some b →
    (∀ j (h : j < xs.length), X[k + j]? = some (xs[j].conc ρ)) → (∀ j (h : j < ys.length), Y[k + j]? = some (ys[j].conc ρ)) →
    ∀ (f : Nat → Sem Bool), (∀ i a b r, X[i]? = some a → Y[i]? = some b → (Op.equalIn (d + 1) e a b).run P w = .ok r w → (TypeDesc.isAgg ((P.underlying e).getD .invalid) = false) → (∃ dd, P.underlying e = some dd) → (f i).run P w = .ok r w) →
    ∃ s : Option Bool, (s = none ∧ b = true ∨ s = some false ∧ b = false) ∧
      (forIn (m := Sem) (List.range' k len) ((none, ()) : Option Bool × Unit) fun i _ => do
        if (!(← f i)) = true then pure (.done (some false, ())) else pure (.yield (none, ()))).run P w = .ok (s, ()) w
  | 0, k, xs, ys, b, h, _, _, f, _ => by
    simp only [eqElems, Option.some.injEq] at h
    exact ⟨none, .inl ⟨rfl, h.symm⟩, by simp [List.range']⟩
  | len + 1, k, [], ys, b, h, _, _, f, _ => by simp [eqElems] at h
  | len + 1, k, x :: xs, [], b, h, _, _, f, _ => by simp [eqElems] at h
  | len + 1, k, x :: xs, y :: ys, b, h, hX, hY, f, hf => by
    simp only [eqElems] at h
    have h0 := hX 0 (by simp)
    have h1 := hY 0 (by simp)
    simp only [Nat.add_zero, List.getElem_cons_zero] at h0 h1
    simp only [List.range'_succ, List.forIn_cons, Sem.run_bind]
    split at h
    · rename_i he
      obtain ⟨e1, e2⟩ := eqPlain_ok (w := w) (ρ := ρ) (d := d) he
      rw [hf k _ _ _ h0 h1 e1 e2 (underlying_of_eqPlain he)]
      simp only [Result.andThen_ok, Bool.not_true, Bool.false_eq_true, if_false, Sem.run_pure]
      exact eqElems_ok len (k + 1) xs ys b h
        (fun j hj => by have := hX (j + 1) (by simpa using hj); simp only [List.getElem_cons_succ] at this; rw [← this]; congr 1; omega)
        (fun j hj => by have := hY (j + 1) (by simpa using hj); simp only [List.getElem_cons_succ] at this; rw [← this]; congr 1; omega) f hf
    · rename_i he
      cases h
      obtain ⟨e1, e2⟩ := eqPlain_ok (w := w) (ρ := ρ) (d := d) he
      rw [hf k _ _ _ h0 h1 e1 e2 (underlying_of_eqPlain he)]
      exact ⟨some false, .inr ⟨rfl, rfl⟩, by simp⟩
    · cases h

theorem concs_get (ρ : Rho) (l : List AV) (j : Nat) (h : j < l.length) : (AV.concs ρ l).toArray[0 + j]? = some (l[j].conc ρ) := by simp [concs_eq, h]

theorem run_equalIn_array {P : Program} {d n : Nat} {t e : TypeId} {x y : List AV} {b : Bool} {ti : TI} (hu : P.underlying t = some (.array n e)) (hti : tiOf P e = some ti) (hs' : ti.size = 1)
    (h : eqElems (P.underlying e) n x y = some b) : (Op.equalIn (d + 1 + 1) t (.agg (AV.concs ρ x).toArray) (.agg (AV.concs ρ y).toArray)).run P w = .ok b w := by
  have hto := tiOf_ok hti
  obtain ⟨s, hs1, hs2⟩ := eqElems_ok (w := w) (P := P) (d := d) n 0 x y b h (concs_get ρ x) (concs_get ρ y)
    (fun i => do Op.equalIn (d + 1) e (← part e (AV.concs ρ x).toArray (i * 1)) (← part e (AV.concs ρ y).toArray (i * 1)))
    (fun i a b r ha hb hr hag hdd => by
      obtain ⟨dd, hd⟩ := hdd
      rw [hd] at hag
      simp only [Nat.mul_one, Sem.run_bind]
      rw [run_part_cell hd hag ha]
      simp only [Result.andThen_ok]
      rw [run_part_cell hd hag hb]
      simpa using hr)
  rw [Op.equalIn]
  simp only [Sem.run_bind, run_under hu, Result.andThen_ok, hto.run_size, hs']
  rw [Std.Legacy.Range.forIn_eq_forIn_range']
  simp only [Std.Legacy.Range.size, Nat.sub_zero, Nat.add_sub_cancel, Nat.div_one]
  simp only [bind_assoc] at hs2
  rw [hs2]
  rcases hs1 with ⟨rfl, rfl⟩ | ⟨rfl, rfl⟩ <;> simp

theorem eqAgg_ok {P : Program} {t : TypeId} {x y : List AV} {b : Bool} (h : eqAgg P t x y = some b) :
    P.eqGuardType P.depth t = false ∧ (Op.equalIn 10000 t (.agg (AV.concs ρ x).toArray) (.agg (AV.concs ρ y).toArray)).run P w = .ok b w := by
  unfold eqAgg at h
  split at h
  · cases h
  · rename_i hg
    refine ⟨hg, ?_⟩
    split at h
    · rename_i fs hu
      split at h
      · cases h
      · rename_i hst
        have hfo : P.fieldsOf t = fs := by simp [Program.fieldsOf, hu]
        rw [run_equalIn_struct w 9999 t _ _ (by rw [hfo]; exact hu) hst, hfo]
        exact eqFields_ok (d := 9998) fs.toList 0 x y b h (concs_get ρ x) (concs_get ρ y)
    · rename_i n e hu
      split at h
      · cases h
      · rename_i ti hti
        split at h
        · rename_i hs
          exact run_equalIn_array hu hti (Nat.eq_of_beq_eq_true hs) h
        · cases h
    · cases h

end Go.Ev

namespace Go.Ev

variable {C : Ctx} {N : Nat} {ρ : Rho} {H : AH} {w : World} {nt : Nat} {tm : Tr AV} {a : Act}

theorem eqNil_cases {nil real : AV → Bool} {x y : AV} {b : Bool} (h : eqNil nil real x y = some b) :
    (nil x = true ∧ nil y = true ∧ b = true) ∨ (nil x = true ∧ real y = true ∧ b = false) ∨ (real x = true ∧ nil y = true ∧ b = false) := by
  unfold eqNil at h
  cases h1 : nil x <;> cases h2 : nil y <;> cases h3 : real x <;> cases h4 : real y <;> simp [h1, h2, h3, h4] at h <;> subst h <;> simp

theorem nilPtr_eq {x : AV} (h : isNilPtr x = true) : x = .raw (.pointer none) := by
  unfold isNilPtr at h; split at h <;> first | rfl | cases h
theorem nilSlice_eq {x : AV} (h : isNilSlice x = true) : ∃ l c, x = .raw (.slice none l c) := by
  unfold isNilSlice at h; split at h <;> first | exact ⟨_, _, rfl⟩ | cases h
theorem nilMap_eq {x : AV} (h : isNilMap x = true) : x = .raw (.map none) := by
  unfold isNilMap at h; split at h <;> first | rfl | cases h
theorem nilFunc_eq {x : AV} (h : isNilFunc x = true) : x = .raw .nilFunc := by
  unfold isNilFunc at h; split at h <;> first | rfl | cases h
theorem nilIface_eq {x : AV} (h : isNilIface x = true) : x = .raw .nilIface := by
  unfold isNilIface at h; split at h <;> first | rfl | cases h
theorem ptr_conc {x : AV} (h : isPtr x = true) (ρ : Rho) : ∃ a, x.conc ρ = .pointer (some a) := by
  unfold isPtr at h; split at h <;> first | exact ⟨_, rfl⟩ | cases h
theorem slice_conc {x : AV} (h : isSlice x = true) (ρ : Rho) : ∃ a l c, x.conc ρ = .slice (some a) l c := by
  unfold isSlice at h; split at h <;> first | exact ⟨_, _, _, rfl⟩ | cases h
theorem map_conc {x : AV} (h : isMap x = true) (ρ : Rho) : ∃ a, x.conc ρ = .map (some a) := by
  unfold isMap at h; split at h <;> first | exact ⟨_, rfl⟩ | cases h
theorem func_conc {x : AV} (h : isFunc x = true) (ρ : Rho) : ∃ f a c, x.conc ρ = .func f a c := by
  unfold isFunc at h; split at h <;> first | exact ⟨_, _, _, rfl⟩ | cases h
theorem iface_conc {x : AV} (h : isIface x = true) (ρ : Rho) : ∃ t v, x.conc ρ = .iface t v := by
  unfold isIface at h; split at h <;> first | exact ⟨_, _, rfl⟩ | cases h

/-- The value is none that 'eqGuard' asks about. -/
def Plain (x : Value) : Prop := (∀ l, x ≠ .agg l)

theorem run_sameAddr {P : Program} {b o o' : Nat} : (sameAddr ⟨b, o, none⟩ ⟨b, o', none⟩).run P w = .ok (o == o') w := by
  have e : ((⟨b, o, none⟩ : Addr) == ⟨b, o', none⟩) = (o == o') := by
    cases h : (o == o') with
    | true => have := eq_of_beq h; subst this; simp
    | false =>
      have : o ≠ o' := by simpa using h
      apply Bool.eq_false_iff.2
      intro hh
      have := eq_of_beq hh
      cases this
      simp at h
  simp [sameAddr, e]

def eqCls : Value → Bool
  | .bool _ => true
  | .pointer _ => true
  | .slice _ _ _ => true
  | .map _ => true
  | .func _ _ _ => true
  | .nilFunc => true
  | .iface _ _ => true
  | .nilIface => true
  | _ => false

theorem run_eql_cls {P : Program} {t : TypeId} {X Y : Value} {b : Bool} (hc : eqCls X = true) (h : (Op.equal t X Y).run P w = .ok b w) :
    (binOp .eql t X Y).run P w = .ok (.bool b) w ∧ (binOp .neq t X Y).run P w = .ok (.bool !b) w := by
  have e1 : binOp .eql t X Y = (do pure (.bool (← Op.equal t X Y))) := by cases X <;> first | rfl | cases hc
  have e2 : binOp .neq t X Y = (do pure (.bool (!(← Op.equal t X Y)))) := by cases X <;> first | rfl | cases hc
  rw [e1, e2]
  constructor <;> simp only [Sem.run_bind, h, Result.andThen_ok, Sem.run_pure]

theorem eqTy_ok' {d : Nat} {t : TypeId} {x y : AV} {b : Bool} (h : eqTy C.P t x y = some b) :
    (Op.equalIn (d + 1) t (x.conc ρ) (y.conc ρ)).run C.P w = .ok b w ∧ (∀ l, x.conc ρ ≠ .agg l) ∧ (x.conc ρ ≠ .nilIface ∨ y.conc ρ ≠ .nilIface) ∧ eqCls (x.conc ρ) = true := by
  unfold eqTy at h
  split at h
  · rename_i hu
    split at h
    · cases h
      refine ⟨?_, by simp [AV.conc], by simp [AV.conc], by simp [AV.conc, eqCls]⟩
      simp only [AV.conc]
      exact run_equalIn_bool' w d t _ _ hu
    · cases h
  · rename_i e hu
    split at h
    · rename_i i p j q
      split at h
      · rename_i hij hti
        split at h
        · cases h
        · rename_i hz
          cases h
          have := Nat.eq_of_beq_eq_true hij
          subst this
          refine ⟨?_, by simp [AV.conc], by simp [AV.conc], by simp [AV.conc, eqCls]⟩
          rename_i ti _
          have hsz : ti.size ≠ 0 := fun e => by rw [e] at hz; cases hz
          simp only [AV.conc, Op.equalIn, Sem.run_bind, run_under hu, Result.andThen_ok, (tiOf_ok hti).run_size]
          simp only [hsz, ne_eq, not_false_eq_true, if_true, run_sameAddr]
          congr 1
          cases hb : Nat.beq p q with
          | true => have := Nat.eq_of_beq_eq_true hb; subst this; simp
          | false =>
            have : p ≠ q := fun e => by subst e; simp at hb
            simp; omega
      · cases h
    · rcases eqNil_cases h with ⟨h1, h2, rfl⟩ | ⟨h1, h2, rfl⟩ | ⟨h1, h2, rfl⟩
      · rw [nilPtr_eq h1, nilPtr_eq h2]
        exact ⟨by simp [AV.conc, Op.equalIn, run_under hu], by simp [AV.conc], by simp [AV.conc], by simp [AV.conc, eqCls]⟩
      · obtain ⟨a, ha⟩ := ptr_conc h2 ρ
        rw [nilPtr_eq h1, ha]
        exact ⟨by simp [AV.conc, Op.equalIn, run_under hu], by simp [AV.conc], by simp [AV.conc], by simp [AV.conc, eqCls]⟩
      · obtain ⟨a, ha⟩ := ptr_conc h1 ρ
        rw [nilPtr_eq h2, ha]
        exact ⟨by simp [AV.conc, Op.equalIn, run_under hu], by simp [AV.conc], by simp [AV.conc], by simp [AV.conc, eqCls]⟩
  · rename_i e hu
    rcases eqNil_cases h with ⟨h1, h2, rfl⟩ | ⟨h1, h2, rfl⟩ | ⟨h1, h2, rfl⟩
    · obtain ⟨_, _, e1⟩ := nilSlice_eq h1
      obtain ⟨_, _, e2⟩ := nilSlice_eq h2
      rw [e1, e2]
      exact ⟨by simp [AV.conc, Op.equalIn, run_under hu], by simp [AV.conc], by simp [AV.conc], by simp [AV.conc, eqCls]⟩
    · obtain ⟨a, l, c, ha⟩ := slice_conc h2 ρ
      obtain ⟨_, _, e1⟩ := nilSlice_eq h1
      rw [e1, ha]
      exact ⟨by simp [AV.conc, Op.equalIn, run_under hu], by simp [AV.conc], by simp [AV.conc], by simp [AV.conc, eqCls]⟩
    · obtain ⟨a, l, c, ha⟩ := slice_conc h1 ρ
      obtain ⟨_, _, e1⟩ := nilSlice_eq h2
      rw [e1, ha]
      exact ⟨by simp [AV.conc, Op.equalIn, run_under hu], by simp [AV.conc], by simp [AV.conc], by simp [AV.conc, eqCls]⟩
  · rename_i e e' hu
    rcases eqNil_cases h with ⟨h1, h2, rfl⟩ | ⟨h1, h2, rfl⟩ | ⟨h1, h2, rfl⟩
    · rw [nilMap_eq h1, nilMap_eq h2]
      exact ⟨by simp [AV.conc, Op.equalIn, run_under hu], by simp [AV.conc], by simp [AV.conc], by simp [AV.conc, eqCls]⟩
    · obtain ⟨a, ha⟩ := map_conc h2 ρ
      rw [nilMap_eq h1, ha]
      exact ⟨by simp [AV.conc, Op.equalIn, run_under hu], by simp [AV.conc], by simp [AV.conc], by simp [AV.conc, eqCls]⟩
    · obtain ⟨a, ha⟩ := map_conc h1 ρ
      rw [nilMap_eq h2, ha]
      exact ⟨by simp [AV.conc, Op.equalIn, run_under hu], by simp [AV.conc], by simp [AV.conc], by simp [AV.conc, eqCls]⟩
  · rename_i hu
    rcases eqNil_cases h with ⟨h1, h2, rfl⟩ | ⟨h1, h2, rfl⟩ | ⟨h1, h2, rfl⟩
    · rw [nilFunc_eq h1, nilFunc_eq h2]
      exact ⟨by simp [AV.conc, Op.equalIn, run_under hu], by simp [AV.conc], by simp [AV.conc], by simp [AV.conc, eqCls]⟩
    · obtain ⟨f, a, c, ha⟩ := func_conc h2 ρ
      rw [nilFunc_eq h1, ha]
      exact ⟨by simp [AV.conc, Op.equalIn, run_under hu], by simp [AV.conc], by simp [AV.conc], by simp [AV.conc, eqCls]⟩
    · obtain ⟨f, a, c, ha⟩ := func_conc h1 ρ
      rw [nilFunc_eq h2, ha]
      exact ⟨by simp [AV.conc, Op.equalIn, run_under hu], by simp [AV.conc], by simp [AV.conc], by simp [AV.conc, eqCls]⟩
  · rename_i ms hu
    split at h
    · cases h
    · rename_i hnn
      rcases eqNil_cases h with ⟨h1, h2, rfl⟩ | ⟨h1, h2, rfl⟩ | ⟨h1, h2, rfl⟩
      · rw [h1, h2] at hnn; cases hnn
      · obtain ⟨f, c, ha⟩ := iface_conc h2 ρ
        rw [nilIface_eq h1, ha]
        exact ⟨by simp [AV.conc, Op.equalIn, run_under hu], by simp [AV.conc], by simp [AV.conc], by simp [AV.conc, eqCls]⟩
      · obtain ⟨f, c, ha⟩ := iface_conc h1 ρ
        rw [nilIface_eq h2, ha]
        exact ⟨by simp [AV.conc, Op.equalIn, run_under hu], by simp [AV.conc], by simp [AV.conc], by simp [AV.conc, eqCls]⟩
  · cases h

theorem eqTy_ok {t : TypeId} {x y : AV} {b : Bool} (h : eqTy C.P t x y = some b) :
    (Op.equal t (x.conc ρ) (y.conc ρ)).run C.P w = .ok b w ∧ (∀ l, x.conc ρ ≠ .agg l) ∧ (x.conc ρ ≠ .nilIface ∨ y.conc ρ ≠ .nilIface) ∧ eqCls (x.conc ρ) = true := eqTy_ok' (d := 9999) h

theorem op_bin {op : BinOp} {t : TypeId} {x y : Operand} {r : OR} (h : Rel C N ρ H w) (ht : TmOk ρ nt tm a.tmps) (he : opBin op t x y C tm H = some r) :
    OpOk C N ρ H w (vs (do eqGuard op t x y (a.eval x) (a.eval y); binOp op t (a.eval x) (a.eval y))) r := by
  obtain ⟨v, hv, rfl⟩ := val_inv he
  obtain ⟨h1, _⟩ := ev_ok ht x
  obtain ⟨h3, _⟩ := ev_ok ht y
  have fin : ∀ {X Y : Value}, a.eval x = X → a.eval y = Y → (eqGuard op t x y X Y).run C.P w = .ok () w → ((binOp op t X Y).run C.P w = .ok (v.conc ρ) w ∧ v.Ok ρ) →
      OpOk C N ρ H w (vs (do eqGuard op t x y (a.eval x) (a.eval y); binOp op t (a.eval x) (a.eval y))) (.val v H) := by
    intro X Y e1 e2 hg hb
    rw [e1, e2]
    exact OpOk.vs h (by simp only [Sem.run_bind, hg, Result.andThen_ok, hb.1]) hb.2
  unfold binF at hv
  split at hv
  · rename_i k p k' q hx hy
    rw [hx] at h1
    rw [hy] at h3
    refine fin h1 h3 (guard_idle (by simp [AV.conc]) (by simp [AV.conc])) ?_
    simp only [AV.conc]
    split at hv
    · exact shift_ok (.inl rfl) hv
    · exact shift_ok (.inr rfl) hv
    · rename_i n1 n2
      split at hv
      · rename_i hk
        subst hk
        exact intOp_ok n1 n2 hv
      · cases hv
  · rename_i p q hx hy
    rw [hx] at h1
    rw [hy] at h3
    refine fin h1 h3 (guard_idle (by simp [AV.conc]) (by simp [AV.conc])) ?_
    simp only [AV.conc]
    exact str_ok hv
  · rename_i p q hx hy
    rw [hx] at h1
    rw [hy] at h3
    simp only [AV.conc] at h1 h3
    split at hv
    · cases hq : eqAgg C.P t p q with
      | none => rw [hq] at hv; cases hv
      | some b =>
        rw [hq] at hv
        cases hv
        obtain ⟨g1, g2⟩ := eqAgg_ok (ρ := ρ) (w := w) hq
        refine fin h1 h3 (run_eqGuard_agg (hm := g1) ..) ⟨?_, by simp [AV.Ok]⟩
        rw [run_eql_struct, g2]
        simp [AV.conc]
    · cases hq : eqAgg C.P t p q with
      | none => rw [hq] at hv; cases hv
      | some b =>
        rw [hq] at hv
        cases hv
        obtain ⟨g1, g2⟩ := eqAgg_ok (ρ := ρ) (w := w) hq
        refine fin h1 h3 (run_eqGuard_agg (hm := g1) ..) ⟨?_, by simp [AV.Ok]⟩
        rw [run_neq_struct, g2]
        simp [AV.conc]
    · cases hv
  · rename_i hx hy
    rw [hx] at h1
    rw [hy] at h3
    simp only [AV.conc] at h1 h3
    split at hv
    · rename_i ms hu hc
      have key : ∀ d, (Op.equalIn (d + 1) t .nilIface .nilIface).run C.P w = .ok true w := fun d => by simp [Op.equalIn, run_under hu]
      have key' : (Op.equal t .nilIface .nilIface).run C.P w = .ok true w := key 9999
      have hg : (eqGuard op t x y .nilIface .nilIface).run C.P w = .ok () w := by
        have : (Operand.isConst x || Operand.isConst y) = true := hc
        cases op <;> cases x <;> cases y <;> first | (simp [Operand.isConst] at this; done) | simp [eqGuard]
      split at hv
      · cases hv
        exact fin h1 h3 hg ⟨by simp only [binOp, Sem.run_bind, key', Result.andThen_ok]; rfl, by simp [AV.Ok]⟩
      · cases hv
        exact fin h1 h3 hg ⟨by simp only [binOp, Sem.run_bind, key', Result.andThen_ok]; rfl, by simp [AV.Ok]⟩
      · cases hv
    · cases hv
  · rename_i n1 n2 n3 n4
    have go : ∀ {op' : BinOp} {b : Bool} (f : Bool → Bool), eqTy C.P t (ev tm x) (ev tm y) = some b → (op' = .eql ∧ f = id ∨ op' = .neq ∧ f = not) →
        (eqGuard op' t x y ((ev tm x).conc ρ) ((ev tm y).conc ρ)).run C.P w = .ok () w ∧ (binOp op' t ((ev tm x).conc ρ) ((ev tm y).conc ρ)).run C.P w = .ok (.bool (f b)) w := by
      intro op' b f hq hf
      obtain ⟨g1, g2, g3, g4⟩ := eqTy_ok (ρ := ρ) (w := w) hq
      refine ⟨guard_idle g2 g3, ?_⟩
      rcases hf with ⟨rfl, rfl⟩ | ⟨rfl, rfl⟩
      · exact (run_eql_cls g4 g1).1
      · exact (run_eql_cls g4 g1).2
    split at hv
    · cases hq : eqTy C.P t (ev tm x) (ev tm y) with
      | none => rw [hq] at hv; cases hv
      | some b =>
        rw [hq] at hv
        cases hv
        obtain ⟨g1, g2⟩ := go id hq (.inl ⟨rfl, rfl⟩)
        exact fin h1 h3 g1 ⟨g2, by simp [AV.Ok]⟩
    · cases hq : eqTy C.P t (ev tm x) (ev tm y) with
      | none => rw [hq] at hv; cases hv
      | some b =>
        rw [hq] at hv
        cases hv
        obtain ⟨g1, g2⟩ := go not hq (.inr ⟨rfl, rfl⟩)
        exact fin h1 h3 g1 ⟨g2, by simp [AV.Ok]⟩
    · cases hv

end Go.Ev

namespace Go.Ev

variable {C : Ctx} {N : Nat} {ρ : Rho} {H : AH} {w : World} {nt : Nat} {tm : Tr AV} {a : Act}

def Obj.isRow : Obj → Bool
  | .cells _ _ _ => true
  | _ => false
theorem run_get {P : Program} {r : Nat} {o : Obj} (h : w.heap[r]? = some o) (hc : Obj.isRow o = false) : (getObj r).run P w = .ok o w := by
  cases o <;> first | (cases hc; done) | simp [getObj, Sem.run, h]

theorem beq_size {n m : Nat} (h : Nat.beq n m = true) : n = m := Nat.eq_of_beq_eq_true h
theorem blt_lt {n m : Nat} (h : Nat.blt n m = true) : n < m := by simpa [Nat.blt_eq] using h

/-! ### Parts -/

theorem part_ok {P : Program} {e : TypeId} {ti : TI} {l : List AV} {o : Nat} {v : AV} (hti : tiOf P e = some ti) (hall : ∀ v ∈ l, v.Ok ρ)
    (h : (match ti.agg with | true => (slice l o ti.size).map .agg | false => l[o]?) = some v) : (part e (AV.concs ρ l).toArray o).run P w = .ok (v.conc ρ) w ∧ v.Ok ρ := by
  have hto := tiOf_ok hti
  have hag := hto.run_agg (w := w)
  split at h
  · rename_i hb
    rw [hb] at hag
    cases hs : slice l o ti.size with
    | none => rw [hs] at h; cases h
    | some l' =>
      rw [hs] at h
      cases h
      have hl' : l' = (l.drop o).take ti.size := by
        unfold slice at hs
        split at hs
        · exact (Option.some.inj hs).symm
        · cases hs
      refine ⟨?_, ?_⟩
      · simp only [AV.conc, part, Sem.run_bind, hag, Result.andThen_ok, if_true, hto.run_size, concs_eq, Sem.run_ite, hl', Sem.run_pure]
        congr 2
        apply Array.ext_getElem?
        intro j
        simp [List.map_take, List.map_drop, Array.getElem?_extract, List.getElem?_take]
      · rw [AV.Ok, oks_iff]
        intro v hv
        rw [hl'] at hv
        exact hall v (List.mem_of_mem_drop (List.mem_of_mem_take hv))
  · rename_i hb
    rw [hb] at hag
    exact ⟨by simp [part, hag, concs_eq, h], hall v (List.mem_of_getElem? h)⟩

theorem ba_get (s : List UInt8) (i : Nat) : (ByteArray.mk s.toArray)[i]? = s[i]? := by
  by_cases h : i < s.length
  · have h' : i < (ByteArray.mk s.toArray).size := by show i < s.toArray.size; simpa using h
    rw [getElem?_pos (ByteArray.mk s.toArray) i h', getElem?_pos s i h]
    rfl
  · have h' : ¬ i < (ByteArray.mk s.toArray).size := by show ¬ i < s.toArray.size; simpa using h
    rw [getElem?_neg (ByteArray.mk s.toArray) i h', getElem?_neg s i h]

theorem op_index {t : TypeId} {x i : Operand} {r : OR} (h : Rel C N ρ H w) (ht : TmOk ρ nt tm a.tmps) (he : opIndex t x i C tm H = some r) :
    OpOk C N ρ H w (vs (Instr.index t (a.eval x) (a.eval i))) r := by
  obtain ⟨v, hv, rfl⟩ := val_inv he
  obtain ⟨h1, h2⟩ := ev_ok ht x
  obtain ⟨h3, _⟩ := ev_ok ht i
  unfold indexF at hv
  split at hv
  · cases hv
  · rename_i n hn
    obtain ⟨k, hk⟩ := natOf_some hn
    rw [hk] at h3
    split at hv
    · rename_i s hu hx
      rw [hx] at h1
      split at hv
      · rename_i b hb
        cases hv
        refine OpOk.vs h ?_ (by simp [AV.Ok])
        simp only [Instr.index, h3, h1, AV.conc, Sem.run_bind, run_asIntOf, Result.andThen_ok, run_under hu]
        simp [ba_get, hb]
      · cases hv
    · rename_i len e l hu hx
      rw [hx] at h1 h2
      have hall : ∀ v ∈ l, v.Ok ρ := by simpa [AV.Ok, oks_iff] using h2
      split at hv
      · cases hv
      · rename_i hlt
        have hlt' := blt_lt hlt
        split at hv
        · cases hv
        · rename_i ti hti
          obtain ⟨g1, g2⟩ := part_ok (w := w) hti hall hv
          refine OpOk.vs h ?_ g2
          simp only [Instr.index, h3, h1, AV.conc, Sem.run_bind, run_asIntOf, Result.andThen_ok, run_under hu, (tiOf_ok hti).run_size]
          simp [hlt', (tiOf_ok hti).run_size, g1]
    · cases hv

/-! ### Lengths -/

theorem ba_size (s : List UInt8) : (ByteArray.mk s.toArray).size = s.length := by show s.toArray.size = _; simp

theorem len_ok {t ty : TypeId} {x : AV} {n : Nat} (h : Rel C N ρ H w) (hx : x.Ok ρ) (hr : lenF C H t x = some n) : (Builtin.len_ #[t] ty #[x.conc ρ]).run C.P w = .ok (.int .i64 n) w := by
  unfold lenF at hr
  split at hr
  · rename_i s hu
    cases hr
    simp [Builtin.len_, run_under hu, AV.conc, ba_size, goInt]
  · rename_i hu
    cases hr
    simp [Builtin.len_, run_under hu, goInt]
  · rename_i hu
    cases hr
    simp [Builtin.len_, run_under hu, AV.conc, goInt]
  · rename_i hu
    cases hr
    simp [Builtin.len_, run_under hu, AV.conc, goInt]
  · rename_i hu
    cases hr
    simp [Builtin.len_, run_under hu, AV.conc, goInt]
  · rename_i hu
    cases hr
    simp [Builtin.len_, run_under hu, AV.conc, goInt]
  · rename_i hu
    cases hr
    simp [Builtin.len_, run_under hu, AV.conc, goInt]
  · rename_i i hu
    split at hr
    · rename_i es clock ho
      cases hr
      cases hb : ρ i with
      | none => exact absurd hb hx
      | some β =>
        obtain ⟨o, ho', hob⟩ := h.obj i β hb
        rw [ho] at ho'
        cases ho'
        have hbb : ρ.b i = β := by simp [Rho.b, hb]
        simp [Builtin.len_, run_under hu, AV.conc, hbb, run_get hob.1 rfl, goInt]
    · cases hr
  · cases hr

theorem arr1 {α : Type} {xs : Array α} {x : α} (h : xs.toList = [x]) : xs = #[x] := by
  apply Array.toList_inj.1; simpa using h
theorem arr2 {α : Type} {xs : Array α} {x y : α} (h : xs.toList = [x, y]) : xs = #[x, y] := by
  apply Array.toList_inj.1; simpa using h

theorem min2_ok {x y v : AV} {P : Program} (h : min2 x y = some v) : (Builtin.min2 (x.conc ρ) (y.conc ρ)).run P w = .ok (v.conc ρ) w ∧ v.Ok ρ := by
  unfold min2 at h
  split at h
  · cases h; exact ⟨by simp [AV.conc, Builtin.min2], by simp [AV.Ok]⟩
  · cases h
theorem max2_ok {x y v : AV} {P : Program} (h : max2 x y = some v) : (Builtin.max2 (x.conc ρ) (y.conc ρ)).run P w = .ok (v.conc ρ) w ∧ v.Ok ρ := by
  unfold max2 at h
  split at h
  · cases h; exact ⟨by simp [AV.conc, Builtin.max2], by simp [AV.Ok]⟩
  · cases h

/-! ### Others -/

theorem op_arrayAt {t : TypeId} {x : Operand} {r : OR} (h : Rel C N ρ H w) (ht : TmOk ρ nt tm a.tmps) (he : opArrayAt t x C tm H = some r) :
    OpOk C N ρ H w (vs (Instr.arrayAt t (a.eval x))) r := by
  obtain ⟨v, hv, rfl⟩ := val_inv he
  obtain ⟨h1, h2⟩ := ev_ok ht x
  unfold arrayAtF at hv
  split at hv
  · rename_i n e i o l c hu hx
    rw [hx] at h1 h2
    split at hv
    · rename_i hb
      cases hv
      have := Nat.le_of_ble_eq_true hb
      exact OpOk.vs h (by simp [Instr.arrayAt, h1, AV.conc, run_under hu]; omega) h2
    · cases hv
  · rename_i n e i o l c hu hx
    rw [hx] at h1 h2
    split at hv
    · rename_i hb
      cases hv
      have := Nat.le_of_ble_eq_true hb
      exact OpOk.vs h (by simp [Instr.arrayAt, h1, AV.conc, run_under hu]; omega) trivial
    · cases hv
  · cases hv

theorem op_typeAssert {t u : TypeId} {x : Operand} {ok : Bool} {r : OR} (h : Rel C N ρ H w) (ht : TmOk ρ nt tm a.tmps) (he : opTypeAssert x u ok C tm H = some r) :
    OpOk C N ρ H w (vs (Instr.typeAssert (a.eval x) t u ok)) r := by
  obtain ⟨v, hv, rfl⟩ := val_inv he
  obtain ⟨h1, h2⟩ := ev_ok ht x
  unfold assertF at hv
  split at hv
  · cases hv
  · rename_i ti hti
    have hto := tiOf_ok hti
    obtain ⟨z, z1, z2, z3, z4⟩ := hto.run_zero (w := w)
    split at hv
    · cases hv
    · rename_i hni
      have hd : ∀ ms, ti.d ≠ .interface ms := hni
      split at hv
      · rename_i hx
        rw [hx] at h1
        split at hv
        · cases hv
          refine OpOk.vs h ?_ ?_
          · simp only [Instr.typeAssert, Sem.run_bind, run_under hto.under, Result.andThen_ok, h1, AV.conc]
            have : ∀ (A : Sem Value) (B : Array (String × TypeId) → Sem Value), (match ti.d, Value.nilIface with | .interface _, .nilIface => A | _, .nilIface => (do pure (.tuple #[← zeroValue u, .bool false]) : Sem Value) | _, _ => A).run C.P w = (do pure (.tuple #[← zeroValue u, .bool false]) : Sem Value).run C.P w := by
              intro A B
              cases hdd : ti.d <;> first | rfl | exact absurd hdd (hd _)
            cases hdd : ti.d <;> first | exact absurd hdd (hd _) | simp [z1, (z3 ρ).1, AV.concs, AV.conc]
          · simp [AV.Ok, AV.Oks, (z3 ρ).2]
        · cases hv
      · rename_i t' v' hx
        rw [hx] at h1 h2
        have h2' : v'.Ok ρ := h2
        split at hv
        · rename_i hb
          cases hv
          have := beq_size hb
          subst this
          refine OpOk.vs h ?_ (by simp [AV.Ok, AV.Oks, h2'])
          simp only [Instr.typeAssert, Sem.run_bind, run_under hto.under, Result.andThen_ok, h1, AV.conc]
          cases hdd : ti.d <;> first | exact absurd hdd (hd _) | simp [AV.concs, AV.conc]
        · rename_i hb
          cases hv
          have := beq_size hb
          subst this
          refine OpOk.vs h ?_ h2'
          simp only [Instr.typeAssert, Sem.run_bind, run_under hto.under, Result.andThen_ok, h1, AV.conc]
          cases hdd : ti.d <;> first | exact absurd hdd (hd _) | simp [AV.concs, AV.conc]
        · rename_i hb
          cases hv
          have hne : t' ≠ u := fun e => by subst e; simp at hb
          refine OpOk.vs h ?_ (by simp [AV.Ok, AV.Oks, (z3 ρ).2])
          simp only [Instr.typeAssert, Sem.run_bind, run_under hto.under, Result.andThen_ok, h1, AV.conc]
          cases hdd : ti.d <;> first | exact absurd hdd (hd _) | simp [hne, z1, (z3 ρ).1, AV.concs, AV.conc]
        · cases hv
      · cases hv

end Go.Ev

namespace Go.Ev

variable {C : Ctx} {N : Nat} {ρ : Rho} {H : AH} {w : World} {nt : Nat} {tm : Tr AV} {a : Act}

theorem run_sliceBound {P : Program} {v : AV} {n y : Nat} {code : BoundsCode} (h : natOf v = some n) (hn : n ≤ y) : (Instr.sliceBound (v.conc ρ) y code).run P w = .ok n w := by
  obtain ⟨k, rfl⟩ := natOf_some h
  have h1 : (0 : Int) ≤ Int.ofNat n := by simp
  have h2 : Int.ofNat n ≤ (y : Int) := by simp only [Int.ofNat_eq_natCast]; omega
  simp [Instr.sliceBound, AV.conc, run_asIntOf, h1, h2, hn]

theorem bounds_ok {P : Program} {isS : Bool} {len kc cap l hh m : Nat} {lo hi mx : Option AV} (hk : kc ≤ cap) (h : boundsF len kc lo hi mx = some (l, hh, m)) :
    l ≤ hh ∧ hh ≤ m ∧ m ≤ kc ∧ (mx = none → m = kc) ∧
      (Instr.sliceBounds isS len cap (lo.map (AV.conc ρ)) (hi.map (AV.conc ρ)) (mx.map (AV.conc ρ))).run P w = .ok (l, hh, if mx.isSome then m else cap) w := by
  unfold boundsF at h
  split at h
  · split at h
    · rename_i h' l' hh' hl'
      split at h
      · rename_i hb
        cases h
        simp only [Bool.and_eq_true] at hb
        have b1 := Nat.le_of_ble_eq_true hb.1
        have b2 := Nat.le_of_ble_eq_true hb.2
        refine ⟨b1, b2, Nat.le_refl _, fun _ => rfl, ?_⟩
        cases hi with
        | none =>
          simp only [boundF, Option.some.injEq] at hh'
          subst hh'
          cases lo with
          | none =>
            simp only [boundF, Option.some.injEq] at hl'
            subst hl'
            simp [Instr.sliceBounds]
          | some lv =>
            simp only [boundF] at hl'
            simp [Instr.sliceBounds, run_sliceBound hl' b1]
        | some hv =>
          simp only [boundF] at hh'
          cases lo with
          | none =>
            simp only [boundF, Option.some.injEq] at hl'
            subst hl'
            simp [Instr.sliceBounds, run_sliceBound hh' (Nat.le_trans b2 hk)]
          | some lv =>
            simp only [boundF] at hl'
            simp [Instr.sliceBounds, run_sliceBound hl' b1, run_sliceBound hh' (Nat.le_trans b2 hk)]
      · cases h
    · cases h
  · rename_i mv
    split at h
    · cases h
    · rename_i hv
      split at h
      · rename_i m' h' l' hm' hh' hl'
        split at h
        · rename_i hb
          cases h
          simp only [Bool.and_eq_true] at hb
          have b1 := Nat.le_of_ble_eq_true hb.1.1
          have b2 := Nat.le_of_ble_eq_true hb.1.2
          have b3 := Nat.le_of_ble_eq_true hb.2
          refine ⟨b1, b2, b3, (fun e => by cases e), ?_⟩
          cases lo with
          | none =>
            simp only [boundF, Option.some.injEq] at hl'
            subst hl'
            simp [Instr.sliceBounds, run_sliceBound hm' (Nat.le_trans b3 hk), run_sliceBound hh' b2]
          | some lv =>
            simp only [boundF] at hl'
            simp [Instr.sliceBounds, run_sliceBound hm' (Nat.le_trans b3 hk), run_sliceBound hh' b2, run_sliceBound hl' b1]
        · cases h
      · cases h

/-- A row whose room is not known: so much room it has at least. -/
theorem Rel.rowG {i : Nat} {c : List AV} {e : TypeId} (h : Rel C N ρ H w) (hi : ρ i ≠ none) (hr : H.rowG i = some (c, e)) :
    c.length ≤ (ρ.b i).ecap * (ρ.b i).esz ∧ (ρ.b i).esz = C.P.cellsOf e := by
  cases hb : ρ i with
  | none => exact absurd hb hi
  | some β =>
    obtain ⟨o, ho, hob⟩ := h.obj i β hb
    have hbb : ρ.b i = β := by simp [Rho.b, hb]
    rw [hbb]
    unfold AH.rowG at hr
    rw [ho] at hr
    split at hr
    · rename_i c' g gen sh ext frz e' sg heq
      cases heq
      split at hr
      · rename_i hl
        cases hr
        obtain ⟨⟨cs, fr, h1, h2, h3, h4, h5, _⟩, ok, esz⟩ := hob hl
        have := h5 rfl
        exact ⟨by omega, esz⟩
      · cases hr
    · cases hr

theorem div_room {n ec sz o : Nat} (hz : 0 < sz) (ho : o ≤ n) (hn : n ≤ ec * sz) : (n - o) / sz ≤ ec - o / sz := by
  have h1 : o / sz ≤ ec := by
    apply Nat.div_le_of_le_mul
    rw [Nat.mul_comm]
    omega
  rw [Nat.div_le_iff_le_mul_add_pred hz]
  have h2 : o / sz * sz ≤ o := Nat.div_mul_le_self o sz
  have h4 : o < o / sz * sz + sz := Nat.lt_div_mul_add hz
  have h3 : sz * (ec - o / sz) = sz * ec - sz * (o / sz) := Nat.mul_sub sz _ _
  rw [h3, Nat.mul_comm sz ec, Nat.mul_comm sz (o / sz)]
  omega

theorem run_slice_slice {P : Program} {t e : TypeId} {isS : Bool} {l hh m size len cap : Nat} {b : Addr} {lo hi mx : Option Value} (hu : P.underlying t = some (.slice e)) (hs : (sizeOf e).run P w = .ok size w)
    (hb : (Instr.sliceBounds true len cap lo hi mx).run P w = .ok (l, hh, m) w) :
    (Instr.sliceAt t (.slice (some b) len cap) lo hi mx).run P w = .ok (.slice (some (if m = l then b else b.add (l * size))) (hh - l) (m - l)) w := by
  simp only [Instr.sliceAt, Sem.run_bind, run_under hu, Result.andThen_ok, Instr.slice, hb, hs]
  split <;> simp [*]

theorem op_slice {t : TypeId} {x : Operand} {lo hi mx : Option Operand} {r : OR} (h : Rel C N ρ H w) (ht : TmOk ρ nt tm a.tmps) (he : opSlice t x lo hi mx C tm H = some r) :
    OpOk C N ρ H w (vs (Instr.sliceAt t (a.eval x) (lo.map a.eval) (hi.map a.eval) (mx.map a.eval))) r := by
  obtain ⟨v, hv, rfl⟩ := val_inv he
  obtain ⟨h1, h2⟩ := ev_ok ht x
  have em : ∀ o : Option Operand, o.map a.eval = (o.map (ev tm)).map (AV.conc ρ) := fun o => by
    cases o with
    | none => rfl
    | some o => simp [(ev_ok ht o).1]
  rw [em lo, em hi, em mx]
  have ms : (mx.map (ev tm)).isSome = mx.isSome := by cases mx <;> rfl
  generalize lo.map (ev tm) = lo' at *
  generalize hi.map (ev tm) = hi' at *
  generalize mx.map (ev tm) = mx' at *
  generalize ev tm x = X at *
  rw [h1]
  unfold sliceF at hv
  split at hv
  · rename_i hu
    split at hv
    · rename_i s
      split at hv
      · rename_i l hh m hb
        cases hv
        obtain ⟨b1, b2, b3, b4, b5⟩ := bounds_ok (ρ := ρ) (w := w) (P := C.P) (isS := false) (Nat.le_refl s.length) hb
        have b5' : (Instr.sliceBounds false s.length s.length (lo'.map (AV.conc ρ)) (hi'.map (AV.conc ρ)) none).run C.P w = .ok (l, hh, s.length) w := b5
        refine OpOk.vs h ?_ (by simp [AV.Ok])
        simp only [Instr.sliceAt, Sem.run_bind, run_under hu, Result.andThen_ok, Instr.slice, AV.conc, ba_size, Option.map_none, Option.isSome_none, Bool.false_eq_true, if_false, Sem.run_pure, b5']
        congr 2
        apply ByteArray.ext
        simp only [ByteArray.data_extract]
        apply Array.ext_getElem?
        intro j
        simp [Array.getElem?_extract, List.getElem?_take, List.getElem?_drop]
      · cases hv
    · cases hv
  · rename_i n e hu
    split at hv
    · rename_i i o ti hti
      split at hv
      · rename_i l hh m hb
        cases hv
        obtain ⟨b1, b2, b3, b4, b5⟩ := bounds_ok (ρ := ρ) (w := w) (P := C.P) (isS := false) (Nat.le_refl n) hb
        have b6 : (if mx'.isSome then m else n) = m := by
          cases mx' with
          | none => exact (b4 rfl).symm
          | some _ => rfl
        rw [b6] at b5
        refine OpOk.vs h ?_ h2
        simp only [Instr.sliceAt, Sem.run_bind, run_under hu, Result.andThen_ok, AV.conc, Instr.sureAddr, Sem.run_pure, b5, (tiOf_ok hti).run_size, Option.getD_some]
        split <;> simp [add_none, Nat.add_assoc]
      · cases hv
    · cases hv
  · rename_i e hu
    split at hv
    · cases hv
    · rename_i ti hti
      have hsz := (tiOf_ok hti).run_size (w := w)
      split at hv
      · cases hv
      · rename_i hz
        have hz' : 0 < ti.size := Nat.pos_of_ne_zero fun e => by rw [e] at hz; cases hz
        split at hv
        · split at hv
          · rename_i r hb
            cases hv
            obtain ⟨l, hh, m⟩ := r
            obtain ⟨b1, b2, b3, b4, b5⟩ := bounds_ok (ρ := ρ) (w := w) (P := C.P) (isS := true) (Nat.le_refl 0) hb
            have e1 : m = 0 := by omega
            have e2 : hh = 0 := by omega
            have e3 : l = 0 := by omega
            subst e1 e2 e3
            refine OpOk.vs h ?_ (by simp [AV.Ok])
            simp only [Instr.sliceAt, Sem.run_bind, run_under hu, Result.andThen_ok, Instr.slice, AV.conc, b5, hsz]
            simp
          · cases hv
        · rename_i b o len cap
          split at hv
          · rename_i l hh m hb
            cases hv
            obtain ⟨b1, b2, b3, b4, b5⟩ := bounds_ok (ρ := ρ) (w := w) (P := C.P) (isS := true) (Nat.le_refl cap) hb
            have b6 : (if mx'.isSome then m else cap) = m := by
              cases mx' with
              | none => exact (b4 rfl).symm
              | some _ => rfl
            rw [b6] at b5
            refine OpOk.vs h ?_ (by simp [AV.Ok])
            simp only [AV.conc]
            rw [run_slice_slice (isS := true) hu hsz b5]
            split <;> simp [add_none]
          · cases hv
        · rename_i i o len cap
          split at hv
          · rename_i l hh m hb
            cases hv
            obtain ⟨b1, b2, b3, b4, b5⟩ := bounds_ok (ρ := ρ) (w := w) (P := C.P) (isS := true) (Nat.le_refl cap) hb
            have b6 : (if mx'.isSome then m else cap) = m := by
              cases mx' with
              | none => exact (b4 rfl).symm
              | some _ => rfl
            rw [b6] at b5
            refine OpOk.vs h ?_ h2
            simp only [AV.conc, Option.getD_some]
            rw [run_slice_slice (isS := true) hu hsz b5]
            split <;> simp [add_none, Nat.add_assoc]
          · cases hv
        · rename_i i o len
          split at hv
          · cases hv
          · rename_i c e' hrow
            split at hv
            · cases hv
            · rename_i hc
              simp only [Bool.and_eq_true] at hc
              have he := beq_size hc.1
              subst he
              have hoc := Nat.le_of_ble_eq_true hc.2
              obtain ⟨r1, r2⟩ := h.rowG h2 hrow
              have r3 : (ρ.b i).esz = ti.size := by rw [r2, (tiOf_ok hti).cellsOf]
              rw [r3] at r1
              have hkc : (c.length - o) / ti.size ≤ (ρ.b i).ecap - o / ti.size := div_room hz' hoc r1
              split at hv
              · cases hv
              · rename_i l hh m hb
                obtain ⟨b1, b2, b3, b4, b5⟩ := bounds_ok (ρ := ρ) (w := w) (P := C.P) (isS := true) hkc hb
                split at hv
                · rename_i mv
                  cases hv
                  refine OpOk.vs h ?_ h2
                  simp only [AV.conc, Option.getD_none, r3]
                  rw [run_slice_slice (isS := true) hu hsz b5]
                  simp only [Option.isSome_some, if_true, Option.getD_some]
                  split <;> simp [add_none, Nat.add_assoc]
                · have hm := b4 rfl
                  have hlk : l * ti.size ≤ c.length - o := by
                    have : l ≤ (c.length - o) / ti.size := by omega
                    exact (Nat.le_div_iff_mul_le hz').1 this
                  have hdiv : (o + l * ti.size) / ti.size = o / ti.size + l := by rw [Nat.add_mul_div_right _ _ hz']
                  split at hv
                  · rename_i hlt
                    have hlt' := blt_lt hlt
                    cases hv
                    refine OpOk.vs h ?_ h2
                    simp only [AV.conc, Option.getD_none, r3]
                    rw [run_slice_slice (isS := true) hu hsz b5]
                    have hne : (ρ.b i).ecap - o / ti.size ≠ l := by
                      intro hcl
                      have q1 : o / ti.size * ti.size ≤ o := Nat.div_mul_le_self o _
                      have q2 : o < o / ti.size * ti.size + ti.size := Nat.lt_div_mul_add hz'
                      have q3 : ((ρ.b i).ecap - o / ti.size) * ti.size = (ρ.b i).ecap * ti.size - o / ti.size * ti.size := Nat.sub_mul _ _ _
                      rw [hcl] at q3
                      omega
                    simp only [Option.isSome_none, Bool.false_eq_true, if_false, if_neg hne, hdiv, add_none]
                    congr 2
                    · simp [Nat.add_assoc]
                    · omega
                  · rename_i hlt
                    cases hv
                    refine OpOk.vs h ?_ h2
                    simp only [AV.conc, r3, Option.getD_none]
                    rw [run_slice_slice (isS := true) hu hsz b5]
                    have hge : c.length ≤ o + l * ti.size := by
                      rcases Nat.lt_or_ge (o + l * ti.size) c.length with q | q
                      · rw [show Nat.blt (o + l * ti.size) c.length = true by simpa [Nat.blt_eq] using q] at hlt; cases hlt
                      · exact q
                    have hhl : hh = l := by
                      have : hh ≤ (c.length - o) / ti.size := by omega
                      have := (Nat.le_div_iff_mul_le hz').1 this
                      have q : hh * ti.size ≤ l * ti.size := by omega
                      have := Nat.le_of_mul_le_mul_right q hz'
                      omega
                    subst hhl
                    simp only [Option.isSome_none, Bool.false_eq_true, if_false, hdiv, Nat.sub_self]
                    have hcl : ((ρ.b i).ecap - (o / ti.size + hh) = 0) ↔ ((ρ.b i).ecap - o / ti.size = hh) := by omega
                    congr 2
                    · by_cases hq : (ρ.b i).ecap - o / ti.size = hh
                      · rw [if_pos hq, if_pos (hcl.2 hq)]
                      · rw [if_neg hq, if_neg (fun e => hq (hcl.1 e))]
                        simp [add_none, Nat.add_assoc]
                    · omega
        · rename_i i b o
          split at hv
          · split at hv
            · rename_i r hb
              cases hv
              obtain ⟨l, hh, m⟩ := r
              obtain ⟨b1, b2, b3, b4, b5⟩ := bounds_ok (ρ := ρ) (w := w) (P := C.P) (isS := true) (Nat.zero_le ((ρ.b i).ecap - o / (ρ.b i).esz)) hb
              have e2 : hh = 0 := by omega
              have e3 : l = 0 := by omega
              subst e2 e3
              refine OpOk.vs h ?_ h2
              simp only [AV.conc]
              rw [run_slice_slice (isS := true) hu hsz b5]
              simp [add_none]
            · cases hv
          · cases hv
        · cases hv
  · cases hv

end Go.Ev

namespace Go.Ev

variable {C : Ctx} {N : Nat} {ρ : Rho} {H : AH} {w : World} {nt : Nat} {tm : Tr AV} {a : Act}

/-! ### Methods, nil checks -/

theorem methodF_ok {P : Program} {t : TypeId} {name : String} {f : FuncId} {v : Value} (hC : C.P = P) (h : methodF C t name = some f) :
    (∀ n, (method (n + 1) t v name).run P w = .ok (f, v) w) ∧ (∀ n, (nilAhead (n + 1) t v name).run P w = .ok (some false) w) := by
  subst hC
  unfold methodF at h
  split at h
  · cases h
  · rename_i i hi
    split at h
    · cases h
    · rename_i m hm
      split at h
      · rename_i f' e hp hf hu
        cases h
        have hp' : m.path.toList = [] := by simpa using hp
        constructor
        · intro n
          simp [method, typeInfo, hi, hm, hp', follow, hf, receiverAt, run_under hu, Place.get]
        · intro n
          simp [nilAhead, typeInfo, hi, hm, hp', followBlind, hf]
      · cases h

theorem depth_pos (P : Program) : ∃ n, P.types.size + Made.depth = n + 1 := ⟨P.types.size + (Made.depth - 1), by
  have : 0 < Made.depth := by decide
  omega⟩

/-- The nil check of a value, as the machine's step does it. -/
def nilCheckS (_ : Program) (x : Value) : Sem Next :=
  execOp (fun _ => x) { dst := none, op := .nilCheck (.tmp 0), type := 0, pos := "", after := #[], guard := none }

theorem op_nilCheck {x : Operand} {r : OR} (h : Rel C N ρ H w) (ht : TmOk ρ nt tm a.tmps) (he : opNilCheck x C tm H = some r) :
    OpOk C N ρ H w (nilCheckS C.P (a.eval x)) r := by
  obtain ⟨v, hv, rfl⟩ := val_inv he
  obtain ⟨h1, h2⟩ := ev_ok ht x
  rw [h1]
  generalize ev tm x = X at *
  unfold nilCheckF at hv
  split at hv
  · cases hv; exact OpOk.pure h (by simp [nilCheckS, execOp, AV.conc]) h2
  · cases hv; exact OpOk.pure h (by simp [nilCheckS, execOp, AV.conc]) h2
  · cases hv; exact OpOk.pure h (by simp [nilCheckS, execOp, AV.conc]) h2
  · cases hv; exact OpOk.pure h (by simp [nilCheckS, execOp, AV.conc]) h2
  · cases hv; exact OpOk.pure h (by simp [nilCheckS, execOp, AV.conc]) h2
  · split at hv
    · rename_i hm
      cases hv
      obtain ⟨n, hn⟩ := depth_pos C.P
      refine OpOk.pure h ?_ h2
      simp [nilCheckS, execOp, AV.conc, AV.concs, hn, (methodF_ok rfl hm).2]
    · cases hv
  · cases hv

/-! ### A new array with room -/

theorem alloc_grown {c : List AV} {e : TypeId} {rest : Array Value} {cap sz : Nat} {fr : Nat × Nat} {sg : Bool} (h : Rel C N ρ H w) (hc : ∀ x ∈ c, x.Ok ρ) (hsz : sz = C.P.cellsOf e)
    (hcap : c.length + rest.size = cap * sz) (hfr : fr.1 = fr.2 ∨ sg = true ∧ fr.1 = c.length + rest.size) :
    Steps' C N ρ H w (ρ.put H.n ⟨w.heap.size, 0, cap, sz⟩) (H.new (.row c H.n 0 false false 0 e false sg)) (w.alloc (.cells (clos ρ c ++ rest) e fr)) := by
  have hl : ρ.le (ρ.put H.n ⟨w.heap.size, 0, cap, sz⟩) := Rho.le_put h.none_n
  refine Steps'.alloc h rfl (fun _ _ _ _ _ _ _ _ he => by cases he) ?_
  intro _
  refine ⟨⟨clos ρ c ++ rest, fr, alloc_new, by simp [clos], fun j hj => ?_, fun hh => (by cases hh), fun _ => by simp [clos, hcap], fun j _ hj hh => ?_, fun hh => ?_⟩, fun x hx => (conc_le hl x (hc x hx)).2, hsz⟩
  · have : (0 : Nat) + j < (clos ρ c).size := by simp [clos, hj]
    rw [Array.getElem?_append_left this]
    simp [clos, hj, (conc_le hl _ (hc _ (List.getElem_mem hj))).1]
  · simp only [Nat.zero_add] at hj hh
    have : j < c.length + rest.size := by simpa [clos] using hj
    rcases hfr with e | ⟨_, e⟩ <;> omega
  · rcases hfr with e | ⟨e, _⟩
    · exact .inl e
    · rw [hh] at e; cases e

theorem alloc_freeze {w : World} {cs : Array Value} {e : TypeId} {n k : Nat} (hk : k ≠ 0) : (w.alloc (.cells cs e (0, 0))).freeze ⟨w.heap.size, n, none⟩ k = w.alloc (.cells cs e (n, n + k)) := by
  simp only [World.freeze, if_neg hk, World.alloc]
  congr 1
  apply Array.ext_getElem?
  intro i
  simp only [Array.getElem?_modify, Array.getElem?_push]
  by_cases hi : i = w.heap.size
  · subst hi; simp
  · rw [if_neg (Ne.symm hi)]; simp [hi]

theorem drew_steps (h : Rel C N ρ H w) : Steps' C N ρ H w ρ H w.drew := Steps'.world h (Nat.le_refl _) fun _ _ => rfl

theorem cut_cap (need oc : Nat) (e : TypeId) (t : Nat) : need ≤ (Question.appendCap need oc e).cut t := by simp [Question.cut]

theorem run_choose_cap {P : Program} {n oc : Nat} {e : TypeId} : (choose (.appendCap n oc e)).run P w = .ok ((Question.appendCap n oc e).cut (w.tape w.drawn (Question.appendCap n oc e))) w.drew := by
  rw [run_choose]
  rfl
theorem run_newObj_al {P : Program} {o : Obj} : (newObj o).run P w = .ok w.heap.size (w.alloc o) := rfl

/-! ### Elements -/

theorem addr_zero (b o : Nat) : (Addr.mk b (o + 0) none) = ⟨b, o, none⟩ := rfl

theorem elems_ok {x : AV} {sz n : Nat} {l : List AV} (h : Rel C N ρ H w) (hx : x.Ok ρ) (hr : elemsF C H sz n x = some l) (hn : ∀ m, srcLen x = some m → n ≤ m) :
    (Builtin.firstCells sz n (x.conc ρ)).run C.P w = .ok (clos ρ l) w ∧ (∀ v ∈ l, v.Ok ρ) ∧ (∀ m, srcLen x = some m → l.length = n * sz) := by
  have row : ∀ {y : AV} {b o : Nat} {n' : Nat}, y.Ok ρ → y.conc ρ = .pointer (some ⟨b, o, none⟩) → readN C H y 0 (n' * sz) = some l →
      (loadCells ⟨b, o, none⟩ (n' * sz)).run C.P w = .ok (clos ρ l) w ∧ (∀ v ∈ l, v.Ok ρ) ∧ l.length = n' * sz := by
    intro y b o n' hy hyc hyr
    obtain ⟨r1, r2, b', o', r3, r4⟩ := readN_ok h hy hyr
    rw [hyc] at r3
    cases r3
    exact ⟨loadCells_ok r1 fun j hj => by have := r4 j hj; simpa using this, r2, r1⟩
  unfold elemsF at hr
  split at hr
  · cases hr
    refine ⟨by simp [Builtin.firstCells, AV.conc, clos], fun v hv => (by cases hv), fun m hm => ?_⟩
    have : n = 0 := by have := hn 0 rfl; omega
    subst this; simp
  · cases hr
    have : n = 0 := by have := hn 0 rfl; omega
    subst this
    refine ⟨by simp [Builtin.firstCells, AV.conc, clos, loadCells, loadCellsFrom], fun v hv => (by cases hv), fun m hm => by simp⟩
  · split at hr
    · obtain ⟨r1, r2, r3⟩ := row (y := .optr _ _) trivial rfl hr
      exact ⟨by simpa [Builtin.firstCells, AV.conc] using r1, r2, fun _ _ => r3⟩
    · cases hr
  · split at hr
    · obtain ⟨r1, r2, r3⟩ := row (y := .nptr _ _) hx rfl hr
      exact ⟨by simpa [Builtin.firstCells, AV.conc] using r1, r2, fun _ _ => r3⟩
    · cases hr
  · rename_i s
    split at hr
    case h_2 => cases hr
    rename_i hsz
    have hsz' := beq_size hsz
    subst hsz'
    cases hr
    have hs := hn s.length rfl
    refine ⟨?_, ?_, fun _ _ => (by simp; omega)⟩
    · simp only [Builtin.firstCells, AV.conc, Sem.run_pure, clos]
      congr 1
      apply Array.ext_getElem?
      intro j
      simp [ByteArray.data_extract, Array.getElem?_extract, AV.conc, List.getElem?_take]
      by_cases hj : j < n <;> simp [hj]
      cases s[j]? <;> simp [AV.conc]
    · intro v hv
      obtain ⟨b, _, rfl⟩ := List.mem_map.1 hv
      simp [AV.Ok]
  · cases hr

theorem srcLen_ok {P : Program} {x : AV} {n : Nat} (h : srcLen x = some n) : (Builtin.lenOf (x.conc ρ)).run P w = .ok n w := by
  unfold srcLen at h
  split at h <;> first | (cases h; simp [Builtin.lenOf, AV.conc, ba_size]; done) | cases h

theorem byteOf_some {v : AV} {b : UInt8} (h : byteOf' v = some b) : ∃ n : Nat, v = .int .u8 (.ofNat n) ∧ b = UInt8.ofNat n := by
  unfold byteOf' at h
  split at h
  · cases h; exact ⟨_, rfl, rfl⟩
  · cases h

end Go.Ev

namespace Go.Ev

variable {C : Ctx} {N : Nat} {ρ : Rho} {H : AH} {w : World} {nt : Nat} {tm : Tr AV} {a : Act}

/-! ### Conversions -/

theorem bytes_push (l : List UInt8) (r : ByteArray) : (l.foldl (fun r b => r.push b) r) = ⟨r.data ++ l.toArray⟩ := by
  induction l generalizing r with
  | nil => apply ByteArray.ext; simp
  | cons b l ih =>
    rw [List.foldl_cons, ih]
    apply ByteArray.ext
    simp [ByteArray.data_push]

theorem run_bytes {P : Program} {b : Addr} {len cap : Nat} {l : List AV} {s : List UInt8} (hl : (loadCells b len).run P w = .ok (clos ρ l) w) (hs : l.mapM byteOf' = some s) :
    (Conv.bytesToString (.slice (some b) len cap)).run P w = .ok (.string ⟨s.toArray⟩) w := by
  obtain ⟨ns, h1, h2⟩ : ∃ ns : List Int, clos ρ l = (ns.map (Value.int .u8)).toArray ∧ ns.map (fun n => UInt8.ofNat n.toNat) = s := by
    clear hl
    induction l generalizing s with
    | nil => simp at hs; subst hs; exact ⟨[], by simp [clos], rfl⟩
    | cons v l ih =>
      rw [List.mapM_cons] at hs
      cases hv : byteOf' v with
      | none => rw [hv] at hs; cases hs
      | some y =>
        rw [hv] at hs
        cases hl : l.mapM byteOf' with
        | none => rw [hl] at hs; cases hs
        | some ys =>
          rw [hl] at hs
          cases hs
          obtain ⟨ns, e1, e2⟩ := ih hl
          obtain ⟨n, rfl, rfl⟩ := byteOf_some hv
          refine ⟨Int.ofNat n :: ns, ?_, by simp [e2]⟩
          have e1' : l.map (AV.conc ρ) = ns.map (Value.int .u8) := by
            have := congrArg Array.toList e1
            simpa [clos] using this
          simp [clos, e1', AV.conc]
  rw [run_bytesToString w b len cap ns (by rw [hl, h1])]
  have : (ns.foldl (fun r n => r.push (UInt8.ofNat n.toNat)) ByteArray.empty) = (s.foldl (fun r b => r.push b) ByteArray.empty) := by
    rw [← h2, List.foldl_map]
  rw [this, bytes_push]
  congr 2
  congr 1
  show #[] ++ s.toArray = _
  simp

theorem run_shape_row {β : Base} {c : List AV} {frz : Nat} {e : TypeId} {wh sg : Bool} (h : RowOk C ρ β c frz e wh sg w) :
    ∃ n, w.shape? β.blk = some (e, n) ∧ β.off + c.length ≤ n ∧ (wh = true → β.off = 0 ∧ n = c.length) := by
  obtain ⟨⟨cs, fr, h1, h2, h3, h4, _⟩, _⟩ := h
  exact ⟨cs.size, by simp [World.shape?, h1], h2, h4⟩

theorem run_seenAt {P : Program} {b o : Nat} {x : TypeId × Nat} (h : w.shape? b = some x) : (Conv.seenAt ⟨b, o, none⟩).run P w = .ok ⟨b, o, none⟩ w := by
  simp [Conv.seenAt, viewAt, h]

/-- An entry of the run's heap, and its object. -/
theorem Rel.at {i : Nat} {o : AObj} (h : Rel C N ρ H w) (hi : ρ i ≠ none) (ho : H.o.get i = some o) : ObjOk C ρ H (ρ.b i) w o := by
  cases hb : ρ i with
  | none => exact absurd hb hi
  | some β =>
    obtain ⟨o', ho', hob⟩ := h.obj i β hb
    rw [ho] at ho'
    cases ho'
    rw [show ρ.b i = β by simp [Rho.b, hb]]
    exact hob

theorem op_convert {s d : TypeId} {x : Operand} {r : OR} (h : Rel C N ρ H w) (ht : TmOk ρ nt tm a.tmps) (he : opConvert s d x C tm H = some r) :
    OpOk C N ρ H w (vs (convert s d (a.eval x))) r := by
  obtain ⟨v, H', hv, rfl⟩ := valH_inv he
  obtain ⟨h1, h2⟩ := ev_ok ht x
  rw [h1]
  generalize ev tm x = X at *
  unfold convertF at hv
  split at hv
  · -- to an unsafe pointer
    rename_i t hu hud
    split at hv
    · rename_i i o ti hti
      split at hv
      · rename_i c hc
        split at hv
        · rename_i hb
          cases hv
          simp only [Bool.and_eq_true] at hb
          have b1 := blt_lt hb.1
          have b2 : ti.size ≠ 0 := fun e => by rw [e] at hb; simp at hb
          obtain ⟨e, hr⟩ := cells_row hc
          obtain ⟨frz, wh, sg, hrow⟩ := h.row h2 hr
          obtain ⟨n, n1, n2, n3⟩ := run_shape_row hrow
          refine OpOk.vs h ?_ h2
          simp only [convert, Sem.run_bind, run_under hu, run_under hud, Result.andThen_ok, AV.conc]
          simp only [Conv.unsafePointer, Sem.run_bind, run_under hu, run_under hud, Result.andThen_ok, run_seenAt n1, cellsIn, run_shape, n1, (tiOf_ok hti).run_size]
          have : ¬ (n ≤ (ρ.b i).off + o) := by omega
          simp [b2, this]
        · cases hv
      · cases hv
    · cases hv
  · -- from one
    rename_i u hu hud
    split at hv
    · rename_i i o ti hti
      split at hv
      · rename_i c g gen sh ext frz e sg ho
        split at hv
        · rename_i hb
          cases hv
          simp only [Bool.and_eq_true] at hb
          obtain ⟨⟨l1, l2⟩, l3⟩ := hb
          obtain ⟨n, n1, n2, n3⟩ := run_shape_row (h.at h2 ho l1)
          obtain ⟨o1, o2⟩ := n3 rfl
          subst o2
          refine OpOk.vs h ?_ h2
          simp only [convert, Sem.run_bind, run_under hu, run_under hud, Result.andThen_ok, AV.conc]
          simp only [Conv.unsafePointer, Sem.run_bind, run_under hu, run_under hud, Result.andThen_ok, run_seenAt n1, (tiOf_ok hti).run_size]
          simp [variablesAt, n1, o1, l3]
        · cases hv
      · cases hv
    · cases hv
  · -- a number
    rename_i sd k hu hud
    split at hv
    · rename_i k' n
      cases hv
      refine OpOk.vs h ?_ (by simp [AV.Ok])
      simp only [convert, Sem.run_bind, run_under hu, run_under hud, Result.andThen_ok, AV.conc, wrapF_eq]
      cases sd <;> simp [Conv.intToInt]
    · cases hv
  · -- to a string
    rename_i sd hu hud
    split at hv
    · rename_i z
      cases hv
      refine OpOk.vs h ?_ h2
      simp only [convert, Sem.run_bind, run_under hu, run_under hud, Result.andThen_ok, AV.conc]
      cases sd <;> simp
    · rename_i hns
      split at hv
      · rename_i e
        split at hv
        · rename_i hue
          split at hv
          · cases hv
          · rename_i n hn
            split at hv
            · cases hv
            · rename_i l hl
              split at hv
              · rename_i z hz
                cases hv
                obtain ⟨g1, g2, g3⟩ := elems_ok h h2 hl (fun m hm => by rw [hn] at hm; cases hm; exact Nat.le_refl _)
                refine OpOk.vs h ?_ (by simp [AV.Ok])
                have go : ∀ X' : Value, (∀ z, X' ≠ .string z) → (∀ k n, X' ≠ .int k n) → (convert s d X').run C.P w = (Conv.bytesToString X').run C.P w := by
                  intro X' q1 q2
                  simp only [convert, Sem.run_bind, run_under hu, run_under hud, Result.andThen_ok]
                  cases X' <;> first | exact absurd rfl (q1 _) | exact absurd rfl (q2 _ _) | simp [run_under hue]
                unfold srcLen at hn
                split at hn
                · cases hn
                  rw [go _ (by simp [AV.conc]) (by simp [AV.conc])]
                  simp only [elemsF, Option.some.injEq] at hl
                  subst hl
                  simp at hz
                  subst hz
                  simp [AV.conc, Conv.bytesToString, ByteArray.empty, ByteArray.emptyWithCapacity]
                  rfl
                · cases hn
                  rw [go _ (by simp [AV.conc]) (by simp [AV.conc])]
                  simp only [AV.conc, Builtin.firstCells] at g1 ⊢
                  exact run_bytes (by simpa using g1) hz
                · cases hn
                  rw [go _ (by simp [AV.conc]) (by simp [AV.conc])]
                  simp only [AV.conc, Builtin.firstCells] at g1 ⊢
                  exact run_bytes (by simpa using g1) hz
                · cases hn
                  rw [go _ (by simp [AV.conc]) (by simp [AV.conc])]
                  simp only [AV.conc, Builtin.firstCells] at g1 ⊢
                  exact run_bytes (by simpa using g1) hz
                · exact absurd rfl (hns _)
                · cases hn
              · cases hv
        · cases hv
      · cases hv
  · -- a string's bytes
    rename_i e hu hud
    split at hv
    · rename_i z ti hue hti
      split at hv
      · rename_i hsz
        have hsz' := beq_size hsz
        cases hv
        let cap := (Question.appendCap z.length 0 e).cut (w.tape w.drawn (Question.appendCap z.length 0 e))
        have hcap : z.length ≤ cap := cut_cap _ _ _ _
        have hs1 := drew_steps h
        have hrel := hs1.rel
        have hs2 := alloc_grown (C := C) (ρ := ρ) (H := H) (w := w.drew) (c := z.map fun b => .int .u8 b.toNat) (e := e) (rest := Array.replicate (cap - z.length) (.int .u8 0)) (cap := cap) (sz := 1)
          (fr := (cap, cap + 1)) (sg := true) hrel (fun x hx => by obtain ⟨b, _, rfl⟩ := List.mem_map.1 hx; simp [AV.Ok]) (by rw [(tiOf_ok hti).cellsOf, hsz']) (by simp; omega)
          (.inr ⟨rfl, by simp; omega⟩)
        have hval : ∀ v : AV, v = strRow H.n z → v.conc (ρ.put H.n ⟨w.drew.heap.size, 0, cap, 1⟩) = .slice (some ⟨w.heap.size, 0, none⟩) z.length cap ∧ v.Ok (ρ.put H.n ⟨w.drew.heap.size, 0, cap, 1⟩) := by
          intro v hv
          cases z with
          | nil => subst hv; exact ⟨by simp [strRow, AV.conc, Rho.put_b], by simp [strRow, AV.Ok, Rho.put]⟩
          | cons b z => subst hv; exact ⟨by simp [strRow, AV.conc, Rho.put_b], by simp [strRow, AV.Ok, Rho.put]⟩
        obtain ⟨v1, v2⟩ := hval _ rfl
        refine ⟨_, _, run_vs ?_, v2, hs1.trans hs2⟩
        have hsize : (clos ρ (z.map fun b => AV.int .u8 b.toNat) ++ Array.replicate (cap - z.length) (Value.int .u8 0)).size = cap := by simp [clos]; omega
        have helems : (Array.map (fun b : UInt8 => Value.int .u8 b.toNat) z.toArray) = clos ρ (z.map fun b => AV.int .u8 b.toNat) := by simp [clos, AV.conc]
        have hconv : (convert s d (.string ⟨z.toArray⟩)).run C.P w = (Conv.stringToBytes e ⟨z.toArray⟩).run C.P w := by
          simp only [convert, Sem.run_bind, run_under hu, run_under hud, Result.andThen_ok, run_under hue]
        simp only [AV.conc]
        rw [hconv, v1]
        simp only [Conv.stringToBytes, Sem.run_bind, ba_size, run_choose_cap, Result.andThen_ok, Go.newRow, run_newObj_al, Sem.run_pure, markStringish, run_shape]
        have hsh : (w.drew.alloc (.cells (clos ρ (z.map fun b => AV.int .u8 b.toNat) ++ Array.replicate (cap - z.length) (Value.int .u8 0)) e (0, 0))).shape? w.drew.heap.size = some (e, cap) := by
          simp only [World.shape?, alloc_new, hsize]
        rw [helems]
        rw [hsh]
        simp only [run_freeze, Result.andThen_ok]
        rw [alloc_freeze (by simp)]
        rfl
      · cases hv
    · cases hv
  · cases hv

end Go.Ev
