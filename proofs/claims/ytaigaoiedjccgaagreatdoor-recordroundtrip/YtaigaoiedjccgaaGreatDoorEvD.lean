/-
  A part of the evaluator by names: that what it answers is what the machine does. For every program and every world in which the given facts hold.
-/
import Derived.Test.YtaigaoiedjccgaaGreatDoorEvC
import Derived.CallsIn
import Derived.ControlIn
import Derived.DefersIn
set_option linter.unusedVariables false
set_option linter.unusedSimpArgs false

namespace Go.Ev

variable {C : Ctx} {N : Nat} {ρ : Rho} {H : AH} {w : World} {nt : Nat} {tm : Tr AV} {a : Act}

theorem Steps'.behind {H' : AH} {w' : World} {i : Nat} {c cN : List AV} {g gen G frz frzN : Nat} {sh ext sg : Bool} {e : TypeId} {β β' : Base} (h : Rel C N ρ H w) (hi : ρ i = some β)
    (ho : H.o.get i = some (.row c g gen sh ext frz e false sg)) (hl : H.live g gen sh = true) (hG : G = if ext then H.gen g + 1 else H.gen g) (hro : H.ro ≤ i)
    (hn : H'.n = H.n + 1) (hr : H'.ro = H.ro) (hget : ∀ j, H'.o.get j = if j = H.n then some (.row cN g G true false frzN e false sg) else if j = i then some (.row c g G true true frz e false sg) else H.o.get j)
    (hgen : ∀ x, H'.gen x = if x = g then G else H.gen x) (hsize : w.heap.size ≤ w'.heap.size) (hoth : ∀ b, b < w.heap.size → b ≠ β.blk → w'.heap[b]? = w.heap[b]?)
    (hri : RowOk C ρ β c frz e false sg w') (hrn : RowOk C (ρ.put H.n β') β' cN frzN e false sg w')
    (hblk : β'.blk = β.blk ∧ β.off + c.length ≤ β'.off + cN.length ∨ w.heap.size ≤ β'.blk ∧ β'.blk < w'.heap.size)
    (hrj : ext = false → ∀ γ c1 frz1 e1 wh1 sg1, RowOk C ρ γ c1 frz1 e1 wh1 sg1 w → γ.blk = β.blk → γ.off + c1.length ≤ β.off + c.length → RowOk C ρ γ c1 frz1 e1 wh1 sg1 w') (hout : w'.os = w.os ∧ w'.output = w.output := by exact ⟨rfl, rfl⟩) :
    Steps' C N ρ H w (ρ.put H.n β') H' w' where
  out := hout
  le := Rho.le_put h.none_n
  rel := h.behind hi ho hl hG hn hget hgen hsize hoth hri hrn hblk hrj
  keeps := ⟨hsize, fun b hb hm => hoth b hb fun e => by have := hm i β hi e.symm; omega⟩
  ro := hr
  n := by omega
  pend := fun j hj hn' => by
    have : j ≠ i := by rintro rfl; rw [hi] at hn'; cases hn'
    exact ⟨by rw [hget, if_neg (by omega), if_neg this], by simp only [Rho.put]; rw [if_neg (by omega)]; exact hn'⟩
  blks := fun j γ hj hn' => by
    simp only [Rho.put] at hj
    split at hj
    · cases hj
      rcases hblk with ⟨b1, _⟩ | ⟨b1, _⟩
      · exact .inr ⟨i, β, hro, hi, b1.symm⟩
      · exact .inl b1
    · rw [hn'] at hj; cases hj

theorem behind_heap {H H' : AH} {i g G frz frzN : Nat} {ext sg : Bool} {c cN : List AV} {e : TypeId} (hi : i < H.n) (hG : G = if ext then H.gen g + 1 else H.gen g)
    (hH : H' = (AH.mk H.n H.ro (H.o.set i (.row c g G true true frz e false sg)) (if ext then H.g.set g G else H.g)).new (.row cN g G true false frzN e false sg)) :
    H'.n = H.n + 1 ∧ H'.ro = H.ro ∧ (∀ j, H'.o.get j = if j = H.n then some (.row cN g G true false frzN e false sg) else if j = i then some (.row c g G true true frz e false sg) else H.o.get j) ∧
      (∀ x, H'.gen x = if x = g then G else H.gen x) := by
  subst hH
  refine ⟨rfl, rfl, fun j => ?_, fun x => ?_⟩
  · simp only [AH.new, Tr.get_set]
  · cases ext with
    | true =>
      simp only [AH.new, AH.gen, if_true, Tr.get_set]
      by_cases hx : x = g <;> simp [hx]
    | false =>
      simp only [Bool.false_eq_true, if_false] at hG
      simp only [AH.new, AH.gen, Bool.false_eq_true, if_false]
      by_cases hx : x = g
      · subst hx; rw [if_pos rfl, hG]; rfl
      · rw [if_neg hx]

theorem behind_ok {ti : TI} {t e ty : TypeId} {us : List TypeId} {i o l n : Nat} {new : List AV} {x : Value} {v : AV} {H' : AH} {A : Addr} (h : Rel C N ρ H w) (hd : ρ i ≠ none)
    (hu : C.P.underlying t = some (.slice e)) (hus : OkUs C.P us) (hti : tiOf C.P e = some ti) (hsz : ti.size ≠ 0) (hbz : ti.bytes ≠ 0) (hn0 : n ≠ 0) (hx : ∀ w, (Builtin.lenOf x).run C.P w = .ok n w)
    (hnew : (Builtin.firstCells ti.size n x).run C.P w = .ok (clos ρ new) w) (hnew' : (Builtin.firstCells ti.size n x).run C.P w.drew = .ok (clos ρ new) w.drew)
    (hnl : new.length = n * ti.size) (hn : ∀ v ∈ new, v.Ok ρ) (hcell : ∀ v ∈ new, v.isCell = true)
    (hA : l + n ≤ (ρ.b i).ecap - o / (ρ.b i).esz → A = ⟨(ρ.b i).blk, (ρ.b i).off + o, none⟩) (hA' : l ≠ 0 → A = ⟨(ρ.b i).blk, (ρ.b i).off + o, none⟩)
    (hb : behindF H ti e i o l n new = some (v, H')) :
    ∃ ρ' w', (Builtin.append_ (t :: us).toArray ty #[.slice (some A) l ((ρ.b i).ecap - o / (ρ.b i).esz), x]).run C.P w = .ok (v.conc ρ') w' ∧ v.Ok ρ' ∧ Steps' C N ρ H w ρ' H' w' := by
  have hz : 0 < ti.size := Nat.pos_of_ne_zero hsz
  have hto := tiOf_ok hti
  have hsr := hto.run_size (w := w)
  cases hβ : ρ i with
  | none => exact absurd hβ hd
  | some β =>
  have hbb : ρ.b i = β := by simp [Rho.b, hβ]
  rw [hbb] at hA hA' ⊢
  unfold behindF at hb
  split at hb
  · cases hb
  · rename_i hroom
    have hroom' := Nat.le_of_ble_eq_true hroom
    split at hb
    · rename_i c g gen sh ext frz e' wh sg hget
      split at hb
      · cases hb
      · rename_i hc
        simp only [Bool.and_eq_true] at hc
        obtain ⟨⟨hlive, he⟩, hwh⟩ := hc
        have he' := beq_size he
        subst he'
        have hwh' : wh = false := by simpa using hwh
        subst hwh'
        have hrow : RowOk C ρ β c frz e false sg w := by have := h.at hd hget hlive; rw [hbb] at this; exact this
        obtain ⟨⟨cs, fr, r1, r2, r3, r4, r5, r6, r7⟩, rok, resz⟩ := hrow
        have hez : β.esz = ti.size := by rw [resz, hto.cellsOf]
        have hcap := r5 rfl
        rw [hez] at hcap hA ⊢
        have hclen : c.length ≤ β.ecap * ti.size := by omega
        split at hb
        · rename_i htip
          split at hb
          · rename_i hmid
            have hmid' := Nat.le_of_ble_eq_true hmid
            cases hp : H.put i (o + l * ti.size) new with
            | none => rw [hp] at hb; cases hb
            | some H1 =>
              rw [hp] at hb
              cases hb
              obtain ⟨w', hw, hst⟩ := Steps'.put (P := C.P) h hp hβ hn hcell
              have hR : l + n ≤ β.ecap - o / ti.size := by
                refine Nat.le_trans ?_ (div_room (n := c.length) (ec := β.ecap) hz (by omega) hclen)
                exact (Nat.le_div_iff_mul_le hz).2 (by omega)
              have hAe := hA hR
              subst hAe
              refine ⟨ρ, w', ?_, hd, hst⟩
              rw [run_append_in hu hus hsr (hx w) hR]
              simp only [Sem.run_bind, hnew, Result.andThen_ok, add_none, Nat.add_assoc]
              simp only [clos]
              rw [hw]
              simp [AV.conc, hbb, hez]
          · cases hb
        · rename_i htip
          have htip' := beq_size htip
          split at hb
          · cases hb
          · rename_i hcnd
            simp only [Bool.and_eq_true] at hcnd
            obtain ⟨⟨⟨k1, k2⟩, k3⟩, k4⟩ := hcnd
            have k1' := Nat.le_of_ble_eq_true k1
            have k2' := Nat.le_of_ble_eq_true k2
            have k3' : o % ti.size = 0 := beq_size k3
            have k4' := beq_size k4
            have hodiv : o / ti.size * ti.size = o := Nat.div_mul_cancel (Nat.dvd_of_mod_eq_zero k3')
            -- what 'behindF' has made
            have hform : v = .nslc H.n 0 (l + n) none ∧ ∃ G, G = (if ext then H.gen g + 1 else H.gen g) ∧
                H' = (AH.mk H.n H.ro (H.o.set i (.row c g G true true frz e false sg)) (if ext then H.g.set g G else H.g)).new (.row (c.drop o ++ new) g G true false (frz - o) e false sg) := by
              cases ext with
              | false => simp only [Option.some.injEq, Prod.mk.injEq] at hb; exact ⟨hb.1.symm, _, rfl, hb.2.symm⟩
              | true => simp only [Option.some.injEq, Prod.mk.injEq] at hb; exact ⟨hb.1.symm, _, rfl, hb.2.symm⟩
            obtain ⟨rfl, G, hG, hH⟩ := hform
            obtain ⟨q1, q2, q3, q4⟩ := behind_heap (h.lt i β hβ).1 hG hH
            have hle := fun β' => Rho.le_put (ρ := ρ) (i := H.n) (β := β') h.none_n
            have hbl : β.blk < w.heap.size := (h.lt i β hβ).2.2
            have hdropok : ∀ y ∈ c.drop o ++ new, y.Ok ρ := fun y hy => by
              rcases List.mem_append.1 hy with q | q
              · exact rok y (List.mem_of_mem_drop q)
              · exact hn y q
            have hdl : (c.drop o).length = l * ti.size := by rw [List.length_drop]; omega
            by_cases hR : l + n ≤ β.ecap - o / ti.size
            · -- into the room
              have hAe := hA hR
              subst hAe
              have hmul : (l + n) * ti.size ≤ β.ecap * ti.size - o := by
                have := Nat.mul_le_mul_right ti.size hR
                rw [Nat.sub_mul, hodiv] at this
                exact this
              have hmul' : (l + n) * ti.size = l * ti.size + n * ti.size := Nat.add_mul _ _ _
              have hnpos : 0 < n * ti.size := Nat.mul_pos (Nat.pos_of_ne_zero hn0) hz
              have hstore := run_storeCells (P := C.P) (b := β.blk) (o := β.off + c.length) (e := e) (fr := fr) (new.map (AV.conc ρ)) 0 w cs r1 (by simp; omega)
                (fun j h1 h2 => by
                  simp only [Nat.add_zero, List.length_map] at h1 h2
                  have := r6 (j - β.off) (by omega) (by omega)
                  rw [show β.off + (j - β.off) = j by omega] at this
                  exact this)
                (fun y hy => by obtain ⟨z, hz', rfl⟩ := List.mem_map.1 hy; exact isCell_conc (hcell z hz'))
              simp only [Nat.add_zero] at hstore
              have hlaid : ∀ j, (laid cs (β.off + c.length) (new.map (AV.conc ρ)))[j]? = if β.off + c.length ≤ j ∧ j < β.off + c.length + new.length then (new.map (AV.conc ρ))[j - (β.off + c.length)]? else cs[j]? := fun j => by
                have := laid_get (new.map (AV.conc ρ)) cs (β.off + c.length) j (by simp; omega)
                simpa using this
              have hw' : (wput w β.blk (.cells (laid cs (β.off + c.length) (new.map (AV.conc ρ))) e fr)).heap[β.blk]? = some (.cells (laid cs (β.off + c.length) (new.map (AV.conc ρ))) e fr) := by
                rw [putObj_get, if_pos ⟨rfl, hbl⟩]
              refine ⟨ρ.put H.n ⟨β.blk, β.off + o, β.ecap - o / ti.size, ti.size⟩, wput w β.blk (.cells (laid cs (β.off + c.length) (new.map (AV.conc ρ))) e fr), ?_, ?_, Steps'.behind (w' := wput w β.blk (.cells (laid cs (β.off + c.length) (new.map (AV.conc ρ))) e fr)) h hβ hget hlive hG k1' q1 q2 q3 q4 (by simp [wput]) (fun b hb1 hb2 => by rw [putObj_get, if_neg]; rintro ⟨rfl, _⟩; exact hb2 rfl) ?_ ?_
                (.inl ⟨rfl, by simp only [List.length_append, hdl]; omega⟩) ?_⟩
              · rw [run_append_in hu hus hsr (hx w) hR]
                simp only [Sem.run_bind, hnew, Result.andThen_ok, add_none]
                rw [show β.off + o + l * ti.size = β.off + c.length by omega]
                simp only [clos]
                rw [hstore]
                simp [AV.conc, Rho.put_b]
              · simp [AV.Ok, Rho.put]
              · refine ⟨⟨_, fr, hw', by rw [laid_size]; exact r2, fun j hj => ?_, (fun hh => by cases hh), fun _ => by rw [laid_size]; exact r5 rfl, fun j h1 h2 => by rw [laid_size] at h2; exact r6 j h1 h2, r7⟩, rok, resz⟩
                rw [hlaid, if_neg (by omega)]
                exact r3 j hj
              · refine ⟨⟨_, fr, hw', by rw [laid_size, List.length_append, hdl]; dsimp only; omega, fun j hj => ?_, (fun hh => by cases hh), fun _ => ?_, fun j h1 h2 => ?_, fun hs => ?_⟩, fun y hy => (conc_le (hle _) y (hdropok y hy)).2, resz.symm ▸ hez ▸ rfl⟩
                · simp only [List.length_append, hdl] at hj
                  rw [hlaid]
                  have hmem := List.getElem_mem (l := c.drop o ++ new) (n := j) (by simp only [List.length_append, hdl]; exact hj)
                  rw [(conc_le (hle _) _ (hdropok _ hmem)).1]
                  by_cases hj' : j < l * ti.size
                  · rw [if_neg (by dsimp only; omega)]
                    have : (c.drop o ++ new)[j]'(by simp only [List.length_append, hdl]; exact hj) = c[o + j]'(by omega) := by
                      rw [List.getElem_append_left (by rw [hdl]; exact hj')]
                      simp
                    rw [this]
                    have := r3 (o + j) (by omega)
                    rw [← this]
                    congr 1
                    simp only
                    omega
                  · rw [if_pos (by dsimp only; omega)]
                    have hq : (c.drop o ++ new)[j]'(by simp only [List.length_append, hdl]; exact hj) = new[j - l * ti.size]'(by omega) := by
                      rw [List.getElem_append_right (by rw [hdl]; omega)]
                      simp only [hdl]
                    rw [hq]
                    have : β.off + o + j - (β.off + c.length) = j - l * ti.size := by omega
                    simp only [this, List.getElem?_map]
                    rw [List.getElem?_eq_getElem (by omega)]
                    rfl
                · rw [laid_size]
                  simp only
                  rw [Nat.sub_mul, hodiv]
                  omega
                · rw [laid_size] at h2
                  simp only at h2 ⊢
                  have := r6 (o + j) (by omega) (by omega)
                  rw [show β.off + (o + j) = β.off + o + j by omega] at this
                  exact this
                · rcases r7 hs with q | q
                  · exact .inl q
                  · right; simp only; omega
              · intro hext γ c1 frz1 e1 wh1 sg1 hr1 hgb hge
                obtain ⟨⟨cs1, fr1, s1, s2, s3, s4, s5, s6, s7⟩, sok, sesz⟩ := hr1
                rw [hgb, r1] at s1
                cases s1
                refine ⟨⟨_, fr, by rw [hgb]; exact hw', by rw [laid_size]; exact s2, fun j hj => ?_, fun hh => by rw [laid_size]; exact s4 hh, fun hh => by rw [laid_size]; exact s5 hh, fun j h1 h2 => by rw [laid_size] at h2; exact s6 j h1 h2, s7⟩, sok, sesz⟩
                rw [hlaid, if_neg (by omega)]
                exact s3 j hj
            · -- into a new block
              have hlt : β.ecap - o / ti.size < l + n := by omega
              obtain ⟨inf, z, i1, i2, i3, _⟩ := hto.info
              have hinfo : ∀ w, (typeInfo e).run C.P w = .ok inf w := fun w => by simp [typeInfo, i1]
              have hold : (Builtin.firstCells ti.size l (.slice (some A) l (β.ecap - o / ti.size))).run C.P w.drew = .ok (clos ρ (c.drop o)) w.drew := by
                simp only [Builtin.firstCells]
                by_cases hl0 : l = 0
                · subst hl0
                  have : c.drop o = [] := List.eq_nil_of_length_eq_zero (by rw [hdl]; simp)
                  rw [this]
                  simp [loadCells, loadCellsFrom, clos]
                · rw [hA' hl0]
                  refine loadCells_ok hdl fun j hj => ?_
                  have hj' : o + j < c.length := by rw [hdl] at hj; omega
                  have := r3 (o + j) hj'
                  rw [show β.off + o + j = β.off + (o + j) by omega]
                  rw [List.getElem_drop]
                  have r1' : w.drew.heap[β.blk]? = some (.cells cs e fr) := r1
                  simp [World.cell?, r1', this]
              obtain ⟨cap, rest, c1, c2, c3⟩ := grow_ok (sCap := β.ecap - o / ti.size) (s := .slice (some A) l (β.ecap - o / ti.size)) h hti rfl k4' hold hnew' hdl hnl (fun y hy => rok y (List.mem_of_mem_drop hy)) hn
              have hw' : (w.drew.alloc (.cells (clos ρ (c.drop o ++ new) ++ rest) e)).heap[w.heap.size]? = some (.cells (clos ρ (c.drop o ++ new) ++ rest) e) := alloc_new (w := w.drew)
              have hwo : ∀ b, b < w.heap.size → (w.drew.alloc (.cells (clos ρ (c.drop o ++ new) ++ rest) e)).heap[b]? = w.heap[b]? := fun b hb => alloc_lt (w := w.drew) hb
              have hlen : (clos ρ (c.drop o ++ new)).size = (l + n) * ti.size := by simp [clos, hnl]; rw [Nat.add_mul]; omega
              refine ⟨ρ.put H.n ⟨w.heap.size, 0, cap, ti.size⟩, w.drew.alloc (.cells (clos ρ (c.drop o ++ new) ++ rest) e), ?_, ?_, Steps'.behind (w' := w.drew.alloc (.cells (clos ρ (c.drop o ++ new) ++ rest) e)) h hβ hget hlive hG k1' q1 q2 q3 q4 (by simp) (fun b hb1 _ => hwo b hb1)
                (RowOk.world ⟨⟨cs, fr, r1, r2, r3, r4, r5, r6, r7⟩, rok, resz⟩ (hwo _ hbl)) ?_ (.inr ⟨Nat.le_refl _, by simp⟩)
                (fun _ γ c1 frz1 e1 wh1 sg1 hr1 hgb _ => hr1.world (by rw [hgb]; exact hwo _ hbl))⟩
              · rw [run_append_grow (size := ti.size) (ti := inf) hu hus hsr (hx w) hinfo (by rw [i3]; exact hbz) hR (by rw [i3]; exact room_small hlt hroom'), c3]
                simp [AV.conc, Rho.put_b]
              · simp [AV.Ok, Rho.put]
              · refine ⟨⟨_, (0, 0), hw', by simp only [Array.size_append, hlen]; simp [hnl, Nat.add_mul]; omega, fun j hj => ?_, (fun hh => by cases hh), fun _ => ?_, fun j _ _ hh => by simp at hh, fun _ => .inl rfl⟩, fun y hy => (conc_le (hle _) y (hdropok y hy)).2, hto.cellsOf.symm⟩
                · have hmem := List.getElem_mem (l := c.drop o ++ new) (n := j) hj
                  rw [(conc_le (hle _) _ (hdropok _ hmem)).1]
                  have : (0 : Nat) + j < (clos ρ (c.drop o ++ new)).size := by simp only [clos, List.size_toArray, List.length_map]; omega
                  rw [Array.getElem?_append_left this]
                  simp only [clos, Nat.zero_add, List.getElem?_toArray, List.getElem?_map]
                  rw [List.getElem?_eq_getElem hj]
                  rfl
                · simp only [Array.size_append, hlen, c2]
                  rw [← Nat.add_mul]
                  simp only [Nat.zero_add]
                  congr 1
                  omega
    · cases hb

end Go.Ev

namespace Go.Ev

variable {C : Ctx} {N : Nat} {ρ : Rho} {H : AH} {w : World} {nt : Nat} {tm : Tr AV} {a : Act}

theorem append_ok {t ty : TypeId} {us : List TypeId} {s x v : AV} {H' : AH} (h : Rel C N ρ H w) (hs : s.Ok ρ) (hx : x.Ok ρ) (hus : OkUs C.P us) (he : appendF C H t s x = some (v, H')) :
    ∃ ρ' w', (Builtin.append_ (t :: us).toArray ty #[s.conc ρ, x.conc ρ]).run C.P w = .ok (v.conc ρ') w' ∧ v.Ok ρ' ∧ Steps' C N ρ H w ρ' H' w' := by
  unfold appendF at he
  split at he
  case h_2 => cases he
  rename_i e hu
  split at he
  · cases he
  rename_i ti hti
  split at he
  · cases he
  rename_i hz
  simp only [Bool.or_eq_false_iff] at hz
  have hsz : ti.size ≠ 0 := fun q => by rw [q] at hz; simp at hz
  have hbz : ti.bytes ≠ 0 := fun q => by rw [q] at hz; simp at hz
  have hto := tiOf_ok hti
  have hsr := hto.run_size (w := w)
  split at he
  · cases he
  rename_i n hn
  have hlen : ∀ w, (Builtin.lenOf (x.conc ρ)).run C.P w = .ok n w := fun w => srcLen_ok (ρ := ρ) hn
  split at he
  · cases he
  rename_i new hnew
  have hle : ∀ m, srcLen x = some m → n ≤ m := fun m hm => by rw [hn] at hm; cases hm; exact Nat.le_refl _
  obtain ⟨n1, n2, n3⟩ := elems_ok h hx hnew hle
  have n1' := (elems_ok h.drew hx hnew hle).1
  have n3' := n3 n hn
  split at he
  · -- nothing to append
    rename_i hn0
    have hn0' := beq_size hn0
    subst hn0'
    have new0 : new = [] := List.eq_nil_of_length_eq_zero (by omega)
    subst new0
    have done : ∀ {base : Option Addr} {sl sc : Nat}, s.conc ρ = .slice base sl sc → sl ≤ sc → v = s → H' = H →
        ∃ ρ' w', (Builtin.append_ (t :: us).toArray ty #[s.conc ρ, x.conc ρ]).run C.P w = .ok (v.conc ρ') w' ∧ v.Ok ρ' ∧ Steps' C N ρ H w ρ' H' w' := by
      intro base sl sc hc hle hv hH
      subst hv hH
      refine ⟨ρ, w, ?_, hs, Steps'.refl h⟩
      rw [hc, run_append_in hu hus hsr (hlen w) (by omega)]
      simp only [Sem.run_bind, n1, Result.andThen_ok]
      cases base <;> simp [clos, storeCells]
    split at he
    · cases he; exact done rfl (Nat.le_refl _) rfl rfl
    · split at he
      · rename_i hb
        cases he
        exact done rfl (Nat.le_of_ble_eq_true hb) rfl rfl
      · cases he
    · split at he
      · rename_i hb
        cases he
        exact done rfl (Nat.le_of_ble_eq_true hb) rfl rfl
      · cases he
    · rename_i i o l
      split at he
      · rename_i c e' hrow
        split at he
        · rename_i hb
          cases he
          simp only [Bool.and_eq_true] at hb
          have he' := beq_size hb.1
          subst he'
          have hb2 := Nat.le_of_ble_eq_true hb.2
          obtain ⟨q1, q2⟩ := h.rowG hs hrow
          have q3 : (ρ.b i).esz = ti.size := by rw [q2, hto.cellsOf]
          refine done rfl ?_ rfl rfl
          simp only [Option.getD_none]
          rw [q3] at q1 ⊢
          refine Nat.le_trans ?_ (div_room (n := c.length) (ec := (ρ.b i).ecap) (Nat.pos_of_ne_zero hsz) (by omega) q1)
          exact (Nat.le_div_iff_mul_le (Nat.pos_of_ne_zero hsz)).2 (by omega)
        · cases he
      · cases he
    · cases he; exact done rfl (Nat.zero_le _) rfl rfl
    · cases he
  · rename_i hn0
    have hn0' : n ≠ 0 := fun q => by subst q; simp at hn0
    split at he
    · cases he
    rename_i hall
    have hcell : ∀ v ∈ new, v.isCell = true := by simpa using hall
    split at he
    · -- to nil
      exact append_grow (old := []) (sLen := 0) (sCap := 0) h hu hus hti hbz hlen (by simp [Builtin.firstCells, clos]) n1' (by simp) n3' (by simp) n2 (by omega) (by simpa using he)
    · rename_i b o l c
      split at he
      · cases he
      rename_i hb
      have hlt : c < l + n := Nat.lt_of_not_le fun q => by rw [Nat.ble_eq_true_of_le q] at hb; cases hb
      split at he
      · rename_i old hold
        obtain ⟨o1, o2, b', o', o3, o4⟩ := readN_ok (x := .optr b o) h.drew trivial hold
        have hs' : AV.conc ρ (.optr b o) = .pointer (some ⟨b, o, none⟩) := rfl
        rw [hs'] at o3
        cases o3
        refine append_grow (old := old) (sLen := l) (sCap := c) h hu hus hti hbz hlen ?_ n1' o1 n3' o2 n2 hlt he
        simp only [Builtin.firstCells]
        exact loadCells_ok o1 fun j hj => by have := o4 j hj; simpa using this
      · cases he
    · rename_i i o l c
      split at he
      · rename_i hb
        have hle' := Nat.le_of_ble_eq_true hb
        cases hp : H.put i (o + l * ti.size) new with
        | none => rw [hp] at he; cases he
        | some H1 =>
          rw [hp] at he
          cases he
          cases hβ : ρ i with
          | none => exact absurd hβ hs
          | some β =>
            have hbb : ρ.b i = β := by simp [Rho.b, hβ]
            obtain ⟨w', hw, hst⟩ := Steps'.put (P := C.P) h hp hβ n2 hcell
            refine ⟨ρ, w', ?_, hs, hst⟩
            simp only [AV.conc, hbb, Option.getD_some]
            rw [run_append_in hu hus hsr (hlen w) hle']
            simp only [Sem.run_bind, n1, Result.andThen_ok, add_none, Nat.add_assoc]
            simp only [clos]
            rw [hw]
            simp
      · rename_i hb
        have hlt : c < l + n := Nat.lt_of_not_le fun q => by rw [Nat.ble_eq_true_of_le q] at hb; cases hb
        split at he
        · rename_i old hold
          obtain ⟨o1, o2, b', o', o3, o4⟩ := readN_ok (x := .nptr i o) h.drew hs hold
          have hs' : AV.conc ρ (.nptr i o) = .pointer (some ⟨(ρ.b i).blk, (ρ.b i).off + o, none⟩) := rfl
          rw [hs'] at o3
          cases o3
          refine append_grow (old := old) (sLen := l) (sCap := c) h hu hus hti hbz hlen ?_ n1' o1 n3' o2 n2 hlt he
          simp only [Builtin.firstCells]
          exact loadCells_ok o1 fun j hj => by have := o4 j hj; simpa using this
        · cases he
    · rename_i i o l
      exact behind_ok h hs hu hus hti hsz hbz hn0' hlen n1 n1' n3' n2 hcell (fun _ => rfl) (fun _ => rfl) he
    · rename_i i b o
      have := behind_ok (ty := ty) (l := 0) (A := ⟨(ρ.b i).blk, (ρ.b i).off + (if (ρ.b i).ecap - o / (ρ.b i).esz = 0 then b else o), none⟩) h hs hu hus hti hsz hbz hn0' hlen n1 n1' n3' n2 hcell
        (fun q => by rw [if_neg (by omega)]) (fun q => absurd rfl q) he
      exact this
    · cases he

/-! ### Built-ins -/

theorem noNum_ok {us : List TypeId} (h : noNum C us = true) : OkUs C.P us := by
  intro u rest hu
  subst hu
  simp only [noNum] at h
  split at h
  · cases h
  · rename_i d hni hd
    exact ⟨d, hd, fun k hk => by subst hk; exact hni k rfl⟩
  · cases h

theorem run_asIntB {P : Program} {k : IntKind} {n : Int} : (asInt (.int k n)).run P w = .ok n w := by simp [asInt, asIntOf]

theorem run_loadBytes {P : Program} {b : Nat} : ∀ (l : List AV) (s : List UInt8) (o : Nat) (acc : ByteArray), (∀ j (h : j < l.length), w.cell? ⟨b, o + j, none⟩ = some (l[j].conc ρ)) → l.mapM byteOf' = some s →
    (loadBytes ⟨b, o, none⟩ acc l.length).run P w = .ok ⟨acc.data ++ s.toArray⟩ w
  | [], s, o, acc, _, hs => by
    simp at hs
    subst hs
    simp [loadBytes]
  | v :: l, s, o, acc, hc, hs => by
    rw [List.mapM_cons] at hs
    cases hv : byteOf' v with
    | none => rw [hv] at hs; cases hs
    | some y =>
      rw [hv] at hs
      cases hl : l.mapM byteOf' with
      | none => rw [hl] at hs; cases hs
      | some ys =>
        rw [hl] at hs
        cases hs
        obtain ⟨n, rfl, rfl⟩ := byteOf_some hv
        have h0 := hc 0 (by simp)
        simp only [Nat.add_zero, List.getElem_cons_zero, AV.conc] at h0
        have ih := run_loadBytes (P := P) l ys (o + 1) (acc.push (UInt8.ofNat n)) (fun j hj => by
          have := hc (j + 1) (by simpa using hj)
          simp only [List.getElem_cons_succ] at this
          rw [← this]
          congr 2
          omega) hl
        simp only [List.length_cons, loadBytes, Sem.run_bind, run_load, h0, Result.andThen_ok]
        have e : (Int.ofNat n).toNat.toUInt8 = UInt8.ofNat n := rfl
        rw [e, add_none, ih]
        congr 2
        simp [ByteArray.data_push]

end Go.Ev

namespace Go.Ev

def reputF (H : AH) (i : Nat) (c' : List AV) (g gen : Nat) (sh ext : Bool) (frz' : Nat) (e : TypeId) (wh sg : Bool) : Option AH :=
  match sh with
  | false => some (H.setObj i (.row c' g gen false ext frz' e wh sg))
  | true => some { n := H.n, ro := H.ro, o := H.o.set i (.row c' g (gen + 1) true false frz' e wh sg), g := H.g.set g (gen + 1) }

/-- A live row is another one now, in the same block; if it shares, all others of its group are given up. -/
theorem Rel.reput {C : Ctx} {N : Nat} {ρ : Rho} {H H' : AH} {w : World} {i : Nat} {c c' : List AV} {g gen frz frz' : Nat} {sh ext wh sg : Bool} {e : TypeId} {β : Base} {ob : Obj} (h : Rel C N ρ H w) (hi : ρ i = some β)
    (ho : H.o.get i = some (.row c g gen sh ext frz e wh sg)) (hl : H.live g gen sh = true) (hro : H.ro ≤ i) (hrow : RowOk C ρ β c' frz' e wh sg (wput w β.blk ob))
    (hp : reputF H i c' g gen sh ext frz' e wh sg = some H')
    (htip : c'.length = c.length) :
    Rel C N ρ H' (wput w β.blk ob) ∧ H'.n = H.n ∧ H'.ro = H.ro ∧ H.ro ≤ i ∧ (wput w β.blk ob).heap.size = w.heap.size ∧ (∀ b, b ≠ β.blk → (wput w β.blk ob).heap[b]? = w.heap[b]?) ∧
      ∀ j, j ≠ i → H'.o.get j = H.o.get j := by
  have hoth : ∀ b, b ≠ β.blk → (wput w β.blk ob).heap[b]? = w.heap[b]? := by
    intro b hb'
    rw [putObj_get, if_neg]
    rintro ⟨rfl, _⟩
    exact hb' rfl
  have hold : ∀ b o v, C.old b o = some v → (wput w β.blk ob).cell? ⟨b, o, none⟩ = some (v.conc ρ) ∧ b < N ∧ v.Old := by
    intro b o v hv
    obtain ⟨a, b', c⟩ := h.old b o v hv
    have := (h.lt i β hi).2.1
    exact ⟨by rw [cell?_world (hoth b (by omega))]; exact a, b', c⟩
  cases sh with
  | false =>
    cases hp
    have hget : ∀ j, (H.setObj i (.row c' g gen false ext frz' e wh sg)).o.get j = if j = i then some (.row c' g gen false ext frz' e wh sg) else H.o.get j := fun j => by
      simp only [AH.setObj, Tr.get_set]
    refine ⟨⟨fun j γ hj => ?_, fun j γ hj => ?_, fun j l βj βl hj hlj hn hbb => ?_, fun j l βj βl c1 g1 gen1 frz1 e1 wh1 sg1 c2 gen2 ext2 frz2 e2 wh2 sg2 hj hlj hn hbb r1 r2 => ?_, fun j γ c1 g1 gen1 ext1 frz1 e1 wh1 sg1 hj r1 => ?_, hold, by rw [putObj_size]; exact h.base⟩,
      rfl, rfl, hro, putObj_size, hoth, fun j hj => by rw [hget, if_neg hj]⟩
    · have := h.lt j γ hj
      rw [putObj_size]
      exact this
    · obtain ⟨x, hx, hxo⟩ := h.obj j γ hj
      by_cases e' : j = i
      · subst e'
        rw [hi] at hj
        cases hj
        exact ⟨.row c' g gen false ext frz' e wh sg, by rw [hget, if_pos rfl], fun _ => hrow⟩
      · refine ⟨x, by rw [hget, if_neg e']; exact hx, (hxo.world (hoth _ ?_)).ages rfl⟩
        intro hbb
        obtain ⟨c1, g1, gen1, ext1, frz1, e1, wh1, sg1, c2, gen2, ext2, frz2, e2, wh2, sg2, r1, r2⟩ := h.sep j i γ β hj hi e' hbb
        rw [ho] at r2
        cases r2
    · obtain ⟨c1, g1, gen1, ext1, frz1, e1, wh1, sg1, c2, gen2, ext2, frz2, e2, wh2, sg2, r1, r2⟩ := h.sep j l βj βl hj hlj hn hbb
      refine ⟨c1, g1, gen1, ext1, frz1, e1, wh1, sg1, c2, gen2, ext2, frz2, e2, wh2, sg2, ?_, ?_⟩
      · rw [hget, if_neg]
        · exact r1
        · rintro rfl
          rw [ho] at r1
          cases r1
      · rw [hget, if_neg]
        · exact r2
        · rintro rfl
          rw [ho] at r2
          cases r2
    · rw [hget] at r1 r2
      split at r1
      · cases r1
      · split at r2
        · cases r2
        · exact h.tip j l βj βl c1 g1 gen1 frz1 e1 wh1 sg1 c2 gen2 ext2 frz2 e2 wh2 sg2 hj hlj hn hbb r1 r2
    · rw [hget] at r1
      split at r1
      · cases r1
      · exact h.age j γ c1 g1 gen1 ext1 frz1 e1 wh1 sg1 hj r1
  | true =>
    have hgen : H.gen g = gen := by simpa [AH.live] using hl
    cases hp
    generalize hH : (AH.mk H.n H.ro (H.o.set i (.row c' g (gen + 1) true false frz' e wh sg)) (H.g.set g (gen + 1))) = H2
    have hget : ∀ j, H2.o.get j = if j = i then some (.row c' g (gen + 1) true false frz' e wh sg) else H.o.get j := fun j => by
      rw [← hH]
      simp only [Tr.get_set]
    have hg2 : ∀ x, H2.gen x = if x = g then gen + 1 else H.gen x := fun x => by
      rw [← hH]
      simp only [AH.gen, Tr.get_set]
      by_cases hx : x = g
      · simp [hx]
      · simp [hx]
    refine ⟨⟨fun j γ hj => ?_, fun j γ hj => ?_, fun j l βj βl hj hlj hn hbb => ?_, fun j l βj βl c1 g1 gen1 frz1 e1 wh1 sg1 c2 gen2 ext2 frz2 e2 wh2 sg2 hj hlj hn hbb r1 r2 q1 q2 => ?_, fun j γ c1 g1 gen1 ext1 frz1 e1 wh1 sg1 hj r1 => ?_, hold, by rw [putObj_size]; exact h.base⟩,
      by rw [← hH], by rw [← hH], hro, putObj_size, hoth, fun j hj => by rw [hget, if_neg hj]⟩
    · have := h.lt j γ hj
      rw [putObj_size, ← hH]
      exact this
    · obtain ⟨x, hx, hxo⟩ := h.obj j γ hj
      by_cases e' : j = i
      · subst e'
        rw [hi] at hj
        cases hj
        exact ⟨.row c' g (gen + 1) true false frz' e wh sg, by rw [hget, if_pos rfl], fun _ => hrow⟩
      · refine ⟨x, by rw [hget, if_neg e']; exact hx, ?_⟩
        by_cases hbb : γ.blk = β.blk
        · obtain ⟨c1, g1, gen1, ext1, frz1, e1, wh1, sg1, c2, gen2, ext2, frz2, e2, wh2, sg2, r1, r2⟩ := h.sep j i γ β hj hi e' hbb
          rw [ho] at r2
          cases r2
          rw [hx] at r1
          cases r1
          intro hlive
          have ha := h.age j γ _ _ _ _ _ _ _ _ hj hx
          simp only [AH.live] at hlive
          have := Nat.eq_of_beq_eq_true hlive
          rw [hg2, if_pos rfl] at this
          omega
        · have hxw := hxo.world (hoth _ hbb)
          cases x with
          | row c1 g1 gen1 sh1 ext1 frz1 e1 wh1 sg1 =>
            intro hlive
            apply hxw
            cases sh1 with
            | false => rfl
            | true =>
              simp only [AH.live] at hlive ⊢
              have hq := Nat.eq_of_beq_eq_true hlive
              rw [hg2] at hq
              by_cases hgg : g1 = g
              · rw [if_pos hgg] at hq
                have ha := h.age j γ _ _ _ _ _ _ _ _ hj hx
                rw [hgg] at ha
                omega
              · rw [if_neg hgg] at hq
                rw [hq]
                exact Nat.beq_refl _
          | map es clock => exact hxw
          | siter s pos => exact hxw
          | miter m since seen stepped => exact hxw
          | loop st pend fn tm nt params assign body d => exact hxw
          | dfr b => exact hxw
    · obtain ⟨c1, g1, gen1, ext1, frz1, e1, wh1, sg1, c2, gen2, ext2, frz2, e2, wh2, sg2, r1, r2⟩ := h.sep j l βj βl hj hlj hn hbb
      by_cases ej : j = i
      · subst ej
        rw [ho] at r1
        cases r1
        exact ⟨_, _, _, _, _, _, _, _, _, _, _, _, _, _, _, by rw [hget, if_pos rfl], by rw [hget, if_neg (Ne.symm hn)]; exact r2⟩
      · by_cases el : l = i
        · subst el
          rw [ho] at r2
          cases r2
          exact ⟨_, _, _, _, _, _, _, _, _, _, _, _, _, _, _, by rw [hget, if_neg ej]; exact r1, by rw [hget, if_pos rfl]⟩
        · exact ⟨_, _, _, _, _, _, _, _, _, _, _, _, _, _, _, by rw [hget, if_neg ej]; exact r1, by rw [hget, if_neg el]; exact r2⟩
    · rw [hget] at r1 r2
      rw [hg2] at q1 q2
      split at r1
      · rename_i ej
        subst ej
        cases r1
        rw [if_neg (Ne.symm hn)] at r2
        rw [if_pos rfl] at q2
        have ha := h.age l βl _ _ _ _ _ _ _ _ hlj r2
        omega
      · split at r2
        · rename_i el
          subst el
          cases r2
          rw [if_pos rfl] at q1
          have ha := h.age j βj _ _ _ _ _ _ _ _ hj r1
          omega
        · by_cases hgg : g1 = g
          · rw [if_pos hgg] at q1
            have ha := h.age j βj _ _ _ _ _ _ _ _ hj r1
            rw [hgg] at ha
            omega
          · rw [if_neg hgg] at q1 q2
            exact h.tip j l βj βl c1 g1 gen1 frz1 e1 wh1 sg1 c2 gen2 ext2 frz2 e2 wh2 sg2 hj hlj hn hbb r1 r2 q1 q2
    · rw [hget] at r1
      rw [hg2]
      split at r1
      · cases r1
        rw [if_pos rfl]
        exact Nat.le_refl _
      · have ha := h.age j γ _ _ _ _ _ _ _ _ hj r1
        split
        · rename_i hgg
          rw [hgg] at ha
          omega
        · exact ha

end Go.Ev

namespace Go.Ev

variable {C : Ctx} {N : Nat} {ρ : Rho} {H : AH} {w : World} {nt : Nat} {tm : Tr AV} {a : Act}

/-- A row's own type lies in its block. -/
theorem liesAt_self {P : Program} {e : TypeId} {count off n : Nat} (hc : P.cellsOf e = 1) (hn : off + n ≤ count) (hd : ∃ d, P.depth = d + 1) : liesAt P P.depth e (count / P.cellsOf e) off e n = true := by
  obtain ⟨d, hd⟩ := hd
  rw [hd, liesAt, hd, rowAt]
  simp [hc, hn, sameLayout, Nat.mod_one]

theorem depth_succ (P : Program) : ∃ d, P.depth = d + 1 := by
  unfold Program.depth
  exact ⟨_, rfl⟩

theorem freeze_wput {w : World} {b o n : Nat} {cs : Array Value} {e : TypeId} {fr : Nat × Nat} (h : w.heap[b]? = some (.cells cs e fr)) (hn : n ≠ 0) :
    w.freeze ⟨b, o, none⟩ n = wput w b (.cells cs e (if fr.1 == fr.2 then (o, o + n) else (min fr.1 o, max fr.2 (o + n)))) := by
  obtain ⟨hb, he⟩ := Array.getElem?_eq_some_iff.1 h
  simp only [World.freeze, if_neg hn, wput]
  congr 1
  apply Array.ext_getElem?
  intro i
  simp only [Array.getElem?_modify, Array.getElem?_setIfInBounds]
  by_cases hi : b = i
  · subst hi
    simp [hb, he]
  · simp [hi]

theorem sliceData_nil {ts : Array TypeId} {ty : TypeId} {l c : Nat} : Builtin.unsafeSliceData_ ts ty #[.slice none l c] = pure (.pointer none) := rfl
theorem sliceData_some {ts : Array TypeId} {ty : TypeId} {b : Addr} {l c : Nat} {P : Program} (h : c ≠ 0) : (Builtin.unsafeSliceData_ ts ty #[.slice (some b) l c]).run P w = .ok (.pointer (some b)) w := by
  show Sem.run P (if c ≠ 0 then pure (Value.pointer (some b)) else _) w = _
  rw [if_pos h]
  simp
theorem string_ok {t ty : TypeId} {us : List TypeId} {i o n : Nat} {c : List AV} {g gen frz : Nat} {sh ext wh : Bool} {e : TypeId} {l : List AV} {s : List UInt8} {H' : AH} {k : IntKind} (h : Rel C N ρ H w) (hd : ρ i ≠ none)
    (ho : H.o.get i = some (.row c g gen sh ext frz e wh false)) (hl : H.live g gen sh = true) (hu : C.P.underlying t = some (.pointer e)) (hc : C.P.cellsOf e = 1) (hro : H.ro ≤ i) (hs : slice c o (n + 1) = some l)
    (hb : l.mapM byteOf' = some s) (hbig : n + 1 ≤ 1000000000)
    (hp : reputF H i c g gen sh ext (max frz (o + (n + 1))) e wh false = some H') :
    ∃ ρ' w', (Builtin.unsafeString_ (t :: us).toArray ty #[(AV.nptr i o).conc ρ, .int k (Int.ofNat (n + 1))]).run C.P w = .ok (.string ⟨s.toArray⟩) w' ∧ Steps' C N ρ H w ρ' H' w' := by
  cases hβ : ρ i with
  | none => exact absurd hβ hd
  | some β =>
    have hbb : ρ.b i = β := by simp [Rho.b, hβ]
    have hrow : RowOk C ρ β c frz e wh false w := by have := h.at hd ho hl; rw [hbb] at this; exact this
    obtain ⟨⟨cs, fr, r1, r2, r3, r4, r5, r6, r7⟩, rok, resz⟩ := hrow
    obtain ⟨s1, s2, s3⟩ := slice_some hs
    have hbl : β.blk < w.heap.size := (h.lt i β hβ).2.2
    have hrow' : RowOk C ρ β c (max frz (o + (n + 1))) e wh false (wput w β.blk (.cells cs e (if fr.1 == fr.2 then (β.off + o, β.off + o + (n + 1)) else (min fr.1 (β.off + o), max fr.2 (β.off + o + (n + 1)))))) := by
      refine ⟨⟨cs, _, by rw [putObj_get, if_pos ⟨rfl, hbl⟩], r2, r3, r4, r5, fun j h1 h2 => ?_, fun _ => ?_⟩, rok, resz⟩
      · split
        · dsimp only; omega
        · rename_i hne
          have hne' : fr.1 ≠ fr.2 := by simpa using hne
          have := r6 j (by omega) h2
          rcases r7 rfl with q | q
          · exact absurd q hne'
          · dsimp only; omega
      · split
        · right; dsimp only; omega
        · rename_i hne
          have hne' : fr.1 ≠ fr.2 := by simpa using hne
          rcases r7 rfl with q | q
          · exact absurd q hne'
          · right; dsimp only; omega
    obtain ⟨g1, g2, g3, g4, g5, g6, g7⟩ := h.reput hβ ho hl hro hrow' hp rfl
    refine ⟨ρ, _, ?_, ⟨Rho.le_refl _, g1, ⟨by omega, fun b hb' hm => g6 b (fun q => by have := hm i β hβ q.symm; omega)⟩, g3, by omega, fun j hj hn' => ⟨g7 j (by rintro rfl; rw [hβ] at hn'; cases hn'), hn'⟩, fun j γ q1 q2 => (by rw [q2] at q1; cases q1), ⟨rfl, rfl⟩⟩⟩
    have hlen : l.length = n + 1 := s2
    have hload := run_loadBytes (P := C.P) (w := w) (ρ := ρ) (b := β.blk) l s (β.off + o) ByteArray.empty (fun j hj => by
      have := s3 j (by omega)
      rw [List.getElem?_eq_getElem hj] at this
      have := RowOk.cell ⟨⟨cs, fr, r1, r2, r3, r4, r5, r6, r7⟩, rok, resz⟩ this.symm
      rw [← this.1]
      congr 2
      omega) hb
    rw [hlen] at hload
    have hlies := liesAt_self (P := C.P) (e := e) (count := cs.size) (off := β.off + o) (n := n + 1) hc (by omega) (depth_succ C.P)
    have q1 : ¬ (Int.ofNat (n + 1) < 0) := by simp only [Int.ofNat_eq_natCast]; omega
    have q2 : ¬ (Int.ofNat (n + 1) > IntKind.i64.max) := by
      have : IntKind.i64.max = 9223372036854775807 := by decide
      rw [this]
      simp only [Int.ofNat_eq_natCast]
      omega
    have q3 : ¬ (Int.ofNat (n + 1) = 0) := by simp only [Int.ofNat_eq_natCast]; omega
    have q4 : (Int.ofNat (n + 1)).toNat = n + 1 := rfl
    have hsh : w.shape? β.blk = some (e, cs.size) := by simp [World.shape?, r1]
    simp only [AV.conc, hbb]
    show Sem.run _ (asInt (.int k (Int.ofNat (n + 1))) >>= _) _ = _
    simp only [Sem.run_bind, run_asIntB, Result.andThen_ok, List.getElem?_toArray, List.getElem?_cons_zero, q1, q2, q3, q4, if_false, elemOf, run_under hu, Sem.run_pure, variablesAt, run_program, run_shape, hsh, hlies, if_true,
      hload, run_freeze, Sem.run_ite]
    rw [freeze_wput r1 (by omega)]
    congr 3
    simp [ByteArray.empty, ByteArray.emptyWithCapacity]
    rfl

theorem toArr {us : Array TypeId} {t : TypeId} {r : List TypeId} (h : us.toList = t :: r) : us = (t :: r).toArray := by
  apply Array.toList_inj.1; simpa using h

theorem op_builtin {b : Builtin} {ts : Array TypeId} {xs : Array Operand} {ty : TypeId} {cc : Array Bool} {r : OR} (h : Rel C N ρ H w) (ht : TmOk ρ nt tm a.tmps) (he : opBuiltin b ts xs C tm H = some r) :
    OpOk C N ρ H w (builtin b ts ty cc (xs.map a.eval)) r := by
  unfold opBuiltin at he
  split at he
  · -- len
    rename_i t x ht' hx
    have e1 := arr1 ht'
    have e2 := arr1 hx
    subst e1 e2
    split at he
    · rename_i n hn
      cases he
      obtain ⟨h1, h2⟩ := ev_ok ht x
      refine OpOk.vs h (s := Builtin.len_ #[t] ty (#[x].map a.eval)) ?_ (by simp [AV.Ok])
      simp only [List.map_toArray, List.map_cons, List.map_nil, Array.map_empty]
      have := len_ok (ty := ty) h h2 hn
      rw [← h1] at this
      simpa [AV.conc] using this
    · cases he
  · -- append
    rename_i t us s x ht' hx
    have e1 := toArr ht'
    have e2 := arr2 hx
    subst e1 e2
    split at he
    · rename_i hno
      obtain ⟨v, H', hv, rfl⟩ := valH_inv he
      obtain ⟨h1, h2⟩ := ev_ok ht s
      obtain ⟨h3, h4⟩ := ev_ok ht x
      obtain ⟨ρ', w', q1, q2, q3⟩ := append_ok (ty := ty) h h2 h4 (noNum_ok hno) hv
      refine ⟨ρ', w', ?_, q2, q3⟩
      rw [← h1, ← h3] at q1
      exact run_vs (s := Builtin.append_ (t :: us).toArray ty (#[s, x].map a.eval)) (by simpa using q1)
    · cases he
  · -- copy
    rename_i t us d x ht' hx
    have e1 := toArr ht'
    have e2 := arr2 hx
    subst e1 e2
    split at he
    · rename_i n H' hv
      cases he
      obtain ⟨h1, h2⟩ := ev_ok ht d
      obtain ⟨h3, h4⟩ := ev_ok ht x
      obtain ⟨ρ', w', q1, q3⟩ := copy_ok (u := t) (ty := ty) (us := us) h h2 h4 hv
      refine ⟨ρ', w', ?_, by simp [AV.Ok], q3⟩
      rw [← h1, ← h3] at q1
      exact run_vs (s := Builtin.copy_ (t :: us).toArray ty (#[d, x].map a.eval)) (by simpa [AV.conc] using q1)
    · cases he
  · -- min
    rename_i x y hx
    have e2 := arr2 hx
    subst e2
    obtain ⟨v, hv, rfl⟩ := val_inv he
    obtain ⟨h1, _⟩ := ev_ok ht x
    obtain ⟨h3, _⟩ := ev_ok ht y
    obtain ⟨q1, q2⟩ := min2_ok (ρ := ρ) (w := w) (P := C.P) hv
    rw [← h1, ← h3] at q1
    exact OpOk.vs h (s := Builtin.min_ ts ty (#[x, y].map a.eval)) (by simp [Builtin.min_, q1]) q2
  · -- max
    rename_i x y hx
    have e2 := arr2 hx
    subst e2
    obtain ⟨v, hv, rfl⟩ := val_inv he
    obtain ⟨h1, _⟩ := ev_ok ht x
    obtain ⟨h3, _⟩ := ev_ok ht y
    obtain ⟨q1, q2⟩ := max2_ok (ρ := ρ) (w := w) (P := C.P) hv
    rw [← h1, ← h3] at q1
    exact OpOk.vs h (s := Builtin.max_ ts ty (#[x, y].map a.eval)) (by simp [Builtin.max_, q1]) q2
  · -- cap
    rename_i t x ht' hx
    have e1 := arr1 ht'
    have e2 := arr1 hx
    subst e1 e2
    obtain ⟨h1, _⟩ := ev_ok ht x
    split at he
    · rename_i hu hx'
      cases he
      rw [hx'] at h1
      exact OpOk.vs h (s := Builtin.cap_ #[t] ty (#[x].map a.eval)) (by simp [Builtin.cap_, h1, AV.conc, run_under hu, goInt]) (by simp [AV.Ok])
    · rename_i hu hx'
      cases he
      rw [hx'] at h1
      exact OpOk.vs h (s := Builtin.cap_ #[t] ty (#[x].map a.eval)) (by simp [Builtin.cap_, h1, AV.conc, run_under hu, goInt]) (by simp [AV.Ok])
    · cases he
  · -- clear
    rename_i t x ht' hx
    have e1 := arr1 ht'
    have e2 := arr1 hx
    subst e1 e2
    obtain ⟨h1, h2⟩ := ev_ok ht x
    split at he
    · rename_i e hu
      split at he
      · rename_i ti i o l c hti hx'
        split at he
        · rename_i hall
          split at he
          · rename_i H' hp
            cases he
            rw [hx'] at h1 h2
            obtain ⟨ρ', w', q1, q2⟩ := clear_ok (ty := ty) (c := c) h h2 hu hti (by simpa using hall) hp
            rw [← h1] at q1
            exact ⟨ρ', w', run_vs (s := Builtin.clear_ #[t] ty (#[x].map a.eval)) (by simpa [AV.conc, AV.concs] using q1), by simp [AV.Ok, AV.Oks], q2⟩
          · cases he
        · cases he
      · cases he
    · cases he
  · -- the first element
    rename_i x hx
    have e2 := arr1 hx
    subst e2
    obtain ⟨h1, h2⟩ := ev_ok ht x
    split at he
    · rename_i hx'
      cases he
      rw [hx'] at h1
      exact OpOk.vs h (s := Builtin.unsafeSliceData_ ts ty (#[x].map a.eval)) (by simp [h1, AV.conc, sliceData_nil]) (by simp [AV.Ok])
    · rename_i i o l c hx'
      rw [hx'] at h1 h2
      split at he
      · rename_i hc
        cases he
        have hc' : c ≠ 0 := fun q => by subst q; simp at hc
        exact OpOk.vs h (s := Builtin.unsafeSliceData_ ts ty (#[x].map a.eval)) (by simp [h1, AV.conc, sliceData_some hc']) h2
      · cases he
    · rename_i i o l hx'
      rw [hx'] at h1 h2
      split at he
      · rename_i c e hrow
        split at he
        · rename_i hlt
          cases he
          have hlt' := blt_lt hlt
          obtain ⟨q1, q2⟩ := h.rowG h2 hrow
          have hc' : (ρ.b i).ecap - o / (ρ.b i).esz ≠ 0 := by
            intro q
            have h3 : o < (ρ.b i).ecap * (ρ.b i).esz := by omega
            have h4 : 0 < (ρ.b i).esz := Nat.pos_of_ne_zero fun q => by rw [q] at h3; omega
            have := (Nat.div_lt_iff_lt_mul h4).2 h3
            omega
          exact OpOk.vs h (s := Builtin.unsafeSliceData_ ts ty (#[x].map a.eval)) (by simp [h1, AV.conc, sliceData_some hc']) h2
        · cases he
      · cases he
    · cases he
  · -- a string over bytes
    rename_i t us p n ht' hx
    have e1 := toArr ht'
    have e2 := arr2 hx
    subst e1 e2
    obtain ⟨h1, h2⟩ := ev_ok ht p
    obtain ⟨h3, _⟩ := ev_ok ht n
    split at he
    · rename_i hp hn
      cases he
      obtain ⟨k, hk⟩ := natOf_some hn
      rw [hp] at h1
      rw [hk] at h3
      refine OpOk.vs h (s := Builtin.unsafeString_ (t :: us).toArray ty (#[p, n].map a.eval)) ?_ (by simp [AV.Ok])
      have q2 : ¬ ((0 : Int) > IntKind.i64.max) := by decide
      have e : #[p, n].map a.eval = #[.pointer none, .int k 0] := by simp [h1, h3, AV.conc]
      rw [e]
      show Sem.run _ (asInt (.int k 0) >>= _) _ = _
      simp [run_asIntB, q2, AV.conc]
      rfl
    · rename_i i o m hp hn
      split at he
      · rename_i c g gen sh ext frz e wh u hget hu
        split at he
        · rename_i l hc hs
          simp only [Bool.and_eq_true] at hc
          obtain ⟨⟨⟨⟨c1, c2⟩, c3⟩, c4⟩, c5⟩ := hc
          have c2' := beq_size c2
          subst c2'
          obtain ⟨k, hk⟩ := natOf_some hn
          rw [hp] at h1 h2
          rw [hk] at h3
          split at he
          · rename_i s hb
            have key : ∀ H', reputF H i c g gen sh ext (max frz (o + (m + 1))) u wh false = some H' →
                OpOk C N ρ H w (builtin .unsafeString (t :: us).toArray ty cc (#[p, n].map a.eval)) (.val (.str s) H') := by
              intro H' hq
              obtain ⟨ρ', w', q1, q2⟩ := string_ok (ty := ty) (us := us) (k := k) h h2 hget c1 hu (beq_size c3) (Nat.le_of_ble_eq_true c4) hs hb (Nat.le_of_ble_eq_true c5) hq
              have h3' : a.eval n = .int k (Int.ofNat (m + 1)) := h3
              rw [← h1, ← h3'] at q1
              exact ⟨ρ', w', run_vs (s := Builtin.unsafeString_ (t :: us).toArray ty (#[p, n].map a.eval)) (by simpa [AV.conc] using q1), by simp [AV.Ok], q2⟩
            cases sh with
            | false =>
              cases he
              exact key _ rfl
            | true =>
              cases he
              exact key _ rfl
          · cases he
        · cases he
      · cases he
    · cases he
  · cases he

end Go.Ev

namespace Go.Ev

variable {C : Ctx} {N : Nat} {ρ : Rho} {H : AH} {w : World} {nt : Nat} {tm : Tr AV} {a : Act}

/-- What the evaluator is told of the functions without a body, and of the names that the machine knows. -/
structure Good (C : Ctx) : Prop where
  ext : ∀ (f : FuncId) (fn : Func) (args : List AV) (v : AV), C.P.funcs[f]? = some fn → fn.body = none → C.ext f args = some v → ∀ N ρ H w, Rel C N ρ H w → (∀ x ∈ args, x.Ok ρ) → (callFunc f (clos ρ args)).run C.P w = .ok (.value (v.conc ρ)) w ∧ v.Ok ρ
  num : ∀ (f : FuncId) (fn : Func) (c : Code), C.P.funcs[f]? = some fn → fn.body = some c → fn.name ≠ "runtime.NumGoroutine"

theorem run_enter (hC : Good C) {f : FuncId} {fn : Func} {c : Code} {args : Array Value} (hf : C.P.funcs[f]? = some fn) (hb : fn.body = some c) : (callFunc f args).run C.P w = .ok (.enter f args) w := by
  have hn := hC.num f fn c hf hb
  simp [callFunc, hf, hb, hn]

theorem callFn_ok (hC : Good C) {f : FuncId} {args : List AV} {r : OR} (h : Rel C N ρ H w) (ha : ∀ x ∈ args, x.Ok ρ) (he : callFn C f args H = some r) : OpOk C N ρ H w (callFunc f (clos ρ args)) r := by
  unfold callFn at he
  split at he
  · cases he
  · rename_i fn hf
    split at he
    · rename_i c hb
      cases he
      exact ⟨run_enter hC hf hb, ha, rfl⟩
    · rename_i hb
      obtain ⟨v, hv, rfl⟩ := val_inv he
      obtain ⟨q1, q2⟩ := hC.ext f fn args v hf hb hv N ρ H w h ha
      exact OpOk.pure h q1 q2

theorem OpOk.congr {s s' : Sem Next} {r : OR} (h : OpOk C N ρ H w s r) (e : s'.run C.P w = s.run C.P w) : OpOk C N ρ H w s' r := by
  cases r with
  | val v H' => obtain ⟨ρ', w', q1, q2⟩ := h; exact ⟨ρ', w', e.trans q1, q2⟩
  | skip H' => obtain ⟨ρ', w', q1, q2⟩ := h; exact ⟨ρ', w', e.trans q1, q2⟩
  | call c args H' =>
    cases c with
    | fn f => exact ⟨e.trans h.1, h.2⟩
    | yield i => exact ⟨e.trans h.1, h.2⟩
  | defer d H' =>
    cases d with
    | call g args => obtain ⟨⟨q1, q2, q3, q4⟩, q5⟩ := h; exact ⟨⟨q1, q2, e.trans q3, q4⟩, q5⟩
    | coll i => exact h
  | pan v H' => exact ⟨e.trans h.1, h.2⟩

theorem clos_conc {ρ : Rho} {l : List AV} : (AV.concs ρ l).toArray = clos ρ l := by simp [clos, concs_eq]

theorem callMethod_ok (hC : Good C) {t : TypeId} {name : String} {g : FuncId} {v : AV} {args : List AV} {r : OR} (h : Rel C N ρ H w) (hm : methodF C t name = some g) (hv : v.Ok ρ) (ha : ∀ x ∈ args, x.Ok ρ)
    (he : callFn C g (v :: args) H = some r) : OpOk C N ρ H w (callMethod (.iface t (v.conc ρ)) name (clos ρ args)) r := by
  obtain ⟨n, hn⟩ := depth_pos C.P
  have := callFn_ok hC h (args := v :: args) (by intro x hx; rcases List.mem_cons.1 hx with rfl | hx; exact hv; exact ha x hx) he
  refine this.congr ?_
  simp only [callMethod, Sem.run_bind, run_program, Result.andThen_ok, hn, (methodF_ok (v := v.conc ρ) rfl hm).1]
  congr 2
  simp [clos]

theorem callVal_ok (hC : Good C) {f : AV} {args : List AV} {ty : TypeId} {r : OR} (h : Rel C N ρ H w) (hf : f.Ok ρ) (ha : ∀ x ∈ args, x.Ok ρ) (he : callVal C f args H = some r) :
    OpOk C N ρ H w (do let d ← Deferred.ofValue (f.conc ρ) (clos ρ args); invoke d.target d.args) r := by
  unfold callVal at he
  split at he
  · rename_i g first cap
    have h1 : (∀ x ∈ first, x.Ok ρ) ∧ ∀ x ∈ cap, x.Ok ρ := by simpa [AV.Ok, oks_iff] using hf
    have := callFn_ok hC h (args := first ++ args ++ cap) (by
      intro x hx
      simp only [List.mem_append] at hx
      rcases hx with (hx | hx) | hx
      · exact h1.1 x hx
      · exact ha x hx
      · exact h1.2 x hx) he
    refine this.congr ?_
    simp [Deferred.ofValue, AV.conc, invoke, clos_append, clos_conc]
  · rename_i name t v first cap
    have h1 : v.Ok ρ ∧ (∀ x ∈ first, x.Ok ρ) := by
      have : (AV.Ok ρ (.ifc t v) ∧ AV.Oks ρ first) ∧ AV.Oks ρ cap := by simpa [AV.Ok, AV.Oks] using hf
      exact ⟨this.1.1, (oks_iff ρ first).1 this.1.2⟩
    split at he
    · rename_i g hm
      have := callMethod_ok hC h (args := first ++ args) hm h1.1 (by
        intro x hx
        rcases List.mem_append.1 hx with hx | hx
        · exact h1.2 x hx
        · exact ha x hx) (by simpa using he)
      refine this.congr ?_
      have e : ((AV.concs ρ (AV.ifc t v :: first)).toArray ++ clos ρ args) = (AV.conc ρ (.ifc t v) :: (clos ρ (first ++ args)).toList).toArray := by
        simp [AV.concs, clos, concs_eq]
      simp only [Deferred.ofValue, AV.conc, Sem.run_bind, Sem.run_pure, Result.andThen_ok, invoke]
      rw [e]
      simp only [List.getElem?_toArray, List.getElem?_cons_zero, AV.conc]
      congr 2
      apply Array.ext_getElem?
      intro j
      simp [Array.getElem?_extract, clos]
      by_cases hj : j < first.length + args.length
      · simp [hj]
      · simp [hj]
    · cases he
  · rename_i i
    cases he
    refine ⟨?_, hf, ha, rfl⟩
    simp [Deferred.ofValue, AV.conc, invoke]
  · cases he

theorem op_call (hC : Good C) {c : Call} {ty : TypeId} {r : OR} (h : Rel C N ρ H w) (ht : TmOk ρ nt tm a.tmps) (he : opCall c C tm H = some r) :
    OpOk C N ρ H w (do let d ← resolve a.eval c ty; invoke d.target d.args) r := by
  unfold opCall at he
  split at he
  · rename_i f hc
    obtain ⟨h1, h2⟩ := ev_ok ht f
    obtain ⟨h3, h4⟩ := evs_ok ht c.args
    have := callVal_ok (ty := ty) hC h h2 h4 he
    refine this.congr ?_
    simp only [resolve, hc, h1, h3]
    rfl
  · rename_i recv name hc
    obtain ⟨h1, h2⟩ := ev_ok ht recv
    obtain ⟨h3, h4⟩ := evs_ok ht c.args
    unfold opInvoke at he
    split at he
    · rename_i t v hr
      split at he
      · rename_i g hm
        rw [hr] at h1 h2
        have := callMethod_ok (v := v) hC h hm h2 h4 he
        refine this.congr ?_
        simp only [resolve, hc, Sem.run_bind, Sem.run_pure, Result.andThen_ok, invoke, h1, h3]
        have e : (#[AV.conc ρ (.ifc t v)] ++ ((c.args.toList.map (ev tm)).map (AV.conc ρ)).toArray)[0]? = some (AV.conc ρ (.ifc t v)) := by simp
        rw [e]
        simp only [AV.conc]
        congr 2
        apply Array.ext_getElem?
        intro j
        simp [Array.getElem?_extract, clos]
        by_cases hj : j < c.args.size
        · simp [hj]
        · simp [hj]
      · cases he
    · cases he
  · rename_i b hc
    have := op_builtin (ty := ty) (cc := c.args.map fun | .const _ => true | _ => false) h ht he
    refine this.congr ?_
    simp only [resolve, hc, Sem.run_bind, Sem.run_pure, Result.andThen_ok, invoke]
    rfl

theorem op_defer (hC : Good C) {c : Call} {ty : TypeId} {r : OR} (h : Rel C N ρ H w) (ht : TmOk ρ nt tm a.tmps) (he : opDefer c C tm H = some r) :
    OpOk C N ρ H w (do pure (.defer (← resolve a.eval c ty))) r := by
  unfold opDefer at he
  split at he
  · rename_i f hc
    obtain ⟨h1, h2⟩ := ev_ok ht f
    obtain ⟨h3, h4⟩ := evs_ok ht c.args
    split at he
    · rename_i g first cap hf
      rw [hf] at h1 h2
      have h5 : (∀ x ∈ first, x.Ok ρ) ∧ ∀ x ∈ cap, x.Ok ρ := by simpa [AV.Ok, oks_iff] using h2
      split at he
      · split at he
        · cases he
          refine ⟨⟨clos ρ (first ++ c.args.toList.map (ev tm)), clos ρ cap, ?_, by rw [clos_append, clos_append, clos_append]⟩, ?_, rfl⟩
          · simp only [resolve, hc, Sem.run_bind, h1, AV.conc, Deferred.ofValue, Sem.run_pure, Result.andThen_ok, clos_conc, h3, clos_append]
            rfl
          · intro x hx
            simp only [List.mem_append] at hx
            rcases hx with (hx | hx) | hx
            · exact h5.1 x hx
            · exact h4 x hx
            · exact h5.2 x hx
        · cases he
      · cases he
    · cases he
  · cases he

theorem op_panic {x : Operand} {r : OR} (h : Rel C N ρ H w) (ht : TmOk ρ nt tm a.tmps) (he : opPanic x C tm H = some r) : OpOk C N ρ H w (vs (Instr.panic (a.eval x))) r := by
  obtain ⟨h1, h2⟩ := ev_ok ht x
  unfold opPanic at he
  split at he
  · rename_i t v hx
    cases he
    rw [hx] at h1 h2
    exact ⟨by simp [vs, h1, AV.conc, Instr.panic], h2, rfl⟩
  · cases he

/-- One operation: what the evaluator says, the model does. -/
theorem op_ok (hC : Good C) {o : Oper} {r : OR} (h : Rel C N ρ H w) (ht : TmOk ρ nt tm a.tmps) (he : evOp o.op C tm H = some r) : OpOk C N ρ H w (execOp a.eval o) r := by
  unfold execOp
  cases hop : o.op <;> rw [hop] at he <;> simp only [evOp] at he
  case move => exact op_move h ht he
  case assign => exact op_move h ht he
  case pick => exact op_pick h ht he
  case alloc => exact op_alloc h he
  case box => exact op_box h ht he
  case build => exact op_build h ht he
  case buildSlice => exact op_buildSlice h ht he
  case insert => exact op_mapUpdate h ht he
  case load => exact op_load h ht he
  case store => exact op_store h ht he
  case nilCheck => exact (op_nilCheck h ht he).congr (by first | rfl | (simp only [nilCheckS, execOp]; rfl))
  case binOp => exact op_bin h ht he
  case unOp => exact op_un (t := 0) h ht he
  case convert => exact op_convert h ht he
  case sliceToArrayPointer => exact op_arrayAt h ht he
  case makeInterface => exact op_makeInterface h ht he
  case makeFunc => exact op_makeFunc h ht he
  case makeMap => exact op_makeMap h he
  case makeSlice => exact op_makeSlice h ht he
  case slice => exact op_slice h ht he
  case fieldAddr => exact op_fieldAddr h ht he
  case field => exact op_field h ht he
  case indexAddr => exact op_indexAddr h ht he
  case index => exact op_index h ht he
  case lookup => exact op_lookup h ht he
  case mapUpdate => exact op_mapUpdate h ht he
  case range => exact op_range h ht he
  case next => exact op_next h ht he
  case typeAssert => exact op_typeAssert h ht he
  case extract => exact op_extract h ht he
  case call => exact op_call hC h ht he
  case defer => exact op_defer hC h ht he
  case panic => exact op_panic h ht he
  all_goals cases he

end Go.Ev

namespace Go.Ev

variable {C : Ctx} {N : Nat}

/-- The fence that lets all in, in a round or not. -/
abbrev FW (ro : Option Nat) : Fence := { Fence.wide with round := ro }

/-- Where a call ends. -/
def RetOk (C : Ctx) (N : Nat) (ρ : Rho) (H : AH) (w : World) (r : ARet) (H' : AH) (e : Ending) (w' : World) : Prop :=
  ∃ ρ', Steps' C N ρ H w ρ' H' w' ∧ match r with
    | .ret v => e = .returned (v.conc ρ') ∧ v.Ok ρ'
    | .pan v => e = .panicked [{ v := v.conc ρ', recovered := false }] ∧ v.Ok ρ'

/-- What the evaluator says of a call, the model does. -/
def CallOk (C : Ctx) (call : CallF) : Prop := ∀ (c : AC) (args : List AV) (H : AH) (r : ARet) (H' : AH), call c args H = some (r, H') → ∀ (N : Nat) (ρ : Rho) (w : World), Rel C N ρ H w → (∀ v ∈ args, v.Ok ρ) →
  match c with
  | .fn f => CallsIn Fence.wide 0 C.P f (clos ρ args) w (RetOk C N ρ H w r H')
  | .yield i => ρ i ≠ none → ∃ fn tmps assign body, (Instr.yield (ρ.b i).blk (clos ρ args)).run C.P w = .ok (.round (ρ.b i).blk fn tmps assign body) w ∧
      RoundIn Fence.wide 0 C.P (ρ.b i).blk fn tmps assign body w (RetOk C N ρ H w r H')

/-- The deferred calls of a frame. -/
def DefOk (ρ : Rho) : AD → Deferred → Prop
  | .call g args, d => ∃ as cs, d = { target := .fn (.func g) cs, args := as } ∧ as ++ cs = clos ρ args ∧ ∀ v ∈ args, v.Ok ρ
  | .coll i, d => d = { target := .collected (ρ.b i).blk, args := #[] } ∧ ρ i ≠ none

inductive DfOk (ρ : Rho) : List AD → List Deferred → Prop
  | nil : DfOk ρ [] []
  | cons {x : AD} {l : List AD} {d : Deferred} {ds : List Deferred} : DefOk ρ x d → DfOk ρ l ds → DfOk ρ (x :: l) (d :: ds)

theorem clos_le {ρ ρ' : Rho} (h : ρ.le ρ') {l : List AV} (k : ∀ v ∈ l, v.Ok ρ) : clos ρ' l = clos ρ l ∧ ∀ v ∈ l, v.Ok ρ' := by
  have := concs_le h l ((oks_iff ρ l).2 k)
  refine ⟨?_, (oks_iff ρ' l).1 this.2⟩
  rw [← clos_conc, ← clos_conc, this.1]

theorem DefOk.le {ρ ρ' : Rho} (h : ρ.le ρ') {x : AD} {d : Deferred} (k : DefOk ρ x d) : DefOk ρ' x d := by
  cases x with
  | call g args =>
    obtain ⟨as, cs, q1, q2, q3⟩ := k
    have := clos_le h q3
    exact ⟨as, cs, q1, by rw [this.1]; exact q2, this.2⟩
  | coll i =>
    obtain ⟨q1, q2⟩ := k
    exact ⟨by rw [Rho.le_b h q2]; exact q1, by rw [h i q2]; exact q2⟩

theorem DfOk.le {ρ ρ' : Rho} (h : ρ.le ρ') {l : List AD} {ds : List Deferred} (k : DfOk ρ l ds) : DfOk ρ' l ds := by
  induction k with
  | nil => exact .nil
  | cons a _ ih => exact .cons (a.le h) ih

/-- A frame's state. -/
structure StOk (ρ : Rho) (nt : Nat) (s : St) (a : Act) : Prop where
  tm : TmOk ρ nt s.tm a.tmps
  df : DfOk ρ s.df a.defers

/-- How code is left. -/
def ExitOk (ρ : Rho) : AE → Exit → Prop
  | .norm, x => x = .normal
  | .exit id, x => x = .exit id
  | .goto l, x => x = .goto l
  | .ret, x => x = .ret
  | .pan v, x => x = .panic [{ v := v.conc ρ, recovered := false }] ∧ v.Ok ρ

/-- The end of a walk. -/
def EndOk (C : Ctx) (N : Nat) (ρ : Rho) (H : AH) (w : World) (nt : Nat) (e : AE) (s' : St) (x : Exit) (a' : Act) (w' : World) : Prop :=
  ∃ ρ', Steps' C N ρ H w ρ' s'.H w' ∧ ExitOk ρ' e x ∧ StOk ρ' nt s' a'

theorem EndOk.trans {ρ ρ1 : Rho} {H H1 : AH} {w w1 : World} {nt : Nat} {e : AE} {s' : St} {x : Exit} {a' : Act} {w' : World} (h : Steps' C N ρ H w ρ1 H1 w1) (k : EndOk C N ρ1 H1 w1 nt e s' x a' w') :
    EndOk C N ρ H w nt e s' x a' w' := by
  obtain ⟨ρ', q1, q2⟩ := k
  exact ⟨ρ', h.trans q1, q2⟩

theorem wanted_ok {ρ : Rho} {nt : Nat} {tm : Tr AV} {a : Act} {ops : Array Oper} {o : Oper} (ht : TmOk ρ nt tm a.tmps) : Region.wanted o (yielded ops a.tmps) = wantedF ops tm o := by
  unfold Region.wanted wantedF
  cases hg : o.guard with
  | none => rfl
  | some jw =>
    obtain ⟨j, want⟩ := jw
    simp only [yielded]
    cases hp : ops[j]? with
    | none => simp
    | some p =>
      simp only [Option.bind_some]
      cases hd : p.dst with
      | none => simp
      | some d =>
        simp only [Option.bind_some]
        by_cases hlt : d < nt
        · obtain ⟨q1, q2⟩ := ht.get d hlt
          rw [q1]
          cases hv : tm.get d with
          | none => simp [slot, hv, undef_conc, undef]
          | some v =>
            simp only [slot, hv]
            cases v with
            | raw v => cases v <;> simp [AV.conc]
            | _ => simp [AV.conc]
        · rw [ht.out d (Nat.le_of_not_lt hlt), Array.getElem?_eq_none (by rw [ht.size]; exact Nat.le_of_not_lt hlt)]
          simp

theorem put_st {ρ : Rho} {nt : Nat} {s : St} {tm' : Tr AV} {H : AH} {a : Act} {d : Option Tmp} {v : AV} (h : StOk ρ nt s a) (hv : v.Ok ρ) (hp : putF nt s.tm d v = some tm') :
    StOk ρ nt { tm := tm', H, df := s.df } (a.put d (v.conc ρ)) := by
  obtain ⟨q1, q2⟩ := putF_ok h.tm hv hp
  exact ⟨q1, by rw [q2]; exact h.df⟩

theorem semAt_defer {ro : Option Nat} {ρ : Operand → Value} {o : Oper} (h : ro = none ∨ ∀ c, o.op ≠ .defer c) : Oper.semAt ro ρ o = execOp ρ o := by
  rcases h with rfl | h
  · rfl
  · exact Oper.semAt_eq ro ρ o h

/-- Operations one after the other. -/
theorem evOps_ok (hC : Good C) {call : CallF} (hcall : CallOk C call) {ro : Option Nat} {nt : Nat} {ops : Array Oper} {Q : Exit → Act → World → Prop} :
    ∀ (l : List Oper) (k : Nat) (s : St) (e : AE) (s' : St), (∀ j (h : j < l.length), ops[k + j]? = some l[j]) → evOps call C ro.isSome nt ops l s = some (e, s') →
      ∀ (ρ : Rho) (a : Act) (w : World), Rel C N ρ s.H w → StOk ρ nt s a → (∀ x a' w', EndOk C N ρ s.H w nt e s' x a' w' → Q x a' w') →
        wpOpsIn (FW ro) 0 C.P ops Q (List.range' k l.length) a w
  | [], k, s, e, s', _, he, ρ, a, w, hr, hs, hQ => by
    simp only [evOps, Option.some.injEq, Prod.mk.injEq] at he
    obtain ⟨rfl, rfl⟩ := he
    exact hQ _ _ _ ⟨ρ, Steps'.refl hr, rfl, hs⟩
  | o :: l, k, s, e, s', hl, he, ρ, a, w, hr, hs, hQ => by
    have hk : ops[k]? = some o := by have := hl 0 (by simp); simpa using this
    have hl' : ∀ j (h : j < l.length), ops[k + 1 + j]? = some l[j] := fun j hj => by
      have := hl (j + 1) (by simpa using hj)
      rw [show k + 1 + j = k + (j + 1) by omega]
      simpa using this
    simp only [List.length_cons, List.range'_succ, wpOpsIn, hk, wanted_ok hs.tm]
    simp only [evOps] at he
    split at he
    · rename_i hw
      rw [hw]
      simp only [Bool.false_eq_true, if_false]
      split at he
      · cases he
      · rename_i tm' hp
        refine ⟨fun f _ => trivial, ?_⟩
        have hst := put_st (H := s.H) hs (undef_ok ρ) hp
        rw [undef_conc] at hst
        exact evOps_ok hC hcall l (k + 1) _ e s' hl' he ρ _ w hr hst hQ
    · rename_i hw
      rw [hw]
      simp only [if_true]
      refine ⟨fun f _ => trivial, ?_⟩
      split at he
      · cases he
      · -- a value
        rename_i v H hev
        have hok := op_ok hC hr hs.tm hev
        obtain ⟨ρ', w', r1, r2, r3⟩ := hok
        split at he
        · cases he
        · rename_i tm' hp
          have hsem : Oper.semAt ro a.eval o = execOp a.eval o := semAt_defer (.inr fun c hc => by rw [hc] at hev; simp only [evOp, opDefer] at hev; split at hev <;> (try cases hev) <;> split at hev <;> (try cases hev) <;> split at hev <;> (try cases hev) <;> split at hev <;> cases hev)
          rw [hsem, r1, Oper.uponIn_value]
          have hst : StOk ρ' nt s a := ⟨hs.tm.le r3.le, hs.df.le r3.le⟩
          exact evOps_ok hC hcall l (k + 1) _ e s' hl' he ρ' _ w' r3.rel (put_st hst r2 hp) fun x a' w'' hq => hQ x a' w'' (hq.trans r3)
      · -- none
        rename_i H hev
        have hok := op_ok hC hr hs.tm hev
        obtain ⟨ρ', w', r1, r3⟩ := hok
        split at he
        · cases he
        · rename_i tm' hp
          have hsem : Oper.semAt ro a.eval o = execOp a.eval o := semAt_defer (.inr fun c hc => by rw [hc] at hev; simp only [evOp, opDefer] at hev; split at hev <;> (try cases hev) <;> split at hev <;> (try cases hev) <;> split at hev <;> (try cases hev) <;> split at hev <;> cases hev)
          rw [hsem, r1, Oper.uponIn_skip]
          have hst : StOk ρ' nt s a := ⟨hs.tm.le r3.le, hs.df.le r3.le⟩
          have := put_st (H := H) hst (undef_ok ρ') hp
          rw [undef_conc] at this
          exact evOps_ok hC hcall l (k + 1) _ e s' hl' he ρ' _ w' r3.rel this fun x a' w'' hq => hQ x a' w'' (hq.trans r3)
      · -- a deferred call
        rename_i d H hev
        split at he
        · cases he
        · rename_i hrd
          have hro : ro = none := by cases ro with | none => rfl | some _ => cases hrd
          subst hro
          have hok := op_ok hC hr hs.tm hev
          cases d with
          | coll i => exact hok.elim
          | call g args =>
            obtain ⟨⟨as, cs, r1, r2⟩, r3, rfl⟩ := hok
            split at he
            · cases he
            · rename_i tm' hp
              have hst := put_st (H := s.H) hs (undef_ok ρ) hp
              rw [undef_conc] at hst
              show Oper.uponIn _ _ _ _ _ _ _ ((Oper.semAt none a.eval o).run C.P w)
              rw [Oper.semAt_none, r1, Oper.uponIn_defer]
              refine evOps_ok hC hcall l (k + 1) _ e s' hl' he ρ _ w hr ?_ hQ
              have e1 : (({ tmps := a.tmps, defers := { target := Target.fn (Fn.func g) cs, args := as } :: a.defers } : Act).put o.dst undef).tmps = (a.put o.dst undef).tmps := by cases o.dst <;> rfl
              refine ⟨by rw [e1]; exact hst.tm, ?_⟩
              cases hd : o.dst <;> exact .cons ⟨as, cs, rfl, r2, r3⟩ hs.df
      · -- a panic
        rename_i v H hev
        have hok := op_ok hC hr hs.tm hev
        obtain ⟨r1, r2, rfl⟩ := hok
        cases he
        have hsem : Oper.semAt ro a.eval o = execOp a.eval o := semAt_defer (.inr fun c hc => by rw [hc] at hev; simp only [evOp, opDefer] at hev; split at hev <;> (try cases hev) <;> split at hev <;> (try cases hev) <;> split at hev <;> (try cases hev) <;> split at hev <;> cases hev)
        rw [hsem, r1, Oper.uponIn_panic]
        exact hQ _ _ _ ⟨ρ, Steps'.refl hr, ⟨rfl, r2⟩, hs⟩
      · -- a call
        rename_i c args H hev
        have hok := op_ok hC hr hs.tm hev
        have hsem : Oper.semAt ro a.eval o = execOp a.eval o := semAt_defer (.inr fun c hc => by rw [hc] at hev; simp only [evOp, opDefer] at hev; split at hev <;> (try cases hev) <;> split at hev <;> (try cases hev) <;> split at hev <;> (try cases hev) <;> split at hev <;> cases hev)
        rw [hsem]
        -- behind the call
        have key : ∀ r H1, call c args H = some (r, H1) → H = s.H → (match (generalizing := false) r with
            | .pan v => some (AE.pan v, ({ tm := s.tm, H := H1, df := s.df } : St))
            | .ret v => match putF nt s.tm o.dst v with
              | none => none
              | some tm => evOps call C ro.isSome nt ops l { tm, H := H1, df := s.df }) = some (e, s') →
            ∀ en w', RetOk C N ρ s.H w r H1 en w' → (match (generalizing := false) en with
              | .returned v => wpOpsIn (FW ro) 0 C.P ops Q (List.range' (k + 1) l.length) (a.put o.dst v) w'
              | .panicked chain => Q (.panic chain) a w'
              | .outgrown => LetsOut Q) := by
          intro r H1 hc hH he' en w' hret
          obtain ⟨ρ', st, hm⟩ := hret
          have hst : StOk ρ' nt s a := ⟨hs.tm.le st.le, hs.df.le st.le⟩
          cases r with
          | pan v =>
            obtain ⟨rfl, hv⟩ := hm
            simp only [Option.some.injEq, Prod.mk.injEq] at he'
            obtain ⟨rfl, rfl⟩ := he'
            exact hQ _ _ _ ⟨ρ', st, ⟨rfl, hv⟩, ⟨hst.tm, hst.df⟩⟩
          | ret v =>
            obtain ⟨rfl, hv⟩ := hm
            simp only at he'
            split at he'
            · cases he'
            · rename_i tm' hp
              exact evOps_ok hC hcall l (k + 1) _ e s' hl' he' ρ' _ w' st.rel (put_st hst hv hp) fun x a' w'' hq => hQ x a' w'' (hq.trans st)
        cases hcr : call c args H with
        | none => rw [hcr] at he; cases he
        | some rH =>
          obtain ⟨r, H1⟩ := rH
          rw [hcr] at he
          have he' : (match (generalizing := false) r with
            | .pan v => some (AE.pan v, ({ tm := s.tm, H := H1, df := s.df } : St))
            | .ret v => match putF nt s.tm o.dst v with
              | none => none
              | some tm => evOps call C ro.isSome nt ops l { tm, H := H1, df := s.df }) = some (e, s') := by
            cases r <;> exact he
          cases c with
          | fn f =>
            obtain ⟨r1, r2, rfl⟩ := hok
            rw [r1, Oper.uponIn_enter]
            refine ⟨fun hh => (by cases hh), ?_⟩
            have := hcall (.fn f) args s.H r H1 hcr N ρ w hr r2
            refine ⟨trivial, fun cs hroom => ?_⟩
            obtain ⟨en, w', fr, q1, q2, q3⟩ := this.2 cs hroom
            refine ⟨en, w', fr, ?_, q2, q3⟩
            have := key r H1 hcr rfl he' en w' q1
            cases en <;> exact this
          | yield i =>
            obtain ⟨r1, r2, r3, rfl⟩ := hok
            obtain ⟨fn, tmps, assign, body, y1, y2⟩ := hcall (.yield i) args s.H r H1 hcr N ρ w hr r3 r2
            rw [r1, y1, Oper.uponIn_round]
            refine ⟨fun hh => (by cases hh), trivial, fun c cs hroom => ?_⟩
            obtain ⟨en, w', q1, q2⟩ := y2.2 c cs hroom
            refine ⟨en, w', ?_, q2⟩
            have := key r H1 hcr rfl he' en w' q1
            cases en <;> exact this

end Go.Ev
