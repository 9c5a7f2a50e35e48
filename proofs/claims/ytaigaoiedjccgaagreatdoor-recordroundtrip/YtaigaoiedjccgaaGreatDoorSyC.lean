/-
  A part of the laws of calls and regions that the walks use. For every program.
-/
import Derived.Test.YtaigaoiedjccgaaGreatDoorSyB
set_option linter.unusedVariables false
set_option linter.unusedSimpArgs false

namespace Go.Ev

theorem Hs.perm {H0 H : AH} {W : List Nat} {L M : Kn} (h : Hs H0 W H L) (p : L.Perm M) : Hs H0 W H M :=
  ⟨h.fr, h.wf, fun s k => h.ok s (p.mem_iff.2 k), (p.map _).nodup_iff.1 h.nodup, (p.filterMap _).nodup_iff.1 h.own⟩

theorem Hs.front {H0 H : AH} {W : List Nat} {L : Kn} {s : Slot} (h : Hs H0 W H (L ++ [s])) : Hs H0 W H (s :: L) :=
  h.perm (List.perm_append_comm)

theorem JW_mk {Y : JE} {c : Code} {f : Nat → AV} {L : Kn} {df : List AD} {K : PostL} (h : ∀ H, Hs Y.H0 Y.Wr H L → W Y.toEnv c f H df (lift Y K)) : JW Y c f L df K := by
  rw [JW]; exact h
theorem JW_use {Y : JE} {c : Code} {f : Nat → AV} {L : Kn} {df : List AD} {K : PostL} (h : JW Y c f L df K) : ∀ H, Hs Y.H0 Y.Wr H L → W Y.toEnv c f H df (lift Y K) := by
  rw [JW] at h; exact h

/-! ### A function that is run in place -/

/-- Its end. -/
def retJ (C : Ctx) (fn : Func) (nt : Nat) (H0 : AH) (Wr : List Nat) (P : AV → Kn → Prop) : PostL := fun e f L df => (e = .norm ∨ e = .ret) ∧ ∀ H, Hs H0 Wr H L → ∃ v H' L', leaveF C fn (TM nt f) df none H = some (.ret v, H') ∧ Hs H0 Wr H' L' ∧ P v L'

theorem ret_tmp {C : Ctx} {fn : Func} {nt : Nat} {H0 : AH} {Wr : List Nat} {P : AV → Kn → Prop} {e : AE} {f : Nat → AV} {L : Kn} {v : AV} (he : e = .norm ∨ e = .ret) (hr : ∀ H, resultsF C fn (TM nt f) H = some v) (hp : P v L) :
    retJ C fn nt H0 Wr P e f L [] := ⟨he, fun H hH => ⟨v, H, L, by simp only [leaveF, hr], hH, hp⟩⟩

theorem fn_in {T : List Entry} {C : Ctx} {m n : Nat} {g : FuncId} {args : List AV} {H0 H : AH} {Wr : List Nat} {L : Kn} {P : AV → Kn → Prop} {fn : Func} {c : Code} {nt : Nat} (hT : hasF g T = false) (hf : C.P.funcs[g]? = some fn) (hb : fn.body = some c) (hn : ntOf args fn = nt) (hle : Nat.ble nt 255 = true)
    (hH : Hs H0 Wr H L) (h : JW ⟨⟨evCallP T C m n, C, m, none, g, nt⟩, H0, Wr⟩ c (argF args) L [] (retJ C fn nt H0 Wr P)) : ∃ v H' L', evCallP T C m (n + 1) (.fn g) args H = some (.ret v, H') ∧ Hs H0 Wr H' L' ∧ P v L' := by
  have hw := JW_use h H hH
  obtain ⟨e, f', H1, df', h1, L1, h2, h3, h4⟩ := hw
  obtain ⟨v, H2, L', h5, h6, h7⟩ := h4 H1 h2
  refine ⟨v, H2, L', ?_, h6, h7⟩
  simp only [evCallP, tab_none hT, evFnQ, hf, hn, hle, evFnP, hb]
  simp only at h1
  rcases h3 with rfl | rfl <;> simp only [h1, h5]

/-! ### Ranging over a function -/

abbrev lpS (l : Nat) (st : LoopState) (fn : FuncId) (f : Nat → AV) (nt : Nat) (ps : Array Tmp) (a b : Code) (d : Nat) : Slot := ⟨l, true, true, .loop st none fn (TM nt f) nt ps a b d⟩
abbrev dfS (d : Nat) : Slot := ⟨d, true, true, .dfr true⟩

section
variable {Y : JE} {f : Nat → AV} {L : Kn} {df : List AD} {K : PostL}

theorem setO_ok {H : AH} {i : Nat} {o : AObj} (h : H.ro ≤ i) : H.setO i o = some (H.setObj i o) := by
  simp only [AH.setO, Nat.ble_eq_true_of_le h]

theorem J_range {fo : Operand} {ps : Array Tmp} {a b : Code} {g : FuncId} {args : Nat → List AV} {P : Kn → Prop} (hro : Y.ro = none) (hcv : ∀ l H, callVal Y.C (ev (TM Y.nt f) fo) [.yield l] H = some (.call (.fn g) (args l) H))
    (hcall : ∀ d l H, Hs Y.H0 Y.Wr H (lpS l .ready Y.fn f Y.nt ps a b d :: dfS d :: L) → ∃ v H' L', Y.call (.fn g) (args l) H = some (.ret v, H') ∧ Hs Y.H0 Y.Wr H' (lpS l .ready Y.fn f Y.nt ps a b d :: dfS d :: L') ∧ P L')
    (k : ∀ d L', P L' → K .norm f (dfS d :: L') (.coll d :: df)) : JW Y (.rangeFunc fo ps a b) f L df K := JW_mk fun H hH => by
  have h1 : Hs Y.H0 Y.Wr (H.new (.dfr true)) (dfS H.n :: L) := (hH.new (.dfr true) (fun g hg => by cases hg) trivial).front
  have h2 : Hs Y.H0 Y.Wr ((H.new (.dfr true)).new (.loop .ready none Y.fn (TM Y.nt f) Y.nt ps a b H.n)) (lpS (H.new (.dfr true)).n .ready Y.fn f Y.nt ps a b H.n :: dfS H.n :: L) := (h1.new (.loop .ready none Y.fn (TM Y.nt f) Y.nt ps a b H.n) (fun g hg => by cases hg) trivial).front
  obtain ⟨v, H', L', q1, q2, q3⟩ := hcall _ _ _ h2
  have hs := q2.ok _ (List.mem_cons_self ..)
  have hget := hs.get
  have hwr := (hs.wr rfl).1
  simp only at hget hwr
  have h3 := (q2.setObj (p := 0) (o' := .loop .exhausted none Y.fn (TM Y.nt f) Y.nt ps a b H.n) rfl trivial rfl).drop (M := dfS H.n :: L') (by simp)
  refine ⟨.norm, f, _, .coll H.n :: df, ?_, dfS H.n :: L', h3, k _ _ q3⟩
  simp only [evCode, rangeF, hro, enterF, hcv, q1, hget, setO_ok hwr, jumpF]

/-- The temporaries behind the parameters' setting. -/
def zipU : List Tmp → List AV → (Nat → AV) → (Nat → AV)
  | t :: ts, v :: vs, f => zipU ts vs (upd f t v)
  | _, _, f => f

theorem zip_TM {nt : Nat} (h : nt ≤ 255) : ∀ (ps : List Tmp) (vs : List AV) (f : Nat → AV), ps.all (Nat.blt · nt) = true → zipTm ps vs (TM nt f) = TM nt (zipU ps vs f)
  | [], _, f, _ => by simp [zipTm, zipU]
  | t :: ps, [], f, _ => by simp [zipTm, zipU]
  | t :: ps, v :: vs, f, hp => by
    simp only [List.all_cons, Bool.and_eq_true, Nat.blt_eq] at hp
    simp only [zipTm, zipU]
    rw [TM_set h hp.1, zip_TM h ps vs _ hp.2]

/-- A round of the loop: the body runs, and the loop goes on. -/
theorem yield_in {T : List Entry} {C : Ctx} {m n : Nat} {l d : Nat} {args : List AV} {H0 H : AH} {Wr : List Nat} {fn : FuncId} {nt : Nat} {ps : Array Tmp} {a b : Code} {L : Kn} {P : Kn → Prop} (hle : Nat.ble nt 255 = true)
    (hps : (Nat.beq args.length ps.size && ps.toList.all (Nat.blt · nt)) = true) (hH : Hs H0 Wr H (lpS l .ready fn f nt ps a b d :: L))
    (ha : JW ⟨⟨evCallP T C m n, C, m, some l, fn, nt⟩, H0, Wr⟩ a (zipU ps.toList args f) (lpS l .ready fn f nt ps a b d :: L) [] (fun e f' L' df' => e = .norm ∧ df' = [] ∧ ∃ L1, L' = lpS l .ready fn f nt ps a b d :: L1 ∧
      JW ⟨⟨evCallP T C m n, C, m, some l, fn, nt⟩, H0, Wr⟩ b f' (lpS l .busy fn f nt ps a b d :: L1) [] (fun e f'' L'' df'' => e = .norm ∧ df'' = [] ∧ ∃ L2, L'' = lpS l .busy fn f nt ps a b d :: L2 ∧ P L2))) :
    ∃ H' L2, evCallP T C m (n + 1) (.yield l) args H = some (.ret (.bool true), H') ∧ Hs H0 Wr H' (lpS l .ready fn f nt ps a b d :: L2) ∧ P L2 := by
  have hs := hH.ok _ (List.mem_cons_self ..)
  have hget := hs.get
  simp only at hget
  obtain ⟨e1, f1, H1, df1, g1, La, g2, rfl, rfl, L1, rfl, hb⟩ := JW_use ha H hH
  have hs1 := g2.ok _ (List.mem_cons_self ..)
  have hget1 := hs1.get
  have hwr1 := (hs1.wr rfl).1
  simp only at hget1 hwr1
  have h2 := g2.setObj (p := 0) (o' := .loop .busy none fn (TM nt f) nt ps a b d) rfl trivial rfl
  obtain ⟨e2, f2, H2, df2, k1, Lb, k2, rfl, rfl, L2, rfl, hP⟩ := JW_use hb _ h2
  have hs2 := k2.ok _ (List.mem_cons_self ..)
  have hget2 := hs2.get
  have hwr2 := (hs2.wr rfl).1
  simp only at hget2 hwr2
  have h3 := k2.setObj (p := 0) (o' := .loop .ready none fn (TM nt f) nt ps a b d) rfl trivial rfl
  refine ⟨_, L2, ?_, h3, hP⟩
  simp only at g1 k1
  simp only [evCallP, tabF, evYield, hget, hps, zip_TM (Nat.le_of_ble_eq_true hle) _ _ _ (by simp only [Bool.and_eq_true] at hps; exact hps.2), g1, hget1, setO_ok hwr1, k1, endF, hget2, setO_ok hwr2, Option.isNone]

/-- The end of a function that ranged over a function. -/
theorem leave_coll {C : Ctx} {fn : Func} {nt d : Nat} {H0 H : AH} {Wr : List Nat} {L : Kn} {v : AV} (hH : Hs H0 Wr H (dfS d :: L)) (hr : ∀ H, Hs H0 Wr H L → resultsF C fn (TM nt f) H = some v) :
    ∃ H', leaveF C fn (TM nt f) [.coll d] none H = some (.ret v, H') ∧ Hs H0 Wr H' L := by
  have hs := hH.ok _ (List.mem_cons_self ..)
  have hget := hs.get
  have hwr := (hs.wr rfl).1
  simp only at hget hwr
  have h1 := (hH.setObj (p := 0) (o' := .dfr false) rfl trivial rfl).drop (M := L) (by simp)
  exact ⟨_, by simp only [leaveF, hget, setO_ok hwr, hr _ h1], h1⟩

theorem end_coll {C : Ctx} {fn : Func} {nt : Nat} {H0 : AH} {Wr : List Nat} {P : AV → AH → Prop} {e : AE} {v : AV} {d : Nat} (he : e = .norm ∨ e = .ret) (hr : ∀ H, Hs H0 Wr H L → resultsF C fn (TM nt f) H = some v) (hp : ∀ H, Hs H0 Wr H L → P v H) :
    endJ C fn nt H0 Wr P e f (dfS d :: L) [.coll d] := ⟨he, fun H hH => by
  obtain ⟨H', q1, q2⟩ := leave_coll hH hr
  exact ⟨v, H', q1, hp H' q2⟩⟩

end
end Go.Ev

namespace Go.Ev

section
variable {Y : JE} {f : Nat → AV} {L : Kn} {df : List AD} {K : PostL} {ops : Array Oper} {o : Oper} {l : List Oper} {Q : (Nat → AV) → Kn → AV → Prop}

theorem J_perm {c : Code} {M : Kn} (p : L.Perm M) (h : JW Y c f M df K) : JW Y c f L df K := JW_mk fun H hH => JW_use h H (hH.perm p)

theorem JO_mk (h : ∀ H, Hs Y.H0 Y.Wr H L → WO Y.toEnv ops l f H df (lift Y K)) : JO Y ops l f L df K := by rw [JO]; exact h
theorem JO_use (h : JO Y ops l f L df K) : ∀ H, Hs Y.H0 Y.Wr H L → WO Y.toEnv ops l f H df (lift Y K) := by rw [JO] at h; exact h
theorem O_perm {M : Kn} (p : L.Perm M) (h : JO Y ops l f M df K) : JO Y ops l f L df K := JO_mk fun H hH => JO_use h H (hH.perm p)
theorem O_drop (M : Kn) (p : M.Sublist L) (h : JO Y ops l f M df K) : JO Y ops l f L df K := JO_mk fun H hH => JO_use h H (hH.drop p)
theorem O_erase (p : Nat) (h : JO Y ops l f (L.eraseIdx p) df K) : JO Y ops l f L df K := O_drop _ (List.eraseIdx_sublist L p) h
theorem J_drop {c : Code} (M : Kn) (p : M.Sublist L) (h : JW Y c f M df K) : JW Y c f L df K := JW_mk fun H hH => JW_use h H (hH.drop p)

theorem J_erase {c : Code} (p : Nat) (h : JW Y c f (L.eraseIdx p) df K) : JW Y c f L df K := J_drop _ (List.eraseIdx_sublist L p) h

/-- The address of an element. -/
theorem S_elem {d : Nat} {t : TypeId} {x y : Operand} {e : TypeId} {ti : TI} {i a n ix k : Nat} {cap : Option Nat} {ik : IntKind} (hnt : Nat.ble Y.nt 255 = true) (hd : o.dst = some d) (hlt : Nat.blt d Y.nt = true) (hw : wantedF ops (TM Y.nt f) o = true)
    (ho : o.op = .indexAddr t x y) (hu : Y.C.P.underlying t = some (.slice e)) (ht : tiOf Y.C.P e = some ti) (hx : ev (TM Y.nt f) x = .nslc i a n cap) (hy : ev (TM Y.nt f) y = .int ik (.ofNat ix)) (hi : ix < n) (hk : a + ix * ti.size = k)
    (kk : Q (upd f d (.nptr i k)) L (.nptr i k)) : SJ Y ops o f L Q :=
  S_pure hnt hd hlt hw (fun H => by
    rw [ho]
    have hb : Nat.blt ix n = true := by rw [Nat.blt_eq]; exact hi
    simp only [evOp, opIndexAddr, hx, hy, indexAddrF, natOf, hu, ht, hb, hk]
    rfl) kk

/-- A store into a row, shared or not. -/
theorem S_storeX (p : Nat) {t : TypeId} {a x : Operand} {i k : Nat} {c : List AV} {g gen : Nat} {sh : Bool} {frz e : Nat} {wh sg : Bool} {ti : TI} {v : AV} (hnt : Nat.ble Y.nt 255 = true) (hd : o.dst = none) (hw : wantedF ops (TM Y.nt f) o = true)
    (ho : o.op = .store t a x) (ha : ev (TM Y.nt f) a = .nptr i k) (hx : ev (TM Y.nt f) x = v) (hv : v.cells = [v]) (hp : L[p]? = some ⟨i, true, true, .row c g gen sh false frz e wh sg⟩) (ht : tiOf Y.C.P t = some ti)
    (hs : (Nat.beq 1 ti.size && v.isCell) = true) (hk : k < c.length) (hf : frz ≤ k)
    (kk : ∀ G, Q f (L.set p ⟨i, true, true, .row (c.set k v) g G sh false frz e wh sg⟩) .undef) : SJ Y ops o f L Q :=
  SJ_mk (dst_none hnt hd) fun H hH => by
    have hm := hH.ok _ (List.mem_of_getElem? hp)
    have hget := hm.get
    have hrow := hm.row
    have hwr := hm.wr rfl
    have hgrp := (hm.grp g rfl).1 rfl
    simp only at hget hrow hwr
    simp only [Bool.and_eq_true] at hs
    have hro : Nat.ble H.ro i = true := Nat.ble_eq_true_of_le hwr.1
    have hfk : Nat.ble frz k = true := Nat.ble_eq_true_of_le hf
    have hkc : Nat.ble (k + [v].length) c.length = true := Nat.ble_eq_true_of_le hk
    have hov : over c k [v] = c.set k v := over_one v c k hk
    have hcond : (Nat.beq [v].length ti.size && [v].all AV.isCell) = true := by simp [hs.1, hs.2]
    cases sh with
    | false =>
      refine ⟨_, H.setObj i (.row (c.set k v) g gen false false frz e wh sg), _, _, .skip hw ?_, hH.setObj hp hrow rfl, by rw [hd]; exact kk gen⟩
      rw [ho]
      simp only [evOp, opStore, ha, hx, storeF, ht, hv, hcond, AH.put, hget, hrow.1, hkc, hfk, hro, Bool.and_self, hov]
    | true =>
      let H1 : AH := { n := H.n, ro := H.ro, o := H.o.set i (.row (c.set k v) g (gen + 1) true false frz e wh sg), g := H.g.set g (gen + 1) }
      have hgen : ∀ x, x ≠ g → H1.gen x = H.gen x := fun x hne => by simp only [AH.gen, H1, Tr.get_set]; rw [if_neg hne]
      have hgg : H1.gen g = gen + 1 := by simp [AH.gen, H1, Tr.get_set]
      have hwf : Wf H1 := ⟨hH.wf.ron, fun j hj => by
        have := hm.lt
        simp only [H1] at hj this
        simp only [H1, Tr.get_set]
        rw [if_neg (by omega)]
        exact hH.wf.fresh j hj⟩
      refine ⟨_, H1, L.set p ⟨i, true, true, .row (c.set k v) g (gen + 1) true false frz e wh sg⟩, _, .skip hw ?_, ?_, by rw [hd]; exact kk (gen + 1)⟩
      · rw [ho]
        simp only [evOp, opStore, ha, hx, storeF, ht, hv, hcond, AH.put, hget, hrow.1, hkc, hfk, hro, Bool.and_self, hov]
        rfl
      · refine ⟨⟨hH.fr.n, hH.fr.ro, fun _ => hwf, fun j hj hjw => ?_, fun x hx => ?_⟩, hwf, fun y hy => ?_, ?_, ?_⟩
        · simp only [H1, Tr.get_set]
          rw [if_neg]
          · exact hH.fr.get j hj hjw
          · rintro rfl
            rcases hwr.2 with q | q
            · exact hjw q
            · omega
        · rw [hgen x (by omega)]; exact hH.fr.gen x hx
        · rcases set_mem hy hH.nodup hp with rfl | ⟨hy', hne⟩
          · exact ⟨by simp [H1, Tr.get_set], hm.lt, fun _ => hwr, ⟨live_self hgg, hrow.2⟩, fun x hx => ⟨fun _ => (hm.grp x hx).1 rfl, fun hh => by cases hh⟩⟩
          · have ks := hH.ok y hy'
            refine ⟨by simp only [H1, Tr.get_set]; rw [if_neg hne]; exact ks.get, ks.lt, ks.wr, ?_, ks.grp⟩
            have hrk := ks.row
            cases hyo : y.o with
            | row c2 g2 gen2 sh2 ext2 frz2 e2 wh2 sg2 =>
              rw [hyo] at hrk
              have hg2 : g2 ≠ g := by
                rintro rfl
                have hk2 := ks.grp g2 (by rw [hyo]; rfl)
                cases hgl : y.gl with
                | false => have := hk2.2 hgl; omega
                | true =>
                  -- two rows of one group
                  have hmem : y ∈ L.eraseIdx p := by
                    obtain ⟨q, hq⟩ := List.mem_iff_getElem?.1 hy'
                    have hqp : q ≠ p := by
                      rintro rfl
                      rw [hp] at hq
                      cases hq
                      exact hne rfl
                    refine List.mem_iff_getElem?.2 ?_
                    rcases Nat.lt_or_ge q p with h | h
                    · exact ⟨q, by rw [List.getElem?_eraseIdx]; rw [if_pos h]; exact hq⟩
                    · refine ⟨q - 1, ?_⟩
                      rw [List.getElem?_eraseIdx, if_neg (by omega), show q - 1 + 1 = q by omega]
                      exact hq
                  have hL : L.Perm (⟨i, true, true, .row c g2 gen true false frz e wh sg⟩ :: L.eraseIdx p) := by
                    have hdec : L = L.take p ++ ⟨i, true, true, .row c g2 gen true false frz e wh sg⟩ :: L.drop (p + 1) := by
                      obtain ⟨hl, he⟩ := List.getElem?_eq_some_iff.1 hp
                      rw [← he, List.getElem_cons_drop, List.take_append_drop]
                    conv => lhs; rw [hdec]
                    rw [List.eraseIdx_eq_take_drop_succ]
                    exact List.perm_middle
                  have hnd := (hL.filterMap ownGroup).nodup_iff.1 hH.own
                  have hcons : (⟨i, true, true, .row c g2 gen true false frz e wh sg⟩ :: L.eraseIdx p : Kn).filterMap ownGroup = g2 :: (L.eraseIdx p).filterMap ownGroup := by
                    simp [List.filterMap_cons, ownGroup, rowGroup]
                  rw [hcons] at hnd
                  refine (List.nodup_cons.1 hnd).1 (List.mem_filterMap.2 ⟨y, hmem, ?_⟩)
                  simp only [ownGroup, hgl, hyo, rowGroup]
              exact ⟨by rw [live_eq (hgen g2 hg2)]; exact hrk.1, hrk.2⟩
            | _ => trivial
        · rw [map_set_i hp]; exact hH.nodup
        · rw [own_set (o := .row c g gen true false frz e wh sg) (o' := .row (c.set k v) g (gen + 1) true false frz e wh sg) rfl hp]; exact hH.own

/-- Two operands, where the result is told. -/
theorem S_bin {d : Nat} {op : BinOp} {t yt : TypeId} {x y : Operand} {a b v : AV} (hnt : Nat.ble Y.nt 255 = true) (hd : o.dst = some d) (hlt : Nat.blt d Y.nt = true) (hw : wantedF ops (TM Y.nt f) o = true)
    (ho : o.op = .binOp op t x y yt) (hx : ev (TM Y.nt f) x = a) (hy : ev (TM Y.nt f) y = b) (hb : binF Y.C op t (Operand.isConst x) (Operand.isConst y) a b = some v)
    (kk : Q (upd f d v) L v) : SJ Y ops o f L Q :=
  S_pure hnt hd hlt hw (fun H => by rw [ho]; simp only [evOp, opBin, hx, hy, hb]; rfl) kk

/-- A value, told otherwise. -/
theorem S_as {d : Nat} {v v' : AV} (hnt : Nat.ble Y.nt 255 = true) (hd : o.dst = some d) (hlt : Nat.blt d Y.nt = true) (hw : wantedF ops (TM Y.nt f) o = true) (he : ∀ H, evOp o.op Y.C (TM Y.nt f) H = some (.val v' H)) (hv : v' = v) (k : Q (upd f d v) L v) : SJ Y ops o f L Q :=
  S_pure hnt hd hlt hw (fun H => by rw [he H, hv]) k

/-- A call that is run in place. -/
theorem S_callIn {T : List Entry} {d n nt : Nat} {g : FuncId} {args : List AV} {fn : Func} {c : Code} (P : AV → Kn → Prop) (hcall : Y.call = evCallP T Y.C Y.m (n + 1)) (hnt : Nat.ble Y.nt 255 = true) (hd : o.dst = some d) (hlt : Nat.blt d Y.nt = true) (hw : wantedF ops (TM Y.nt f) o = true)
    (he : ∀ H, evOp o.op Y.C (TM Y.nt f) H = some (.call (.fn g) args H)) (hT : hasF g T = false) (hf : Y.C.P.funcs[g]? = some fn) (hb : fn.body = some c) (hn : ntOf args fn = nt) (hle : Nat.ble nt 255 = true)
    (hJ : JW ⟨⟨evCallP T Y.C Y.m n, Y.C, Y.m, none, g, nt⟩, Y.H0, Y.Wr⟩ c (argF args) L [] (retJ Y.C fn nt Y.H0 Y.Wr P)) (k : ∀ v L', P v L' → Q (upd f d v) L' v) : SJ Y ops o f L Q :=
  S_callX hnt hd hlt hw he (fun H hH => by rw [hcall]; exact fn_in hT hf hb hn hle hH hJ) k

/-- A round that is run in place. -/
theorem S_yield {T : List Entry} {d n l dd nt2 : Nat} {fn2 : FuncId} {f2 : Nat → AV} {ps : Array Tmp} {a b : Code} {args : List AV} {M : Kn} (P : Kn → Prop) (hcall : Y.call = evCallP T Y.C Y.m (n + 1)) (hnt : Nat.ble Y.nt 255 = true) (hd : o.dst = some d) (hlt : Nat.blt d Y.nt = true) (hw : wantedF ops (TM Y.nt f) o = true)
    (he : ∀ H, evOp o.op Y.C (TM Y.nt f) H = some (.call (.yield l) args H)) (hL : L = lpS l .ready fn2 f2 nt2 ps a b dd :: M) (hle : Nat.ble nt2 255 = true) (hps : (Nat.beq args.length ps.size && ps.toList.all (Nat.blt · nt2)) = true)
    (ha : JW ⟨⟨evCallP T Y.C Y.m n, Y.C, Y.m, some l, fn2, nt2⟩, Y.H0, Y.Wr⟩ a (zipU ps.toList args f2) (lpS l .ready fn2 f2 nt2 ps a b dd :: M) [] (fun e f' L' df' => e = .norm ∧ df' = [] ∧ ∃ L1, L' = lpS l .ready fn2 f2 nt2 ps a b dd :: L1 ∧
      JW ⟨⟨evCallP T Y.C Y.m n, Y.C, Y.m, some l, fn2, nt2⟩, Y.H0, Y.Wr⟩ b f' (lpS l .busy fn2 f2 nt2 ps a b dd :: L1) [] (fun e f'' L'' df'' => e = .norm ∧ df'' = [] ∧ ∃ L2, L'' = lpS l .busy fn2 f2 nt2 ps a b dd :: L2 ∧ P L2)))
    (k : ∀ L2, P L2 → Q (upd f d (.bool true)) (lpS l .ready fn2 f2 nt2 ps a b dd :: L2) (.bool true)) : SJ Y ops o f L Q :=
  S_callX (P := fun v L' => v = .bool true ∧ ∃ L2, L' = lpS l .ready fn2 f2 nt2 ps a b dd :: L2 ∧ P L2) hnt hd hlt hw he (fun H hH => by
    rw [hcall]
    rw [hL] at hH
    obtain ⟨H', L2, q1, q2, q3⟩ := yield_in hle hps hH ha
    exact ⟨_, H', _, q1, q2, rfl, L2, rfl, q3⟩) (fun v L' h => by obtain ⟨rfl, L2, rfl, h3⟩ := h; exact k L2 h3)

/-- A range over a function that is run in place. -/
theorem J_rangeIn {T : List Entry} {n nt : Nat} {fo : Operand} {ps : Array Tmp} {a b : Code} {g : FuncId} {args : Nat → List AV} {fn : Func} {c : Code} (P : Kn → Prop) (hcall : Y.call = evCallP T Y.C Y.m (n + 1)) (hro : Y.ro = none)
    (hcv : ∀ l H, callVal Y.C (ev (TM Y.nt f) fo) [.yield l] H = some (.call (.fn g) (args l) H)) (hT : hasF g T = false) (hf : Y.C.P.funcs[g]? = some fn) (hb : fn.body = some c) (hn : ∀ l, ntOf (args l) fn = nt) (hle : Nat.ble nt 255 = true)
    (hJ : ∀ d l, JW ⟨⟨evCallP T Y.C Y.m n, Y.C, Y.m, none, g, nt⟩, Y.H0, Y.Wr⟩ c (argF (args l)) (lpS l .ready Y.fn f Y.nt ps a b d :: dfS d :: L) [] (retJ Y.C fn nt Y.H0 Y.Wr fun _ L' => ∃ L1, L' = lpS l .ready Y.fn f Y.nt ps a b d :: dfS d :: L1 ∧ P L1))
    (k : ∀ d L', P L' → K .norm f (dfS d :: L') (.coll d :: df)) : JW Y (.rangeFunc fo ps a b) f L df K :=
  J_range (P := P) hro hcv (fun d l H hH => by
    rw [hcall]
    obtain ⟨v, H', L', q1, q2, L1, rfl, q3⟩ := fn_in hT hf hb (hn l) hle hH (hJ d l)
    exact ⟨v, H', L1, q1, q2, q3⟩) k

theorem J_condT {c : Operand} {a b : Code} (hv : ev (TM Y.nt f) c = .bool true) (ht : JW Y a f L df K) : JW Y (.cond c a b) f L df K := J_cond true hv (fun _ => ht) (fun h => by cases h)
theorem J_condF {c : Operand} {a b : Code} (hv : ev (TM Y.nt f) c = .bool false) (hf : JW Y b f L df K) : JW Y (.cond c a b) f L df K := J_cond false hv (fun h => by cases h) (fun _ => hf)

/-- The two ways of a condition meet. -/
theorem J_join {c : Operand} {a b : Code} (M : (Nat → AV) → Kn → Prop) (v : Bool) (hv : ev (TM Y.nt f) c = .bool v) (ht : v = true → JW Y a f L df (fun e f' L' df' => e = .norm ∧ df' = df ∧ M f' L'))
    (hf : v = false → JW Y b f L df (fun e f' L' df' => e = .norm ∧ df' = df ∧ M f' L')) (k : ∀ f' L', M f' L' → K .norm f' L' df) : JW Y (.cond c a b) f L df K :=
  J_cond v hv (fun h => (ht h).mono fun e f' L' df' hk => by obtain ⟨rfl, rfl, q⟩ := hk; exact k _ _ q) (fun h => (hf h).mono fun e f' L' df' hk => by obtain ⟨rfl, rfl, q⟩ := hk; exact k _ _ q)

theorem J_joinL {c : Operand} {a b : Code} (M : (Nat → AV) → Prop) (v : Bool) (hv : ev (TM Y.nt f) c = .bool v) (ht : v = true → JW Y a f L df (fun e f' L' df' => e = .norm ∧ df' = df ∧ L' = L ∧ M f'))
    (hf : v = false → JW Y b f L df (fun e f' L' df' => e = .norm ∧ df' = df ∧ L' = L ∧ M f')) (k : ∀ f', M f' → K .norm f' L df) : JW Y (.cond c a b) f L df K :=
  J_join (fun f' L' => L' = L ∧ M f') v hv ht hf fun f' L' h => by obtain ⟨rfl, q⟩ := h; exact k f' q

theorem upd2 {f : Nat → AV} {a b : Nat} {x y : AV} (ha : f a = x) (hb : f b = y) : ∃ g, f = upd (upd g a x) b y := ⟨f, by rw [upd_self ha, upd_self hb]⟩
theorem upd1 {f : Nat → AV} {a : Nat} {x : AV} (ha : f a = x) : ∃ g, f = upd g a x := ⟨f, by rw [upd_self ha]⟩
theorem upd3 {f : Nat → AV} {a b c : Nat} {x y z : AV} (ha : f a = x) (hb : f b = y) (hc : f c = z) : ∃ g, f = upd (upd (upd g a x) b y) c z := ⟨f, by rw [upd_self ha, upd_self hb, upd_self hc]⟩
theorem upd4 {f : Nat → AV} {a b c d : Nat} {x y z w : AV} (ha : f a = x) (hb : f b = y) (hc : f c = z) (hd : f d = w) : ∃ g, f = upd (upd (upd (upd g a x) b y) c z) d w := ⟨f, by rw [upd_self ha, upd_self hb, upd_self hc, upd_self hd]⟩

end
end Go.Ev

namespace Go.Ev
section
variable {Y : JE} {ops : Array Oper} {o : Oper} {l : List Oper} {f : Nat → AV} {L : Kn} {df : List AD} {K : PostL} {Q : (Nat → AV) → Kn → AV → Prop}

/-- An operation behind which some readings have to hold still. -/
theorem P_consA {p : PStep} {l : List PStep} {rd : List (Nat × Tr AV × AV)} (ho : ops[p.i]? = some o)
    (h : SJ Y ops o f L fun f' L' v => (∀ H', Hs Y.H0 Y.Wr H' L' → stillF Y.C ops H' p.again rd = true) ∧ JP Y ops l (rdOf Y.C.P Y.nt o p.i f v (!wantedF ops (TM Y.nt f) o) rd) f' L' df K) : JP Y ops (p :: l) rd f L df K := by
  rw [SJ] at h
  obtain ⟨hd, h⟩ := h
  rw [JP]
  intro H hH
  obtain ⟨f', H', L', v, q1, q2, q3, q4⟩ := h H hH
  rw [JP] at q4
  obtain ⟨f2, H2, df2, g1, g2⟩ := q4 H' q2
  refine ⟨f2, H2, df2, ?_, g2⟩
  have hs := q3 H' q2
  have hfr : freshF Y.C.P o.op H = true := by
    unfold freshF
    split
    · simp [hH.wf.fresh H.n (Nat.le_refl _)]
    · rfl
  cases q1 with
  | off hw =>
    simp only [hw, Bool.not_false, rdOf] at g1
    simp only [evPlan, ho, hw, putF_O hd]
    exact g1
  | val hw he =>
    simp only [hw, Bool.not_true, rdOf] at g1
    simp only [evPlan, ho, hw, he, hs, hfr, Bool.and_self, putF_O hd]
    exact g1
  | skip hw he =>
    have hc : Nat.beq (opClass Y.C.P o.op) 2 = false := by
      cases hb : Nat.beq (opClass Y.C.P o.op) 2 with
      | false => rfl
      | true =>
        obtain ⟨v, e, _⟩ := class2_le (H := H) (H' := H) ⟨fun i x hx => hx, rfl⟩ (by simpa [Nat.beq_eq] using hb) he
        cases e
    simp only [hw, Bool.not_true, rdOf, hc] at g1
    simp only [evPlan, ho, hw, he, hs, putF_O hd]
    exact g1
  | call hw he hc =>
    have hcl : Nat.beq (opClass Y.C.P o.op) 2 = false := by
      cases hb : Nat.beq (opClass Y.C.P o.op) 2 with
      | false => rfl
      | true =>
        obtain ⟨v, e, _⟩ := class2_le (H := H) (H' := H) ⟨fun i x hx => hx, rfl⟩ (by simpa [Nat.beq_eq] using hb) he
        cases e
    simp only [hw, Bool.not_true, rdOf, hcl] at g1
    simp only [evPlan, ho, hw, he, hc, hs, putF_O hd]
    exact g1

theorem P_consN {i : Nat} {l : List PStep} {rd : List (Nat × Tr AV × AV)} (ho : ops[i]? = some o)
    (h : SJ Y ops o f L fun f' L' v => JP Y ops l (rdOf Y.C.P Y.nt o i f v (!wantedF ops (TM Y.nt f) o) rd) f' L' df K) : JP Y ops (⟨i, []⟩ :: l) rd f L df K :=
  P_cons ho (fun _ _ _ _ _ _ => still_nil _ _ _ _) h

theorem rd_off {P : Program} {nt : Nat} {i : Nat} {v : AV} {off : Bool} {rd : List (Nat × Tr AV × AV)} (h : off = true) {X : List (Nat × Tr AV × AV) → Prop} (k : X rd) : X (rdOf P nt o i f v off rd) := by
  subst h; exact k
theorem JP_rd {l : List PStep} {rd rd' : List (Nat × Tr AV × AV)} (h : rd = rd') (k : JP Y ops l rd' f L df K) : JP Y ops l rd f L df K := h ▸ k

theorem still_no {C : Ctx} {H : AH} {again : List Nat} {p : Nat} {tm : Tr AV} {v : AV} {l : List (Nat × Tr AV × AV)} (h : again.contains p = false) (k : stillF C ops H again l = true) : stillF C ops H again ((p, tm, v) :: l) = true := by
  simp only [stillF, h, k]; rfl
theorem still_yes {C : Ctx} {H H2 : AH} {again : List Nat} {p : Nat} {tm : Tr AV} {v v' : AV} {l : List (Nat × Tr AV × AV)} (ho : ops[p]? = some o) (he : evOp o.op C tm H = some (.val v' H2)) (hs : AV.sameA v v' = true) (k : stillF C ops H again l = true) : stillF C ops H again ((p, tm, v) :: l) = true := by
  simp only [stillF, ho, he, hs, k, Bool.or_true]; rfl
theorem still_done {C : Ctx} {H : AH} {again : List Nat} : stillF C ops H again [] = true := by
  cases again <;> rfl

theorem same_str (s : List UInt8) : AV.sameA (.str s) (.str s) = true := by simp [AV.sameA, AV.same]
theorem same_int (k : IntKind) (n : Int) : AV.sameA (.int k n) (.int k n) = true := by simp [AV.sameA, AV.same]
theorem same_bool (b : Bool) : AV.sameA (.bool b) (.bool b) = true := by simp [AV.sameA, AV.same]
theorem same_nptr (a b : Nat) : AV.sameA (.nptr a b) (.nptr a b) = true := by simp [AV.sameA, AV.same]
theorem same_nslc (a b c : Nat) (d : Option Nat) : AV.sameA (.nslc a b c d) (.nslc a b c d) = true := by simp [AV.sameA, AV.same]

/-- A reading from a known object holds still. -/
theorem still_load (p : Nat) {H' H0 : AH} {W : List Nat} {again : List Nat} {q : Nat} {t : TypeId} {a : Operand} {i k : Nat} {wr gl : Bool} {c : List AV} {g gen : Nat} {sh ext : Bool} {frz e : Nat} {wh sg : Bool} {ti : TI} {v : AV} {C : Ctx} {tm : Tr AV} {l : List (Nat × Tr AV × AV)} (hq : ops[q]? = some o)
    (ho : o.op = .load t a) (ha : ev tm a = .nptr i k) (hH : Hs H0 W H' L) (hp : L[p]? = some ⟨i, wr, gl, .row c g gen sh ext frz e wh sg⟩) (ht : tiOf C.P t = some ti) (hg : ti.agg = false) (hc : c[k]? = some v) (hs : AV.sameA v v = true)
    (kk : stillF C ops H' again l = true) : stillF C ops H' again ((q, tm, v) :: l) = true := by
  refine still_yes hq (v' := v) (H2 := H') ?_ hs kk
  rw [ho]
  simp only [evOp, opLoad, ha, loadF, ht, hg, read1, hH.cells hp, hc]
  rfl

/-- A call that leaves all objects, with a result of which something is known. -/
theorem S_callV (R : AV → Prop) {d : Nat} {c : AC} {args : List AV} (hnt : Nat.ble Y.nt 255 = true) (hd : o.dst = some d) (hlt : Nat.blt d Y.nt = true) (hw : wantedF ops (TM Y.nt f) o = true)
    (he : ∀ H, evOp o.op Y.C (TM Y.nt f) H = some (.call c args H)) (hc : ∀ H, Wf H → ∃ v H', Y.call c args H = some (.ret v, H') ∧ R v ∧ Fr H [] H')
    (k : ∀ v, R v → Q (upd f d v) L v) : SJ Y ops o f L Q :=
  S_callX (P := fun v L' => R v ∧ L' = L) hnt hd hlt hw he (fun H hH => by
    obtain ⟨v, H', q1, q2, q3⟩ := hc H hH.wf
    exact ⟨v, H', L, q1, hH.call0 q3, q2, rfl⟩) fun v L' h => by obtain ⟨h1, rfl⟩ := h; exact k v h1

/-- A call that turns one object, of which something is known. -/
theorem S_callE (p : Nat) (R : AV → AObj → Prop) {d : Nat} {c : AC} {args : List AV} {i : Nat} {gl : Bool} {ob : AObj} (hnt : Nat.ble Y.nt 255 = true) (hd : o.dst = some d) (hlt : Nat.blt d Y.nt = true) (hw : wantedF ops (TM Y.nt f) o = true)
    (he : ∀ H, evOp o.op Y.C (TM Y.nt f) H = some (.call c args H)) (hp : L[p]? = some ⟨i, true, gl, ob⟩)
    (hc : ∀ H, Wf H → SlotOk H [i] H ⟨i, true, false, ob⟩ → ∃ v' H', Y.call c args H = some (.ret v', H') ∧ Fr H [i] H' ∧ ∃ ob', R v' ob' ∧ SlotOk H [i] H' ⟨i, true, false, ob'⟩) (hg : ∀ v ob', R v ob' → rowGroup ob' = rowGroup ob)
    (k : ∀ v ob', R v ob' → Q (upd f d v) (L.set p ⟨i, true, gl, ob'⟩) v) : SJ Y ops o f L Q := by
  refine S_callX (P := fun v' L' => ∃ ob', R v' ob' ∧ L' = L.set p ⟨i, true, gl, ob'⟩) hnt hd hlt hw he (fun H hH => ?_) (fun v' L' h => by obtain ⟨ob', h1, rfl⟩ := h; exact k v' ob' h1)
  obtain ⟨v', H', q1, q3, ob', q5, q4⟩ := hc H hH.wf (slot_enter hH hp)
  exact ⟨v', H', _, q1, hH.callM hp q3 q4 (hg _ _ q5), ob', q5, rfl⟩

/-- More objects, all of them beyond a number. -/
theorem Hs.add {H0 H' : AH} {W : List Nat} {L S : Kn} (hb : Hs H0 W H' L) (n0 : Nat) (hl : ∀ s ∈ L, s.i < n0 ∧ ∀ g, ownGroup s = some g → g < n0) (hS : ∀ s ∈ S, SlotOk H0 W H' s ∧ n0 ≤ s.i ∧ ∀ g, ownGroup s = some g → n0 ≤ g)
    (h1 : (S.map Slot.i).Nodup) (h2 : (S.filterMap ownGroup).Nodup) : Hs H0 W H' (L ++ S) := by
  refine ⟨hb.fr, hb.wf, fun s hs => ?_, ?_, ?_⟩
  · rcases List.mem_append.1 hs with h | h
    · exact hb.ok s h
    · exact (hS s h).1
  · rw [List.map_append]
    refine List.nodup_append.2 ⟨hb.nodup, h1, fun a ha b hb' => ?_⟩
    obtain ⟨s, hs, rfl⟩ := List.mem_map.1 ha
    obtain ⟨t, ht, rfl⟩ := List.mem_map.1 hb'
    have := (hl s hs).1
    have := (hS t ht).2.1
    omega
  · rw [List.filterMap_append]
    refine List.nodup_append.2 ⟨hb.own, h2, fun a ha b hb' => ?_⟩
    obtain ⟨s, hs, hsa⟩ := List.mem_filterMap.1 ha
    obtain ⟨t, ht, htb⟩ := List.mem_filterMap.1 hb'
    have := (hl s hs).2 a hsa
    have := (hS t ht).2.2 b htb
    omega

theorem ownGroup_some {s : Slot} {g : Nat} (h : ownGroup s = some g) : s.gl = true ∧ rowGroup s.o = some g := by
  unfold ownGroup at h
  split at h
  · rename_i hh; exact ⟨hh, h⟩
  · cases h

theorem Hs.bound {H0 H : AH} {W : List Nat} {L : Kn} (h : Hs H0 W H L) : ∀ s ∈ L, s.i < H.n ∧ ∀ g, ownGroup s = some g → g < H.n := fun s hs =>
  ⟨(h.ok s hs).lt, fun g hg => rowOk_grp (h.ok s hs).row g (ownGroup_some hg).2⟩

theorem SlotOk.lift {H0 H H' : AH} {W W1 : List Nat} {L : Kn} (h : Hs H0 W H L) {s : Slot} (k : SlotOk H W1 H' s) (hw : s.wr = true) (hg : s.gl = true) (hn : s.i ∉ W1) : SlotOk H0 W H' s ∧ H.n ≤ s.i ∧ ∀ g, ownGroup s = some g → H.n ≤ g := by
  have hle := h.fr.n
  have h1 : H.n ≤ s.i := by
    rcases (k.wr hw).2 with q | q
    · exact absurd q hn
    · exact q
  refine ⟨⟨k.get, k.lt, fun _ => ⟨(k.wr hw).1, .inr (by omega)⟩, k.row, fun g hgg => ⟨fun _ => ?_, fun hh => by rw [hg] at hh; cases hh⟩⟩, h1, fun g hgg => (k.grp g (ownGroup_some hgg).2).1 hg⟩
  have := (k.grp g hgg).1 hg
  omega

/-- Behind a call that turns one object and makes some. -/
theorem Hs.callN {H0 H H' : AH} {W : List Nat} {L S : Kn} (h : Hs H0 W H L) {p i : Nat} {gl gl' : Bool} {o o' : AObj} (hp : L[p]? = some ⟨i, true, gl, o⟩) (q : Hs H [i] H' (⟨i, true, gl', o'⟩ :: S)) (hg : rowGroup o' = rowGroup o) (hS : ∀ s ∈ S, s.wr = true ∧ s.gl = true) : Hs H0 W H' (L.set p ⟨i, true, gl, o'⟩ ++ S) := by
  have hb := h.callM hp q.fr (q.ok _ (List.mem_cons_self ..)) hg
  have hnd := q.nodup
  have hown := q.own
  rw [List.map_cons, List.nodup_cons] at hnd
  refine hb.add H.n (fun s hs => ?_) (fun s hs => ?_) hnd.2 ?_
  · rcases set_mem hs h.nodup hp with rfl | ⟨hm, hne⟩
    · have k := h.bound _ (List.mem_of_getElem? hp)
      refine ⟨k.1, fun g hgg => ?_⟩
      obtain ⟨a, b⟩ := ownGroup_some hgg
      exact k.2 g (by simp only at a b; simp only [ownGroup, a]; rw [← hg]; exact b)
    · exact h.bound s hm
  · refine (q.ok s (List.mem_cons_of_mem _ hs)).lift h (hS s hs).1 (hS s hs).2 ?_
    rw [List.mem_singleton]
    intro hsi
    have hm := List.mem_map_of_mem (f := Slot.i) hs
    rw [hsi] at hm
    exact hnd.1 hm
  · rw [List.filterMap_cons] at hown
    split at hown
    · exact hown
    · exact (List.nodup_cons.1 hown).2

/-- Behind a call that only makes objects. -/
theorem Hs.callN0 {H0 H H' : AH} {W : List Nat} {L S : Kn} (h : Hs H0 W H L) (q : Hs H [] H' S) (hS : ∀ s ∈ S, s.wr = true ∧ s.gl = true) : Hs H0 W H' (L ++ S) :=
  (h.call0 q.fr).add H.n (fun s hs => h.bound s hs) (fun s hs => (q.ok s hs).lift h (hS s hs).1 (hS s hs).2 (by simp)) q.nodup q.own

/-- A call that turns one object and makes some. -/
theorem S_callNE (p : Nat) (R : AV → AObj → Kn → Prop) {d : Nat} {c : AC} {args : List AV} {i : Nat} {gl : Bool} {ob : AObj} (hnt : Nat.ble Y.nt 255 = true) (hd : o.dst = some d) (hlt : Nat.blt d Y.nt = true) (hw : wantedF ops (TM Y.nt f) o = true)
    (he : ∀ H, evOp o.op Y.C (TM Y.nt f) H = some (.call c args H)) (hp : L[p]? = some ⟨i, true, gl, ob⟩)
    (hc : ∀ H, Wf H → SlotOk H [i] H ⟨i, true, false, ob⟩ → ∃ v' H', Y.call c args H = some (.ret v', H') ∧ ∃ ob' S, R v' ob' S ∧ Hs H [i] H' (⟨i, true, false, ob'⟩ :: S)) (hg : ∀ v ob' S, R v ob' S → rowGroup ob' = rowGroup ob ∧ ∀ s ∈ S, s.wr = true ∧ s.gl = true)
    (k : ∀ v ob' S, R v ob' S → Q (upd f d v) (L.set p ⟨i, true, gl, ob'⟩ ++ S) v) : SJ Y ops o f L Q := by
  refine S_callX (P := fun v' L' => ∃ ob' S, R v' ob' S ∧ L' = L.set p ⟨i, true, gl, ob'⟩ ++ S) hnt hd hlt hw he (fun H hH => ?_) (fun v' L' h => by obtain ⟨ob', S, h1, rfl⟩ := h; exact k v' ob' S h1)
  obtain ⟨v', H', q1, ob', S, q5, q4⟩ := hc H hH.wf (slot_enter hH hp)
  exact ⟨v', H', _, q1, hH.callN hp q4 (hg _ _ _ q5).1 (hg _ _ _ q5).2, ob', S, q5, rfl⟩

/-- A call that only makes objects. -/
theorem S_callN (R : AV → Kn → Prop) {d : Nat} {c : AC} {args : List AV} (hnt : Nat.ble Y.nt 255 = true) (hd : o.dst = some d) (hlt : Nat.blt d Y.nt = true) (hw : wantedF ops (TM Y.nt f) o = true)
    (he : ∀ H, evOp o.op Y.C (TM Y.nt f) H = some (.call c args H)) (hc : ∀ H, Wf H → ∃ v' H', Y.call c args H = some (.ret v', H') ∧ ∃ S, R v' S ∧ Hs H [] H' S) (hg : ∀ v S, R v S → ∀ s ∈ S, s.wr = true ∧ s.gl = true)
    (k : ∀ v S, R v S → Q (upd f d v) (L ++ S) v) : SJ Y ops o f L Q := by
  refine S_callX (P := fun v' L' => ∃ S, R v' S ∧ L' = L ++ S) hnt hd hlt hw he (fun H hH => ?_) (fun v' L' h => by obtain ⟨S, h1, rfl⟩ := h; exact k v' S h1)
  obtain ⟨v', H', q1, S, q5, q4⟩ := hc H hH.wf
  exact ⟨v', H', _, q1, hH.callN0 q4 (hg _ _ q5), S, q5, rfl⟩

/-- A part of a text. -/
theorem S_sliceS {d : Nat} {t : TypeId} {x : Operand} {lo hi : Option Operand} {s : List UInt8} {a b : Nat} (hnt : Nat.ble Y.nt 255 = true) (hd : o.dst = some d) (hlt : Nat.blt d Y.nt = true) (hw : wantedF ops (TM Y.nt f) o = true)
    (ho : o.op = .slice t x lo hi none) (ht : Y.C.P.underlying t = some .string) (hx : ev (TM Y.nt f) x = .str s)
    (hb : boundsF s.length s.length (lo.map (ev (TM Y.nt f))) (hi.map (ev (TM Y.nt f))) none = some (a, b, s.length))
    (kk : Q (upd f d (.str ((s.drop a).take (b - a)))) L (.str ((s.drop a).take (b - a)))) : SJ Y ops o f L Q :=
  S_pure hnt hd hlt hw (fun H => by
    rw [ho]
    simp only [evOp, opSlice, hx, sliceF, ht, Option.map_none, hb]
    rfl) kk
theorem still_sliceS {H' : AH} {again : List Nat} {q : Nat} {t : TypeId} {x : Operand} {lo hi : Option Operand} {s : List UInt8} {a b : Nat} {v : AV} {C : Ctx} {tm : Tr AV} {l : List (Nat × Tr AV × AV)} (hq : ops[q]? = some o)
    (ho : o.op = .slice t x lo hi none) (ht : C.P.underlying t = some .string) (hx : ev tm x = .str s)
    (hb : boundsF s.length s.length (lo.map (ev tm)) (hi.map (ev tm)) none = some (a, b, s.length)) (hv : v = .str ((s.drop a).take (b - a)))
    (kk : stillF C ops H' again l = true) : stillF C ops H' again ((q, tm, v) :: l) = true := by
  subst hv
  refine still_yes hq (v' := .str ((s.drop a).take (b - a))) (H2 := H') ?_ (same_str _) kk
  rw [ho]
  simp only [evOp, opSlice, hx, sliceF, ht, Option.map_none, hb]
  rfl

/-- Only some of the temporaries matter from here on. -/
theorem J_abs {c : Code} (M : (Nat → AV) → Prop) (h : M f) (k : ∀ f', M f' → JW Y c f' L df K) : JW Y c f L df K := k f h

/-- Two roads that meet behind a piece of code. -/
theorem J_cut {a : Code} (M : (Nat → AV) → Kn → Prop) (h : JW Y a f L df (fun e f' L' df' => match e with | .norm => df' = df ∧ M f' L' | e => K e f' L' df')) (k : ∀ f' L', M f' L' → K .norm f' L' df) : JW Y a f L df K :=
  h.mono fun e f' L' df' hk => by
    cases e with
    | norm => obtain ⟨rfl, hm⟩ := hk; exact k _ _ hm
    | _ => exact hk
end

/-- A result that lies in a cell: a struct or an array. -/
theorem res_agg {C : Ctx} {fn : Func} {tm : Tr AV} {H : AH} {t : Nat} {ty : TypeId} {i : Nat} {ti : TI} {c : List AV} (hr : fn.results = #[.cell t ty]) (ha : ev tm (.tmp t) = .nptr i 0) (ht : tiOf C.P ty = some ti) (hg : ti.agg = true) (hc : H.cells i = some c) (hs : Nat.beq ti.size c.length = true) :
    resultsF C fn tm H = some (.agg c) := by
  have hs' : ti.size = c.length := by simpa [Nat.beq_eq] using hs
  simp only [resultsF, hr, List.mapM_cons, List.mapM_nil, resultF, ha, loadF, ht, hg, readN, hc, hs']
  rw [Nat.add_zero, slice_all]
  rfl

theorem upd5 {f : Nat → AV} {a0 a1 a2 a3 a4 : Nat} {x0 x1 x2 x3 x4 : AV} (h0 : f a0 = x0) (h1 : f a1 = x1) (h2 : f a2 = x2) (h3 : f a3 = x3) (h4 : f a4 = x4) : ∃ g, f = upd (upd (upd (upd (upd g a0 x0) a1 x1) a2 x2) a3 x3) a4 x4 := ⟨f, by rw [upd_self h0, upd_self h1, upd_self h2, upd_self h3, upd_self h4]⟩
theorem upd6 {f : Nat → AV} {a0 a1 a2 a3 a4 a5 : Nat} {x0 x1 x2 x3 x4 x5 : AV} (h0 : f a0 = x0) (h1 : f a1 = x1) (h2 : f a2 = x2) (h3 : f a3 = x3) (h4 : f a4 = x4) (h5 : f a5 = x5) : ∃ g, f = upd (upd (upd (upd (upd (upd g a0 x0) a1 x1) a2 x2) a3 x3) a4 x4) a5 x5 := ⟨f, by rw [upd_self h0, upd_self h1, upd_self h2, upd_self h3, upd_self h4, upd_self h5]⟩
theorem upd7 {f : Nat → AV} {a0 a1 a2 a3 a4 a5 a6 : Nat} {x0 x1 x2 x3 x4 x5 x6 : AV} (h0 : f a0 = x0) (h1 : f a1 = x1) (h2 : f a2 = x2) (h3 : f a3 = x3) (h4 : f a4 = x4) (h5 : f a5 = x5) (h6 : f a6 = x6) : ∃ g, f = upd (upd (upd (upd (upd (upd (upd g a0 x0) a1 x1) a2 x2) a3 x3) a4 x4) a5 x5) a6 x6 := ⟨f, by rw [upd_self h0, upd_self h1, upd_self h2, upd_self h3, upd_self h4, upd_self h5, upd_self h6]⟩
theorem upd8 {f : Nat → AV} {a0 a1 a2 a3 a4 a5 a6 a7 : Nat} {x0 x1 x2 x3 x4 x5 x6 x7 : AV} (h0 : f a0 = x0) (h1 : f a1 = x1) (h2 : f a2 = x2) (h3 : f a3 = x3) (h4 : f a4 = x4) (h5 : f a5 = x5) (h6 : f a6 = x6) (h7 : f a7 = x7) : ∃ g, f = upd (upd (upd (upd (upd (upd (upd (upd g a0 x0) a1 x1) a2 x2) a3 x3) a4 x4) a5 x5) a6 x6) a7 x7 := ⟨f, by rw [upd_self h0, upd_self h1, upd_self h2, upd_self h3, upd_self h4, upd_self h5, upd_self h6, upd_self h7]⟩
theorem upd9 {f : Nat → AV} {a0 a1 a2 a3 a4 a5 a6 a7 a8 : Nat} {x0 x1 x2 x3 x4 x5 x6 x7 x8 : AV} (h0 : f a0 = x0) (h1 : f a1 = x1) (h2 : f a2 = x2) (h3 : f a3 = x3) (h4 : f a4 = x4) (h5 : f a5 = x5) (h6 : f a6 = x6) (h7 : f a7 = x7) (h8 : f a8 = x8) : ∃ g, f = upd (upd (upd (upd (upd (upd (upd (upd (upd g a0 x0) a1 x1) a2 x2) a3 x3) a4 x4) a5 x5) a6 x6) a7 x7) a8 x8 := ⟨f, by rw [upd_self h0, upd_self h1, upd_self h2, upd_self h3, upd_self h4, upd_self h5, upd_self h6, upd_self h7, upd_self h8]⟩
theorem upd10 {f : Nat → AV} {a0 a1 a2 a3 a4 a5 a6 a7 a8 a9 : Nat} {x0 x1 x2 x3 x4 x5 x6 x7 x8 x9 : AV} (h0 : f a0 = x0) (h1 : f a1 = x1) (h2 : f a2 = x2) (h3 : f a3 = x3) (h4 : f a4 = x4) (h5 : f a5 = x5) (h6 : f a6 = x6) (h7 : f a7 = x7) (h8 : f a8 = x8) (h9 : f a9 = x9) : ∃ g, f = upd (upd (upd (upd (upd (upd (upd (upd (upd (upd g a0 x0) a1 x1) a2 x2) a3 x3) a4 x4) a5 x5) a6 x6) a7 x7) a8 x8) a9 x9 := ⟨f, by rw [upd_self h0, upd_self h1, upd_self h2, upd_self h3, upd_self h4, upd_self h5, upd_self h6, upd_self h7, upd_self h8, upd_self h9]⟩

theorem wrap_u8 (h : UInt8) : wrapF .i64 (h.toNat : Int) = (h.toNat : Int) := by
  have := UInt8.toNat_lt h
  exact wrap_small (by omega) (by omega)
theorem bounds2 {n a b : Nat} {k k' : IntKind} (h1 : a ≤ b) (h2 : b ≤ n) : boundsF n n (some (.int k (a : Int))) (some (.int k' (b : Int))) none = some (a, b, n) := by
  show (match Nat.ble a b && Nat.ble b n with | true => some (a, b, n) | false => none) = _
  rw [Nat.ble_eq_true_of_le h1, Nat.ble_eq_true_of_le h2]; rfl
theorem bounds_lo {n a : Nat} {k : IntKind} (h1 : a ≤ n) : boundsF n n (some (.int k (a : Int))) none none = some (a, n, n) := by
  show (match Nat.ble a n && Nat.ble n n with | true => some (a, n, n) | false => none) = _
  rw [Nat.ble_eq_true_of_le h1, Nat.ble_eq_true_of_le (Nat.le_refl n)]; rfl
theorem bounds_hi {n b : Nat} {k : IntKind} (h1 : b ≤ n) : boundsF n n none (some (.int k (b : Int))) none = some (0, b, n) := by
  show (match Nat.ble 0 b && Nat.ble b n with | true => some (0, b, n) | false => none) = _
  rw [Nat.ble_eq_true_of_le h1, Nat.ble_eq_true_of_le (Nat.zero_le b)]; rfl
end Go.Ev

namespace Go.Ev
section
variable {Y : JE} {ops : Array Oper} {o : Oper} {l : List Oper} {f : Nat → AV} {L : Kn} {df : List AD} {K : PostL} {Q : (Nat → AV) → Kn → AV → Prop}

/-- The bytes of a text. -/
theorem S_strBytes {d : Nat} {src dst e : TypeId} {x : Operand} {s : List UInt8} {ti : TI} (hnt : Nat.ble Y.nt 255 = true) (hd : o.dst = some d) (hlt : Nat.blt d Y.nt = true) (hw : wantedF ops (TM Y.nt f) o = true)
    (ho : o.op = .convert src dst x) (hs : Y.C.P.underlying src = some .string) (hdd : Y.C.P.underlying dst = some (.slice e)) (he : Y.C.P.underlying e = some (.int .u8)) (ht : tiOf Y.C.P e = some ti) (h1 : Nat.beq ti.size 1 = true) (hx : ev (TM Y.nt f) x = .str s) (hne : s ≠ [])
    (kk : ∀ i, Q (upd f d (.nslc i 0 s.length none)) (L ++ [⟨i, true, true, .row (bytesV s) i 0 false false 0 e false true⟩]) (.nslc i 0 s.length none)) : SJ Y ops o f L Q :=
  SJ_mk (dst_some hnt hd hlt) fun H hH => by
    refine ⟨_, _, _, .nslc H.n 0 s.length none, .val hw ?_, hH.new (.row (bytesV s) H.n 0 false false 0 e false true) (fun g hg => by cases hg; rfl) rowOk_new, by rw [hd]; exact kk H.n⟩
    rw [ho]
    simp only [evOp, opConvert, hx, convertF, hs, hdd, he, ht, h1]
    cases s with
    | nil => exact absurd rfl hne
    | cons b s => rfl

theorem still_loadA (p : Nat) {H' H0 : AH} {W : List Nat} {again : List Nat} {q : Nat} {t : TypeId} {a : Operand} {i k : Nat} {wr gl : Bool} {c : List AV} {g gen : Nat} {sh ext : Bool} {frz e : Nat} {wh sg : Bool} {ti : TI} {v : List AV} {w : AV} {C : Ctx} {tm : Tr AV} {l : List (Nat × Tr AV × AV)} (hq : ops[q]? = some o)
    (ho : o.op = .load t a) (ha : ev tm a = .nptr i k) (hH : Hs H0 W H' L) (hp : L[p]? = some ⟨i, wr, gl, .row c g gen sh ext frz e wh sg⟩) (ht : tiOf C.P t = some ti) (hg : ti.agg = true) (hc : slice c k ti.size = some v) (hwv : w = .agg v) (hs : AV.sameA (.agg v) (.agg v) = true)
    (kk : stillF C ops H' again l = true) : stillF C ops H' again ((q, tm, w) :: l) = true := by
  subst hwv
  refine still_yes hq (v' := .agg v) (H2 := H') ?_ hs kk
  rw [ho]
  simp only [evOp, opLoad, ha, loadF, ht, hg, readN, hH.cells hp, Nat.add_zero, hc]
  rfl
theorem P_cons1 {i : Nat} {l : List PStep} {rd : List (Nat × Tr AV × AV)} (ho : ops[i]? = some o) (hc : Nat.beq (opClass Y.C.P o.op) 2 = false)
    (h : SJ Y ops o f L fun f' L' _ => JP Y ops l rd f' L' df K) : JP Y ops (⟨i, []⟩ :: l) rd f L df K :=
  P_consN ho (by
    have e : ∀ v off, rdOf Y.C.P Y.nt o i f v off rd = rd := fun v off => by cases off <;> simp only [rdOf, hc]
    simp only [e]
    exact h)
theorem P_cons2 {i : Nat} {l : List PStep} {rd : List (Nat × Tr AV × AV)} (ho : ops[i]? = some o) (hc : Nat.beq (opClass Y.C.P o.op) 2 = true) (hw : wantedF ops (TM Y.nt f) o = true)
    (h : SJ Y ops o f L fun f' L' v => JP Y ops l ((i, TM Y.nt f, v) :: rd) f' L' df K) : JP Y ops (⟨i, []⟩ :: l) rd f L df K :=
  P_consN ho (by
    have e : ∀ v, rdOf Y.C.P Y.nt o i f v (!wantedF ops (TM Y.nt f) o) rd = (i, TM Y.nt f, v) :: rd := fun v => by simp only [rdOf, hw, Bool.not_true, hc]
    simp only [e]
    exact h)
theorem P_consA1 {i : Nat} {again : List Nat} {l : List PStep} {rd : List (Nat × Tr AV × AV)} (ho : ops[i]? = some o) (hc : Nat.beq (opClass Y.C.P o.op) 2 = false)
    (h : SJ Y ops o f L fun f' L' _ => (∀ H', Hs Y.H0 Y.Wr H' L' → stillF Y.C ops H' again rd = true) ∧ JP Y ops l rd f' L' df K) : JP Y ops (⟨i, again⟩ :: l) rd f L df K :=
  P_consA (p := ⟨i, again⟩) ho (by
    have e : ∀ v off, rdOf Y.C.P Y.nt o i f v off rd = rd := fun v off => by cases off <;> simp only [rdOf, hc]
    simp only [e]
    exact h)
end

theorem sames_bytes : ∀ s : List UInt8, AV.sames (bytesV s) (bytesV s) = true
  | [] => rfl
  | b :: s => by
    have := sames_bytes s
    simp only [bytesV, List.map_cons, AV.sames] at this ⊢
    rw [this]
    simp [AV.same]

theorem str_cat {C : Ctx} {t : TypeId} {cx cy : Bool} {x y : List UInt8} (h : x.length + y.length ≤ 1000000000) : binF C .add t cx cy (.str x) (.str y) = some (.str (x ++ y)) := by
  show strOpF .add x y = _
  simp only [strOpF, Nat.ble_eq_true_of_le h]

theorem u8_beq (a b : UInt8) : (((a.toNat : Int) == (b.toNat : Int)) : Bool) = (a == b) := by
  by_cases h : a = b
  · subst h; simp
  · have h1 : (a == b) = false := by simpa using h
    rw [h1]
    have h2 : ¬ (a.toNat : Int) = (b.toNat : Int) := fun e => h (UInt8.toNat_inj.1 (by omega))
    simpa using h2

theorem eqElems_bytes : ∀ (a b : List UInt8), a.length = b.length → eqElems (some (.int .u8)) a.length (bytesV a) (bytesV b) = some (a == b)
  | [], [], _ => rfl
  | [], _ :: _, h => by simp at h
  | _ :: _, [], h => by simp at h
  | x :: a, y :: b, h => by
    have ih := eqElems_bytes a b (by simpa using h)
    show (match (if IntKind.u8 = IntKind.u8 then some ((x.toNat : Int) == (y.toNat : Int)) else none : Option Bool) with
      | some true => eqElems (some (.int .u8)) a.length (bytesV a) (bytesV b)
      | some false => some false
      | none => none) = _
    rw [if_pos rfl, u8_beq, ih]
    cases hxy : (x == y) <;> simp [List.cons_beq_cons, hxy]
end Go.Ev

namespace Go.Ev

/-- What a function does to objects that are known. -/
def Inn (T : List Entry) (C : Ctx) (m k : Nat) (g : FuncId) (args : List AV) (L : Kn) (P : AV → Kn → Prop) : Prop :=
  ∀ n, k ≤ n → ∀ H0 Wr H, Hs H0 Wr H L → ∃ v H' L', evCallP T C m n (.fn g) args H = some (.ret v, H') ∧ Hs H0 Wr H' L' ∧ P v L'

theorem inn_fn {T : List Entry} {C : Ctx} {m k : Nat} {g : FuncId} {args : List AV} {L : Kn} {P : AV → Kn → Prop} {fn : Func} {c : Code} {nt : Nat} (hT : hasF g T = false) (hf : C.P.funcs[g]? = some fn) (hb : fn.body = some c) (hn : ntOf args fn = nt) (hle : Nat.ble nt 255 = true)
    (h : ∀ n H0 Wr, k ≤ n → JW ⟨⟨evCallP T C m n, C, m, none, g, nt⟩, H0, Wr⟩ c (argF args) L [] (retJ C fn nt H0 Wr P)) : Inn T C m (k + 1) g args L P := fun n hk H0 Wr H hH => by
  cases n with
  | zero => omega
  | succ n => exact fn_in hT hf hb hn hle hH (h n H0 Wr (by omega))

theorem Inn.mono {T : List Entry} {C : Ctx} {m k k' : Nat} {g : FuncId} {args : List AV} {L : Kn} {P P' : AV → Kn → Prop} (h : Inn T C m k g args L P) (hk : k ≤ k') (hp : ∀ v L', P v L' → P' v L') : Inn T C m k' g args L P' := fun n hn H0 Wr H hH => by
  obtain ⟨v, H', L', q1, q2, q3⟩ := h n (by omega) H0 Wr H hH
  exact ⟨v, H', L', q1, q2, hp _ _ q3⟩

section
variable {Y : JE} {ops : Array Oper} {o : Oper} {l : List Oper} {f : Nat → AV} {L : Kn} {df : List AD} {K : PostL} {Q : (Nat → AV) → Kn → AV → Prop}

/-- A call on known objects; they may have to be put in order. -/
theorem S_callI {T : List Entry} {m k n : Nat} {g : FuncId} {args : List AV} {M : Kn} {P : AV → Kn → Prop} {d : Nat} (hnt : Nat.ble Y.nt 255 = true) (hd : o.dst = some d) (hlt : Nat.blt d Y.nt = true) (hw : wantedF ops (TM Y.nt f) o = true)
    (he : ∀ H, evOp o.op Y.C (TM Y.nt f) H = some (.call (.fn g) args H)) (hcall : Y.call = evCallP T Y.C m n) (hI : Inn T Y.C m k g args M P) (hk : k ≤ n) (hp : L.Perm M)
    (kk : ∀ v L', P v L' → Q (upd f d v) L' v) : SJ Y ops o f L Q :=
  S_callX (P := P) hnt hd hlt hw he (fun H hH => by rw [hcall]; exact hI n hk _ _ H (hH.perm hp)) kk

/-- A row that shares its group with older ones, made anew. -/
theorem Hs.regen {H0 H : AH} {W : List Nat} {L : Kn} (hH : Hs H0 W H L) {p i : Nat} {c c' : List AV} {g gen : Nat} {ext ext' : Bool} {frz frz' e : Nat} {wh sg : Bool} (hp : L[p]? = some ⟨i, true, true, .row c g gen true ext frz e wh sg⟩) :
    Hs H0 W { n := H.n, ro := H.ro, o := H.o.set i (.row c' g (gen + 1) true ext' frz' e wh sg), g := H.g.set g (gen + 1) } (L.set p ⟨i, true, true, .row c' g (gen + 1) true ext' frz' e wh sg⟩) := by
  have hm := hH.ok _ (List.mem_of_getElem? hp)
  have hget := hm.get
  have hrow := hm.row
  have hwr := hm.wr rfl
  have hgrp := (hm.grp g rfl).1 rfl
  simp only at hget hrow hwr
  generalize hHE : ({ n := H.n, ro := H.ro, o := H.o.set i (.row c' g (gen + 1) true ext' frz' e wh sg), g := H.g.set g (gen + 1) } : AH) = H1
  have ho1 : H1.o = H.o.set i (.row c' g (gen + 1) true ext' frz' e wh sg) := by subst hHE; rfl
  have hn1 : H1.n = H.n := by subst hHE; rfl
  have hr1 : H1.ro = H.ro := by subst hHE; rfl
  have hgen : ∀ x, x ≠ g → H1.gen x = H.gen x := fun x hne => by subst hHE; simp only [AH.gen, Tr.get_set]; rw [if_neg hne]
  have hgg : H1.gen g = gen + 1 := by subst hHE; simp [AH.gen, Tr.get_set]
  have hwf : Wf H1 := ⟨by rw [hn1, hr1]; exact hH.wf.ron, fun j hj => by
    have := hm.lt
    rw [hn1] at hj
    simp only at this
    simp only [ho1, Tr.get_set]
    rw [if_neg (by omega)]
    exact hH.wf.fresh j hj⟩
  refine ⟨⟨by rw [hn1]; exact hH.fr.n, by rw [hr1]; exact hH.fr.ro, fun _ => hwf, fun j hj hjw => ?_, fun x hx => ?_⟩, hwf, fun y hy => ?_, ?_, ?_⟩
  · simp only [ho1, Tr.get_set]
    rw [if_neg]
    · exact hH.fr.get j hj hjw
    · rintro rfl
      rcases hwr.2 with q | q
      · exact hjw q
      · omega
  · rw [hgen x (by omega)]; exact hH.fr.gen x hx
  · rcases set_mem hy hH.nodup hp with rfl | ⟨hy', hne⟩
    · exact ⟨by simp [ho1, Tr.get_set], by rw [hn1]; exact hm.lt, fun _ => by rw [hr1]; exact hwr, ⟨live_self hgg, by rw [hn1]; exact hrow.2⟩, fun x hx => ⟨fun _ => (hm.grp x hx).1 rfl, fun hh => by cases hh⟩⟩
    · have ks := hH.ok y hy'
      refine ⟨by simp only [ho1, Tr.get_set]; rw [if_neg hne]; exact ks.get, by rw [hn1]; exact ks.lt, by rw [hr1]; exact ks.wr, ?_, ks.grp⟩
      have hrk := ks.row
      cases hyo : y.o with
      | row c2 g2 gen2 sh2 ext2 frz2 e2 wh2 sg2 =>
        rw [hyo] at hrk
        have hg2 : g2 ≠ g := by
          rintro rfl
          have hk2 := ks.grp g2 (by rw [hyo]; rfl)
          cases hgl : y.gl with
          | false => have := hk2.2 hgl; omega
          | true =>
            -- two rows of one group
            have hmem : y ∈ L.eraseIdx p := by
              obtain ⟨q, hq⟩ := List.mem_iff_getElem?.1 hy'
              have hqp : q ≠ p := by
                rintro rfl
                rw [hp] at hq
                cases hq
                exact hne rfl
              refine List.mem_iff_getElem?.2 ?_
              rcases Nat.lt_or_ge q p with h | h
              · exact ⟨q, by rw [List.getElem?_eraseIdx]; rw [if_pos h]; exact hq⟩
              · refine ⟨q - 1, ?_⟩
                rw [List.getElem?_eraseIdx, if_neg (by omega), show q - 1 + 1 = q by omega]
                exact hq
            have hL : L.Perm (⟨i, true, true, .row c g2 gen true ext frz e wh sg⟩ :: L.eraseIdx p) := by
              have hdec : L = L.take p ++ ⟨i, true, true, .row c g2 gen true ext frz e wh sg⟩ :: L.drop (p + 1) := by
                obtain ⟨hl, he⟩ := List.getElem?_eq_some_iff.1 hp
                rw [← he, List.getElem_cons_drop, List.take_append_drop]
              conv => lhs; rw [hdec]
              rw [List.eraseIdx_eq_take_drop_succ]
              exact List.perm_middle
            have hnd := (hL.filterMap ownGroup).nodup_iff.1 hH.own
            have hcons : (⟨i, true, true, .row c g2 gen true ext frz e wh sg⟩ :: L.eraseIdx p : Kn).filterMap ownGroup = g2 :: (L.eraseIdx p).filterMap ownGroup := by
              simp [List.filterMap_cons, ownGroup, rowGroup]
            rw [hcons] at hnd
            refine (List.nodup_cons.1 hnd).1 (List.mem_filterMap.2 ⟨y, hmem, ?_⟩)
            simp only [ownGroup, hgl, hyo, rowGroup]
        exact ⟨by rw [live_eq (hgen g2 hg2)]; exact hrk.1, by rw [hn1]; exact hrk.2⟩
      | _ => trivial
  · rw [map_set_i hp]; exact hH.nodup
  · rw [own_set (o := .row c g gen true ext frz e wh sg) (o' := .row c' g (gen + 1) true ext' frz' e wh sg) rfl hp]; exact hH.own

/-- A pointer that becomes an unsafe one. -/
theorem S_unsafe (p : Nat) {d : Nat} {src dst t : TypeId} {x : Operand} {i k : Nat} {wr gl : Bool} {c : List AV} {g gen : Nat} {sh ext : Bool} {frz e : Nat} {wh sg : Bool} {ti : TI} (hnt : Nat.ble Y.nt 255 = true) (hd : o.dst = some d) (hlt : Nat.blt d Y.nt = true) (hw : wantedF ops (TM Y.nt f) o = true)
    (ho : o.op = .convert src dst x) (hs : Y.C.P.underlying src = some (.pointer t)) (hdd : Y.C.P.underlying dst = some .unsafePointer) (ht : tiOf Y.C.P t = some ti) (hx : ev (TM Y.nt f) x = .nptr i k) (hp : L[p]? = some ⟨i, wr, gl, .row c g gen sh ext frz e wh sg⟩)
    (hb : (Nat.blt k c.length && !Nat.beq ti.size 0) = true) (kk : Q (upd f d (.nptr i k)) L (.nptr i k)) : SJ Y ops o f L Q :=
  S_read hnt hd hlt hw (fun H hH => by
    rw [ho]
    simp only [evOp, opConvert, hx, convertF, hs, hdd, ht, hH.cells hp, hb]
    rfl) kk

/-- And back. -/
theorem S_safe (p : Nat) {d : Nat} {src dst u : TypeId} {x : Operand} {i k : Nat} {wr gl : Bool} {c : List AV} {g gen : Nat} {sh ext : Bool} {frz e : Nat} {sg : Bool} {ti : TI} (hnt : Nat.ble Y.nt 255 = true) (hd : o.dst = some d) (hlt : Nat.blt d Y.nt = true) (hw : wantedF ops (TM Y.nt f) o = true)
    (ho : o.op = .convert src dst x) (hs : Y.C.P.underlying src = some .unsafePointer) (hdd : Y.C.P.underlying dst = some (.pointer u)) (ht : tiOf Y.C.P u = some ti) (hx : ev (TM Y.nt f) x = .nptr i k) (hp : L[p]? = some ⟨i, wr, gl, .row c g gen sh ext frz e true sg⟩)
    (hz : Nat.beq ti.size 0 = false) (hb : liesAt Y.C.P Y.C.P.depth e (c.length / Y.C.P.cellsOf e) k u 1 = true) (kk : Q (upd f d (.nptr i k)) L (.nptr i k)) : SJ Y ops o f L Q :=
  S_read hnt hd hlt hw (fun H hH => by
    have hm := hH.ok _ (List.mem_of_getElem? hp)
    have hget := hm.get
    have hrow := hm.row
    simp only at hget hrow
    rw [ho]
    simp only [evOp, opConvert, hx, convertF, hs, hdd, ht, hget, hrow.1, hz, hb]
    rfl) kk

/-- A text that shares a row's bytes; they are frozen from now on. -/
theorem S_uStr (p : Nat) {d : Nat} {cl : Call} {t t2 e : TypeId} {x y : Operand} {k : IntKind} {i g gen n : Nat} {sh : Bool} {frz : Nat} {wh : Bool} {s : List UInt8} (hnt : Nat.ble Y.nt 255 = true) (hd : o.dst = some d) (hlt : Nat.blt d Y.nt = true) (hw : wantedF ops (TM Y.nt f) o = true)
    (ho : o.op = .call cl) (hc : cl.callee = .builtin .unsafeString) (ha : cl.argTypes = #[t, t2]) (hxx : cl.args = #[x, y]) (hu : Y.C.P.underlying t = some (.pointer e)) (hce : Nat.beq (Y.C.P.cellsOf e) 1 = true) (hx : ev (TM Y.nt f) x = .nptr i 0) (hy : ev (TM Y.nt f) y = .int k ((n : Nat) : Int))
    (hp : L[p]? = some ⟨i, true, true, .row (bytesV s) g gen sh false frz e wh false⟩) (hn : s.length = n) (hn0 : n ≠ 0) (hbig : n ≤ 1000000000)
    (kk : ∀ gen', Q (upd f d (.str s)) (L.set p ⟨i, true, true, .row (bytesV s) g gen' sh false (max frz n) e wh false⟩) (.str s)) : SJ Y ops o f L Q :=
  SJ_mk (dst_some hnt hd hlt) fun H hH => by
    obtain ⟨n, rfl⟩ : ∃ m, n = m + 1 := ⟨n - 1, by omega⟩
    have hm := hH.ok _ (List.mem_of_getElem? hp)
    have hget := hm.get
    have hrow := hm.row
    have hwr := hm.wr rfl
    simp only at hget hrow hwr
    have hro : Nat.ble H.ro i = true := Nat.ble_eq_true_of_le hwr.1
    have hee : Nat.beq e e = true := by simp [Nat.beq_eq]
    have hb : Nat.ble (n + 1) 1000000000 = true := Nat.ble_eq_true_of_le hbig
    have hsl : slice (bytesV s) 0 (n + 1) = some (bytesV s) := by
      have : n + 1 = (bytesV s).length := by simp [bytesV, hn]
      rw [this]; exact slice_all _
    have hnat : natOf (.int k ((n + 1 : Nat) : Int)) = some (n + 1) := rfl
    cases sh with
    | false =>
      refine ⟨_, H.setObj i (.row (bytesV s) g gen false false (max frz (n + 1)) e wh false), _, _, .val hw ?_, hH.setObj hp hrow rfl, by rw [hd]; exact kk gen⟩
      rw [ho]
      simp only [evOp, opCall, hc, opBuiltin, ha, hxx, hx, hy, hnat, hget, hu, hrow.1, hee, hce, hro, hb, Bool.and_self, hsl, bytes_mapM, Nat.zero_add]
    | true =>
      refine ⟨_, _, _, _, .val hw ?_, hH.regen (c' := bytesV s) (frz' := max frz (n + 1)) (ext' := false) hp, by rw [hd]; exact kk (gen + 1)⟩
      rw [ho]
      simp only [evOp, opCall, hc, opBuiltin, ha, hxx, hx, hy, hnat, hget, hu, hrow.1, hee, hce, hro, hb, Bool.and_self, hsl, bytes_mapM, Nat.zero_add]

/-- The place of a slice's data, where its room is unknown. -/
theorem S_uData (p : Nat) {d : Nat} {cl : Call} {t : TypeId} {x : Operand} {i n : Nat} {wr gl : Bool} {c : List AV} {g gen : Nat} {sh ext : Bool} {frz e : Nat} {sg : Bool} (hnt : Nat.ble Y.nt 255 = true) (hd : o.dst = some d) (hlt : Nat.blt d Y.nt = true) (hw : wantedF ops (TM Y.nt f) o = true)
    (ho : o.op = .call cl) (hc : cl.callee = .builtin .unsafeSliceData) (ha : cl.argTypes = #[t]) (hxx : cl.args = #[x]) (hx : ev (TM Y.nt f) x = .nslc i 0 n none)
    (hp : L[p]? = some ⟨i, wr, gl, .row c g gen sh ext frz e false sg⟩) (hb : 0 < c.length) (kk : Q (upd f d (.nptr i 0)) L (.nptr i 0)) : SJ Y ops o f L Q :=
  S_read hnt hd hlt hw (fun H hH => by
    have hm := hH.ok _ (List.mem_of_getElem? hp)
    have hget := hm.get
    have hrow := hm.row
    simp only at hget hrow
    have hr : H.rowG i = some (c, e) := by simp only [AH.rowG, hget, hrow.1]
    have hbl : Nat.blt 0 c.length = true := by simpa using hb
    rw [ho]
    simp only [evOp, opCall, hc, opBuiltin, ha, hxx, hx, hr, hbl]) kk
end
end Go.Ev

namespace Go.Ev

theorem ret_tmpD (M : Kn) {C : Ctx} {fn : Func} {nt : Nat} {H0 : AH} {Wr : List Nat} {P : AV → Kn → Prop} {e : AE} {f : Nat → AV} {L : Kn} {v : AV} (hs : M.Sublist L) (he : e = .norm ∨ e = .ret) (hr : ∀ H, resultsF C fn (TM nt f) H = some v) (hp : P v M) :
    retJ C fn nt H0 Wr P e f L [] := ⟨he, fun H hH => ⟨v, H, M, by simp only [leaveF, hr], hH.drop hs, hp⟩⟩

theorem ret_tmpP (M : Kn) {C : Ctx} {fn : Func} {nt : Nat} {H0 : AH} {Wr : List Nat} {P : AV → Kn → Prop} {e : AE} {f : Nat → AV} {L : Kn} {v : AV} (hs : L.Perm M) (he : e = .norm ∨ e = .ret) (hr : ∀ H, resultsF C fn (TM nt f) H = some v) (hp : P v M) :
    retJ C fn nt H0 Wr P e f L [] := ⟨he, fun H hH => ⟨v, H, M, by simp only [leaveF, hr], hH.perm hs, hp⟩⟩

end Go.Ev
