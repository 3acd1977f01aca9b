/- Part of the proofs: the verified interpreter for the program's functions, or lemmas on what they compute; no condition. -/
import Derived.Test.YtoocidelbmbgcaaOctetSealsBiOps11
namespace Go.Ai
variable {N : Lim} {S I0 I I' : Nat → Prop} {w0 w w' : World} {γ γ' : Nat → Hdr} {σ σ' : St} {a : Act} {Γ : Ctx} {o : Oper} {e : Eff} {P : Program} {β : Type} {r : β}

theorem appRes_grow {el : TypeId} {sz : Nat} {z : Value} {base : Option Addr} {sLen sCap n : Nat} {olds news : List Value} (h : ¬ sLen + n ≤ sCap) : appRes P w el sz z base sLen sCap n olds news =
    .ok (.slice (some ⟨w.heap.size, 0, none⟩) (sLen + n) (grownCap w (sLen + n) sCap el)) (w.drew.alloc (.cells (olds.toArray ++ news.toArray ++ Builtin.zeroCells z.cells (grownCap w (sLen + n) sCap el - (sLen + n))) el)) := by
  unfold appRes
  rw [if_neg h]
theorem Free.mono {b n m : Nat} (h : Free w b n) (hm : m ≤ n) : Free w b m := by
  obtain ⟨arr, ty, lo, hi, h1, h2, h3⟩ := h
  exact ⟨arr, ty, lo, hi, h1, Nat.le_trans hm h2, h3⟩
/-- A row, and elements written behind it. -/
theorem RIs_app {b o sz : Nat} {xs ys : List AV} {us : List Value} (h : RIs w I xs b o sz) (hE : Els w I sz ys us) (hI : ∀ k, I k → w'.heap[k]? = w.heap[k]?)
    (hold : ∀ j, j < o + xs.length * sz → w'.cell? ⟨b, j, none⟩ = w.cell? ⟨b, j, none⟩) (hnew : ∀ j u, (flat us)[j]? = some u → w'.cell? ⟨b, o + xs.length * sz + j, none⟩ = some u) : RIs w' I (xs ++ ys) b o sz := by
  refine (RIs_iff _ _ _ _).2 fun i x hx => ?_
  rcases Nat.lt_or_ge i xs.length with hi | hi
  · rw [List.getElem?_append_left hi] at hx
    obtain ⟨u, k1, k2, k3⟩ := (RIs_iff _ _ _ _).1 h i x hx
    refine ⟨u, RI_mono (fun _ hk => hk) hI _ _ k1, k2, fun p c hp => ?_⟩
    rw [hold _ ?_]
    · exact k3 p c hp
    · have h1 := k1.width
      have h2 := (Array.getElem?_eq_some_iff.1 hp).1
      have : (i + 1) * sz ≤ xs.length * sz := Nat.mul_le_mul_right _ hi
      rw [Nat.add_mul] at this
      omega
  · rw [List.getElem?_append_right hi] at hx
    have hlt := (List.getElem?_eq_some_iff.1 hx).1
    have hu := List.getElem?_eq_getElem (l := us) (i := i - xs.length) (by rw [hE.1]; exact hlt)
    obtain ⟨k1, k2⟩ := hE.2 _ x _ hx hu
    refine ⟨_, RI_mono (fun _ hk => hk) hI _ _ k1, k2, fun p c hp => ?_⟩
    have := hnew _ c (flat_get hE.sizes hu hp)
    rwa [show o + xs.length * sz + ((i - xs.length) * sz + p) = o + i * sz + p by
      have : i * sz = xs.length * sz + (i - xs.length) * sz := by rw [← Nat.add_mul]; congr 1; omega
      omega] at this

theorem Sim.gone (h : Sim N S I0 w0 γ I σ a w) (hy : Young σ) {q : Nat} {R : Root} (hq : σ.L q = some R) : Sim N S I0 w0 γ I { σ with L := setAt σ.L q (some { R with st := .gone, xs := [] }) } a w ∧ Young { σ with L := setAt σ.L q (some { R with st := .gone, xs := [] }) } := by
  have := h.up (I' := I) (w' := w) hy (r := q) (R' := { R with st := .gone, xs := [] }) (h' := γ q) (B := fun _ => False) (fun _ hk => hk) (Fr.refl _ _) (fun _ k => k.elim)
    (.inr ⟨R, hq, rfl, fun hne => absurd rfl hne⟩) (fun _ _ _ _ _ _ _ _ _ k => k)
    (fun q' Q b' o' c' _ hQ hl' hg' => (h.live q' Q b' o' c' hQ hl' hg').1) (fun hne => absurd rfl hne) (fun _ _ _ hst _ => by simp at hst) (fun _ _ _ hst _ => by simp at hst)
    (fun _ _ _ _ _ _ _ _ _ _ hst _ => by simp at hst) (fun k hk => ⟨h.imm k hk, .inl hk⟩) (fun x r v _ hx => by simp at hx)
  rw [setAt_id] at this
  exact this

/-- A row that takes over a block which no other root has. -/
theorem Sim.take (h : Sim N S I0 w0 γ I σ a w) (hy : Young σ) {d : Nat} {R' : Root} {b of cap p : Nat} {us : List Value} (hv : R'.ver = σ.next d) (hl : R'.st = .live) (hbx : R'.bx = false) (hni : ¬ I b) (hbb : w0.heap.size ≤ b ∨ S b)
    (hfree : ∀ q Q o' c', q ≠ d → σ.L q = some Q → Q.st = .live → γ q ≠ some (b, o', c')) (hw : w' = w ∨ Wrote w w' b p us) (hr : ∀ L γ1, RootOk L γ1 w' I (some (b, of, cap)) R') :
    Sim N S I0 w0 (setAt γ d (some (b, of, cap))) I { σ with L := setAt σ.L d (some R') } a w' ∧ Young { σ with L := setAt σ.L d (some R') } := by
  have hsz : w'.heap.size = w.heap.size := by
    rcases hw with rfl | hw
    · rfl
    · exact hw.size
  have hfr : Fr (· = b) w w' := by
    rcases hw with rfl | hw
    · exact Fr.refl _ _
    · exact hw.toFr
  exact h.up (I' := I) (w' := w') hy (r := d) (R' := R') (h' := some (b, of, cap)) (B := (· = b)) (fun _ hk => hk) hfr (fun b' e => by subst e; exact ⟨hni, hbb⟩)
    (.inl fun R hR => by rw [hv]; exact next_lt R hR)
    (fun q' Q b' o' c' hne hQ hst hg' => by
      rintro rfl
      cases e : Q.st with
      | live => exact hfree q' Q o' c' hne hQ e hg'
      | still => exact hni (h.still q' Q b' o' c' hQ e hg')
      | gone => exact hst e)
    (fun q' Q b' o' c' _ hQ hl' hg' => (h.live q' Q b' o' c' hQ hl' hg').1)
    (fun _ => hr _ _)
    (fun b' o' c' _ hg' => by injection hg' with hg'; injection hg' with e1 _; subst e1; exact ⟨hni, hbb⟩)
    (fun b' o' c' hst _ => by simp [hl] at hst)
    (fun q' Q b' o' c' o'' c'' hne hQ hlQ _ hg' hgq => by injection hg' with hg'; injection hg' with e1 _; subst e1; exact hfree q' Q _ _ hne hQ hlQ hgq)
    (fun k hk => ⟨by rw [hsz]; exact h.imm k hk, .inl hk⟩) (fun _ _ _ hb => by rw [hbx] at hb; cases hb)

/-- What append leaves where it makes a new array. -/
theorem grown_ok (hs : Sim N S I0 w0 γ I σ a w) (hy : Young σ) {d ty sz : Nat} {xs : List AV} {us : List Value} (hE : Els w I sz xs us) (_hsz : 0 < sz) (el : TypeId) (z : Value) (hz : z.cells.size = sz) {n c : Nat} (hn : n = xs.length) (hc : n ≤ c)
    {q : Option Nat} (hd : ∀ t, q = some t → N.ok t) {_rr : List Nat} {arr : Array Value} (harr : arr.toList = flat us ++ (Builtin.zeroCells z.cells (c - n)).toList) :
    Ok N S I0 w0 ({ σ with L := setAt σ.L d (some ⟨σ.next d, ty, sz, false, .live, xs⟩) }.slot q (.ref d (σ.next d) [] none)) (a.put q (.slice (some ⟨w.heap.size, 0, none⟩) n c)) (w.drew.alloc (.cells arr el)) := by
  have hs' : Sim N S I0 w0 γ I σ a w.drew := hs.ext (Ext.drew w)
  have hsize : arr.size = c * sz := by
    have := congrArg List.length harr
    simp only [Array.length_toList, List.length_append, flat_length hE.sizes, hE.1, size_zeroCells, hz] at this
    rw [this, ← Nat.add_mul, ← hn]
    congr 1
    omega
  have hH : Holds w.drew I arr sz xs := (hE.mono (w' := w.drew) (fun _ hk => hk) (fun _ _ => rfl)).holds (fun i c hi => by
    have hlt := (List.getElem?_eq_some_iff.1 hi).1
    rw [← Array.getElem?_toList, harr, List.getElem?_append_left hlt, hi])
  obtain ⟨g1, g2⟩ := hs'.newRow hy (d := d) (ty := ty) (sz := sz) (cap := c) el hH (by rw [hsize]; exact Nat.le_refl _) (by omega)
  exact ⟨_, I, g1.slot (d := q) hd (RV_newRef (R := ⟨σ.next d, ty, sz, false, .live, xs⟩) hn hc), g2.slot (d := q) (refers_new (fun q v hq => ⟨hq.1.symm, hq.2.symm⟩))⟩

theorem op_append (hΓ : CtxOk Γ) (hs : Sim N S I0 w0 γ I σ a w) (hy : Young σ) (hd : ∀ t, o.dst = some t → N.ok t) {c : Call} (ho : o.op = .call c) (hc : c.callee = .builtin .append) (h : opK Γ o σ some = some e) :
    Goes Γ.P N S I0 w0 (σ.eff o.dst e) o a w := by
  simp only [opK, ho, hc] at h
  split at h
  case h_4 =>
    rename_i sA x hb hx
    obtain ⟨u, v, hargs, h1, h2⟩ := args_two hs hx
    obtain ⟨d, hdst, h⟩ := dstK_some h
    split at h
    case h_2 => cases h
    rename_i t ut hat
    have hat := list_two hat
    obtain ⟨i, hi, h⟩ := tyK_some h
    obtain ⟨iu, hiu, h⟩ := tyK_some h
    obtain ⟨hrow, h⟩ := cond_some h
    split at h
    case h_2 => cases h
    rename_i el hk
    obtain ⟨ei, hte, h⟩ := tyK_some h
    have hel := hΓ.ty el ei hte
    have hsl := (hΓ.ty t i hi).slice hk
    obtain ⟨du, hdu, hnint⟩ : ∃ du, Γ.P.underlying ut = some du ∧ ∀ k, du ≠ .int k := by
      have := (hΓ.ty ut iu hiu).tk
      cases hk : iu.tk <;> rw [hk] at hrow this <;> simp only [isRowT, Bool.false_eq_true] at hrow
      · exact ⟨_, this, fun k h => by cases h⟩
      · exact ⟨_, this, fun k h => by cases h⟩
    obtain ⟨z, hz, hzi⟩ := hel.zero
    have hzw : z.cells.size = ei.size := by rw [(hzi w I).width, hel.zw]
    have hsz : 0 < ei.size := by
      cases h0 : Nat.blt 0 ei.size with
      | true => exact blt_of h0
      | false =>
        unfold srcK at h
        split at h
        · obtain ⟨_, h⟩ := cond_some h
          obtain ⟨hcc, _⟩ := cond_some h
          simp [h0] at hcc
        · obtain ⟨y, rs, _, h⟩ := dataK_nat _ h
          obtain ⟨ys, _, h⟩ := fitS_some h
          obtain ⟨hcc, _⟩ := cond_some h
          simp [h0] at hcc
    obtain ⟨ys, rs, us, h, hE, hlen, hread⟩ := srcK_some (P := Γ.P) hs h2 hsz h
    obtain ⟨hcc, h⟩ := cond_some h
    simp only [Bool.and_eq_true] at hcc
    have hby := blt_of hcc.2
    have run : ∀ {base : Option Addr} {sLen sCap : Nat} {olds : List Value}, u = .slice base sLen sCap → (Builtin.firstCells ei.size sLen (.slice base sLen sCap)).run Γ.P w.drew = .ok olds.toArray w.drew → (sLen + ys.length) * ei.bytes ≤ 140737488355328 →
        ∀ {u' : Value} {w' : World}, appRes Γ.P w el ei.size z base sLen sCap ys.length olds (flat us) = .ok u' w' →
        (execOp a.eval o).run Γ.P w = .ok (.value u') w' := by
      intro base sLen sCap olds hu hold hbnd u' w' hres
      refine run_callBuiltin ho hc fun cs => exec_builtin (f := Builtin.append_) rfl ?_
      rw [hargs, hat, hu, run_append_gen hsl hdu hnint hel hz hlen (hread w (fun _ _ _ h => h)) (hread w.drew (fun _ _ _ h => h)) hold hby hbnd]
      exact hres
    clear hx
    cases sA with
    | nils =>
      dsimp only at h
      obtain ⟨hb, h⟩ := okK_some h
      injection h with h; subst h
      have h1 : u = .slice none 0 0 := h1.2
      have hold : (Builtin.firstCells ei.size 0 (.slice none 0 0)).run Γ.P w.drew = .ok ([] : List Value).toArray w.drew := by simp [Builtin.firstCells]
      by_cases hn : ys.length = 0
      · have hys := List.eq_nil_of_length_eq_zero hn
        subst hys
        refine goes_value (u := .slice none 0 0) (w' := w) (run h1 hold (by simp) (by simp [appRes])) ?_
        refine ok_new (rs := []) (h' := none) hs hy (fun q hq => by cases hq) (by simp) hd (R := ⟨σ.next d, el, ei.size, false, .live, []⟩) rfl rfl (Ext.refl w) (fun b of cap he => by cases he) rfl (fun _ _ => ⟨rfl, rfl⟩) (fun L => ?_) (fun q v hq => ⟨hq.1.symm, hq.2.symm⟩)
        refine ⟨⟨_, _, _, rfl⟩, fun R' k1 _ _ _ => ?_⟩
        rw [setAt_self]
        exact ⟨_, rfl⟩
      · have hcap := grownCap_ge w (0 + ys.length) 0 el
        refine goes_value (run h1 hold (by simpa using hb) (by rw [appRes, if_neg (by omega)])) ?_
        have := grown_ok (d := d) (ty := el) (_rr := d :: rs) hs hy hE hsz el z hzw (n := 0 + ys.length) (c := grownCap w (0 + ys.length) 0 el) (by simp) hcap hd (arr := (([] : List Value).toArray ++ (flat us).toArray ++ Builtin.zeroCells z.cells (grownCap w (0 + ys.length) 0 el - (0 + ys.length)))) (by simp)
        simpa [St.eff, St.ups] using this
    | ref q v pp p =>
      cases pp with
      | cons _ _ => dsimp only at h; cases h
      | nil =>
      dsimp only at h
      obtain ⟨R, r1, r2, r3, h⟩ := liveK_some h
      obtain ⟨hc2, h⟩ := cond_some h
      simp only [Bool.and_eq_true] at hc2
      have hRz : R.sz = ei.size := Nat.eq_of_beq_eq_true hc2.1.2
      have hbx : R.bx = false := by simpa using hc2.2
      obtain ⟨hb, h⟩ := okK_some h
      injection h with h; subst h
      have hrf := h1.2 R r1 r2 (by rw [r3]; simp) rfl
      have hro := hs.root q R r1 (by rw [r3]; simp)
      obtain ⟨s1, s2⟩ := hs.gone hy r1
      have hnext : (⟨σ.env, setAt σ.L q (some { R with st := .gone, xs := [] })⟩ : St).next d = σ.next d := by
        simp only [St.next]
        by_cases e : d = q
        · subst e; rw [setAt_self, r1]
        · rw [setAt_ne _ e]
      cases hg : γ q with
      | none =>
        rw [hg] at hrf hro
        obtain ⟨ad0, hu⟩ : ∃ ad, u = .slice ad 0 0 := hrf
        have he : partOf R.xs p = [] := by rw [hro.1]; cases p <;> simp [partOf]
        have hold : (Builtin.firstCells ei.size 0 (.slice ad0 0 0)).run Γ.P w.drew = .ok ([] : List Value).toArray w.drew := by
          cases ad0 <;> simp [Builtin.firstCells, loadCells, loadCellsFrom]
        rw [he] at hb ⊢
        simp only [List.nil_append]
        by_cases hn : ys.length = 0
        · have hys := List.eq_nil_of_length_eq_zero hn
          subst hys
          have e5 : us = [] := List.eq_nil_of_length_eq_zero hE.1
          refine goes_value (u := .slice ad0 0 0) (w' := w) (run hu hold (by simp) (by
            unfold appRes
            rw [e5, if_pos (by simp)]
            cases ad0 with
            | none => rfl
            | some ad => simp [flat, storeCells])) ?_
          obtain ⟨g1, g2⟩ := s1.fresh s2 (d := d) (R' := ⟨σ.next d, el, ei.size, false, .live, []⟩) (h' := none) hnext.symm rfl (Ext.refl w) (fun b of cap he => by cases he) ⟨rfl, rfl⟩ (fun _ _ _ hb => by cases hb)
          refine ⟨_, I, g1.slot (d := o.dst) hd ?_, g2.slot (d := o.dst) (refers_new (fun q v hq => ⟨hq.1.symm, hq.2.symm⟩))⟩
          refine ⟨⟨_, _, _, rfl⟩, fun R' k1 _ _ _ => ?_⟩
          rw [setAt_self]
          exact ⟨_, rfl⟩
        · have hcap := grownCap_ge w (0 + ys.length) 0 el
          refine goes_value (run hu hold (by simpa using hb) (appRes_grow (by omega))) ?_
          have := grown_ok (d := d) (ty := el) (_rr := d :: rs) s1 s2 hE hsz el z hzw (n := 0 + ys.length) (c := grownCap w (0 + ys.length) 0 el) (by simp) hcap hd (arr := (([] : List Value).toArray ++ (flat us).toArray ++ Builtin.zeroCells z.cells (grownCap w (0 + ys.length) 0 el - (0 + ys.length)))) (by simp)
          rw [hnext] at this
          exact this
      | some zz =>
        obtain ⟨b, of, cap⟩ := zz
        rw [hg] at hrf hro
        obtain ⟨ad, cc, hu, hl, hcc2, hz2⟩ := hrf
        obtain ⟨k1, k2, k3, k4⟩ := hro
        have k2 := k2.row hbx
        rw [hRz] at k2 k3 hz2
        obtain ⟨os, hEo, hco⟩ := els_of_row (part_row k2 p)
        have hboth : Els w I ei.size (partOf R.xs p ++ ys) (os ++ us) := hEo.append hE
        obtain ⟨hni, hbb⟩ := hs.live q R b of cap r1 r3 hg
        have hold : (Builtin.firstCells ei.size (partOf R.xs p).length (.slice ad (partOf R.xs p).length cc)).run Γ.P w.drew = .ok (flat os).toArray w.drew := by
          rcases hz2 with hz2 | rfl
          · have h0 : (partOf R.xs p).length = 0 := by omega
            have : os = [] := List.eq_nil_of_length_eq_zero (by rw [hEo.1, h0])
            subst this
            rw [h0]
            cases ad <;> simp [Builtin.firstCells, flat, loadCells, loadCellsFrom]
          · refine run_firstCells_some (P := Γ.P) w.drew ei.size _ ⟨b, of + offOf p * ei.size, none⟩ _ cc (flat os) (by rw [flat_length hEo.sizes, hEo.1]) (fun j v hj => ?_)
            rw [addr_add]
            exact hco j v hsz hj
        by_cases hroom : (partOf R.xs p).length + ys.length ≤ cc
        · -- there is room
          have hmul : of + (offOf p + cc) * ei.size ≤ of + cap * ei.size := Nat.add_le_add_left (Nat.mul_le_mul_right _ hcc2) _
          have hfin : ∀ (w' : World) (p0 : Nat) (us0 : List Value), (w' = w ∨ Wrote w w' b p0 us0) → RIs w' I (partOf R.xs p ++ ys) b (of + offOf p * ei.size) ei.size → Free w' b (of + offOf p * ei.size + cc * ei.size) → (cc = 0 ∨ ad = some ⟨b, of + offOf p * ei.size, none⟩) →
              Ok N S I0 w0 ({ σ with L := setAt (setAt σ.L q (some { R with st := .gone, xs := [] })) d (some ⟨σ.next d, el, ei.size, false, .live, partOf R.xs p ++ ys⟩) }.slot o.dst (.ref d (σ.next d) [] none)) (a.put o.dst (.slice ad ((partOf R.xs p).length + ys.length) cc)) w' := by
            intro w' p0 us0 hw hrs hfr hadr
            obtain ⟨g1, g2⟩ := s1.take s2 (d := d) (R' := ⟨σ.next d, el, ei.size, false, .live, partOf R.xs p ++ ys⟩) (b := b) (of := of + offOf p * ei.size) (cap := cc) hnext.symm rfl rfl hni hbb
              (fun q' Q o' c' hne hQ hlQ hgq => by
                by_cases e : q' = q
                · subst e
                  simp only [setAt_self] at hQ
                  injection hQ with hQ; subst hQ
                  simp at hlQ
                · simp only [setAt_ne _ e] at hQ
                  exact hs.sep q' q Q R b o' c' of cap e hQ r1 hlQ r3 hgq hg)
              hw (fun _ _ => ⟨by simpa using hroom, RowOk.mkRow rfl hrs, hfr, fun h => by cases h⟩)
            refine ⟨_, I, g1.slot (d := o.dst) hd ?_, g2.slot (d := o.dst) (refers_new (fun q v hq => ⟨hq.1.symm, hq.2.symm⟩))⟩
            refine ⟨⟨_, _, _, rfl⟩, fun R' j1 _ _ _ => ?_⟩
            simp only [setAt_self] at j1
            injection j1 with j1; subst j1
            rw [setAt_self]
            refine ⟨ad, cc, by simp [partOf], by simpa [partOf] using hroom, by simp [offOf], ?_⟩
            rcases hadr with h0 | h0
            · exact .inl h0
            · right; rw [h0]; simp [offOf]
          rcases hz2 with h0 | hadr
          · -- no room at all: nothing is stored
            have e1 : (partOf R.xs p).length = 0 := by omega
            have e2 : ys.length = 0 := by omega
            have e3 := List.eq_nil_of_length_eq_zero e1
            have e4 := List.eq_nil_of_length_eq_zero e2
            have e5 : us = [] := List.eq_nil_of_length_eq_zero (by rw [hE.1, e2])
            have hap : appRes Γ.P w el ei.size z ad (partOf R.xs p).length cc ys.length (flat os) (flat us) = .ok (.slice ad ((partOf R.xs p).length + ys.length) cc) w := by
              unfold appRes
              rw [if_pos hroom, e5]
              cases ad with
              | none => rfl
              | some ad => simp [flat, storeCells]
            refine goes_value (run hu hold hb hap) ?_
            exact hfin w 0 [] (.inl rfl) (by rw [e3, e4]; trivial) (k3.mono (by rw [h0] at hmul ⊢; simp only [Nat.zero_mul, Nat.add_zero] at hmul ⊢; omega)) (.inl h0)
          · subst hadr
            obtain ⟨arr, ty, lo, hi, f1, f2, f3⟩ := k3
            have hle2 : ((partOf R.xs p).length + ys.length) * ei.size ≤ cc * ei.size := Nat.mul_le_mul_right _ hroom
            have hfl : (flat us).length = ys.length * ei.size := by rw [flat_length hE.sizes, hE.1]
            rw [Nat.add_mul] at hmul hle2
            obtain ⟨w', t1, t2⟩ := run_storeCells (P := Γ.P) (b := b) (o := of + offOf p * ei.size + (partOf R.xs p).length * ei.size) (flat us) 0 w arr f1 f3 hE.flat_one (by rw [hfl]; omega)
            have hap : appRes Γ.P w el ei.size z (some ⟨b, of + offOf p * ei.size, none⟩) (partOf R.xs p).length cc ys.length (flat os) (flat us) = .ok (.slice (some ⟨b, of + offOf p * ei.size, none⟩) ((partOf R.xs p).length + ys.length) cc) w' := by
              rw [appRes, if_pos hroom]
              simp only [addr_add, t1]
              rfl
            refine goes_value (run hu hold hb hap) ?_
            have hIw : ∀ k, I k → w'.heap[k]? = w.heap[k]? := fun k hk => t2.other k (fun e => hni (e ▸ hk))
            refine hfin w' _ _ (.inr t2) ?_ (t2.free (Free.mono ⟨arr, ty, lo, hi, f1, f2, f3⟩ (by omega))) (.inr rfl)
            exact RIs_app (part_row k2 p) hE hIw (fun j hj => t2.cell (.inl hj)) (fun j u hu => t2.new hu)
        · -- it grows
          have hcap := grownCap_ge w ((partOf R.xs p).length + ys.length) cc el
          refine goes_value (run hu hold hb (appRes_grow hroom)) ?_
          have := grown_ok (d := d) (ty := el) (_rr := d :: q :: rs) s1 s2 hboth hsz el z hzw (n := (partOf R.xs p).length + ys.length) (c := grownCap w ((partOf R.xs p).length + ys.length) cc el) (by simp) hcap hd
            (arr := ((flat os).toArray ++ (flat us).toArray ++ Builtin.zeroCells z.cells (grownCap w ((partOf R.xs p).length + ys.length) cc el - ((partOf R.xs p).length + ys.length)))) (by simp [flat_append])
          rw [hnext] at this
          exact this
    | _ => dsimp only at h; cases h
  all_goals first
    | (cases h; done)
    | (rename_i hb _; cases hb)
    | (rename_i hb _ _ _; cases hb)
end Go.Ai
