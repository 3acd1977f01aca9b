/- Part of the proofs: the verified interpreter for the program's functions, or lemmas on what they compute; no condition. -/
import Derived.Test.YtoocidelbmbgcaaOctetSealsBiOps1
namespace Go.Ai
variable {N : Lim} {S I0 I I' : Nat → Prop} {w0 w w' : World} {γ γ' : Nat → Hdr} {σ σ' : St} {a : Act} {Γ : Ctx} {o : Oper} {e : Eff} {P : Program} {β : Type} {r : β}

/-! ### Types at work -/
theorem addr_add (b o n : Nat) : (⟨b, o, none⟩ : Addr).add n = ⟨b, o + n, none⟩ := by
  unfold Addr.add
  split
  · rename_i h; subst h; rfl
  · rfl
theorem TyOk.isAgg {t : TypeId} {i : TI} (h : TyOk P t i) : (isAgg t).run P w = .ok (isAggT i.tk) w := by
  have h := h.tk
  unfold Go.isAgg
  cases hk : i.tk <;> rw [hk] at h <;> simp only [tkIs] at h
  case struct fs => obtain ⟨f, h, _⟩ := h; simp [run_underlying h, isAggT]
  case tuple => obtain ⟨f, h⟩ := h; simp [run_underlying h, isAggT]
  all_goals simp [run_underlying h, isAggT]
theorem TyOk.size {t : TypeId} {i : TI} (h : TyOk P t i) : (sizeOf t).run P w = .ok i.size w := by
  obtain ⟨j, h1, h2, _⟩ := h.info
  simp [sizeOf, typeInfo, h1, h2]
theorem TyOk.bytes {t : TypeId} {i : TI} (h : TyOk P t i) : ∃ j, (typeInfo t).run P w = .ok j w ∧ j.bytes = i.bytes ∧ j.size = i.size := by
  obtain ⟨j, h1, h2, h3, _⟩ := h.info
  exact ⟨j, by simp [typeInfo, h1], h3, h2⟩
theorem TyOk.zero {t : TypeId} {i : TI} (h : TyOk P t i) : ∃ z, (∀ w, (zeroValue t).run P w = .ok z w) ∧ zeroIs i.zero z := by
  obtain ⟨j, h1, h2, h3, z, h4, h5⟩ := h.info
  exact ⟨z, fun w => by simp [zeroValue, typeInfo, h1, h4], h5⟩

theorem RI.cells {x : AV} {v : Value} (h : RI w I x v) : RIl w I x.cells v.cells.toList := by
  cases x with
  | agg cs =>
    obtain ⟨us, rfl, _, h⟩ := h
    simpa [AV.cells, Value.cells] using h
  | own _ _ _ => exact h.elim
  | fn _ _ _ => exact h.elim
  | box _ => exact h.elim
  | ref _ _ _ _ => exact h.elim
  | loc _ _ _ _ _ => exact h.elim
  | elm _ _ => exact h.elim
  | dead => exact h.elim
  | sl sz xs => obtain ⟨a, cap, rfl, h2⟩ := h; exact ⟨_, _, rfl, ⟨a, cap, rfl, h2⟩, rfl⟩
  | tup xs => exact h.elim
  | int k n => cases h; exact ⟨_, _, rfl, rfl, rfl⟩
  | bool b => cases h; exact ⟨_, _, rfl, rfl, rfl⟩
  | str s => cases h; exact ⟨_, _, rfl, rfl, rfl⟩
  | nilp => cases h; exact ⟨_, _, rfl, rfl, rfl⟩
  | nils => cases h; exact ⟨_, _, rfl, rfl, rfl⟩

theorem RIl.drop {cs : List AV} {us : List Value} (h : RIl w I cs us) (n : Nat) : RIl w I (cs.drop n) (us.drop n) := by
  obtain ⟨hl, h⟩ := (RIl_iff _ _).1 h
  exact (RIl_iff _ _).2 ⟨by simp [hl], fun i c u hc hu => h (n + i) c u (by simpa using hc) (by simpa using hu)⟩
theorem RIl.take {cs : List AV} {us : List Value} (h : RIl w I cs us) (n : Nat) : RIl w I (cs.take n) (us.take n) := by
  obtain ⟨hl, h⟩ := (RIl_iff _ _).1 h
  refine (RIl_iff _ _).2 ⟨by simp [hl], fun i c u hc hu => ?_⟩
  simp only [List.getElem?_take] at hc hu
  split at hc
  · rename_i hi; rw [if_pos hi] at hu; exact h i c u hc hu
  · cases hc
theorem RIl.append {cs ds : List AV} {us vs : List Value} (h : RIl w I cs us) (k : RIl w I ds vs) : RIl w I (cs ++ ds) (us ++ vs) := by
  induction cs generalizing us with
  | nil => simp only [RIl] at h; subst h; exact k
  | cons c cs ih =>
    obtain ⟨u, us', rfl, h1, h2⟩ := h
    exact ⟨u, us' ++ vs, rfl, h1, ih h2⟩

/-- A part of an element that is in memory, loaded. -/
theorem run_part {t : TypeId} {ti : TI} (ht : TyOk P t ti) {x : AV} {v : Value} {b of off : Nat} (hx : RI w I x v) (hc : cellsAt w b of v.cells) {K : AV → Option β} (h : partK ti x.cells off K = some r) :
    ∃ y u, K y = some r ∧ (loadVar t ⟨b, of + off, none⟩).run P w = .ok u w ∧ RI w I y u ∧ isData y = true := by
  have hl := hx.cells
  obtain ⟨hlen, hp⟩ := (RIl_iff _ _).1 hl
  unfold partK at h
  cases ha : isAggT ti.tk with
  | true =>
    rw [ha] at h
    simp only [cond_true] at h
    obtain ⟨h1, h⟩ := cond_some h
    simp only [Bool.and_eq_true] at h1
    have hle : off + ti.size ≤ x.cells.length := Nat.le_of_ble_eq_true h1.1
    have hle' : off + ti.size ≤ v.cells.toList.length := by omega
    refine ⟨_, .agg ((v.cells.toList.drop off).take ti.size).toArray, h, ?_, ⟨_, rfl, h1.2, (hl.drop off).take ti.size⟩, rfl⟩
    have hn : ((v.cells.toList.drop off).take ti.size).length = ti.size := by rw [List.length_take, List.length_drop]; omega
    have hld := run_loadCells_list (P := P) w ⟨b, of + off, none⟩ ((v.cells.toList.drop off).take ti.size) (fun j u hj => by
      rw [addr_add, Nat.add_assoc]
      refine hc (off + j) u ?_
      simp only [List.getElem?_take] at hj
      split at hj
      · simpa using hj
      · cases hj)
    rw [hn] at hld
    simp only [loadVar, Sem.run_bind, ht.isAgg, ha, Result.andThen_ok, if_true, ht.size, hld, Sem.run_pure]
  | false =>
    rw [ha] at h
    simp only [cond_false] at h
    split at h
    · rename_i c hcc
      obtain ⟨h1, h⟩ := cond_some h
      have hlt : off < v.cells.toList.length := by
        have := (List.getElem?_eq_some_iff.1 hcc).1; omega
      have hu := List.getElem?_eq_getElem hlt
      have hr := hp off c _ hcc hu
      refine ⟨c, _, h, ?_, hr, ?_⟩
      · have hcell := hc off v.cells.toList[off] (by simp)
        simp only [loadVar, Sem.run_bind, ht.isAgg, ha, Result.andThen_ok, Bool.false_eq_true, if_false, run_load, hcell]
      · cases c <;> simp only [AV.leaf, Bool.false_eq_true] at h1 <;> rfl
    · cases h

theorem cellB_of {c : AV} {L : Nat → Option Root} {u : Value} (h : RVc L γ w I c u) (hc : c.cellB = true) : u.oneCell' = true := by
  cases c with
  | ref _ _ _ _ => obtain ⟨⟨a, n, c, rfl⟩, _⟩ := h; rfl
  | loc _ _ _ _ _ => obtain ⟨⟨a, rfl⟩, _⟩ := h; rfl
  | agg _ => simp [AV.cellB, AV.leaf] at hc
  | dead => simp [AV.cellB, AV.leaf] at hc
  | elm _ _ => simp [AV.cellB, AV.leaf] at hc
  | sl sz xs => obtain ⟨_, a, cap, rfl, _⟩ := h; rfl
  | int _ _ => obtain ⟨_, h⟩ := h; cases h; rfl
  | bool _ => obtain ⟨_, h⟩ := h; cases h; rfl
  | str _ => obtain ⟨_, h⟩ := h; cases h; rfl
  | nilp => obtain ⟨_, h⟩ := h; cases h; rfl
  | nils => obtain ⟨_, h⟩ := h; cases h; rfl
  | own _ _ _ => exact h.2.elim
  | box _ => exact h.2.elim
  | fn _ _ _ => exact h.2.elim
  | tup _ => exact h.2.elim
theorem oneCell_cells {u : Value} (h : u.oneCell' = true) : u.cells = #[u] := by
  cases u <;> first | rfl | (simp [Value.oneCell'] at h)
theorem RVc_one {c : AV} {L : Nat → Option Root} {u : Value} (h : RVc L γ w I c u) : u.oneCell' = true := by
  by_cases hc : c.cellB = true
  · exact cellB_of h hc
  · cases c with
    | elm _ _ => obtain ⟨b, o, v, rfl, _⟩ := h; rfl
    | dead => exact h
    | agg _ => exact absurd h.1 (by simp [AV.leaf])
    | own _ _ _ => exact h.2.elim
    | box _ => exact h.2.elim
    | fn _ _ _ => exact h.2.elim
    | tup _ => exact h.2.elim
    | _ => exact absurd rfl hc
/-- The cells of a box's content. -/
theorem RV1.cells {L : Nat → Option Root} {x : AV} {v : Value} (h : RV1 L γ w I x v) : All2 (RVc L γ w I) x.cells v.cells.toList := by
  by_cases hx : ∃ cs, x = .agg cs
  · obtain ⟨cs, rfl⟩ := hx
    obtain ⟨us, rfl, h⟩ := h
    simpa [AV.cells, Value.cells] using h
  · have hx : ∀ cs, x ≠ .agg cs := fun cs e => hx ⟨cs, e⟩
    rw [RV1_cell hx] at h
    have e1 : x.cells = [x] := by cases x <;> first | rfl | exact absurd rfl (hx _)
    rw [e1, oneCell_cells (RVc_one h)]
    exact ⟨v, [], rfl, h, rfl⟩
theorem AV.width_cells (x : AV) : x.cells.length = x.width := by cases x <;> rfl
theorem RV1.width {L : Nat → Option Root} {x : AV} {v : Value} (h : RV1 L γ w I x v) : v.cells.size = x.width := by
  have := ((All2_iff _ _).1 h.cells).1
  rw [AV.width_cells] at this
  simpa using this
theorem cellB_cells {c : AV} (h : c.cellB = true) : ∀ cs, c ≠ .agg cs := by
  rintro cs rfl
  simp [AV.cellB, AV.leaf] at h
theorem ref1_cells {x : AV} {c : AV} {q v : Nat} (hc : c ∈ x.cells) (h : refc c q v) : ref1 x q v := by
  by_cases hx : ∃ cs, x = .agg cs
  · obtain ⟨cs, rfl⟩ := hx
    exact ⟨c, hc, h⟩
  · have hx : ∀ cs, x ≠ .agg cs := fun cs e => hx ⟨cs, e⟩
    have e1 : x.cells = [x] := by cases x <;> first | rfl | exact absurd rfl (hx _)
    rw [e1, List.mem_singleton] at hc
    subst hc
    rw [ref1_cell hx]; exact h
theorem cells_ref1 {x : AV} {q v : Nat} (h : ref1 x q v) : ∃ c ∈ x.cells, refc c q v := by
  by_cases hx : ∃ cs, x = .agg cs
  · obtain ⟨cs, rfl⟩ := hx
    exact h
  · have hx : ∀ cs, x ≠ .agg cs := fun cs e => hx ⟨cs, e⟩
    rw [ref1_cell hx] at h
    exact ⟨x, by cases x <;> first | exact absurd rfl (hx _) | simp [AV.cells], h⟩

theorem All2.drop {R : AV → Value → Prop} {cs : List AV} {us : List Value} (h : All2 R cs us) (n : Nat) : All2 R (cs.drop n) (us.drop n) := by
  obtain ⟨hl, h⟩ := (All2_iff _ _).1 h
  exact (All2_iff _ _).2 ⟨by simp [hl], fun i c u hc hu => h (n + i) c u (by simpa using hc) (by simpa using hu)⟩
theorem All2.take {R : AV → Value → Prop} {cs : List AV} {us : List Value} (h : All2 R cs us) (n : Nat) : All2 R (cs.take n) (us.take n) := by
  obtain ⟨hl, h⟩ := (All2_iff _ _).1 h
  refine (All2_iff _ _).2 ⟨by simp [hl], fun i c u hc hu => ?_⟩
  simp only [List.getElem?_take] at hc hu
  split at hc
  · rename_i hi; rw [if_pos hi] at hu; exact h i c u hc hu
  · cases hc

/-- A part of what lies in a box, loaded. -/
theorem run_partC {L : Nat → Option Root} {t : TypeId} {ti : TI} (ht : TyOk P t ti) {x : AV} {v : Value} {b of off : Nat} (hx : RV1 L γ w I x v) (hc : cellsAt w b of v.cells) {K : AV → Option β} (h : partC ti x.cells off K = some r) :
    ∃ y u, K y = some r ∧ (loadVar t ⟨b, of + off, none⟩).run P w = .ok u w ∧ RV1 L γ w I y u ∧ (∀ q v, ref1 y q v → ref1 x q v) := by
  have hl := hx.cells
  obtain ⟨hlen, hp⟩ := (All2_iff _ _).1 hl
  unfold partC at h
  cases ha : isAggT ti.tk with
  | true =>
    rw [ha] at h
    simp only [cond_true] at h
    obtain ⟨h1, h⟩ := cond_some h
    simp only [Bool.and_eq_true] at h1
    have hle : off + ti.size ≤ x.cells.length := Nat.le_of_ble_eq_true h1.1
    have hle' : off + ti.size ≤ v.cells.toList.length := by omega
    refine ⟨_, .agg ((v.cells.toList.drop off).take ti.size).toArray, h, ?_, ⟨_, rfl, (hl.drop off).take ti.size⟩, ?_⟩
    · have hn : ((v.cells.toList.drop off).take ti.size).length = ti.size := by rw [List.length_take, List.length_drop]; omega
      have hld := run_loadCells_list (P := P) w ⟨b, of + off, none⟩ ((v.cells.toList.drop off).take ti.size) (fun j u hj => by
        rw [addr_add, Nat.add_assoc]
        refine hc (off + j) u ?_
        simp only [List.getElem?_take] at hj
        split at hj
        · simpa using hj
        · cases hj)
      rw [hn] at hld
      simp only [loadVar, Sem.run_bind, ht.isAgg, ha, Result.andThen_ok, if_true, ht.size, hld, Sem.run_pure]
    · rintro q v' ⟨c, hc1, hc2⟩
      exact ref1_cells (List.mem_of_mem_drop (List.mem_of_mem_take hc1)) hc2
  | false =>
    rw [ha] at h
    simp only [cond_false] at h
    split at h
    · rename_i c hcc
      obtain ⟨h1, h⟩ := cond_some h
      have hlt : off < v.cells.toList.length := by
        have := (List.getElem?_eq_some_iff.1 hcc).1; omega
      have hu := List.getElem?_eq_getElem hlt
      have hr := hp off c _ hcc hu
      refine ⟨c, v.cells.toList[off], h, ?_, ?_, ?_⟩
      · have hcell := hc off v.cells.toList[off] (by simp)
        simp only [loadVar, Sem.run_bind, ht.isAgg, ha, Result.andThen_ok, Bool.false_eq_true, if_false, run_load, hcell]
      · rw [RV1_cell (cellB_cells h1)]; exact hr
      · intro q v' hq
        rw [ref1_cell (cellB_cells h1)] at hq
        exact ref1_cells (List.mem_of_getElem? hcc) hq
    · cases h
theorem refers_of_ref1 {x : AV} {q v : Nat} (h2 : ∀ cs, x ≠ .tup cs) (h3 : ∀ f l m, x ≠ .fn f l m) (h : refers x q v) : ref1 x q v := by
  rwa [refers_1 h2 h3] at h
theorem RV1.notTup {L : Nat → Option Root} {x : AV} {u : Value} (h : RV1 L γ w I x u) : (∀ cs, x ≠ .tup cs) ∧ ∀ f l m, x ≠ .fn f l m :=
  ⟨fun cs e => by subst e; exact h.2.elim, fun f l m e => by subst e; exact h.2.elim⟩

theorem op_load (hΓ : CtxOk Γ) (hs : Sim N S I0 w0 γ I σ a w) (hy : Young σ) (hd : ∀ t, o.dst = some t → N.ok t) {t : TypeId} {ad : Operand} (ho : o.op = .load t ad) (h : opK Γ o σ some = some e) :
    Goes Γ.P N S I0 w0 (σ.eff o.dst e) o a w := by
  have hv := RV_opd hs ad
  simp only [opK, ho] at h
  have done : ∀ (y : AV) (u : Value) (rr : List Nat) (b of : Nat), some (⟨y, [], rr⟩ : Eff) = some e → a.eval ad = .pointer (some ⟨b, of, none⟩) → (loadVar t ⟨b, of, none⟩).run Γ.P w = .ok u w → RV1 σ.L γ w I y u → (∀ q v, ref1 y q v → ∃ R, σ.L q = some R ∧ v ≤ R.ver) →
      Goes Γ.P N S I0 w0 (σ.eff o.dst e) o a w := by
    intro y u rr b of he ha hr hy' hyg
    injection he with he; subst he
    refine goes_value (u := u) (w' := w) ?_ (ok_value hs hy hd (RV_of1 hy') (fun q v hq => hyg q v (refers_of_ref1 hy'.notTup.1 hy'.notTup.2 hq)))
    simp only [execOp, ho]
    refine exec_value ?_
    simp only [Instr.loadAt, Sem.run_bind, ha, Instr.sureAddr, Sem.run_pure, Result.andThen_ok, hr]
  split at h
  · rename_i q v i off hq
    rw [hq] at hv
    obtain ⟨R, h1, h2, h3, h⟩ := rootK_some h
    obtain ⟨ti, ht, h⟩ := tyK_some h
    obtain ⟨x, hx, h⟩ := nthK_some h
    obtain ⟨hi, b, of, cap, hg, hu⟩ := hv.2 R h1 h2 h3 rfl
    have hro := hs.root q R h1 h3
    rw [hg] at hro
    have hrow := hro.2.1
    unfold RowOk at hrow
    cases hb : R.bx with
    | true =>
      rw [hb] at h hrow
      simp only [cond_true] at h
      obtain ⟨x1, xv, e1, k1, k2, k3⟩ := hrow
      have hi0 : i = 0 := by rw [e1] at hi; simpa using hi
      subst hi0
      rw [e1] at hx
      simp only [List.getElem?_cons_zero, Option.some.injEq] at hx
      subst hx
      obtain ⟨y, u, he, hr, hyu, hrf⟩ := run_partC (hΓ.ty t ti ht) k1 k3 h
      exact done y u _ _ _ he (by simpa using hu) hr hyu (fun q' v' hq' => hy.box q R x1 q' v' h1 hb (by simp [e1]) (hrf q' v' hq'))
    | false =>
      rw [hb] at h hrow
      simp only [cond_false] at h
      obtain ⟨xv, k1, k2, k3⟩ := (RIs_iff _ _ _ _).1 hrow i x hx
      obtain ⟨re, hre, h⟩ := tyK_some h
      obtain ⟨x', hs', h⟩ := fitK_some h
      obtain ⟨y, u, he, hr, hyu, _⟩ := run_part (hΓ.ty t ti ht) (hs'.ri _ _ _ k1) k3 h
      exact done y u _ _ _ he hu hr (RV1_data hyu) (fun q v hq => absurd hq (ref1_data hyu q v))
  · rename_i x off hq
    rw [hq] at hv
    obtain ⟨ti, ht, h⟩ := tyK_some h
    obtain ⟨b, of, xv, hu, _, k1, k3⟩ := hv
    obtain ⟨y, u, he, hr, hyu, _⟩ := run_part (hΓ.ty t ti ht) k1 k3 h
    exact done y u _ _ _ he hu hr (RV1_data hyu) (fun q v hq => absurd hq (ref1_data hyu q v))
  · cases h
end Go.Ai
