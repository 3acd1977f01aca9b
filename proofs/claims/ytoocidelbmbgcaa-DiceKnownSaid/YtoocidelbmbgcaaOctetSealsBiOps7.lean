/- Part of the proofs: the verified interpreter for the program's functions, or lemmas on what they compute; no condition. -/
import Derived.Test.YtoocidelbmbgcaaOctetSealsBiOps6
import Derived.Laws.Strings
namespace Go.Ai
variable {N : Lim} {S I0 I I' : Nat → Prop} {w0 w w' : World} {γ γ' : Nat → Hdr} {σ σ' : St} {a : Act} {Γ : Ctx} {o : Oper} {e : Eff} {P : Program} {β : Type} {r : β}

theorem data_ok (hs : Sim N S I0 w0 γ I σ a w) (hy : Young σ) {d : Option Nat} (hd : ∀ t, d = some t → N.ok t) {x : AV} {u : Value} {rr : List Nat} (hx : RI w I x u) : Ok N S I0 w0 (σ.eff d ⟨x, [], rr⟩) (a.put d u) w :=
  ok_value hs hy hd (RV_data hx) (fun q v hq => absurd hq (refers_data hx q v))

theorem op_nilCheck (hs : Sim N S I0 w0 γ I σ a w) (hy : Young σ) (hd : ∀ t, o.dst = some t → N.ok t) {x : Operand} (ho : o.op = .nilCheck x) (h : opK Γ o σ some = some e) :
    Goes Γ.P N S I0 w0 (σ.eff o.dst e) o a w := by
  simp only [opK, ho] at h
  obtain ⟨hp, h⟩ := cond_some h
  injection h with h; subst h
  have hv := RV_opd hs x
  obtain ⟨ad, hu⟩ := RV_ptr hp hv
  exact goes_value (u := a.eval x) (w' := w) (by simp [execOp, ho, hu]) (ok_value hs hy hd hv (refers_opd hy x))

theorem struct_field {fs : List (Nat × TypeId)} {fields : Array Field} (h : fields.toList.map (fun f => (f.offset, f.type)) = fs) {f off : Nat} {t : TypeId} (hf : fs[f]? = some (off, t)) :
    ∃ fl, fields[f]? = some fl ∧ fl.offset = off ∧ fl.type = t := by
  rw [← h] at hf
  simp only [List.getElem?_map, Array.getElem?_toList] at hf
  cases hx : fields[f]? with
  | none => rw [hx] at hf; cases hf
  | some fl =>
    rw [hx] at hf
    simp only [Option.map_some, Option.some.injEq, Prod.mk.injEq] at hf
    exact ⟨fl, rfl, hf.1, hf.2⟩

theorem op_fieldAddr (hΓ : CtxOk Γ) (hs : Sim N S I0 w0 γ I σ a w) (hy : Young σ) (hd : ∀ t, o.dst = some t → N.ok t) {s : TypeId} {x : Operand} {f : Nat} (ho : o.op = .fieldAddr s x f) (h : opK Γ o σ some = some e) :
    Goes Γ.P N S I0 w0 (σ.eff o.dst e) o a w := by
  have hv := RV_opd hs x
  have hyo := refers_opd hy x
  simp only [opK, ho] at h
  obtain ⟨i, ht, h⟩ := tyK_some h
  split at h
  case h_2 => cases h
  rename_i fs hk
  obtain ⟨off, ft, hf, h⟩ := offK_some h
  obtain ⟨ti, hft, h⟩ := tyK_some h
  obtain ⟨fields, hu, hfs⟩ := (hΓ.ty s i ht).struct hk
  obtain ⟨fl, hfl, hfo, hfty⟩ := struct_field hfs hf
  have hsz : ti.size ≠ 0 := by
    intro h0
    rw [h0] at h
    simp at h
  rw [cond_f (beq_ne hsz)] at h
  have hrun : ∀ ad : Addr, a.eval x = .pointer (some ad) → (execOp a.eval o).run Γ.P w = .ok (.value (.pointer (some (ad.add off)))) w := by
    intro ad had
    simp only [execOp, ho]
    refine exec_value ?_
    simp only [Instr.fieldAt, Sem.run_bind, run_underlying hu, Result.andThen_ok, hfl, had, Instr.sureAddr, Sem.run_pure, fieldPlace, hfty, (hΓ.ty ft ti hft).size]
    rw [if_neg hsz]
    simp [hfo]
  split at h
  · rename_i q v i' off' hq
    injection h with h; subst h
    rw [hq] at hv hyo
    obtain ⟨⟨ad, hu⟩, hv⟩ := hv
    refine goes_value (hrun _ hu) (ok_value hs hy hd ⟨⟨_, rfl⟩, fun R h1 h2 h3 h4 => ?_⟩ (fun q' v' hr => hyo q' v' hr))
    obtain ⟨hi, b, of, cap, hg, hu2⟩ := hv R h1 h2 h3 h4
    rw [hu] at hu2
    injection hu2 with hu2
    injection hu2 with hu2
    subst hu2
    refine ⟨hi, b, of, cap, hg, ?_⟩
    rw [addr_add, Nat.add_assoc _ off' off]
  · rename_i y off' hq
    injection h with h; subst h
    rw [hq] at hv
    obtain ⟨b, of, yv, hu, k1, k2, k3⟩ := hv
    refine goes_value (hrun _ hu) (ok_value hs hy hd ⟨b, of, yv, ?_, k1, k2, k3⟩ (fun _ _ hr => hr.elim))
    rw [addr_add, Nat.add_assoc]
  · cases h

theorem RV_agg {L : Nat → Option Root} {cs : List AV} {u : Value} (h : RV L γ w I (.agg cs) u) : ∃ us : List Value, u = .agg us.toArray ∧ All2 (RVc L γ w I) cs us := h
theorem RV_tup {L : Nat → Option Root} {cs : List AV} {u : Value} (h : RV L γ w I (.tup cs) u) : ∃ us : List Value, u = .tuple us.toArray ∧ All2 (RV1 L γ w I) cs us := h
theorem fitK_leaf {L : Nat → Option Root} {s : Sh} {x : AV} {u : Value} {K : AV → Option β} (h : fitK s x K = some r) (hx : RVc L γ w I x u) : RI w I x u := by
  cases x with
  | ref _ _ _ _ => cases s <;> simp [fitK, fitI, fitB, fitStr, fitS, fitA, fitT, fitO, fitX, fitF] at h
  | loc _ _ _ _ _ => cases s <;> simp [fitK, fitI, fitB, fitStr, fitS, fitA, fitT, fitO, fitX, fitF] at h
  | elm _ _ => cases s <;> simp [fitK, fitI, fitB, fitStr, fitS, fitA, fitT, fitO, fitX, fitF] at h
  | dead => cases s <;> simp [fitK, fitI, fitB, fitStr, fitS, fitA, fitT, fitO, fitX, fitF] at h
  | _ => exact hx.2

theorem run_partC' {L : Nat → Option Root} {t : TypeId} {ti : TI} (ht : TyOk P t ti) {cs : List AV} {us : List Value} {off : Nat} (hx : All2 (RVc L γ w I) cs us) {K : AV → Option β} (h : partC ti cs off K = some r) :
    ∃ y u, K y = some r ∧ (part t us.toArray off).run P w = .ok u w ∧ RV1 L γ w I y u ∧ (∀ q v, ref1 y q v → ∃ c ∈ cs, refc c q v) := by
  obtain ⟨hlen, hp⟩ := (All2_iff _ _).1 hx
  unfold partC at h
  cases ha : isAggT ti.tk with
  | true =>
    rw [cond_t ha] at h
    obtain ⟨h1, h⟩ := cond_some h
    simp only [Bool.and_eq_true] at h1
    refine ⟨_, .agg ((us.drop off).take ti.size).toArray, h, ?_, ⟨_, rfl, (hx.drop off).take ti.size⟩, ?_⟩
    · simp only [part, Sem.run_bind, ht.isAgg, ha, Result.andThen_ok, if_true, ht.size, Sem.run_pure]
      congr 2
      apply Array.ext'
      simp [List.take_drop]
    · rintro q v ⟨c, hc1, hc2⟩
      exact ⟨c, List.mem_of_mem_drop (List.mem_of_mem_take hc1), hc2⟩
  | false =>
    rw [cond_f ha] at h
    split at h
    · rename_i c hcc
      obtain ⟨h1, h⟩ := cond_some h
      have hlt : off < us.length := by
        have := (List.getElem?_eq_some_iff.1 hcc).1; omega
      refine ⟨c, us[off], h, ?_, ?_, fun q v hr => ⟨c, List.mem_of_getElem? hcc, by rwa [ref1_cell (cellB_cells h1)] at hr⟩⟩
      · simp only [part, Sem.run_bind, ht.isAgg, ha, Result.andThen_ok, Bool.false_eq_true, if_false]
        simp [List.getElem?_eq_getElem hlt]
      · rw [RV1_cell (cellB_cells h1)]; exact hp off c _ hcc (List.getElem?_eq_getElem hlt)
    · cases h

theorem op_field (hΓ : CtxOk Γ) (hs : Sim N S I0 w0 γ I σ a w) (hy : Young σ) (hd : ∀ t, o.dst = some t → N.ok t) {s : TypeId} {x : Operand} {f : Nat} (ho : o.op = .field s x f) (h : opK Γ o σ some = some e) :
    Goes Γ.P N S I0 w0 (σ.eff o.dst e) o a w := by
  have hv := RV_opd hs x
  simp only [opK, ho] at h
  obtain ⟨i, ht, h⟩ := tyK_some h
  split at h
  case h_2 => cases h
  rename_i fs cs hk hq
  have hq0 := hq
  obtain ⟨off, ft, hf, h⟩ := offK_some h
  obtain ⟨ti, hft, h⟩ := tyK_some h
  obtain ⟨fields, hu, hfs⟩ := (hΓ.ty s i ht).struct hk
  obtain ⟨fl, hfl, hfo, hfty⟩ := struct_field hfs hf
  rw [hq] at hv
  obtain ⟨us, hus, hcl⟩ := RV_agg hv
  obtain ⟨y, u, he, hr, hyu, hrf⟩ := run_partC' (hΓ.ty ft ti hft) hcl h
  injection he with he; subst he
  refine goes_value (u := u) (w' := w) ?_ (ok_value hs hy hd (RV_of1 hyu) (fun q v hq => by
    obtain ⟨c, hc1, hc2⟩ := hrf q v (refers_of_ref1 hyu.notTup.1 hyu.notTup.2 hq)
    exact refers_opd hy x q v (by rw [hq0]; exact ⟨c, hc1, hc2⟩)))
  simp only [execOp, ho]
  refine exec_value ?_
  simp only [Instr.field, Sem.run_bind, run_underlying hu, Result.andThen_ok, hfl, hus, asAgg, Sem.run_pure, hfty, hfo, hr]

theorem op_extract (hs : Sim N S I0 w0 γ I σ a w) (hy : Young σ) (hd : ∀ t, o.dst = some t → N.ok t) {x : Operand} {i : Nat} (ho : o.op = .extract x i) (h : opK Γ o σ some = some e) :
    Goes Γ.P N S I0 w0 (σ.eff o.dst e) o a w := by
  have hv := RV_opd hs x
  simp only [opK, ho] at h
  split at h
  case h_2 => cases h
  rename_i vs hq
  rw [hq] at hv
  obtain ⟨us, hus, hcl⟩ := RV_tup hv
  obtain ⟨y, hy', h⟩ := nthK_some h
  injection h with h; subst h
  obtain ⟨hlen, hp⟩ := (All2_iff _ _).1 hcl
  have hlt : i < us.length := by
    have := (List.getElem?_eq_some_iff.1 hy').1; omega
  have hyu := hp i y _ hy' (List.getElem?_eq_getElem hlt)
  refine goes_value (u := us[i]) (w' := w) ?_ (ok_value hs hy hd (RV_of1 hyu) (fun q v hr => refers_opd hy x q v (by rw [hq]; exact ⟨y, List.mem_of_getElem? hy', refers_of_ref1 hyu.notTup.1 hyu.notTup.2 hr⟩)))
  simp only [execOp, ho]
  refine exec_value ?_
  simp [Instr.extract, hus, List.getElem?_eq_getElem hlt]

theorem RV_sl {L : Nat → Option Root} {sz : Nat} {xs : List AV} {u : Value} (h : RV L γ w I (.sl sz xs) u) : RI w I (.sl sz xs) u := h.2
theorem TyOk.array {t : TypeId} {i : TI} {n : Nat} {el : TypeId} (h : TyOk P t i) (hk : i.tk = .array n el) : P.underlying t = some (.array n el) := by
  have := h.tk
  rwa [hk] at this
theorem TyOk.str {t : TypeId} {i : TI} (h : TyOk P t i) (hk : i.tk = .str) : P.underlying t = some .string := by
  have := h.tk
  rwa [hk] at this

theorem run_indexSlice {t el : TypeId} {ei : TI} (ht : P.underlying t = some (.slice el)) (he : TyOk P el ei) {b : Addr} {len cap : Nat} {k : IntKind} {n : Int} (h0 : 0 ≤ n) (h1 : n < (len : Int)) :
    (Instr.indexAt t (.slice (some b) len cap) (.int k n)).run P w = .ok (.pointer (some (b.add (n.toNat * ei.size)))) w := by
  simp only [Instr.indexAt, Sem.run_bind, asIntOf, Sem.run_pure, Result.andThen_ok, run_underlying ht]
  rw [if_pos ⟨h0, h1⟩]
  simp [he.size]
theorem run_indexArray {t el : TypeId} {ei : TI} {len : Nat} (ht : P.underlying t = some (.array len el)) (he : TyOk P el ei) {b : Addr} {k : IntKind} {n : Int} (h0 : 0 ≤ n) (h1 : n < (len : Int)) :
    (Instr.indexAt t (.pointer (some b)) (.int k n)).run P w = .ok (.pointer (some (b.add (n.toNat * ei.size)))) w := by
  simp only [Instr.indexAt, Sem.run_bind, asIntOf, Sem.run_pure, Result.andThen_ok, run_underlying ht, Instr.sureAddr]
  rw [if_pos ⟨h0, h1⟩]
  simp [he.size]

theorem op_indexAddr (hΓ : CtxOk Γ) (hs : Sim N S I0 w0 γ I σ a w) (hy : Young σ) (hd : ∀ t, o.dst = some t → N.ok t) {t : TypeId} {x ix : Operand} (ho : o.op = .indexAddr t x ix) (h : opK Γ o σ some = some e) :
    Goes Γ.P N S I0 w0 (σ.eff o.dst e) o a w := by
  have hv := RV_opd hs x
  have hyo := refers_opd hy x
  have hix := RV_opd hs ix
  simp only [opK, ho] at h
  obtain ⟨i, ht, h⟩ := tyK_some h
  have hty := hΓ.ty t i ht
  have fin : ∀ {u : Value} {x' : AV} {rr : List Nat}, some (⟨x', [], rr⟩ : Eff) = some e → (Instr.indexAt t (a.eval x) (a.eval ix)).run Γ.P w = .ok u w → RV σ.L γ w I x' u → (∀ q v, refers x' q v → ∃ R, σ.L q = some R ∧ v ≤ R.ver) → Goes Γ.P N S I0 w0 (σ.eff o.dst e) o a w := by
    intro u x' rr he hr hx' hrf
    injection he with he; subst he
    exact goes_value (u := u) (w' := w) (by simp only [execOp, ho]; exact exec_value hr) (ok_value hs hy hd hx' hrf)
  split at h
  · rename_i el sz xs k n hk hq hn
    rw [hq] at hv
    rw [hn] at hix
    have hix := RV_int hix
    obtain ⟨h0, h1, h⟩ := idxK_some h
    obtain ⟨ei, hte, h⟩ := tyK_some h
    obtain ⟨y, hyy, h⟩ := nthK_some h
    obtain ⟨y', hsame, h⟩ := fitK_some h
    obtain ⟨hw, h⟩ := cond_some h
    have hsz : sz = ei.size := Nat.eq_of_beq_eq_true hw
    obtain ⟨ad, cap, hu, hl, hrow⟩ := RV_sl hv
    rcases hrow with rfl | ⟨b, of, rfl, hb, hrow⟩
    · simp at h1; omega
    · obtain ⟨u, k1, k2, k3⟩ := (RIs_iff _ _ _ _).1 hrow _ y hyy
      refine fin h (u := .pointer (some ⟨b, of + n.toNat * ei.size, none⟩)) ?_ ⟨b, of + n.toNat * ei.size, u, rfl, hb, hsame.ri _ _ _ k1, ?_⟩ (fun _ _ hr => hr.elim)
      · rw [hu, hix, run_indexSlice (hty.slice hk) (hΓ.ty el ei hte) h0 h1, addr_add]
      · rw [← hsz]; exact k3
  · rename_i el q v p k n hk hq hn
    rw [hq] at hv hyo
    rw [hn] at hix
    have hix := RV_int hix
    obtain ⟨R, r1, r2, r3, h⟩ := rootK_some h
    obtain ⟨h0, h1, h⟩ := idxK_some h
    obtain ⟨ei, hte, h⟩ := tyK_some h
    obtain ⟨hw, h⟩ := cond_some h
    have hw : R.sz = ei.size := Nat.eq_of_beq_eq_true hw
    have hr := hv.2 R r1 r2 r3 rfl
    have hro := hs.root q R r1 r3
    cases hg : γ q with
    | none =>
      rw [hg] at hr hro
      have : partOf R.xs p = [] := by rw [hro.1]; cases p <;> simp [partOf]
      rw [this] at h1
      simp at h1; omega
    | some z =>
      obtain ⟨b, of, cap⟩ := z
      rw [hg] at hr hro
      obtain ⟨ad, c, hu, hl, hc, hz⟩ := hr
      rcases hz with hz | rfl
      · omega
      · refine fin h (u := .pointer (some ⟨b, of + offOf p * R.sz + n.toNat * ei.size, none⟩)) ?_ ⟨⟨_, rfl⟩, fun R' j1 j2 j3 j4 => ?_⟩ (fun q' v' hr' => ⟨R, by rw [← hr'.1]; exact r1, by rw [← hr'.2, r2]; exact Nat.le_refl _⟩)
        · rw [hu, hix, run_indexSlice (hty.slice hk) (hΓ.ty el ei hte) h0 h1, addr_add]
        · rw [r1] at j1
          injection j1 with j1; subst j1
          refine ⟨?_, b, of, cap, hg, ?_⟩
          · have hlt : n.toNat < (partOf R.xs p).length := by omega
            have := partOf_get (List.getElem?_eq_getElem hlt)
            exact (List.getElem?_eq_some_iff.1 this).1
          · rw [← hw]
            simp only [Nat.add_zero]
            rw [show (p.map (·.1)).getD 0 = offOf p from rfl, Nat.add_mul, Nat.add_assoc]
  · rename_i len el q v i' off k n hk hq hn
    rw [hq] at hv hyo
    rw [hn] at hix
    have hix := RV_int hix
    obtain ⟨h0, h1, h⟩ := idxK_some h
    obtain ⟨ei, hte, h⟩ := tyK_some h
    obtain ⟨⟨ad, hu⟩, hv⟩ := hv
    refine fin h (u := .pointer (some (ad.add (n.toNat * ei.size)))) ?_ ⟨⟨_, rfl⟩, fun R j1 j2 j3 j4 => ?_⟩ (fun q' v' hr' => hyo q' v' hr')
    · rw [hu, hix, run_indexArray (hty.array hk) (hΓ.ty el ei hte) h0 h1]
    · obtain ⟨hi, b, of, cap, hg, hu2⟩ := hv R j1 j2 j3 j4
      rw [hu] at hu2
      injection hu2 with hu2
      injection hu2 with hu2
      subst hu2
      exact ⟨hi, b, of, cap, hg, by rw [addr_add, Nat.add_assoc _ off]⟩
  · rename_i len el y off k n hk hq hn
    rw [hq] at hv
    rw [hn] at hix
    have hix := RV_int hix
    obtain ⟨h0, h1, h⟩ := idxK_some h
    obtain ⟨ei, hte, h⟩ := tyK_some h
    obtain ⟨b, of, yv, hu, k1, k2, k3⟩ := hv
    refine fin h (u := .pointer (some ⟨b, of + (off + n.toNat * ei.size), none⟩)) ?_ ⟨b, of, yv, rfl, k1, k2, k3⟩ (fun _ _ hr => hr.elim)
    rw [hu, hix, run_indexArray (hty.array hk) (hΓ.ty el ei hte) h0 h1, addr_add, Nat.add_assoc]
  · cases h

theorem op_index (hΓ : CtxOk Γ) (hs : Sim N S I0 w0 γ I σ a w) (hy : Young σ) (hd : ∀ t, o.dst = some t → N.ok t) {t : TypeId} {x ix : Operand} (ho : o.op = .index t x ix) (h : opK Γ o σ some = some e) :
    Goes Γ.P N S I0 w0 (σ.eff o.dst e) o a w := by
  have hv := RV_opd hs x
  have hix := RV_opd hs ix
  simp only [opK, ho] at h
  obtain ⟨i, ht, h⟩ := tyK_some h
  have hty := hΓ.ty t i ht
  split at h
  · rename_i s k n hk hq hn
    rw [hq] at hv
    rw [hn] at hix
    have hix := RV_int hix
    have hv := RV_str hv
    obtain ⟨h0, h1, h⟩ := idxK_some h
    unfold byteK at h
    split at h
    · rename_i b hb
      injection h with h; subst h
      refine goes_value (u := .int .u8 b.toNat) (w' := w) ?_ (data_ok hs hy hd rfl)
      simp only [execOp, ho]
      refine exec_value ?_
      have hsb : s[n.toNat]? = some b := by
        have hlt : n.toNat < s.size := by omega
        rw [ByteArray.getElem?_lt' s _ hlt]
        have := (Array.getElem?_eq_some_iff.1 hb).2
        rw [← this]; rfl
      simp only [Instr.index, Sem.run_bind, hv, hix, asIntOf, Sem.run_pure, Result.andThen_ok, run_underlying (hty.str hk), h0, if_true, hsb]
    · cases h
  · rename_i len el cs k n hk hq hn
    rw [hq] at hv
    rw [hn] at hix
    have hix := RV_int hix
    obtain ⟨us, hus, hcl⟩ := RV_agg hv
    obtain ⟨h0, h1, h⟩ := idxK_some h
    obtain ⟨ei, hte, h⟩ := tyK_some h
    obtain ⟨hw, h⟩ := cond_some h
    simp only [Bool.and_eq_true, Bool.not_eq_true'] at hw
    have hsz : ei.size = 1 := Nat.eq_of_beq_eq_true hw.1
    obtain ⟨c, hc, h⟩ := nthK_some h
    obtain ⟨hlen, hp⟩ := (All2_iff _ _).1 hcl
    have hlt : n.toNat < us.length := by
      have := (List.getElem?_eq_some_iff.1 hc).1; omega
    have hri := fitK_leaf h (hp _ c _ hc (List.getElem?_eq_getElem hlt))
    obtain ⟨c', hsame, h⟩ := fitK_some h
    injection h with h; subst h
    refine goes_value (u := us[n.toNat]) (w' := w) ?_ (data_ok hs hy hd (hsame.ri _ _ _ hri))
    simp only [execOp, ho]
    refine exec_value ?_
    simp only [Instr.index, Sem.run_bind, hus, hix, asIntOf, Sem.run_pure, Result.andThen_ok, run_underlying (hty.array hk)]
    rw [if_pos ⟨h0, h1⟩]
    simp only [Sem.run_bind, (hΓ.ty el ei hte).size, Result.andThen_ok, part, (hΓ.ty el ei hte).isAgg, hw.2, Bool.false_eq_true, if_false, hsz, Nat.mul_one]
    simp [List.getElem?_eq_getElem hlt]
  · cases h
end Go.Ai
