/- Part of the proofs: the verified interpreter for the program's functions, or lemmas on what they compute; no condition. -/
import Derived.Test.YtoocidelbmbgcaaOctetSealsBiLoc2
namespace Go.Ai
variable {σ σ' : St} {Γ : Ctx} {o : Oper} {β : Type} {r : β}

theorem inv_makeSlice {K : Eff → Option β} {t : TypeId} {l c : Operand} (ho : o.op = .makeSlice t l c) (h : opK Γ o σ K = some r) : Inv Γ o σ K r := by
  simp only [opK, ho] at h
  obtain ⟨d, h, e1⟩ := dstK_inv h
  obtain ⟨i, h, e2⟩ := tyK_inv h
  split at h
  case h_2 => cases h
  rename_i el k n k' m hk hl hc
  obtain ⟨ei, h, e3⟩ := tyK_inv h
  obtain ⟨h, e4⟩ := okK_inv h
  refine ⟨_, h, fun σ' ha hb β' K' => ?_⟩
  simp only [opK, ho]
  rw [e1, e2, ha.opd (x := l) (by simp [ho, Op.operands]), ha.opd (x := c) (by simp [ho, Op.operands]), hk, hl, hc]
  simp only []
  rw [e3, e4, next_agree (hb d (by simp))]
theorem inv_slice {K : Eff → Option β} {t : TypeId} {x : Operand} {lo hi mx : Option Operand} (ho : o.op = .slice t x lo hi mx) (h : opK Γ o σ K = some r) : Inv Γ o σ K r := by
  have hlo : ∀ y, lo = some y → y ∈ o.op.operands.toList := by intro y e; subst e; simp [ho, Op.operands]
  have hhi : ∀ y, hi = some y → y ∈ o.op.operands.toList := by intro y e; subst e; simp [ho, Op.operands]
  have hmx : ∀ y, mx = some y → y ∈ o.op.operands.toList := by intro y e; subst e; simp [ho, Op.operands]
  have hxm : x ∈ o.op.operands.toList := by simp [ho, Op.operands]
  simp only [opK, ho] at h
  obtain ⟨i, h, e1⟩ := tyK_inv h
  obtain ⟨hc, h⟩ := cond_some h
  split at h
  · rename_i s hk hx
    obtain ⟨hc2, h⟩ := cond_some h
    obtain ⟨l, h, e2⟩ := boundK_inv h
    obtain ⟨u, h, e3⟩ := boundK_inv h
    obtain ⟨h, e4⟩ := okK_inv h
    refine ⟨_, h, fun σ' ha hb β' K' => ?_⟩
    simp only [opK, ho]
    rw [e1, cond_t hc, ha.opd hxm, hk, hx]
    simp only []
    rw [cond_t hc2, e2 σ' (fun y hy => ha.opd (hlo y hy)), e3 σ' (fun y hy => ha.opd (hhi y hy)), e4]
  · rename_i el sz xs hk hx
    obtain ⟨l, h, e2⟩ := boundK_inv h
    obtain ⟨u, h, e3⟩ := boundK_inv h
    obtain ⟨m, h, e5⟩ := boundK_inv h
    obtain ⟨ei, h, e6⟩ := tyK_inv h
    obtain ⟨hc2, h⟩ := cond_some h
    obtain ⟨h, e4⟩ := okK_inv h
    refine ⟨_, h, fun σ' ha hb β' K' => ?_⟩
    simp only [opK, ho]
    rw [e1, cond_t hc, ha.opd hxm, hk, hx]
    simp only []
    rw [e2 σ' (fun y hy => ha.opd (hlo y hy)), e3 σ' (fun y hy => ha.opd (hhi y hy)), e5 σ' (fun y hy => ha.opd (hmx y hy)), e6, cond_t hc2, e4]
  · rename_i el q v p hk hx
    obtain ⟨R, h, e7⟩ := rootK_inv h
    obtain ⟨l, h, e2⟩ := boundK_inv h
    obtain ⟨u, h, e3⟩ := boundK_inv h
    obtain ⟨m, h, e5⟩ := boundK_inv h
    obtain ⟨ei, h, e6⟩ := tyK_inv h
    obtain ⟨hc2, h⟩ := cond_some h
    obtain ⟨h, e4⟩ := okK_inv h
    refine ⟨_, h, fun σ' ha hb β' K' => ?_⟩
    simp only [opK, ho]
    rw [e1, cond_t hc, ha.opd hxm, hk, hx]
    simp only []
    rw [e7 σ' (hb q (by simp)), e2 σ' (fun y hy => ha.opd (hlo y hy)), e3 σ' (fun y hy => ha.opd (hhi y hy)), e5 σ' (fun y hy => ha.opd (hmx y hy)), e6, cond_t hc2, e4]
  · cases h
theorem inv_fieldAddr {K : Eff → Option β} {s : TypeId} {x : Operand} {f : Nat} (ho : o.op = .fieldAddr s x f) (h : opK Γ o σ K = some r) : Inv Γ o σ K r := by
  have hxm : x ∈ o.op.operands.toList := by simp [ho, Op.operands]
  simp only [opK, ho] at h
  obtain ⟨i, h, e1⟩ := tyK_inv h
  split at h
  case h_2 => cases h
  rename_i fs hk
  obtain ⟨off, t, h, e2⟩ := offK_inv h
  obtain ⟨ti, h, e3⟩ := tyK_inv h
  cases hb : Nat.beq ti.size 0 with
  | true => rw [cond_t hb] at h; cases h
  | false =>
    rw [cond_f hb] at h
    split at h
    · rename_i q v i' off' hx
      refine ⟨_, h, fun σ' ha hbb β' K' => ?_⟩
      simp only [opK, ho]
      rw [e1, hk]
      simp only []
      rw [e2, e3, cond_f hb, ha.opd hxm, hx]
    · rename_i c off' hx
      refine ⟨_, h, fun σ' ha hbb β' K' => ?_⟩
      simp only [opK, ho]
      rw [e1, hk]
      simp only []
      rw [e2, e3, cond_f hb, ha.opd hxm, hx]
    · cases h
theorem inv_field {K : Eff → Option β} {s : TypeId} {x : Operand} {f : Nat} (ho : o.op = .field s x f) (h : opK Γ o σ K = some r) : Inv Γ o σ K r := by
  have hxm : x ∈ o.op.operands.toList := by simp [ho, Op.operands]
  simp only [opK, ho] at h
  obtain ⟨i, h, e1⟩ := tyK_inv h
  split at h
  case h_2 => cases h
  rename_i fs cs hk hx
  obtain ⟨off, t, h, e2⟩ := offK_inv h
  obtain ⟨ti, h, e3⟩ := tyK_inv h
  obtain ⟨y, h, e4⟩ := partC_inv h
  refine ⟨_, h, fun σ' ha hbb β' K' => ?_⟩
  simp only [opK, ho]
  rw [e1, ha.opd hxm, hk, hx]
  simp only []
  rw [e2, e3, e4]
theorem inv_indexAddr {K : Eff → Option β} {t : TypeId} {x ix : Operand} (ho : o.op = .indexAddr t x ix) (h : opK Γ o σ K = some r) : Inv Γ o σ K r := by
  have hxm : x ∈ o.op.operands.toList := by simp [ho, Op.operands]
  have him : ix ∈ o.op.operands.toList := by simp [ho, Op.operands]
  simp only [opK, ho] at h
  obtain ⟨i, h, e1⟩ := tyK_inv h
  split at h
  · rename_i el sz xs k n hk hx hn
    obtain ⟨h, e2⟩ := idxK_inv h
    obtain ⟨ei, h, e3⟩ := tyK_inv h
    obtain ⟨y, h, e4⟩ := nthK_inv h
    obtain ⟨y', h, e5⟩ := fitK_inv h
    obtain ⟨hc, h⟩ := cond_some h
    refine ⟨_, h, fun σ' ha hbb β' K' => ?_⟩
    simp only [opK, ho]
    rw [e1, ha.opd hxm, ha.opd him, hk, hx, hn]
    simp only []
    rw [e2, e3, e4, e5, cond_t hc]
  · rename_i el q v p k n hk hx hn
    obtain ⟨R, h, e6⟩ := rootK_inv h
    obtain ⟨h, e2⟩ := idxK_inv h
    obtain ⟨ei, h, e3⟩ := tyK_inv h
    obtain ⟨hc, h⟩ := cond_some h
    refine ⟨_, h, fun σ' ha hbb β' K' => ?_⟩
    simp only [opK, ho]
    rw [e1, ha.opd hxm, ha.opd him, hk, hx, hn]
    simp only []
    rw [e6 σ' (hbb q (by simp)), e2, e3, cond_t hc]
  · rename_i len el q v j off k n hk hx hn
    obtain ⟨h, e2⟩ := idxK_inv h
    obtain ⟨ei, h, e3⟩ := tyK_inv h
    refine ⟨_, h, fun σ' ha hbb β' K' => ?_⟩
    simp only [opK, ho]
    rw [e1, ha.opd hxm, ha.opd him, hk, hx, hn]
    simp only []
    rw [e2, e3]
  · rename_i len el c off k n hk hx hn
    obtain ⟨h, e2⟩ := idxK_inv h
    obtain ⟨ei, h, e3⟩ := tyK_inv h
    refine ⟨_, h, fun σ' ha hbb β' K' => ?_⟩
    simp only [opK, ho]
    rw [e1, ha.opd hxm, ha.opd him, hk, hx, hn]
    simp only []
    rw [e2, e3]
  · cases h
theorem inv_index {K : Eff → Option β} {t : TypeId} {x ix : Operand} (ho : o.op = .index t x ix) (h : opK Γ o σ K = some r) : Inv Γ o σ K r := by
  have hxm : x ∈ o.op.operands.toList := by simp [ho, Op.operands]
  have him : ix ∈ o.op.operands.toList := by simp [ho, Op.operands]
  simp only [opK, ho] at h
  obtain ⟨i, h, e1⟩ := tyK_inv h
  split at h
  · rename_i s k n hk hx hn
    obtain ⟨h, e2⟩ := idxK_inv h
    obtain ⟨b, h, e3⟩ := byteK_inv h
    refine ⟨_, h, fun σ' ha hbb β' K' => ?_⟩
    simp only [opK, ho]
    rw [e1, ha.opd hxm, ha.opd him, hk, hx, hn]
    simp only []
    rw [e2, e3]
  · rename_i len el cs k n hk hx hn
    obtain ⟨h, e2⟩ := idxK_inv h
    obtain ⟨ei, h, e3⟩ := tyK_inv h
    obtain ⟨hc, h⟩ := cond_some h
    obtain ⟨y, h, e4⟩ := nthK_inv h
    obtain ⟨y', h, e5⟩ := fitK_inv h
    refine ⟨_, h, fun σ' ha hbb β' K' => ?_⟩
    simp only [opK, ho]
    rw [e1, ha.opd hxm, ha.opd him, hk, hx, hn]
    simp only []
    rw [e2, e3, cond_t hc, e4, e5]
  · cases h
theorem inv_extract {K : Eff → Option β} {x : Operand} {i : Nat} (ho : o.op = .extract x i) (h : opK Γ o σ K = some r) : Inv Γ o σ K r := by
  have hxm : x ∈ o.op.operands.toList := by simp [ho, Op.operands]
  simp only [opK, ho] at h
  split at h
  case h_2 => cases h
  rename_i vs hx
  obtain ⟨v, h, e1⟩ := nthK_inv h
  refine ⟨_, h, fun σ' ha hbb β' K' => ?_⟩
  simp only [opK, ho]
  rw [ha.opd hxm, hx]
  simp only []
  rw [e1]

theorem args_agree {c : Call} (ho : o.op = .call c) (ha : AgreeO σ σ' o) : c.args.toList.map (opd σ') = c.args.toList.map (opd σ) := by
  refine List.map_congr_left fun x hx => ha.opd ?_
  simp [ho, Op.operands, Call.operands]
  exact .inr (by simpa using hx)

theorem inv_makeFunc {K : Eff → Option β} {fn : Fn} {first captured : Array Operand} (ho : o.op = .makeFunc fn first captured) (h : opK Γ o σ K = some r) : Inv Γ o σ K r := by
  have h1 : ∀ σ', AgreeO σ σ' o → first.toList.map (opd σ') = first.toList.map (opd σ) := fun σ' ha => List.map_congr_left fun x hx => ha.opd (by
    simp only [ho, Op.operands, Array.toList_append, List.mem_append]
    exact .inl hx)
  have h2 : ∀ σ', AgreeO σ σ' o → captured.toList.map (opd σ') = captured.toList.map (opd σ) := fun σ' ha => List.map_congr_left fun x hx => ha.opd (by
    simp only [ho, Op.operands, Array.toList_append, List.mem_append]
    exact .inr hx)
  simp only [opK, ho] at h
  split at h
  case h_2 => cases h
  obtain ⟨hc, h⟩ := cond_some h
  refine ⟨_, h, fun σ' ha hb β' K' => ?_⟩
  simp only [opK, ho]
  rw [h1 σ' ha, h2 σ' ha, cond_t hc]

theorem inv_callFn {K : Eff → Option β} {c : Call} {g : Operand} (ho : o.op = .call c) (hc : c.callee = .value g) (h : opK Γ o σ K = some r) : Inv Γ o σ K r := by
  have hgm : g ∈ o.op.operands.toList := by
    simp [ho, Op.operands, Call.operands, hc]
  simp only [opK, ho, hc] at h
  split at h
  case h_2 => cases h
  rename_i f l m hg
  split at h
  case h_2 => cases h
  rename_i con hcon
  obtain ⟨args, rs, us, h, e1⟩ := closeL_inv _ h
  obtain ⟨hcc, h⟩ := cond_some h
  obtain ⟨res, outs, h, e2⟩ := conG_inv h
  obtain ⟨res', h, e3⟩ := fitK_inv h
  obtain ⟨ups, h, e4⟩ := outsK_inv _ h
  obtain ⟨v, ups', h, e5⟩ := openK_inv _ h
  have hown : (con.res.owns && o.dst.isNone) = false := by
    cases hk : (con.res.owns && o.dst.isNone) with
    | false => rfl
    | true => rw [hk] at h; cases h
  rw [hown, cond_false] at h
  cases hfl : (flatAV res' && outs.all flatAV) with
  | true =>
    rw [hfl, cond_true] at h
    obtain ⟨ll, h, e6⟩ := callEnd_inv h
    refine ⟨_, h, fun σ' ha hb β' K' => ?_⟩
    have b1 : AgreeL σ σ' (rs ++ us) := fun q hq => hb q (by simp only [List.mem_append] at hq ⊢; exact .inl (.inl hq))
    have b2 : AgreeL σ σ' (ups'.map (·.1)) := fun q hq => hb q (by simp only [List.mem_append]; exact .inl (.inr hq))
    have b3 : AgreeL σ σ' (ups.map (·.1)) := fun q hq => hb q (by simp only [List.mem_append]; exact .inr hq)
    simp only [opK, ho, hc]
    rw [ha.opd hgm, hg]
    simp only [hcon]
    rw [args_agree ho ha, e1 σ' b1, cond_t hcc, e2, e3, e4 σ' b3, e5 σ'.next (fun q hq => next_agree (b2 q hq)), hown, cond_false, hfl, cond_true, e6 σ' (by simpa using b1.right)]
  | false =>
    rw [hfl, cond_false] at h
    obtain ⟨ll, h, e6⟩ := callEnd_inv h
    refine ⟨_, h, fun σ' ha hb β' K' => ?_⟩
    have b1 : AgreeL σ σ' (rs ++ us) := fun q hq => hb q (by simp only [List.mem_append] at hq ⊢; exact .inl (.inl hq))
    have b2 : AgreeL σ σ' (ups'.map (·.1)) := fun q hq => hb q (by simp only [List.mem_append]; exact .inl (.inr hq))
    have b3 : AgreeL σ σ' (ups.map (·.1)) := fun q hq => hb q (by simp only [List.mem_append]; exact .inr hq)
    simp only [opK, ho, hc]
    rw [ha.opd hgm, hg]
    simp only [hcon]
    rw [args_agree ho ha, e1 σ' b1, cond_t hcc, e2, e3, e4 σ' b3, e5 σ'.next (fun q hq => next_agree (b2 q hq)), hown, cond_false, hfl, cond_false, e6 σ' b1]

theorem inv_callB {K : Eff → Option β} {c : Call} {b : Builtin} (ho : o.op = .call c) (hc : c.callee = .builtin b) (h : opK Γ o σ K = some r) : Inv Γ o σ K r := by
  simp only [opK, ho, hc] at h
  split at h
  · rename_i x hx
    split at h
    case h_2 => cases h
    rename_i t ht
    obtain ⟨i, h, e1⟩ := tyK_inv h
    cases hk : i.tk with
    | str =>
      rw [hk] at h
      cases x with
      | str s =>
        refine ⟨_, h, fun σ' ha hb β' K' => ?_⟩
        simp only [opK, ho, hc]
        rw [args_agree ho ha, hx]
        simp only []
        rw [ht]
        simp only []
        rw [e1, hk]
      | _ => cases h
    | slice el =>
      rw [hk] at h
      simp only [] at h
      obtain ⟨y, rs, h, e2⟩ := dataK_inv h
      obtain ⟨n, h, e3⟩ := lenK_inv h
      refine ⟨_, h, fun σ' ha hb β' K' => ?_⟩
      simp only [opK, ho, hc]
      rw [args_agree ho ha, hx]
      simp only []
      rw [ht]
      simp only []
      rw [e1, hk]
      simp only []
      rw [e2 σ' hb, e3]
    | _ => rw [hk] at h; cases h
  · rename_i k x k' y hx
    split at h
    case isFalse => cases h
    rename_i hkk
    refine ⟨_, h, fun σ' ha hb β' K' => ?_⟩
    simp only [opK, ho, hc]
    rw [args_agree ho ha, hx]
    simp only []
    rw [if_pos hkk]
  · rename_i k x k' y hx
    split at h
    case isFalse => cases h
    rename_i hkk
    refine ⟨_, h, fun σ' ha hb β' K' => ?_⟩
    simp only [opK, ho, hc]
    rw [args_agree ho ha, hx]
    simp only []
    rw [if_pos hkk]
  · rename_i s x hx
    obtain ⟨d, h, e1⟩ := dstK_inv h
    split at h
    case h_2 => cases h
    rename_i t u ht
    obtain ⟨i, h, e2⟩ := tyK_inv h
    obtain ⟨iu, h, e3⟩ := tyK_inv h
    obtain ⟨hr, h⟩ := cond_some h
    split at h
    case h_2 => cases h
    rename_i el hk
    obtain ⟨ei, h, e4⟩ := tyK_inv h
    obtain ⟨ys, rs, h, e5⟩ := srcK_inv h
    obtain ⟨hc2, h⟩ := cond_some h
    cases s with
    | nils =>
      simp only [] at h
      obtain ⟨h, e6⟩ := okK_inv h
      refine ⟨_, h, fun σ' ha hb β' K' => ?_⟩
      simp only [opK, ho, hc]
      rw [args_agree ho ha, hx]
      simp only []
      rw [e1, ht]
      simp only []
      rw [e2, e3, cond_t hr, hk]
      simp only []
      rw [e4, e5 σ' (fun q hq => hb q (by simp [hq])), cond_t hc2, e6, next_agree (hb d (by simp))]
    | ref q v pp p =>
      cases pp with
      | cons _ _ => simp only [] at h; cases h
      | nil =>
        simp only [] at h
        obtain ⟨R, hR, h, e6⟩ := liveK_inv h
        obtain ⟨hc3, h⟩ := cond_some h
        obtain ⟨h, e7⟩ := okK_inv h
        refine ⟨_, h, fun σ' ha hb β' K' => ?_⟩
        simp only [opK, ho, hc]
        rw [args_agree ho ha, hx]
        simp only []
        rw [e1, ht]
        simp only []
        rw [e2, e3, cond_t hr, hk]
        simp only []
        rw [e4, e5 σ' (fun q hq => hb q (by simp [hq])), cond_t hc2, e6 σ' (hb q (by simp)), cond_t hc3, e7, next_agree (hb d (by simp))]
    | _ => simp only [] at h; cases h
  · cases h

theorem opK_inv {K : Eff → Option β} (h : opK Γ o σ K = some r) : Inv Γ o σ K r := by
  cases ho : o.op with
  | move x => exact inv_move (.inl ho) h
  | assign x => exact inv_move (.inr ho) h
  | pick c x y => exact inv_pick ho h
  | alloc t => exact inv_alloc ho h
  | box t x => exact inv_box ho h
  | build t ps => exact inv_build ho h
  | buildSlice t n ps => exact inv_buildSlice ho h
  | load t x => exact inv_load ho h
  | store t a x => exact inv_store ho h
  | nilCheck x => exact inv_nilCheck ho h
  | binOp op t x y t' => exact inv_binOp ho h
  | unOp op t x => exact inv_unOp ho h
  | convert s d x => exact inv_convert ho h
  | makeSlice t l c => exact inv_makeSlice ho h
  | slice t x lo hi mx => exact inv_slice ho h
  | fieldAddr s x f => exact inv_fieldAddr ho h
  | field s x f => exact inv_field ho h
  | indexAddr t x i => exact inv_indexAddr ho h
  | index t x i => exact inv_index ho h
  | extract x i => exact inv_extract ho h
  | makeFunc fn a b => exact inv_makeFunc ho h
  | call c =>
    cases hc : c.callee with
    | value f => exact inv_callFn ho hc h
    | builtin b => exact inv_callB ho hc h
    | invoke x m => simp [opK, ho, hc] at h
  | _ => simp [opK, ho] at h
end Go.Ai
