/- Part of the proofs: the verified interpreter for the program's functions, or lemmas on what they compute; no condition. -/
import Derived.Test.YtoocidelbmbgcaaOctetSealsBiLoc
namespace Go.Ai
variable {σ σ' : St} {Γ : Ctx} {o : Oper} {β : Type} {r : β}

def Inv (Γ : Ctx) (o : Oper) (σ : St) (K : Eff → Option β) (r : β) : Prop :=
  ∃ e, K e = some r ∧ ∀ σ' : St, AgreeO σ σ' o → AgreeL σ σ' e.rr → ∀ {β' : Type} (K' : Eff → Option β'), opK Γ o σ' K' = K' e


theorem inv_move {K : Eff → Option β} {x : Operand} (ho : o.op = .move x ∨ o.op = .assign x) (h : opK Γ o σ K = some r) : Inv Γ o σ K r := by
  rcases ho with ho | ho <;> simp only [opK, ho] at h <;> refine ⟨_, h, fun σ' ha hb β' K' => ?_⟩ <;> simp only [opK, ho] <;>
    rw [ha.opd (x := x) (by simp [ho, Op.operands])]
theorem inv_pick {K : Eff → Option β} {c x y : Operand} (ho : o.op = .pick c x y) (h : opK Γ o σ K = some r) : Inv Γ o σ K r := by
  simp only [opK, ho] at h
  split at h
  case h_2 => cases h
  rename_i b hb
  cases b with
  | true =>
    refine ⟨_, h, fun σ' ha _ β' K' => ?_⟩
    simp only [opK, ho]
    rw [ha.opd (x := c) (by simp [ho, Op.operands]), hb]
    simp only [br]
    rw [ha.opd (x := x) (by simp [ho, Op.operands])]
  | false =>
    refine ⟨_, h, fun σ' ha _ β' K' => ?_⟩
    simp only [opK, ho]
    rw [ha.opd (x := c) (by simp [ho, Op.operands]), hb]
    simp only [br]
    rw [ha.opd (x := y) (by simp [ho, Op.operands])]
theorem inv_alloc {K : Eff → Option β} {t : TypeId} (ho : o.op = .alloc t) (h : opK Γ o σ K = some r) : Inv Γ o σ K r := by
  simp only [opK, ho] at h
  obtain ⟨d, h, e1⟩ := dstK_inv h
  obtain ⟨i, h, e2⟩ := tyK_inv h
  refine ⟨_, h, fun σ' ha hb β' K' => ?_⟩
  simp only [opK, ho]
  rw [e1, e2, next_agree (hb d (by simp))]
theorem inv_box {K : Eff → Option β} {t : TypeId} {x : Operand} (ho : o.op = .box t x) (h : opK Γ o σ K = some r) : Inv Γ o σ K r := by
  simp only [opK, ho] at h
  obtain ⟨d, h, e1⟩ := dstK_inv h
  obtain ⟨i, h, e2⟩ := tyK_inv h
  obtain ⟨y, h, e3⟩ := cellsK_inv h
  obtain ⟨hc, h⟩ := cond_some h
  refine ⟨_, h, fun σ' ha hb β' K' => ?_⟩
  simp only [opK, ho]
  rw [e1, e2, ha.opd (x := x) (by simp [ho, Op.operands]), e3, cond_t hc, next_agree (hb d (by simp))]
theorem inv_build {K : Eff → Option β} {t : TypeId} {ps : Array (Nat × Operand)} (ho : o.op = .build t ps) (h : opK Γ o σ K = some r) : Inv Γ o σ K r := by
  have hops : ∀ p ∈ ps.toList, p.2 ∈ o.op.operands.toList := by
    intro p hp
    simp only [ho, Op.operands]
    simp
    exact ⟨p.1, by simpa using hp⟩
  simp only [opK, ho] at h
  obtain ⟨i, h, e1⟩ := tyK_inv h
  split at h
  · rename_i fs hk
    obtain ⟨xs, h, e2⟩ := buildK_inv h
    refine ⟨_, h, fun σ' ha hb β' K' => ?_⟩
    simp only [opK, ho]
    rw [e1, hk]
    simp only []
    rw [e2 σ' (fun p hp => ha.opd (hops p hp))]
  · rename_i n el hk
    obtain ⟨ei, h, e3⟩ := tyK_inv h
    obtain ⟨xs, h, e2⟩ := buildK_inv h
    refine ⟨_, h, fun σ' ha hb β' K' => ?_⟩
    simp only [opK, ho]
    rw [e1, hk]
    simp only []
    rw [e3, e2 σ' (fun p hp => ha.opd (hops p hp))]
  · cases h
theorem inv_buildSlice {K : Eff → Option β} {t : TypeId} {n : Nat} {ps : Array (Nat × Operand)} (ho : o.op = .buildSlice t n ps) (h : opK Γ o σ K = some r) : Inv Γ o σ K r := by
  have hops : ∀ p ∈ ps.toList, p.2 ∈ o.op.operands.toList := by
    intro p hp
    simp only [ho, Op.operands]
    simp
    exact ⟨p.1, by simpa using hp⟩
  simp only [opK, ho] at h
  obtain ⟨d, h, e0⟩ := dstK_inv h
  obtain ⟨i, h, e1⟩ := tyK_inv h
  split at h
  case h_2 => cases h
  rename_i el hk
  obtain ⟨ei, h, e3⟩ := tyK_inv h
  obtain ⟨xs, rs, h, _, e2⟩ := fillK_inv h
  obtain ⟨hc, h⟩ := cond_some h
  refine ⟨_, h, fun σ' ha hb β' K' => ?_⟩
  have hrs : AgreeL σ σ' rs := fun q hq => hb q (by simp [hq])
  simp only [opK, ho]
  rw [e0, e1, hk]
  simp only []
  rw [e3, e2 σ' (fun p hp => ha.opd (hops p hp)) hrs, cond_t hc, freeze_agree hrs, next_agree (hb d (by simp))]
theorem inv_load {K : Eff → Option β} {t : TypeId} {x : Operand} (ho : o.op = .load t x) (h : opK Γ o σ K = some r) : Inv Γ o σ K r := by
  simp only [opK, ho] at h
  split at h
  · rename_i q v i off hx
    obtain ⟨R, h, e1⟩ := rootK_inv h
    obtain ⟨ti, h, e2⟩ := tyK_inv h
    obtain ⟨c, h, e3⟩ := nthK_inv h
    cases hb : R.bx with
    | true =>
      rw [cond_t hb] at h
      obtain ⟨y, h, e4⟩ := partC_inv h
      refine ⟨_, h, fun σ' ha hbb β' K' => ?_⟩
      simp only [opK, ho]
      rw [ha.opd (x := x) (by simp [ho, Op.operands]), hx]
      simp only []
      rw [e1 σ' (hbb q (by simp)), e2, e3, cond_t hb, e4]
    | false =>
      rw [cond_f hb] at h
      obtain ⟨re, h, e5⟩ := tyK_inv h
      obtain ⟨c', h, e6⟩ := fitK_inv h
      obtain ⟨y, h, e4⟩ := partK_inv h
      refine ⟨_, h, fun σ' ha hbb β' K' => ?_⟩
      simp only [opK, ho]
      rw [ha.opd (x := x) (by simp [ho, Op.operands]), hx]
      simp only []
      rw [e1 σ' (hbb q (by simp)), e2, e3, cond_f hb, e5, e6, e4]
  · rename_i c off hx
    obtain ⟨ti, h, e2⟩ := tyK_inv h
    obtain ⟨y, h, e4⟩ := partK_inv h
    refine ⟨_, h, fun σ' ha hbb β' K' => ?_⟩
    simp only [opK, ho]
    rw [ha.opd (x := x) (by simp [ho, Op.operands]), hx]
    simp only []
    rw [e2, e4]
  · cases h
theorem inv_store {K : Eff → Option β} {t : TypeId} {a x : Operand} (ho : o.op = .store t a x) (h : opK Γ o σ K = some r) : Inv Γ o σ K r := by
  simp only [opK, ho] at h
  split at h
  case h_2 => cases h
  rename_i q v i off hx
  obtain ⟨R, hR, h, e1⟩ := liveK_inv h
  obtain ⟨ti, h, e2⟩ := tyK_inv h
  cases hbx : R.bx with
  | true =>
    rw [cond_t hbx] at h
    obtain ⟨ys, h, e3⟩ := cellsK_inv h
    obtain ⟨c, h, e4⟩ := nthK_inv h
    obtain ⟨hc, h⟩ := cond_some h
    refine ⟨_, h, fun σ' ha hbb β' K' => ?_⟩
    simp only [opK, ho]
    rw [ha.opd (x := a) (by simp [ho, Op.operands]), hx]
    simp only []
    rw [e1 σ' (hbb q (by simp)), e2, cond_t hbx, ha.opd (x := x) (by simp [ho, Op.operands]), e3, e4, cond_t hc]
  | false =>
  rw [cond_f hbx] at h
  obtain ⟨re, h, e3⟩ := tyK_inv h
  obtain ⟨y, rs, h, e4⟩ := dataK_inv h
  obtain ⟨hc, h⟩ := cond_some h
  cases hb : (Nat.beq off 0 && Nat.beq y.width R.sz && (isAggT re.tk || Nat.beq R.sz 1)) with
  | true =>
    rw [cond_t hb] at h
    refine ⟨_, h, fun σ' ha hbb β' K' => ?_⟩
    have hrs : AgreeL σ σ' rs := fun q hq => hbb q (by simp [hq])
    simp only [opK, ho]
    rw [ha.opd (x := a) (by simp [ho, Op.operands]), hx]
    simp only []
    rw [e1 σ' (hbb q (by simp)), e2, cond_f hbx, e3, ha.opd (x := x) (by simp [ho, Op.operands]), e4 σ' hrs, cond_t hc, cond_t hb, freeze_agree hrs]
  | false =>
    rw [cond_f hb] at h
    obtain ⟨c, h, e5⟩ := nthK_inv h
    obtain ⟨c', h, e6⟩ := fitK_inv h
    obtain ⟨hc2, h⟩ := cond_some h
    refine ⟨_, h, fun σ' ha hbb β' K' => ?_⟩
    have hrs : AgreeL σ σ' rs := fun q hq => hbb q (by simp [hq])
    simp only [opK, ho]
    rw [ha.opd (x := a) (by simp [ho, Op.operands]), hx]
    simp only []
    rw [e1 σ' (hbb q (by simp)), e2, cond_f hbx, e3, ha.opd (x := x) (by simp [ho, Op.operands]), e4 σ' hrs, cond_t hc, cond_f hb, e5, e6, cond_t hc2, freeze_agree hrs]
theorem inv_nilCheck {K : Eff → Option β} {x : Operand} (ho : o.op = .nilCheck x) (h : opK Γ o σ K = some r) : Inv Γ o σ K r := by
  simp only [opK, ho] at h
  obtain ⟨hc, h⟩ := cond_some h
  refine ⟨_, h, fun σ' ha _ β' K' => ?_⟩
  simp only [opK, ho]
  rw [ha.opd (x := x) (by simp [ho, Op.operands]), cond_t hc]
theorem inv_binOp {K : Eff → Option β} {op : BinOp} {t t' : TypeId} {x y : Operand} (ho : o.op = .binOp op t x y t') (h : opK Γ o σ K = some r) : Inv Γ o σ K r := by
  simp only [opK, ho] at h
  obtain ⟨hp, h⟩ := preK_some h
  obtain ⟨v, h, e1⟩ := valK_inv h
  refine ⟨_, h, fun σ' ha _ β' K' => ?_⟩
  simp only [opK, ho]
  rw [ha.opd (x := x) (by simp [ho, Op.operands]), ha.opd (x := y) (by simp [ho, Op.operands]), e1, hp]
  rfl
theorem inv_unOp {K : Eff → Option β} {op : UnOp} {t : TypeId} {x : Operand} (ho : o.op = .unOp op t x) (h : opK Γ o σ K = some r) : Inv Γ o σ K r := by
  simp only [opK, ho] at h
  obtain ⟨v, h, e1⟩ := valK_inv h
  refine ⟨_, h, fun σ' ha _ β' K' => ?_⟩
  simp only [opK, ho]
  rw [ha.opd (x := x) (by simp [ho, Op.operands]), e1]
theorem inv_convert {K : Eff → Option β} {src dst : TypeId} {x : Operand} (ho : o.op = .convert src dst x) (h : opK Γ o σ K = some r) : Inv Γ o σ K r := by
  simp only [opK, ho] at h
  obtain ⟨si, h, e1⟩ := tyK_inv h
  obtain ⟨di, h, e2⟩ := tyK_inv h
  split at h
  · rename_i k k' n hk hx
    refine ⟨_, h, fun σ' ha hb β' K' => ?_⟩
    simp only [opK, ho]
    rw [e1, e2, ha.opd (x := x) (by simp [ho, Op.operands]), hk, hx]
  · rename_i s hk hx
    refine ⟨_, h, fun σ' ha hb β' K' => ?_⟩
    simp only [opK, ho]
    rw [e1, e2, ha.opd (x := x) (by simp [ho, Op.operands]), hk, hx]
  · rename_i el s hk hx
    obtain ⟨d, h, e3⟩ := dstK_inv h
    obtain ⟨ei, h, e4⟩ := tyK_inv h
    split at h
    case h_2 => cases h
    rename_i hek
    obtain ⟨hc, h⟩ := cond_some h
    refine ⟨_, h, fun σ' ha hb β' K' => ?_⟩
    simp only [opK, ho]
    rw [e1, e2, ha.opd (x := x) (by simp [ho, Op.operands]), hk, hx]
    simp only []
    rw [e3, e4, hek]
    simp only []
    rw [cond_t hc, next_agree (hb d (by simp))]
  · rename_i y hk hne
    split at h
    case h_2 => cases h
    rename_i el hsk
    obtain ⟨ei, h, e4⟩ := tyK_inv h
    split at h
    case h_2 => cases h
    rename_i hek
    obtain ⟨y, rs, h, e5⟩ := dataK_inv h
    obtain ⟨xs, h, e6⟩ := fitS_inv h
    obtain ⟨s, h, e7⟩ := bytesK_inv h
    refine ⟨_, h, fun σ' ha hb β' K' => ?_⟩
    simp only [opK, ho]
    rw [e1, e2, ha.opd (x := x) (by simp [ho, Op.operands]), hk]
    cases hx : opd σ x <;> rw [hx] at hne e5 <;> first | exact absurd rfl (hne _) | skip
    all_goals
      simp only []
      rw [hsk]
      simp only []
      rw [e4, hek]
      simp only []
      rw [e5 σ' hb, e6, e7]
  · cases h
end Go.Ai
