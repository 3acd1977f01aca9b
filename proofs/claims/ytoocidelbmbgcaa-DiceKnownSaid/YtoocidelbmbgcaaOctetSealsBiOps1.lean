/- Part of the proofs: the verified interpreter for the program's functions, or lemmas on what they compute; no condition. -/
import Derived.Test.YtoocidelbmbgcaaOctetSealsBiOps
namespace Go.Ai
variable {N : Lim} {S I0 I I' : Nat → Prop} {w0 w w' : World} {γ γ' : Nat → Hdr} {σ σ' : St} {a : Act} {Γ : Ctx} {o : Oper} {e : Eff}

theorem exec_value {P : Program} {s : Sem Value} {u : Value} (h : s.run P w = .ok u w') : (do pure (.value (← s)) : Sem Next).run P w = .ok (.value u) w' := by
  rw [Sem.run_bind, h]; rfl
theorem exec_unit {P : Program} {s : Sem Unit} (h : s.run P w = .ok () w') : (do s; pure .skip : Sem Next).run P w = .ok .skip w' := by
  rw [Sem.run_bind, h]; rfl

theorem op_move (hs : Sim N S I0 w0 γ I σ a w) (hy : Young σ) (hd : ∀ t, o.dst = some t → N.ok t) {x : Operand} (ho : o.op = .move x ∨ o.op = .assign x) :
    Goes Γ.P N S I0 w0 (σ.eff o.dst ⟨opd σ x, [], []⟩) o a w := by
  refine goes_value (u := a.eval x) (w' := w) ?_ (ok_value hs hy hd (RV_opd hs x) (refers_opd hy x))
  rcases ho with ho | ho <;> simp [execOp, ho]

theorem RV_bool {L : Nat → Option Root} {b : Bool} {u : Value} (h : RV L γ w I (.bool b) u) : u = .bool b := h.2
theorem RV_int {L : Nat → Option Root} {k : IntKind} {n : Int} {u : Value} (h : RV L γ w I (.int k n) u) : u = .int k n := h.2
theorem RV_str {L : Nat → Option Root} {s : ByteArray} {u : Value} (h : RV L γ w I (.str s) u) : u = .string s := h.2

theorem op_pick (hs : Sim N S I0 w0 γ I σ a w) (hy : Young σ) (hd : ∀ t, o.dst = some t → N.ok t) {c x y : Operand} {b : Bool} (ho : o.op = .pick c x y) (hc : opd σ c = .bool b) :
    Goes Γ.P N S I0 w0 (σ.eff o.dst ⟨if b then opd σ x else opd σ y, [], []⟩) o a w := by
  have h1 := RV_opd hs c
  rw [hc] at h1
  have h1 := RV_bool h1
  cases b
  · exact goes_value (u := a.eval y) (w' := w) (by simp [execOp, ho, h1, asBool]) (ok_value hs hy hd (RV_opd hs y) (refers_opd hy y))
  · exact goes_value (u := a.eval x) (w' := w) (by simp [execOp, ho, h1, asBool]) (ok_value hs hy hd (RV_opd hs x) (refers_opd hy x))

/-! ### Arithmetic -/
theorem run_binI {P : Program} {op : BinOp} {k : IntKind} {x y : Int} {v : AV} (h : binI real op k x y = some v) (t : TypeId) : ∃ u, (binOp op t (.int k x) (.int k y)).run P w = .ok u w ∧ ∀ w' I, RI w' I v u := by
  unfold binI at h
  split at h
  case h_1 | h_2 | h_3 => injection h with h; subst h; exact ⟨_, by simp [binOp, Op.intArith, real], fun _ _ => rfl⟩
  case h_4 | h_5 =>
    obtain ⟨hy, h⟩ := okK_some h
    injection h with h; subst h; exact ⟨_, by simp [binOp, Op.intDiv, hy, real], fun _ _ => rfl⟩
  case h_6 | h_7 | h_8 | h_9 => injection h with h; subst h; exact ⟨_, by simp [binOp, Op.intBits, real], fun _ _ => rfl⟩
  case h_10 | h_11 | h_12 | h_13 | h_14 | h_15 => injection h with h; subst h; exact ⟨_, by simp [binOp, Op.intCmp], fun _ _ => rfl⟩
  · cases h

theorem run_shift {P : Program} {op : BinOp} {k k' : IntKind} {x y : Int} (t : TypeId) (hy : 0 ≤ y) (hop : op = .shl ∨ op = .shr) :
    (binOp op t (.int k x) (.int k' y)).run P w = .ok (.int k (if op = .shl then k.wrap (x * 2 ^ (min y.toNat k.bits)) else x.fdiv (2 ^ (min y.toNat k.bits)))) w := by
  have : ¬ y < 0 := by omega
  rcases hop with rfl | rfl <;> simp [binOp, Op.shift, this]

/-- No interface, no struct. -/
def plainV : Value → Bool | .int _ _ | .bool _ | .string _ | .pointer _ => true | _ => false
theorem run_eqGuard {P : Program} (op : BinOp) (t : TypeId) (X Y : Operand) {a b : Value} (h : plainV a = true) : (eqGuard op t X Y a b).run P w = .ok () w := by
  cases a <;> simp only [plainV, Bool.false_eq_true] at h <;> cases op <;> first | rfl | (cases b <;> rfl)

theorem equalIn_bool {P : Program} {t : TypeId} (ht : P.underlying t = some .bool) (d : Nat) (a b : Bool) : (Op.equalIn (d + 1) t (.bool a) (.bool b)).run P w = .ok (a == b) w := by
  simp only [Op.equalIn, Sem.run_bind, underlying, run_program, Result.andThen_ok, ht, Sem.run_pure]
theorem run_equal_bool {P : Program} {t : TypeId} (ht : P.underlying t = some .bool) (a b : Bool) : (Op.equal t (.bool a) (.bool b)).run P w = .ok (a == b) w := equalIn_bool ht 9999 a b
theorem equalIn_ptr {P : Program} {t e : TypeId} (ht : P.underlying t = some (.pointer e)) (d : Nat) (a b : Option Addr) (h : a = none ∨ b = none) :
    (Op.equalIn (d + 1) t (.pointer a) (.pointer b)).run P w = .ok (a.isNone && b.isNone) w := by
  rcases h with rfl | rfl
  · simp [Op.equalIn, underlying, ht]
  · cases a <;> simp [Op.equalIn, underlying, ht]
theorem run_equal_ptr {P : Program} {t e : TypeId} (ht : P.underlying t = some (.pointer e)) (a b : Option Addr) (h : a = none ∨ b = none) :
    (Op.equal t (.pointer a) (.pointer b)).run P w = .ok (a.isNone && b.isNone) w := equalIn_ptr ht 9999 a b h

theorem RV_ptr {L : Nat → Option Root} {x : AV} {u : Value} (hx : isPtr x = true) (h : RV L γ w I x u) : ∃ ad, u = .pointer (some ad) := by
  cases x <;> simp only [isPtr, Bool.false_eq_true] at hx
  · exact h.1
  · obtain ⟨b, o, v, h, _⟩ := h; exact ⟨_, h⟩

theorem run_bin {L : Nat → Option Root} (hΓ : CtxOk Γ) {op : BinOp} {t : TypeId} {x y v : AV} {u1 u2 : Value} (h : bin real ((Γ.ty t).map (·.tk)) op x y = some v) (h1 : RV L γ w I x u1) (h2 : RV L γ w I y u2) (X Y : Operand) :
    ∃ u, (do eqGuard op t X Y u1 u2; binOp op t u1 u2 : Sem Value).run Γ.P w = .ok u w ∧ ∀ w' I, RI w' I v u := by
  unfold bin at h
  split at h
  · rename_i k a k' b
    have h1 := RV_int h1
    have h2 := RV_int h2
    subst h1; subst h2
    simp only [Sem.run_bind, run_eqGuard op t X Y (a := .int k a) (b := .int k' b) rfl, Result.andThen_ok]
    split at h
    · obtain ⟨hb, h⟩ := okK_some h
      injection h with h; subst h
      exact ⟨_, run_shift t hb (.inl rfl), fun _ _ => rfl⟩
    · obtain ⟨hb, h⟩ := okK_some h
      injection h with h; subst h
      exact ⟨_, run_shift t hb (.inr rfl), fun _ _ => rfl⟩
    · split at h
      · rename_i e; subst e
        exact run_binI h t
      · cases h
  · rename_i a b
    have h1 := RV_bool h1
    have h2 := RV_bool h2
    subst h1; subst h2
    obtain ⟨ht, h⟩ := cond_some h
    have ht : Γ.P.underlying t = some .bool := by
      cases hh : Γ.ty t with
      | none => rw [hh] at ht; simp [isBoolT] at ht
      | some i =>
        have := (hΓ.ty t i hh).tk
        rw [hh] at ht
        cases hk : i.tk <;> rw [Option.map_some, hk] at ht <;> simp [isBoolT] at ht
        rw [hk] at this; exact this
    simp only [Sem.run_bind, run_eqGuard op t X Y (a := .bool a) (b := .bool b) rfl, Result.andThen_ok]
    split at h
    · injection h with h; subst h
      exact ⟨.bool (a == b), by simp [binOp, run_equal_bool ht], fun _ _ => rfl⟩
    · injection h with h; subst h
      exact ⟨.bool (!(a == b)), by simp [binOp, run_equal_bool ht], fun _ _ => rfl⟩
    · cases h
  · rename_i a b
    have h1 := RV_str h1
    have h2 := RV_str h2
    subst h1; subst h2
    simp only [Sem.run_bind, run_eqGuard op t X Y (a := .string a) (b := .string b) rfl, Result.andThen_ok]
    unfold binS at h
    split at h
    · obtain ⟨hb, h⟩ := okK_some h
      injection h with h; subst h
      exact ⟨.string (a ++ b), by
        have : ¬ ((a.size + b.size : Nat) : Int) > IntKind.i64.max := by omega
        simp only [binOp, Op.stringOp]
        rw [if_neg this]; rfl, fun _ _ => rfl⟩
    · injection h with h; subst h
      exact ⟨_, by simp [binOp, Op.stringOp], fun _ _ => rfl⟩
    · injection h with h; subst h
      exact ⟨_, by simp [binOp, Op.stringOp], fun _ _ => rfl⟩
    · cases h
  · obtain ⟨ht, h⟩ := cond_some h
    obtain ⟨el, ht⟩ : ∃ el, Γ.P.underlying t = some (.pointer el) := by
      cases hh : Γ.ty t with
      | none => rw [hh] at ht; simp [isPtrT] at ht
      | some i =>
        have := (hΓ.ty t i hh).tk
        rw [hh] at ht
        cases hk : i.tk <;> rw [Option.map_some, hk] at ht <;> simp [isPtrT] at ht
        rw [hk] at this; exact ⟨_, this⟩
    have fin : ∀ (p q : Option Addr) (b : Bool), (p = none ∨ q = none) → u1 = .pointer p → u2 = .pointer q → ((op = .eql ∧ v = .bool (p.isNone && q.isNone)) ∨ (op = .neq ∧ v = .bool (!(p.isNone && q.isNone)))) →
        ∃ u, (do eqGuard op t X Y u1 u2; binOp op t u1 u2 : Sem Value).run Γ.P w = .ok u w ∧ ∀ w' I, RI w' I v u := by
      rintro p q _ hpq rfl rfl hv
      simp only [Sem.run_bind, run_eqGuard op t X Y (a := .pointer p) (b := .pointer q) rfl, Result.andThen_ok]
      rcases hv with ⟨rfl, rfl⟩ | ⟨rfl, rfl⟩
      · exact ⟨.bool (p.isNone && q.isNone), by simp [binOp, run_equal_ptr ht p q hpq], fun _ _ => rfl⟩
      · exact ⟨.bool (!(p.isNone && q.isNone)), by simp [binOp, run_equal_ptr ht p q hpq], fun _ _ => rfl⟩
    split at h
    · injection h with h; subst h
      exact fin none none true (.inl rfl) h1.2 h2.2 (.inl ⟨rfl, rfl⟩)
    · injection h with h; subst h
      exact fin none none true (.inl rfl) h1.2 h2.2 (.inr ⟨rfl, rfl⟩)
    · obtain ⟨hp, h⟩ := cond_some h
      injection h with h; subst h
      obtain ⟨ad, h2⟩ := RV_ptr hp h2
      exact fin none (some ad) true (.inl rfl) h1.2 h2 (.inl ⟨rfl, rfl⟩)
    · obtain ⟨hp, h⟩ := cond_some h
      injection h with h; subst h
      obtain ⟨ad, h2⟩ := RV_ptr hp h2
      exact fin none (some ad) true (.inl rfl) h1.2 h2 (.inr ⟨rfl, rfl⟩)
    · obtain ⟨hp, h⟩ := cond_some h
      injection h with h; subst h
      obtain ⟨ad, h1⟩ := RV_ptr hp h1
      exact fin (some ad) none true (.inr rfl) h1 h2.2 (.inl ⟨rfl, rfl⟩)
    · obtain ⟨hp, h⟩ := cond_some h
      injection h with h; subst h
      obtain ⟨ad, h1⟩ := RV_ptr hp h1
      exact fin (some ad) none true (.inr rfl) h1 h2.2 (.inr ⟨rfl, rfl⟩)
    · cases h

theorem op_binOp (hΓ : CtxOk Γ) (hs : Sim N S I0 w0 γ I σ a w) (hy : Young σ) (hd : ∀ t, o.dst = some t → N.ok t) {op : BinOp} {t t' : TypeId} {x y : Operand} {v : AV} (ho : o.op = .binOp op t x y t')
    (h : bin real ((Γ.ty t).map (·.tk)) op (opd σ x) (opd σ y) = some v) : Goes Γ.P N S I0 w0 (σ.eff o.dst ⟨v, [], []⟩) o a w := by
  obtain ⟨u, hr, hv⟩ := run_bin hΓ h (RV_opd hs x) (RV_opd hs y) x y
  exact goes_value (u := u) (w' := w) (by simp only [execOp, ho]; exact exec_value hr) (ok_value hs hy hd (RV_data (hv w I)) (fun q v' hq => absurd hq (refers_data (hv w I) q v')))

theorem run_un {P : Program} {L : Nat → Option Root} {op : UnOp} {x v : AV} {u : Value} (h : un real op x = some v) (h1 : RV L γ w I x u) : ∃ u', (Op.unary op u).run P w = .ok u' w ∧ ∀ w' I, RI w' I v u' := by
  unfold un at h
  split at h
  · injection h with h; subst h
    have h1 := RV_int h1; subst h1
    exact ⟨_, by simp [Op.unary, Op.intArith, real], fun _ _ => rfl⟩
  · have h1 := RV_int h1; subst h1
    unfold binI at h
    injection h with h; subst h
    exact ⟨_, by simp [Op.unary, Op.intBits, real], fun _ _ => rfl⟩
  · injection h with h; subst h
    have h1 := RV_bool h1; subst h1
    exact ⟨_, by simp [Op.unary], fun _ _ => rfl⟩
  · cases h
theorem op_unOp (hs : Sim N S I0 w0 γ I σ a w) (hy : Young σ) (hd : ∀ t, o.dst = some t → N.ok t) {op : UnOp} {t : TypeId} {x : Operand} {v : AV} (ho : o.op = .unOp op t x)
    (h : un real op (opd σ x) = some v) : Goes Γ.P N S I0 w0 (σ.eff o.dst ⟨v, [], []⟩) o a w := by
  obtain ⟨u, hr, hv⟩ := run_un (P := Γ.P) h (RV_opd hs x)
  exact goes_value (u := u) (w' := w) (by simp only [execOp, ho]; exact exec_value hr) (ok_value hs hy hd (RV_data (hv w I)) (fun q v' hq => absurd hq (refers_data (hv w I) q v')))
end Go.Ai
