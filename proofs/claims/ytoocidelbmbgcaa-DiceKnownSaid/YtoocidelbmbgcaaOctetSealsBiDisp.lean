/- Part of the proofs: the verified interpreter for the program's functions, or lemmas on what they compute; no condition. -/
import Derived.Test.YtoocidelbmbgcaaOctetSealsBiLoc3
namespace Go.Ai
variable {N : Lim} {S I0 I I' : Nat → Prop} {w0 w w' : World} {γ γ' : Nat → Hdr} {σ σ' : St} {a : Act} {Γ : Ctx} {o : Oper} {e : Eff} {P : Program} {β : Type} {r : β}

/-- Every operation: what the interpreter says of it is so. -/
theorem opK_ok (hΓ : CtxOk Γ) (hs : Sim N S I0 w0 γ I σ a w) (hy : Young σ) (hd : ∀ t, o.dst = some t → N.ok t) (h : opK Γ o σ some = some e) : Goes Γ.P N S I0 w0 (σ.eff o.dst e) o a w := by
  cases ho : o.op with
  | move x =>
    simp only [opK, ho] at h
    injection h with h; subst h
    exact op_move hs hy hd (.inl ho)
  | assign x =>
    simp only [opK, ho] at h
    injection h with h; subst h
    exact op_move hs hy hd (.inr ho)
  | pick c x y =>
    simp only [opK, ho] at h
    split at h
    case h_2 => cases h
    rename_i b hb
    have := op_pick (Γ := Γ) hs hy hd ho hb
    cases b with
    | true => simp only [br] at h; injection h with h; subst h; simpa using this
    | false => simp only [br] at h; injection h with h; subst h; simpa using this
  | alloc t => exact op_alloc hΓ hs hy hd ho h
  | box t x => exact op_box hs hy hd ho h
  | build t ps => exact op_build hΓ hs hy hd ho h
  | buildSlice t n ps => exact op_buildSlice hΓ hs hy hd ho h
  | load t x => exact op_load hΓ hs hy hd ho h
  | store t a x => exact op_store hΓ hs hy hd ho h
  | nilCheck x => exact op_nilCheck hs hy hd ho h
  | binOp op t x y t' =>
    simp only [opK, ho] at h
    obtain ⟨hp, h⟩ := preK_some h
    obtain ⟨v, hv, h⟩ := valK_some h
    rw [hΓ.ar] at hv
    injection h with h; subst h
    have hv := bin_of hp hv
    exact op_binOp hΓ hs hy hd ho hv
  | unOp op t x =>
    simp only [opK, ho] at h
    obtain ⟨v, hv, h⟩ := valK_some h
    rw [hΓ.ar] at hv
    injection h with h; subst h
    exact op_unOp hs hy hd ho hv
  | convert s d x => exact op_convert hΓ hs hy hd ho h
  | makeSlice t l c => exact op_makeSlice hΓ hs hy hd ho h
  | slice t x lo hi mx => exact op_slice hΓ hs hy hd ho h
  | fieldAddr s x f => exact op_fieldAddr hΓ hs hy hd ho h
  | field s x f => exact op_field hΓ hs hy hd ho h
  | indexAddr t x i => exact op_indexAddr hΓ hs hy hd ho h
  | index t x i => exact op_index hΓ hs hy hd ho h
  | extract x i => exact op_extract hs hy hd ho h
  | makeFunc fn a b => exact op_makeFunc hs hy hd ho h
  | call c =>
    cases hc : c.callee with
    | value f => exact op_call hΓ hs hy hd ho hc h
    | builtin b =>
      cases b with
      | len => exact op_len hΓ hs hy hd ho hc h
      | max => exact op_max hs hy hd ho hc h
      | min => exact op_min hs hy hd ho hc h
      | append => exact op_append hΓ hs hy hd ho hc h
      | _ => simp [opK, ho, hc] at h
    | invoke x m => simp [opK, ho, hc] at h
  | _ => simp [opK, ho] at h
end Go.Ai
