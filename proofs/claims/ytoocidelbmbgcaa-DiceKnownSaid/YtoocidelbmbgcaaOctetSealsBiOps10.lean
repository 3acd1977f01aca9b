/- Part of the proofs: the verified interpreter for the program's functions, or lemmas on what they compute; no condition. -/
import Derived.Test.YtoocidelbmbgcaaOctetSealsBiOps9
namespace Go.Ai
variable {N : Lim} {S I0 I I' : Nat → Prop} {w0 w w' : World} {γ γ' : Nat → Hdr} {σ σ' : St} {a : Act} {Γ : Ctx} {o : Oper} {e : Eff} {P : Program} {β : Type} {r : β}

theorem exec_builtin {P : Program} {b : Builtin} {ts : Array TypeId} {t : TypeId} {cs : Array Bool} {args : Array Value} {u : Value} {f : Array TypeId → TypeId → Array Value → Sem Value}
    (hb : builtin b ts t cs args = (do pure (.value (← f ts t args)))) (h : (f ts t args).run P w = .ok u w') : (builtin b ts t cs args).run P w = .ok (.value u) w' := by
  rw [hb]; exact exec_value h

theorem run_callBuiltin {c : Call} {b : Builtin} (ho : o.op = .call c) (hc : c.callee = .builtin b) {u : Value}
    (h : ∀ cs, (builtin b c.argTypes o.type cs (c.args.map a.eval)).run P w = .ok (.value u) w') : (execOp a.eval o).run P w = .ok (.value u) w' := by
  simp only [execOp, ho, resolve, hc, Sem.run_bind, Sem.run_pure, Result.andThen_ok, invoke]
  exact h _

theorem args_eval {c : Call} {l : List AV} (hs : Sim N S I0 w0 γ I σ a w) (h : c.args.toList.map (opd σ) = l) : (c.args.map a.eval).toList.length = l.length ∧ ∀ (i : Nat) (x : AV), l[i]? = some x → ∃ u, (c.args.map a.eval)[i]? = some u ∧ RV σ.L γ w I x u := by
  subst h
  refine ⟨by simp, fun i x hx => ?_⟩
  simp only [List.getElem?_map, Array.getElem?_toList] at hx
  cases hi : c.args[i]? with
  | none => rw [hi] at hx; cases hx
  | some y =>
    rw [hi] at hx
    simp only [Option.map_some, Option.some.injEq] at hx
    subst hx
    exact ⟨a.eval y, by simp [hi], RV_opd hs y⟩

/-- The types of len's argument are not asked by the interpreter; the machine does: so it is told here. -/
theorem lenK_some {x : AV} {K : Nat → Option β} (h : lenK x K = some r) : ∃ n, K n = some r ∧ ((∃ sz xs, x = .sl sz xs ∧ n = xs.length) ∨ (x = .nils ∧ n = 0)) := by
  unfold lenK at h
  split at h
  · exact ⟨_, h, .inl ⟨_, _, rfl, rfl⟩⟩
  · exact ⟨_, h, .inr ⟨rfl, rfl⟩⟩
  · cases h

theorem list_one {α : Type} {l : Array α} {x : α} (h : l.toList = [x]) : l = #[x] := by
  apply Array.ext'; simpa using h
theorem list_two {α : Type} {l : Array α} {x y : α} (h : l.toList = [x, y]) : l = #[x, y] := by
  apply Array.ext'; simpa using h
theorem args_one {c : Call} {x : AV} (hs : Sim N S I0 w0 γ I σ a w) (h : c.args.toList.map (opd σ) = [x]) : ∃ u, c.args.map a.eval = #[u] ∧ RV σ.L γ w I x u := by
  obtain ⟨h1, h2⟩ := args_eval hs h
  obtain ⟨u, hu, hv⟩ := h2 0 x rfl
  refine ⟨u, ?_, hv⟩
  obtain ⟨z, hz⟩ := List.length_eq_one_iff.1 h1
  have := list_one hz
  rw [this] at hu ⊢
  simp at hu; rw [hu]
theorem args_two {c : Call} {x y : AV} (hs : Sim N S I0 w0 γ I σ a w) (h : c.args.toList.map (opd σ) = [x, y]) : ∃ u v, c.args.map a.eval = #[u, v] ∧ RV σ.L γ w I x u ∧ RV σ.L γ w I y v := by
  obtain ⟨h1, h2⟩ := args_eval hs h
  obtain ⟨u, hu, hv⟩ := h2 0 x rfl
  obtain ⟨u', hu', hv'⟩ := h2 1 y rfl
  refine ⟨u, u', ?_, hv, hv'⟩
  obtain ⟨z, z', hz⟩ : ∃ z z', (c.args.map a.eval).toList = [z, z'] := by
    match hl : (c.args.map a.eval).toList with
    | [z, z'] => exact ⟨z, z', rfl⟩
    | [] => rw [hl] at h1; simp at h1
    | [_] => rw [hl] at h1; simp at h1
    | _ :: _ :: _ :: _ => rw [hl] at h1; simp at h1
  have := list_two hz
  rw [this] at hu hu' ⊢
  simp at hu hu'; rw [hu, hu']

theorem op_len (hΓ : CtxOk Γ) (hs : Sim N S I0 w0 γ I σ a w) (hy : Young σ) (hd : ∀ t, o.dst = some t → N.ok t) {c : Call} (ho : o.op = .call c) (hc : c.callee = .builtin .len) (h : opK Γ o σ some = some e) :
    Goes Γ.P N S I0 w0 (σ.eff o.dst e) o a w := by
  simp only [opK, ho, hc] at h
  split at h
  · rename_i x hb hx
    obtain ⟨u, hu, hv⟩ := args_one hs hx
    split at h
    case h_2 => cases h
    rename_i t ht
    have ht := list_one ht
    obtain ⟨i, hi, h⟩ := tyK_some h
    have hty := hΓ.ty t i hi
    split at h
    · have hk : i.tk = .str := by assumption
      have hv := RV_str hv
      injection h with h; subst h; subst hv
      refine goes_value (u := .int .i64 _) (w' := w) (run_callBuiltin ho hc fun cs => exec_builtin (f := Builtin.len_) rfl ?_) (data_ok hs hy hd (x := .int .i64 _) rfl)
      rw [hu, ht]
      simp [Builtin.len_, run_underlying (hty.str hk), goInt]
    · obtain ⟨el, hk⟩ : ∃ el, i.tk = .slice el := ⟨_, by assumption⟩
      obtain ⟨y, rs, h, hyx, hst, hdat⟩ := dataK_some hs hv h
      obtain ⟨n, h, hn⟩ := lenK_some h
      injection h with h; subst h
      refine goes_value (u := .int .i64 n) (w' := w) (run_callBuiltin ho hc fun cs => exec_builtin (f := Builtin.len_) rfl ?_) (data_ok hs hy hd rfl)
      rw [hu, ht]
      rcases hn with ⟨sz, xs, rfl, rfl⟩ | ⟨rfl, rfl⟩
      · obtain ⟨ad, cap, rfl, _⟩ := hyx
        simp [Builtin.len_, run_underlying (hty.slice hk), goInt]
      · have hyx : u = .slice none 0 0 := hyx
        subst hyx
        simp [Builtin.len_, run_underlying (hty.slice hk), goInt]
    · cases h
  all_goals first
    | (cases h; done)
    | (rename_i hb _; cases hb)
    | (rename_i hb _ _ _; cases hb)

theorem op_max (hs : Sim N S I0 w0 γ I σ a w) (hy : Young σ) (hd : ∀ t, o.dst = some t → N.ok t) {c : Call} (ho : o.op = .call c) (hc : c.callee = .builtin .max) (h : opK Γ o σ some = some e) :
    Goes Γ.P N S I0 w0 (σ.eff o.dst e) o a w := by
  simp only [opK, ho, hc] at h
  split at h
  · rename_i hb _; cases hb
  · rename_i k x k' y _ hx
    obtain ⟨u, v, hu, h1, h2⟩ := args_two hs hx
    have h1 := RV_int h1
    have h2 := RV_int h2
    subst h1; subst h2
    split at h
    · injection h with h; subst h
      refine goes_value (u := .int k (if y > x then y else x)) (w' := w) (run_callBuiltin ho hc fun cs => exec_builtin (f := Builtin.max_) rfl ?_) (data_ok hs hy hd rfl)
      rw [hu]
      simp [Builtin.max_, Builtin.max2]
    · cases h
  all_goals first
    | (cases h; done)
    | (rename_i hb _; cases hb)
    | (rename_i hb _ _ _; cases hb)
theorem op_min (hs : Sim N S I0 w0 γ I σ a w) (hy : Young σ) (hd : ∀ t, o.dst = some t → N.ok t) {c : Call} (ho : o.op = .call c) (hc : c.callee = .builtin .min) (h : opK Γ o σ some = some e) :
    Goes Γ.P N S I0 w0 (σ.eff o.dst e) o a w := by
  simp only [opK, ho, hc] at h
  split at h
  · rename_i hb _; cases hb
  · rename_i hb _; cases hb
  · rename_i k x k' y _ hx
    obtain ⟨u, v, hu, h1, h2⟩ := args_two hs hx
    have h1 := RV_int h1
    have h2 := RV_int h2
    subst h1; subst h2
    split at h
    · injection h with h; subst h
      refine goes_value (u := .int k (if y < x then y else x)) (w' := w) (run_callBuiltin ho hc fun cs => exec_builtin (f := Builtin.min_) rfl ?_) (data_ok hs hy hd rfl)
      rw [hu]
      simp [Builtin.min_, Builtin.min2]
    · cases h
  all_goals first
    | (cases h; done)
    | (rename_i hb _; cases hb)
    | (rename_i hb _ _ _; cases hb)
end Go.Ai
