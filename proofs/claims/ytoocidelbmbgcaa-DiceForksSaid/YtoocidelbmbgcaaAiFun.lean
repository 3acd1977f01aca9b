/- Part of the proofs: the verified interpreter for the program's functions, or lemmas on what they compute; no condition. -/
import Derived.Test.YtoocidelbmbgcaaAiWalk
namespace Go.Ai
variable {N : Lim} {S I0 I I' : Nat → Prop} {w0 w w' : World} {γ γ' : Nat → Hdr} {σ σ' : St} {a : Act} {Γ : Ctx} {β : Type} {r : β}

/-! ### Functions: the way in -/
/-- The boxes among the arguments, by their slots. -/
def BoxAt (all : Array Value) : List Nat → List Nat → Prop
  | [], bs => bs = []
  | t :: ts, bs => ∃ b bs', bs = b :: bs' ∧ all[t]? = some (.pointer (some ⟨b, 0, none⟩)) ∧ BoxAt all ts bs'

structure Entry (w : World) (I : Nat → Prop) (all : Array Value) (t : Nat) (bs : List Nat) (σ : St) (γ : Nat → Hdr) : Prop where
  env : ∀ s, RV σ.L γ w I (σ.env s) (all.getD s undef)
  young : Young σ
  root : ∀ q R, σ.L q = some R → q < t ∧ R.st = .live ∧ ∃ b, γ q = some (b, 0, 1) ∧ RootOk w I (γ q) R ∧ b ∈ bs
  sep : ∀ q q' R R' b, q ≠ q' → σ.L q = some R → σ.L q' = some R' → γ q = some (b, 0, 1) → γ q' ≠ some (b, 0, 1)

theorem all_getD {all : Array Value} {s : Nat} {v : Value} (h : all[s]? = some v) : all.getD s undef = v := by
  simp [Array.getD_eq_getD_getElem?, h]

theorem bind_ok {all : Array Value} {allbs : List Nat} : ∀ {pars : List PS} {t : Nat} {args : List AV} {vs : List Value} {bs : List Nat} {σ : St} {γ : Nat → Hdr} {K : St → Option β},
    ArgsOk w I args vs bs → bindK pars t args σ K = some r → (∀ j v, vs[j]? = some v → all[t + j]? = some v) → Entry w I all t allbs σ γ → bs.Nodup → (∀ b ∈ bs, b ∈ allbs) →
    (∀ q R b, σ.L q = some R → γ q = some (b, 0, 1) → b ∉ bs) →
    ∃ σ' γ' t', K σ' = some r ∧ Entry w I all t' allbs σ' γ' ∧ BoxAt all (boxSlots pars t) bs ∧ vs.length = pars.length
  | [], t, args, vs, bs, σ, γ, K, hargs, h, hall, hE, hnd, hsub, hfresh => by
    simp only [bindK] at h
    obtain ⟨rfl, h⟩ := nlK_some h
    obtain ⟨rfl, rfl⟩ := hargs
    exact ⟨σ, γ, t, h, hE, rfl, rfl⟩
  | .data s :: pars, t, args, vs, bs, σ, γ, K, hargs, h, hall, hE, hnd, hsub, hfresh => by
    simp only [bindK] at h
    obtain ⟨x, args', rfl, h⟩ := hdK_some h
    have hnb : ∀ xs, x ≠ .box xs := by
      rintro xs rfl
      cases s <;> simp only [fitK] at h <;> cases h
    obtain ⟨x', hsame, h⟩ := fitK_some h
    have hargs : ∃ v vs', vs = v :: vs' ∧ RI w I x v ∧ ArgsOk w I args' vs' bs := by
      cases x with
      | box xs => exact absurd rfl (hnb xs)
      | _ => exact hargs
    obtain ⟨v, vs', rfl, h1, h2⟩ := hargs
    have hv : all.getD t undef = v := all_getD (by simpa using hall 0 v rfl)
    obtain ⟨σ', γ', t', k1, k2, k3, k4⟩ := bind_ok h2 h (fun j u hj => by
        have := hall (j + 1) u (by simpa using hj)
        rwa [show t + (j + 1) = t + 1 + j by omega] at this) (γ := γ)
      ⟨fun s => by
          by_cases e : s = t
          · subst e; simp only [setAt_self, hv]; exact RV_data (hsame.2.2 _ _ _ h1)
          · simp only [setAt_ne _ e]; exact hE.env s,
        fun s q v hr => by
          by_cases e : s = t
          · subst e; simp only [setAt_self] at hr; exact absurd hr (refers_data (hsame.2.2 _ _ _ h1) q v)
          · simp only [setAt_ne _ e] at hr; exact hE.young s q v hr,
        fun q R hq => by
          obtain ⟨j1, j2⟩ := hE.root q R hq
          exact ⟨by omega, j2⟩,
        hE.sep⟩ hnd hsub hfresh
    exact ⟨σ', γ', t', k1, k2, k3, by simp [k4]⟩
  | .box ty sz s :: pars, t, args, vs, bs, σ, γ, K, hargs, h, hall, hE, hnd, hsub, hfresh => by
    simp only [bindK] at h
    obtain ⟨x, args', e1, h1⟩ := hdK_some h
    obtain ⟨cs, e2, h2⟩ := fitX_some h1
    obtain ⟨c, cs', e3, h3⟩ := hdK_some h2
    obtain ⟨e4, h4⟩ := nlK_some h3
    obtain ⟨c', hsame, h5⟩ := fitK_some h4
    obtain ⟨hw, h6⟩ := cond_some h5
    clear h h1 h2 h3 h4 h5
    subst e4; subst e3; subst e2; subst e1
    have hw := Nat.eq_of_beq_eq_true hw
    obtain ⟨v, vs', b, bs', rfl, rfl, ⟨x, hx, hv, hfree, hrow⟩, h2⟩ := hargs
    have h := h6
    injection hx with hx _; subst hx
    have hvt : all[t]? = some v := by simpa using hall 0 v rfl
    obtain ⟨⟨u, u1, u2, u3⟩, _⟩ := hrow
    obtain ⟨n1, n2⟩ := List.nodup_cons.1 hnd
    have ht : σ.L t = none := by
      cases e : σ.L t with
      | none => rfl
      | some R => have := (hE.root t R e).1; omega
    obtain ⟨σ', γ', t', k1, k2, k3, k4⟩ := bind_ok (γ := setAt γ t (some (b, 0, 1))) h2 h (fun j u hj => by
        have := hall (j + 1) u (by simpa using hj)
        rwa [show t + (j + 1) = t + 1 + j by omega] at this)
      ⟨fun s => by
          by_cases e : s = t
          · subst e
            simp only [setAt_self, all_getD hvt, hv]
            refine ⟨⟨_, rfl⟩, fun R' e1 _ _ _ => ?_⟩
            simp only [setAt_self] at e1
            injection e1 with e1; subst e1
            exact ⟨by simp, b, 0, 1, by simp [setAt_self], by simp⟩
          · simp only [setAt_ne _ e]
            refine RV_move (fun _ h => h) (fun _ _ => rfl) (fun q v R' hr h2 h3 h4 => ?_) (hE.env s)
            have hqt : q ≠ t := by
              rintro rfl
              obtain ⟨R, hR, _⟩ := hE.young s q v hr
              rw [ht] at hR; cases hR
            simp only [setAt_ne _ hqt] at h2 ⊢
            exact ⟨R', h2, h3, h4, rfl, rfl, trivial⟩,
        fun s q v hr => by
          by_cases e : s = t
          · subst e
            simp only [setAt_self] at hr
            obtain ⟨rfl, rfl⟩ := hr
            exact ⟨_, setAt_self _ _ _, Nat.le_refl _⟩
          · simp only [setAt_ne _ e] at hr
            obtain ⟨R, hR, hle⟩ := hE.young s q v hr
            have hqt : q ≠ t := by
              rintro rfl
              rw [ht] at hR; cases hR
            exact ⟨R, by simp only [setAt_ne _ hqt]; exact hR, hle⟩,
        fun q R hq => by
          by_cases e : q = t
          · subst e
            simp only [setAt_self] at hq ⊢
            injection hq with hq; subst hq
            refine ⟨by omega, rfl, b, rfl, ⟨by simp, ⟨⟨u, hsame.2.2 _ _ _ u1, ?_, u3⟩, trivial⟩, ?_, fun _ => ⟨rfl, rfl⟩⟩, hsub b (by simp)⟩
            · exact hw
            · rw [← hw, hsame.1]; simpa using hfree
          · simp only [setAt_ne _ e] at hq ⊢
            obtain ⟨j1, j2⟩ := hE.root q R hq
            exact ⟨by omega, j2⟩,
        fun q q' R R' b' hne hq hq' hg => by
          by_cases e : q = t
          · subst e
            have e' : q' ≠ q := Ne.symm hne
            simp only [setAt_self, Option.some.injEq, Prod.mk.injEq, and_true] at hg
            subst hg
            simp only [setAt_ne _ e'] at hq' ⊢
            intro hg'
            exact hfresh q' R' b hq' hg' (by simp)
          · simp only [setAt_ne _ e] at hq hg
            by_cases e' : q' = t
            · subst e'
              simp only [setAt_self, ne_eq, Option.some.injEq, Prod.mk.injEq, and_true]
              intro hb
              subst hb
              exact hfresh q R b hq hg (by simp)
            · simp only [setAt_ne _ e'] at hq' ⊢
              exact hE.sep q q' R R' b' hne hq hq' hg⟩
      n2 (fun b' hb' => hsub b' (by simp [hb']))
      (fun q R b' hq hg => by
        by_cases e : q = t
        · subst e
          simp only [setAt_self, Option.some.injEq, Prod.mk.injEq, and_true] at hg
          subst hg; exact n1
        · simp only [setAt_ne _ e] at hq hg
          exact fun hb => hfresh q R b' hq hg (by simp [hb]))
    exact ⟨σ', γ', t', k1, k2, ⟨b, bs', rfl, by rw [hvt, hv], k3⟩, by simp [k4]⟩
end Go.Ai
