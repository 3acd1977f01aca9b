/- Part of the proofs: the verified interpreter for the program's functions, or lemmas on what they compute; no condition. -/
import Derived.Test.YtoocidelbmbgcaaAiDraw
namespace Go.Ai
variable {N : Lim} {S I0 I I' : Nat → Prop} {w0 w w' : World} {γ γ' : Nat → Hdr} {σ σ' σ1 σ2 : St} {a : Act} {Γ : Ctx} {o : Oper} {e : Eff} {β : Type} {r : β} {ops : Array Oper} {Q : Exit → Act → World → Prop}

/-! ### Cuts: what is kept -/
def cutOk (c : Cut) : Bool := distinct (c.slots.map (·.1))

/-- One slot's value. -/
inductive KeptOne (σ : St) (γ : Nat → Hdr) (w : World) (I : Nat → Prop) (u : Value) : CS → AV → List Nat → List Nat → Prop
  | data {s : Sh} {y : AV} {rs : List Nat} (h : RI w (Ix γ I rs) y u) (hs : Stand σ rs) : KeptOne σ γ w I u (.data s) y [] rs
  | nil {ty : TypeId} {sz : Nat} (h : u = .slice none 0 0) : KeptOne σ γ w I u (.rf ty sz) (.sl sz []) [] []
  | rf {ty : TypeId} {sz q : Nat} {R : Root} (h1 : σ.L q = some R) (h2 : R.st = .live) (h3 : R.sz = sz) (h4 : R.bx = false) (h5 : RefOk (γ q) R none u) : KeptOne σ γ w I u (.rf ty sz) (.sl sz R.xs) [q] []
  | lc {ty : TypeId} {sz : Nat} {s : Sh} {q b : Nat} {R : Root} {x : AV} (h1 : σ.L q = some R) (h2 : R.st = .live) (h3 : R.sz = sz) (h4 : R.bx = true) (h5 : R.xs = [x]) (h6 : γ q = some (b, 0, 1)) (h7 : u = .pointer (some ⟨b, 0, none⟩)) : KeptOne σ γ w I u (.lc ty sz s) x [q] []
inductive Kept (σ : St) (γ : Nat → Hdr) (w : World) (I : Nat → Prop) (a : Act) : List (Nat × CS) → List AV → List Nat → List Nat → Prop
  | nil : Kept σ γ w I a [] [] [] []
  | cons {t : Nat} {c : CS} {l : List (Nat × CS)} {v : AV} {vs : List AV} {k1 k2 r1 r2 : List Nat} (h : KeptOne σ γ w I (a.tmps.getD t undef) c v k1 r1) (k : Kept σ γ w I a l vs k2 r2) : Kept σ γ w I a ((t, c) :: l) (v :: vs) (k1 ++ k2) (r1 ++ r2)

theorem Kept.stand {l : List (Nat × CS)} {vs : List AV} {ks rs : List Nat} (h : Kept σ γ w I a l vs ks rs) : Stand σ rs := by
  induction h with
  | nil => intro q hq; cases hq
  | cons h0 _ ih =>
    intro q hq
    rcases List.mem_append.1 hq with hq | hq
    · cases h0 with
      | data _ hs' => exact hs' q hq
      | nil => cases hq
      | rf => cases hq
      | lc => cases hq
    · exact ih q hq
theorem packSlots_some (hs : Sim N S I0 w0 γ I σ a w) : ∀ {l : List (Nat × CS)} {K : List AV → List Nat → List Nat → Option β}, packSlots σ l K = some r → ∃ vs ks rs, K vs ks rs = some r ∧ Kept σ γ w I a l vs ks rs
  | [], K, h => ⟨[], [], [], h, .nil⟩
  | (t, .data s) :: l, K, h => by
    simp only [packSlots] at h
    obtain ⟨y, rs, h, h1, h2, _⟩ := dataK_some hs (hs.env t) h
    obtain ⟨vs, ks, rs', h, k⟩ := packSlots_some hs h
    exact ⟨_, _, _, h, .cons (k1 := []) (.data h1 h2) k⟩
  | (t, .rf ty sz) :: l, K, h => by
    simp only [packSlots] at h
    have hv := hs.env t
    split at h
    · rename_i he
      rw [he] at hv
      obtain ⟨vs, ks, rs', h, k⟩ := packSlots_some hs h
      exact ⟨_, _, _, h, .cons (k1 := []) (r1 := []) (.nil hv) k⟩
    · rename_i q v he
      rw [he] at hv
      obtain ⟨R, h1, h2, h3, h⟩ := liveK_some h
      obtain ⟨hc, h⟩ := cond_some h
      simp only [Bool.and_eq_true, Bool.not_eq_true'] at hc
      obtain ⟨vs, ks, rs', h, k⟩ := packSlots_some hs h
      exact ⟨_, _, _, h, .cons (k1 := [q]) (r1 := []) (.rf h1 h3 (Nat.eq_of_beq_eq_true hc.1.2) hc.2 (hv R h1 h2 (by rw [h3]; simp) rfl)) k⟩
    · cases h
  | (t, .lc ty sz s) :: l, K, h => by
    simp only [packSlots] at h
    have hv := hs.env t
    split at h
    · rename_i q v he
      rw [he] at hv
      obtain ⟨R, h1, h2, h3, h⟩ := liveK_some h
      obtain ⟨hc, h⟩ := cond_some h
      simp only [Bool.and_eq_true] at hc
      obtain ⟨x, hx, h⟩ := nthK_some h
      obtain ⟨vs, ks, rs', h, k⟩ := packSlots_some hs h
      obtain ⟨_, hv⟩ := hv
      obtain ⟨hi, b, of, cap, hg, hu⟩ := hv R h1 h2 (by rw [h3]; simp) rfl
      have hro := hs.root q R h1 (by rw [h3]; simp)
      rw [hg] at hro
      obtain ⟨j1, j2, j3, j4⟩ := hro
      obtain ⟨rfl, rfl⟩ := j4 hc.2
      have hxs : R.xs = [x] := by
        match hR : R.xs with
        | [] => rw [hR] at hi; simp at hi
        | [y] => rw [hR] at hx; simp at hx; rw [hx]
        | _ :: _ :: _ => rw [hR] at j1; simp at j1
      exact ⟨_, _, _, h, .cons (k1 := [q]) (r1 := []) (.lc h1 h3 (Nat.eq_of_beq_eq_true hc.1.2) hc.2 hxs hg (by simpa using hu)) k⟩
    · cases h

/-- What is unpacked so far. -/
structure Un (σ : St) (γ : Nat → Hdr) (w : World) (I : Nat → Prop) (a : Act) (done : List Nat) (σ1 : St) (γ1 : Nat → Hdr) : Prop where
  env : ∀ s, RV σ1.L γ1 w I (σ1.env s) (a.tmps.getD s undef)
  young : Young σ1
  root : ∀ q R, σ1.L q = some R → R.st = .live ∧ RootOk w I (γ1 q) R ∧ ∀ b o c, γ1 q = some (b, o, c) → ∃ q0 ∈ done, ∃ R0, σ.L q0 = some R0 ∧ R0.st = .live ∧ γ q0 = some (b, o, c)
  sep : ∀ q q' R R' b o c o' c', q ≠ q' → σ1.L q = some R → σ1.L q' = some R' → γ1 q = some (b, o, c) → γ1 q' ≠ some (b, o', c')

theorem Un.slot {done : List Nat} (h : Un σ γ w I a done σ1 γ') {t : Nat} {x : AV} (hx : RI w I x (a.tmps.getD t undef)) : Un σ γ w I a done { σ1 with env := setAt σ1.env t x } γ' :=
  ⟨fun s => by
    by_cases e : s = t
    · subst e; simp only [setAt_self]; exact RV_data hx
    · simp only [setAt_ne _ e]; exact h.env s,
   fun s q v hr => by
    by_cases e : s = t
    · subst e; simp only [setAt_self] at hr; exact absurd hr (refers_data hx q v)
    · simp only [setAt_ne _ e] at hr; exact h.young s q v hr,
   h.root, h.sep⟩

/-- A kept root comes under its slot's number. -/
theorem Un.take {done k1 : List Nat} (hs : Sim N S I0 w0 γ I' σ a w) (h : Un σ γ w I a done σ1 γ') {t : Nat} (ht : σ1.L t = none) {x : AV} {R' : Root} {hd : Hdr} (hlive : R'.st = .live) (hro : RootOk w I hd R')
    (hk : ∀ b o c, hd = some (b, o, c) → ∃ q0 ∈ k1, q0 ∉ done ∧ ∃ R0, σ.L q0 = some R0 ∧ R0.st = .live ∧ γ q0 = some (b, o, c))
    (hx : RV (setAt σ1.L t (some R')) (setAt γ' t hd) w I x (a.tmps.getD t undef)) (hr : ∀ q v, refers x q v → q = t ∧ v ≤ R'.ver) :
    Un σ γ w I a (done ++ k1) ⟨setAt σ1.env t x, setAt σ1.L t (some R')⟩ (setAt γ' t hd) := by
  refine ⟨fun s => ?_, fun s q v hrf => ?_, fun q R hq => ?_, fun q q' R R2 b o c o' c' hne hq hq' hg => ?_⟩
  · by_cases e : s = t
    · subst e; simp only [setAt_self]; exact hx
    · simp only [setAt_ne _ e]
      refine RV_move (fun _ h => h) (fun _ _ => rfl) (fun q v R2 hrf h2 h3 h4 => ?_) (h.env s)
      have hqt : q ≠ t := by
        rintro rfl
        obtain ⟨R, hR, _⟩ := h.young s q v hrf
        rw [ht] at hR; cases hR
      simp only [setAt_ne _ hqt] at h2 ⊢
      exact ⟨R2, h2, h3, h4, rfl, rfl, trivial⟩
  · by_cases e : s = t
    · subst e
      simp only [setAt_self] at hrf
      obtain ⟨rfl, hv⟩ := hr q v hrf
      exact ⟨R', setAt_self _ _ _, hv⟩
    · simp only [setAt_ne _ e] at hrf
      obtain ⟨R, hR, hle⟩ := h.young s q v hrf
      have hqt : q ≠ t := by
        rintro rfl
        rw [ht] at hR; cases hR
      exact ⟨R, by simp only [setAt_ne _ hqt]; exact hR, hle⟩
  · by_cases e : q = t
    · subst e
      simp only [setAt_self] at hq ⊢
      injection hq with hq; subst hq
      refine ⟨hlive, hro, fun b o c hg => ?_⟩
      obtain ⟨q0, h1, _, h2⟩ := hk b o c hg
      exact ⟨q0, by simp [h1], h2⟩
    · simp only [setAt_ne _ e] at hq ⊢
      obtain ⟨j1, j2, j3⟩ := h.root q R hq
      refine ⟨j1, j2, fun b o c hg => ?_⟩
      obtain ⟨q0, h1, h2⟩ := j3 b o c hg
      exact ⟨q0, by simp [h1], h2⟩
  · have cross : ∀ q R b o c o' c', σ1.L q = some R → γ' q = some (b, o, c) → hd = some (b, o', c') → False := by
      intro q R b o c o' c' hq hg hg'
      obtain ⟨q0, m1, R0, m2, m3, m4⟩ := (h.root q R hq).2.2 b o c hg
      obtain ⟨q1, n1, n2, R1, n3, n4, n5⟩ := hk b o' c' hg'
      have hne : q0 ≠ q1 := fun e => n2 (e ▸ m1)
      exact hs.sep q0 q1 R0 R1 b o c o' c' hne m2 n3 m3 n4 m4 n5
    by_cases e : q = t
    · subst e
      have e' : q' ≠ q := Ne.symm hne
      simp only [setAt_self] at hg
      simp only [setAt_ne _ e'] at hq' ⊢
      exact fun hg' => cross q' R2 b o' c' o c hq' hg' hg
    · simp only [setAt_ne _ e] at hq hg
      by_cases e' : q' = t
      · subst e'
        simp only [setAt_self]
        exact fun hg' => cross q R b o c o' c' hq hg hg'
      · simp only [setAt_ne _ e'] at hq' ⊢
        exact h.sep q q' R R2 b o c o' c' hne hq hq' hg

theorem unpackSlots_ok (hs : Sim N S I0 w0 γ I σ a w) : ∀ {l : List (Nat × CS)} {vs : List AV} {ks rs done : List Nat} {rsAll : List Nat} {σ1 : St} {γ1 : Nat → Hdr} {K : St → Option β}, Kept σ γ w I a l vs ks rs → unpackSlots l vs σ1 K = some r →
    Un σ γ w (Ix γ I rsAll) a done σ1 γ1 → (∀ q ∈ rs, q ∈ rsAll) → (done ++ ks).Nodup → (l.map (·.1)).Nodup → (∀ t ∈ l.map (·.1), σ1.L t = none) →
    ∃ σ2 γ2, K σ2 = some r ∧ Un σ γ w (Ix γ I rsAll) a (done ++ ks) σ2 γ2
  | [], _, _, _, done, rsAll, σ1, γ1, K, .nil, h, hU, _, _, _, _ => by
    simp only [unpackSlots] at h
    obtain ⟨_, h⟩ := nlK_some h
    exact ⟨σ1, γ1, h, by simpa using hU⟩
  | (t, c) :: l, _, _, _, done, rsAll, σ1, γ1, K, .cons (v := v) (vs := vs) (k1 := k1) (k2 := k2) (r1 := r1) (r2 := r2) h0 hk, h, hU, hrs, hnd, hsl, hL => by
    have hsl2 : (l.map (·.1)).Nodup := (List.nodup_cons.1 hsl).2
    have htl : t ∉ l.map (·.1) := (List.nodup_cons.1 hsl).1
    have hLt : σ1.L t = none := hL t (by simp)
    have hLr : ∀ s ∈ l.map (·.1), σ1.L s = none := fun s hs' => hL s (by simp only [List.map_cons, List.mem_cons]; exact .inr hs')
    have hrs2 : ∀ q ∈ r2, q ∈ rsAll := fun q hq => hrs q (by simp [hq])
    have hIr : ∀ k, Ix γ I r1 k → Ix γ I rsAll k := by
      rintro k (hk | ⟨q, hq, hg⟩)
      · exact .inl hk
      · exact .inr ⟨q, hrs q (by simp [hq]), hg⟩
    have hII : ∀ k, I k → Ix γ I rsAll k := fun k hk => .inl hk
    have hnd' : (done ++ k1 ++ k2).Nodup := by rw [List.append_assoc]; exact hnd
    have fresh : ∀ q ∈ k1, q ∉ done := fun q hq hd => (List.nodup_append.1 hnd).2.2 q hd q (by simp [hq]) rfl
    have other : ∀ {R' : Root} s, s ∈ l.map (·.1) → setAt σ1.L t (some R') s = none := fun s hs' => by
      rw [setAt_ne _ (show s ≠ t from fun e => htl (e ▸ hs'))]; exact hLr s hs'
    cases h0 with
    | @data s y rs h1 h2 =>
      simp only [unpackSlots] at h
      obtain ⟨_, _, e, h⟩ := hdK_some h
      injection e with e1 e2; subst e1; subst e2
      obtain ⟨y', hsame, h⟩ := fitK_some h
      have := unpackSlots_ok hs hk h (hU.slot (hsame.2.2 _ _ _ (RI_mono hIr (fun _ _ => rfl) _ _ h1))) hrs2 (by simpa using hnd) hsl2 hLr
      simpa using this
    | @nil ty sz h1 =>
      simp only [unpackSlots] at h
      obtain ⟨_, _, e, h⟩ := hdK_some h
      injection e with e1 e2; subst e1; subst e2
      obtain ⟨xs, e, h⟩ := fitS_some h
      have hxs : xs = [] := by
        rcases e with e | ⟨e, _⟩
        · injection e with _ e; exact e.symm
        · cases e
      subst hxs
      have hU2 := hU.take hs hLt (x := .ref t 0 [] none) (R' := ⟨0, ty, sz, false, .live, []⟩) (hd := none) (k1 := []) rfl ⟨rfl, rfl⟩ (fun b o c h => by cases h) (by
          intro R' e1 _ _ _
          rw [setAt_self] at e1 ⊢
          exact h1) (fun q v hr => ⟨hr.1.symm, by rw [← hr.2]; exact Nat.zero_le _⟩)
      rw [List.append_nil] at hU2
      have := unpackSlots_ok hs hk h hU2 hrs2 (by simpa using hnd) hsl2 (fun s hs' => other s hs')
      simpa using this
    | @rf ty sz q R h1 h2 h3 h4 h5 =>
      simp only [unpackSlots] at h
      obtain ⟨_, _, e, h⟩ := hdK_some h
      injection e with e1 e2; subst e1; subst e2
      obtain ⟨xs, e, h⟩ := fitS_some h
      have hxs : xs = R.xs := by
        rcases e with e | ⟨e, _⟩
        · injection e with _ e; exact e.symm
        · cases e
      subst hxs
      have hro := hs.root q R h1 (by rw [h2]; simp)
      have hU2 := hU.take hs hLt (x := .ref t 0 [] none) (R' := ⟨0, ty, sz, false, .live, R.xs⟩) (hd := γ q) (k1 := [q]) rfl (by
          refine RootOk.move hII (fun _ _ => rfl) (fun _ _ _ _ => rfl) ?_
          cases hg : γ q with
          | none => rw [hg] at hro; exact ⟨hro.1, rfl⟩
          | some z =>
            obtain ⟨b, o', cap⟩ := z
            rw [hg] at hro
            obtain ⟨j1, j2, j3, j4⟩ := hro
            rw [h3] at j2 j3
            exact ⟨j1, j2, j3, fun h => by cases h⟩)
        (fun b o c hg => ⟨q, by simp, fresh q (by simp), R, h1, h2, hg⟩)
        (by
          intro R' e1 _ _ _
          rw [setAt_self] at e1 ⊢
          injection e1 with e1; subst e1
          exact RefOk.same (R := R) (R' := ⟨0, ty, sz, false, .live, R.xs⟩) rfl h3 h5)
        (fun q v hr => ⟨hr.1.symm, by rw [← hr.2]; exact Nat.zero_le _⟩)
      have := unpackSlots_ok hs hk h hU2 hrs2 hnd' hsl2 (fun s hs' => other s hs')
      rwa [List.append_assoc] at this
    | @lc ty sz s q b R x h1 h2 h3 h4 h5 h6 h7 =>
      simp only [unpackSlots] at h
      obtain ⟨_, _, e, h⟩ := hdK_some h
      injection e with e1 e2; subst e1; subst e2
      obtain ⟨x', hsame, h⟩ := fitK_some h
      have hro := hs.root q R h1 (by rw [h2]; simp)
      rw [h6] at hro
      obtain ⟨j1, j2, j3, j4⟩ := hro
      rw [h5, h3] at j2
      rw [h3] at j3
      obtain ⟨⟨u, v1, v2, v3⟩, _⟩ := j2
      have hU2 := hU.take hs hLt (x := .loc t 0 [] 0 0) (R' := ⟨0, ty, sz, true, .live, [x']⟩) (hd := some (b, 0, 1)) (k1 := [q]) rfl
        ⟨by simp, ⟨⟨u, hsame.2.2 _ _ _ (RI_mono hII (fun _ _ => rfl) _ _ v1), by rw [hsame.1, v2], v3⟩, trivial⟩, j3, fun _ => ⟨rfl, rfl⟩⟩
        (fun b' o c hg => ⟨q, by simp, fresh q (by simp), R, h1, h2, by rw [h6]; exact hg⟩)
        (by
          refine ⟨⟨_, h7⟩, fun R' e1 _ _ _ => ?_⟩
          rw [setAt_self] at e1
          injection e1 with e1; subst e1
          exact ⟨by simp, b, 0, 1, by rw [setAt_self], by simpa using h7⟩)
        (fun q v hr => ⟨hr.1.symm, by rw [← hr.2]; exact Nat.zero_le _⟩)
      have := unpackSlots_ok hs hk h hU2 hrs2 hnd' hsl2 (fun s hs' => other s hs')
      rwa [List.append_assoc] at this

/-- Kept at a cut. -/
def Packed (c : Cut) (σ : St) (vs : List AV) : Prop := ∃ ks rs, packSlots (β := List AV × List Nat × List Nat) σ c.slots (fun vs ks rs => some (vs, ks, rs)) = some (vs, ks, rs) ∧ distinct ks = true ∧ disj rs ks = true
theorem packSlots_inv : ∀ {l : List (Nat × CS)} {K : List AV → List Nat → List Nat → Option β}, packSlots σ l K = some r → ∃ vs ks rs, K vs ks rs = some r ∧ ∀ {β' : Type} (K' : List AV → List Nat → List Nat → Option β'), packSlots σ l K' = K' vs ks rs
  | [], K, h => ⟨_, _, _, h, fun K' => rfl⟩
  | (t, .data s) :: l, K, h => by
    simp only [packSlots] at h
    obtain ⟨y, rs, h, e1⟩ := dataK_inv h
    obtain ⟨vs, ks, rs', h, e2⟩ := packSlots_inv h
    exact ⟨_, _, _, h, fun K' => by simp only [packSlots]; rw [e1 σ (fun _ _ => rfl), e2]⟩
  | (t, .rf ty sz) :: l, K, h => by
    simp only [packSlots] at h
    split at h
    · rename_i he
      obtain ⟨vs, ks, rs', h, e2⟩ := packSlots_inv h
      exact ⟨_, _, _, h, fun K' => by simp only [packSlots]; rw [he]; exact e2 _⟩
    · rename_i q v he
      obtain ⟨R, _, h, e1⟩ := liveK_inv h
      obtain ⟨hc, h⟩ := cond_some h
      obtain ⟨vs, ks, rs', h, e2⟩ := packSlots_inv h
      refine ⟨_, _, _, h, fun K' => ?_⟩
      simp only [packSlots]
      rw [he]
      simp only []
      rw [e1 σ rfl, cond_t hc]
      exact e2 _
    · cases h
  | (t, .lc ty sz s) :: l, K, h => by
    simp only [packSlots] at h
    split at h
    · rename_i q v he
      obtain ⟨R, _, h, e1⟩ := liveK_inv h
      obtain ⟨hc, h⟩ := cond_some h
      obtain ⟨x, h, e3⟩ := nthK_inv h
      obtain ⟨vs, ks, rs', h, e2⟩ := packSlots_inv h
      refine ⟨_, _, _, h, fun K' => ?_⟩
      simp only [packSlots]
      rw [he]
      simp only []
      rw [e1 σ rfl, cond_t hc, e3]
      exact e2 _
    · cases h
theorem packK_some {c : Cut} {K : List AV → Option β} (h : packK c σ K = some r) : ∃ vs, Packed c σ vs ∧ K vs = some r := by
  unfold packK at h
  obtain ⟨vs, ks, rs, h, e⟩ := packSlots_inv h
  obtain ⟨hc, h⟩ := cond_some h
  simp only [Bool.and_eq_true] at hc
  exact ⟨vs, ⟨ks, rs, e _, hc.1, hc.2⟩, h⟩

theorem unpackK_ok {c : Cut} (hc : cutOk c = true) {vs : List AV} {K : St → Option β} (hok : Ok N S I0 w0 σ a w) (hp : Packed c σ vs) (h : unpackK c vs K = some r) : ∃ σ', K σ' = some r ∧ Ok N S I0 w0 σ' a w := by
  obtain ⟨γ, I, hs, hy⟩ := hok
  obtain ⟨ks, rs, h1, h2, h3⟩ := hp
  obtain ⟨vs', ks', rs', e, hk⟩ := packSlots_some hs h1
  injection e with e; injection e with e1 e; injection e with e2 e3
  subst e1; subst e2; subst e3
  have hdj := disj_not h3
  have hnd := distinct_nodup h2
  have hst := hk.stand
  obtain ⟨σ2, γ2, k1, hU⟩ := unpackSlots_ok hs (done := []) (rsAll := rs') (γ1 := fun _ => none) hk h ⟨fun s => trivial, (fun s q v hr => hr.elim), (fun q R hq => by cases hq), (fun q q' R R' b o c o' c' _ hq => by cases hq)⟩
    (fun q hq => hq) (by simpa using hnd) (distinct_nodup hc) (fun _ _ => rfl)
  rw [List.nil_append] at hU
  refine ⟨σ2, k1, γ2, Ix γ I rs', ⟨hs.size, hs.defers, hU.env, fun q Q hQ _ => (hU.root q Q hQ).2.1, fun q Q b o' c' hQ hl hg => ?_, fun q Q b o' c' hQ hl hg => ?_, fun q q' Q Q' b o' c' o2 c2 hne hQ hQ' _ _ hg => hU.sep q q' Q Q' b o' c' o2 c2 hne hQ hQ' hg, Ix_lt hs hst, fun k hk => ?_, hs.frame⟩, hU.young⟩
  · obtain ⟨q0, m1, R0, m2, m3, m4⟩ := (hU.root q Q hQ).2.2 b o' c' hg
    have hl0 := hs.live q0 R0 b o' c' m2 m3 m4
    refine ⟨?_, hl0.2⟩
    rintro (hk | ⟨q1, hq1, o1, c1, hg1⟩)
    · exact hl0.1 hk
    · obtain ⟨R1, n1, n2⟩ := hst q1 hq1
      have hne : q0 ≠ q1 := fun e => hdj q1 hq1 (e ▸ m1)
      cases e : R1.st with
      | live => exact hs.sep q0 q1 R0 R1 b o' c' o1 c1 hne m2 n1 m3 e m4 hg1
      | still => exact hl0.1 (hs.still q1 R1 b o1 c1 n1 e hg1)
      | gone => exact n2 e
  · rw [(hU.root q Q hQ).1] at hl; cases hl
  · rcases hk with hk | ⟨q1, hq1, o1, c1, hg1⟩
    · exact hs.immNew k hk
    · obtain ⟨R1, n1, n2⟩ := hst q1 hq1
      cases e : R1.st with
      | live =>
        rcases (hs.live q1 R1 k o1 c1 n1 e hg1).2 with h | h
        · exact .inr (.inl h)
        · exact .inr (.inr h)
      | still => exact hs.immNew k (hs.still q1 R1 k o1 c1 n1 e hg1)
      | gone => exact absurd e n2

theorem leave_some {e : Ex} {q : Nat × List AV} : ∀ {l : List (Ex × Cut)} {j : Nat}, leave σ e l j = some q → ∃ i c, q.1 = j + i ∧ l[i]? = some (e, c) ∧ Packed c σ q.2
  | [], j, h => by cases h
  | (x, c) :: l, j, h => by
    simp only [leave] at h
    cases hb : Nat.beq x e with
    | true =>
      rw [cond_t hb] at h
      have hb := Nat.eq_of_beq_eq_true hb
      subst hb
      obtain ⟨vs, h1, h2⟩ := packK_some h
      injection h2 with h2; subst h2
      exact ⟨0, c, rfl, rfl, h1⟩
    | false =>
      rw [cond_f hb] at h
      obtain ⟨i, c', h1, h2, h3⟩ := leave_some h
      exact ⟨i + 1, c', by omega, by simpa using h2, h3⟩
end Go.Ai
