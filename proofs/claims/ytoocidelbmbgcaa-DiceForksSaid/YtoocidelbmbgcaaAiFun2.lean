/- Part of the proofs: the verified interpreter for the program's functions, or lemmas on what they compute; no condition. -/
import Derived.Test.YtoocidelbmbgcaaAiFun
namespace Go.Ai
variable {N : Lim} {S I0 I I' : Nat → Prop} {w0 w w' : World} {γ γ' : Nat → Hdr} {σ σ' : St} {a : Act} {Γ : Ctx} {β : Type} {r : β}

/-! ### Functions: the way out -/
/-- A result. -/
inductive ResEl (σ : St) (γ : Nat → Hdr) (w : World) (I : Nat → Prop) (bs : List Nat) (alone : Bool) : AV → Value → Prop
  | data {y : AV} {u : Value} (h : RI w I y u) : ResEl σ γ w I bs alone y u
  | box {x : AV} {q b : Nat} {R : Root} (ha : alone = true) (h1 : σ.L q = some R) (h2 : R.st = .live) (h3 : R.bx = true) (h4 : R.xs = [x]) (h5 : q ∉ bs) (h6 : γ q = some (b, 0, 1)) : ResEl σ γ w I bs alone (.box R.xs) (.pointer (some ⟨b, 0, none⟩))
theorem ResEl.mono {bs : List Nat} {alone : Bool} {y : AV} {u : Value} (hI : ∀ k, I k → I' k) (h : ResEl σ γ w I bs alone y u) : ResEl σ γ w I' bs alone y u := by
  cases h with
  | data h => exact .data (RI_mono hI (fun _ _ => rfl) _ _ h)
  | box ha h1 h2 h3 h4 h5 h6 => exact .box ha h1 h2 h3 h4 h5 h6
inductive ResEls (σ : St) (γ : Nat → Hdr) (w : World) (I : Nat → Prop) (bs : List Nat) (alone : Bool) : List AV → List Value → Prop
  | nil : ResEls σ γ w I bs alone [] []
  | cons {y : AV} {u : Value} {ys : List AV} {us : List Value} (h : ResEl σ γ w I bs alone y u) (k : ResEls σ γ w I bs alone ys us) : ResEls σ γ w I bs alone (y :: ys) (u :: us)
theorem ResEls.mono {bs : List Nat} {alone : Bool} {y : List AV} {u : List Value} (hI : ∀ k, I k → I' k) (h : ResEls σ γ w I bs alone y u) : ResEls σ γ w I' bs alone y u := by
  induction h with
  | nil => exact .nil
  | cons h _ ih => exact .cons (h.mono hI) ih
theorem ResEls.data {bs : List Nat} {ys : List AV} {us : List Value} (h : ResEls σ γ w I bs false ys us) : RIl w I ys us := by
  induction h with
  | nil => rfl
  | cons h _ ih =>
    cases h with
    | data h => exact ⟨_, _, rfl, h, ih⟩
    | box ha => cases ha

theorem box_root (hs : Sim N S I0 w0 γ I σ a w) {q v t : Nat} {R : Root} (he : σ.env t = .loc q v [] 0 0) (h1 : σ.L q = some R) (h2 : R.ver = v) (h3 : R.st ≠ .gone) (h4 : R.bx = true) :
    ∃ b x, γ q = some (b, 0, 1) ∧ a.tmps.getD t undef = .pointer (some ⟨b, 0, none⟩) ∧ R.xs = [x] ∧ Free w b R.sz ∧ RIs w I [x] b 0 R.sz := by
  have hv := hs.env t
  rw [he] at hv
  obtain ⟨_, hv⟩ := hv
  obtain ⟨hi, b, of, cap, hg, hu⟩ := hv R h1 h2 h3 rfl
  have hro := hs.root q R h1 h3
  rw [hg] at hro
  obtain ⟨j1, j2, j3, j4⟩ := hro
  obtain ⟨rfl, rfl⟩ := j4 h4
  match hx : R.xs with
  | [] => rw [hx] at hi; simp at hi
  | [x] => exact ⟨b, x, hg, by simpa using hu, rfl, by simpa using j3, by rw [hx] at j2; exact j2⟩
  | _ :: _ :: _ => rw [hx] at j1; simp at j1

def resSem (tmps : Array Value) : ResultVar → Sem Value
  | .tmp t => pure (tmps.getD t undef)
  | .cell a t => do loadVar t (← asAddr (tmps.getD a undef))

theorem res1K_some (hs : Sim N S I0 w0 γ I σ a w) {bs : List Nat} {alone : Bool} {x : AV} {u : Value} (hx : RV σ.L γ w I x u) {t : Nat} (ht : x = σ.env t) (hu : u = a.tmps.getD t undef) {K : AV → Option β} (h : res1K σ bs alone x K = some r) :
    ∃ y rs, K y = some r ∧ Stand σ rs ∧ (∀ q ∈ rs, q ∉ bs) ∧ ResEl σ γ w (Ix γ I rs) bs alone y u := by
  unfold res1K at h
  split at h
  · rename_i q v
    obtain ⟨R, h1, h2, h3, h⟩ := liveK_some h
    obtain ⟨hc, h⟩ := cond_some h
    simp only [Bool.and_eq_true] at hc
    obtain ⟨b, x, k1, k2, k3, k4, k5⟩ := box_root hs ht.symm h1 h2 (by rw [h3]; simp) hc.1.1
    refine ⟨_, [], h, (fun q hq => by cases hq), (fun q hq => by cases hq), ?_⟩
    rw [hu, k2]
    exact .box hc.1.2 h1 h3 hc.1.1 k3 (mem_contains hc.2) k1
  · obtain ⟨y, rs, h, h1, h2, h3⟩ := dataK_some hs hx h
    obtain ⟨hc, h⟩ := cond_some h
    exact ⟨y, rs, h, h2, disj_not hc, .data h1⟩

theorem resK_some (hΓ : CtxOk Γ) (hs : Sim N S I0 w0 γ I σ a w) {bs : List Nat} {alone : Bool} : ∀ {l : List ResultVar} {K : List AV → Option β}, resK Γ σ bs alone l K = some r →
    ∃ ys rs us, K ys = some r ∧ Stand σ rs ∧ (∀ q ∈ rs, q ∉ bs) ∧ (l.mapM (resSem a.tmps)).run Γ.P w = .ok us w ∧ ResEls σ γ w (Ix γ I rs) bs alone ys us ∧ us.length = l.length
  | [], K, h => ⟨[], [], [], h, (fun q hq => by cases hq), (fun q hq => by cases hq), by simp, .nil, rfl⟩
  | .tmp t :: l, K, h => by
    simp only [resK] at h
    obtain ⟨y, rs, h, h1, h2, h3⟩ := res1K_some hs (hs.env t) rfl rfl h
    obtain ⟨ys, rs', us, h, k1, k2, k3, k4, k5⟩ := resK_some hΓ hs h
    refine ⟨_, rs ++ rs', _, h, fun q hq => ?_, fun q hq => ?_, ?_, .cons (h3.mono ?_) (k4.mono ?_), by simp [k5]⟩
    · rcases List.mem_append.1 hq with hq | hq
      · exact h1 q hq
      · exact k1 q hq
    · rcases List.mem_append.1 hq with hq | hq
      · exact h2 q hq
      · exact k2 q hq
    · simp only [List.mapM_cons, resSem, Sem.run_bind, Sem.run_pure, Result.andThen_ok, k3]
    · rintro k (hk | ⟨q, hq, hg⟩)
      · exact .inl hk
      · exact .inr ⟨q, by simp [hq], hg⟩
    · rintro k (hk | ⟨q, hq, hg⟩)
      · exact .inl hk
      · exact .inr ⟨q, by simp [hq], hg⟩
  | .cell t ty :: l, K, h => by
    simp only [resK] at h
    split at h
    case h_2 => cases h
    rename_i q v he
    obtain ⟨R, h1, h2, h3, h⟩ := rootK_some h
    obtain ⟨hbx, h⟩ := cond_some h
    obtain ⟨x, hx, h⟩ := nthK_some h
    obtain ⟨ti, hti, h⟩ := tyK_some h
    obtain ⟨b, x', g1, g2, g3, g4, g5⟩ := box_root hs he h1 h2 h3 hbx
    rw [g3] at hx
    simp only [List.getElem?_cons_zero, Option.some.injEq] at hx
    subst hx
    obtain ⟨⟨u, u1, u2, u3⟩, _⟩ := g5
    obtain ⟨y, uy, h, hld, hy, _⟩ := run_part (hΓ.ty ty ti hti) (off := 0) u1 u3 h
    obtain ⟨ys, rs', us, h, k1, k2, k3, k4, k5⟩ := resK_some hΓ hs h
    refine ⟨_, rs', _, h, k1, k2, ?_, .cons (.data (RI_mono (fun k hk => .inl hk) (fun _ _ => rfl) _ _ hy)) k4, by simp [k5]⟩
    simp only [List.mapM_cons, resSem, Sem.run_bind, g2, asAddr, Sem.run_pure, Result.andThen_ok]
    rw [show (0 : Nat) + 0 = 0 from rfl] at hld
    simp only [hld, Result.andThen_ok, k3]

theorem boxesK_some (hs : Sim N S I0 w0 γ I σ a w) {all : Array Value} (hall : ∀ t v, N.keep t = some v → all[t]? = some v) : ∀ {ks : List Nat} {bs : List Nat} {K : List AV → Option β}, boxesK σ ks K = some r → BoxAt all ks bs → (∀ t ∈ ks, N.keep t = all[t]?) →
    ∃ ys, K ys = some r ∧ OutsOk w I ys bs ∧ (∀ b ∈ bs, ∃ q ∈ ks, ∃ R, σ.L q = some R ∧ R.st = .live ∧ γ q = some (b, 0, 1))
  | [], bs, K, h, hb, _ => by
    simp only [BoxAt] at hb; subst hb
    exact ⟨[], h, rfl, fun b hb => by cases hb⟩
  | t :: ks, bs, K, h, hb, hk => by
    obtain ⟨b, bs', rfl, hat, hb⟩ := hb
    simp only [boxesK] at h
    split at h
    case h_2 => cases h
    rename_i q v he
    obtain ⟨hq, h⟩ := cond_some h
    have hq := Nat.eq_of_beq_eq_true hq
    subst hq
    obtain ⟨R, h1, h2, h3, h⟩ := liveK_some h
    obtain ⟨hbx, h⟩ := cond_some h
    obtain ⟨x, hx, h⟩ := nthK_some h
    obtain ⟨b', x', g1, g2, g3, g4, g5⟩ := box_root hs he h1 h2 (by rw [h3]; simp) hbx
    rw [g3] at hx
    simp only [List.getElem?_cons_zero, Option.some.injEq] at hx
    subst hx
    have hkeep : a.tmps[q]? = some (.pointer (some ⟨b, 0, none⟩)) := hs.size.2 q _ (by rw [hk q (by simp), hat])
    have hbb : b' = b := by
      rw [all_getD hkeep] at g2
      injection g2 with g2; injection g2 with g2; injection g2 with g2; exact g2.symm
    subst hbb
    obtain ⟨ys, k1, k2, k3⟩ := boxesK_some hs hall h hb (fun t ht => hk t (by simp [ht]))
    have hw : x'.width = R.sz := g5.1.choose_spec.2.1
    refine ⟨_, k1, ⟨b', bs', rfl, by rw [hw]; exact g4, by rw [hw]; exact g5, k2⟩, fun b hb => ?_⟩
    rcases List.mem_cons.1 hb with rfl | hb
    · exact ⟨q, by simp, R, h1, h3, g1⟩
    · obtain ⟨q', hq', h⟩ := k3 b hb
      exact ⟨q', by simp [hq'], h⟩

theorem OutsOk.mono (hI : ∀ k, I k → I' k) : ∀ {l : List AV} {bs : List Nat}, OutsOk w I l bs → OutsOk w I' l bs
  | [], _, h => h
  | x :: l, bs, h => by
    obtain ⟨b, bs', h1, h2, h3, h4⟩ := h
    exact ⟨b, bs', h1, h2, RIs_mono hI (fun _ _ => rfl) _ _ _ _ rfl h3, h4.mono hI⟩

/-- F is the program's own function. -/
structure FunOk (P : Program) (F : Fun) : Prop where
  fn : ∃ fn, P.funcs[F.f]? = some fn ∧ (fn.name == "runtime.NumGoroutine") = false ∧ fn.body = some F.body ∧ fn.results.toList = F.results ∧ F.pars.length ≤ fn.ntmps ∧ codeB fn.ntmps (boxSlots F.pars 0) F.body = true
  an : anB F.an = true

def resVal : List Value → Value
  | [u] => u
  | us => .tuple us.toArray
theorem results_run {P : Program} {fn : Func} {tmps : Array Value} {us : List Value} (h : (fn.results.toList.mapM (resSem tmps)).run P w = .ok us w) : (results fn tmps).run P w = .ok (resVal us) w := by
  have hm : (fn.results.mapM (resSem tmps)).run P w = .ok us.toArray w := by
    rw [Array.mapM_eq_mapM_toList]
    simp [h]
  change ((fn.results.mapM (resSem tmps)) >>= fun vs => (pure (if h : vs.size = 1 then vs[0] else .tuple vs) : Sem Value)).run P w = _
  rw [Sem.run_bind, hm]
  match us with
  | [] => rfl
  | [u] => rfl
  | _ :: _ :: _ => rfl

theorem fun_sound (hΓ : CtxOk Γ) {F : Fun} (hF : FunOk Γ.P F) (fuel : Nat) : Sound Γ.P F.f (funK Γ fuel F) := by
  intro args res outs h w vs bs I hargs hI hnd hbs
  obtain ⟨fn, f1, f2, f3, f4, f5, f6⟩ := hF.fn
  have f2' : fn.name ≠ "runtime.NumGoroutine" := by simpa using f2
  refine .inr ⟨by simp [callFunc, f1, f2', f3], ?_⟩
  refine calls_of_wp f1 f3 ?_
  unfold funK at h
  obtain ⟨σ, γ, t', h, hE, hat, hlen⟩ := bind_ok (w := w) (I := I) (all := vs.toArray ++ Array.replicate (fn.ntmps - vs.toArray.size) undef) (allbs := bs) (γ := fun _ => none) hargs h (fun j v hj => by
      have hlt := (List.getElem?_eq_some_iff.1 hj).1
      rw [Nat.zero_add, Array.getElem?_append_left (by simpa using hlt)]
      simpa using hj)
    ⟨fun s => trivial, (fun s q v hr => hr.elim), (fun q R hq => by cases hq), (fun q q' R R' b _ hq => by cases hq)⟩ hnd (fun b hb => hb) (fun q R b hq => by cases hq)
  generalize hall : vs.toArray ++ Array.replicate (fn.ntmps - vs.toArray.size) undef = all at *
  have hsize : all.size = fn.ntmps := by
    rw [← hall]; simp; omega
  let N : Lim := ⟨fn.ntmps, fun t => if t ∈ boxSlots F.pars 0 then all[t]? else none⟩
  have hs : Sim N (· ∈ bs) I w γ I σ ⟨all, []⟩ w := by
    refine ⟨⟨hsize, fun t v hk => ?_⟩, rfl, hE.env, fun q R hq _ => (hE.root q R hq).2.2.choose_spec.2.1, fun q R b o c hq hl hg => ?_, fun q R b o c hq hl hg => ?_, fun q q' R R' b o c o' c' hne hq hq' hl hl' hg hg' => ?_, hI, fun k hk => .inl hk, Fr.refl _ _⟩
    · simp only [N] at hk
      split at hk
      · exact hk
      · cases hk
    · obtain ⟨_, _, b', hg', _, hb'⟩ := hE.root q R hq
      rw [hg'] at hg
      injection hg with hg; injection hg with e _; subst e
      exact ⟨(hbs _ hb').1, .inr hb'⟩
    · have := (hE.root q R hq).2.1
      rw [hl] at this; cases this
    · obtain ⟨_, _, b1, g1, _, _⟩ := hE.root q R hq
      obtain ⟨_, _, b2, g2, _, _⟩ := hE.root q' R' hq'
      rw [g1] at hg; injection hg with hg; injection hg with e _; subst e
      rw [g2] at hg'; injection hg' with hg'; injection hg' with e _; subst e
      exact hE.sep q q' R R' _ hne hq hq' g1 g2
  refine codeK_ok (N := N) (S := (· ∈ bs)) (I0 := I) (w0 := w) hΓ (n := fn.ntmps) (ks := boxSlots F.pars 0) (Nat.le_refl _) (fun t ht => by simp only [N]; rw [if_neg ht]) F.an F.body h f6 hF.an ⟨γ, I, hs, hE.young⟩ ?_
  intro e σ' a' w' he ⟨γ', I1, hs', hy'⟩
  obtain ⟨hle, he⟩ := cond_some he
  have hle := Nat.le_of_ble_eq_true hle
  obtain ⟨ys, rs, us, he, k1, k2, k3, k4, k5⟩ := resK_some hΓ hs' he
  obtain ⟨zs, he, o1, o2⟩ := boxesK_some hs' (all := all) (fun t v hk => by
      simp only [N] at hk
      split at hk
      · exact hk
      · cases hk) he hat (fun t ht => by simp only [N]; rw [if_pos ht])
  injection he with he
  injection he with he1 he2
  subst he1; subst he2
  have hIx := Ix_lt hs' k1
  have hbad : ∀ b ∈ bs, ¬ Ix γ' I1 rs b := by
    intro b hb hk
    obtain ⟨q, hq, R, g1, g2, g3⟩ := o2 b hb
    have hl := hs'.live q R b 0 1 g1 g2 g3
    rcases hk with hk | ⟨q', hq', o', c', hg⟩
    · exact hl.1 hk
    · obtain ⟨R', j1, j2⟩ := k1 q' hq'
      have hne : q ≠ q' := fun e => k2 q' hq' (e ▸ hq)
      cases e : R'.st with
      | live => exact hs'.sep q q' R R' b 0 1 o' c' hne g1 j1 g2 e g3 hg
      | still => exact hl.1 (hs'.still q' R' b o' c' j1 e hg)
      | gone => exact j2 e
  have hnew : ∀ k, Ix γ' I1 rs k → (I k ∨ w.heap.size ≤ k) ∧ k < w'.heap.size := by
    intro k hk
    refine ⟨?_, hIx k hk⟩
    have hkb : k ∉ bs := fun hb => hbad k hb hk
    rcases hk with hk | ⟨q', hq', o', c', hg⟩
    · rcases hs'.immNew k hk with h | h | h
      · exact .inl h
      · exact .inr h
      · exact absurd h hkb
    · obtain ⟨R', j1, j2⟩ := k1 q' hq'
      cases e : R'.st with
      | live =>
        rcases (hs'.live q' R' k o' c' j1 e hg).2 with h | h
        · exact .inr h
        · exact absurd h hkb
      | still =>
        rcases hs'.immNew k (hs'.still q' R' k o' c' j1 e hg) with h | h | h
        · exact .inl h
        · exact .inr h
        · exact absurd h hkb
      | gone => exact absurd e j2
  have hu := results_run (fn := fn) (tmps := a'.tmps) (P := Γ.P) (w := w') (by rw [f4]; exact k3)
  have post : ∃ v, (results fn a'.tmps).run Γ.P w' = .ok v w' ∧ ∃ I' : Nat → Prop, ResOk w w' I' (one? ys) v ∧ OutsOk w' I' zs bs ∧ Fr (· ∈ bs) w w' ∧ (∀ k, I' k → (I k ∨ w.heap.size ≤ k) ∧ k < w'.heap.size) ∧ (∀ b ∈ bs, ¬ I' b) := by
    have plain : ∀ v, (results fn a'.tmps).run Γ.P w' = .ok v w' → ResOk w w' (Ix γ' I1 rs) (one? ys) v → ∃ v, (results fn a'.tmps).run Γ.P w' = .ok v w' ∧ ∃ I' : Nat → Prop, ResOk w w' I' (one? ys) v ∧ OutsOk w' I' zs bs ∧ Fr (· ∈ bs) w w' ∧ (∀ k, I' k → (I k ∨ w.heap.size ≤ k) ∧ k < w'.heap.size) ∧ (∀ b ∈ bs, ¬ I' b) :=
      fun v hv hr => ⟨v, hv, Ix γ' I1 rs, hr, o1.mono (fun k hk => .inl hk), hs'.frame, hnew, hbad⟩
    cases k4 with
    | nil => exact plain _ hu ⟨[], rfl, rfl⟩
    | @cons y u ys us hy hys =>
      cases hys with
      | nil =>
        cases hy with
        | data h => exact plain _ hu (show ResOk w w' (Ix γ' I1 rs) y u by
            cases y <;> first | exact h | exact h.elim)
        | @box x q b R ha h1 h2 h3 h4 h5 h6 =>
          have hl := hs'.live q R b 0 1 h1 h2 h6
          have hro := hs'.root q R h1 (by rw [h2]; simp)
          rw [h6] at hro
          obtain ⟨j1, j2, j3, _⟩ := hro
          rw [h4] at j2
          have hw : x.width = R.sz := j2.1.choose_spec.2.1
          refine ⟨_, hu, I1, ⟨b, ⟨x, h4, rfl, by rw [hw]; simpa using j3, by rw [hw]; exact j2⟩, ?_, hl.1⟩, o1, hs'.frame, fun k hk => hnew k (.inl hk), fun b hb hk => hbad b hb (.inl hk)⟩
          rcases hl.2 with h | h
          · exact h
          · obtain ⟨q', hq', R', g1, g2, g3⟩ := o2 b h
            have hne : q ≠ q' := fun e => h5 (e ▸ hq')
            exact absurd g3 (hs'.sep q q' R R' b 0 1 0 1 hne h1 g1 h2 g2 h6)
      | @cons y2 u2 ys us hy2 hys =>
        have hal : Nat.beq F.results.length 1 = false := by
          refine beq_ne ?_
          rw [← k5]
          simp
        rw [hal] at hy hy2 hys
        exact plain _ hu ⟨_, rfl, (ResEls.cons hy (.cons hy2 hys)).data⟩
  obtain ⟨v, hv, hpost⟩ := post
  have hdf := hs'.defers
  match e, hle with
  | 0, _ => exact ⟨hdf, v, hv, hpost⟩
  | 1, _ => exact ⟨hdf, v, hv, hpost⟩
end Go.Ai
