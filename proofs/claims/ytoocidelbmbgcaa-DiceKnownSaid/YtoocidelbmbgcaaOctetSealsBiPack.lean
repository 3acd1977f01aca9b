/- Part of the proofs: the verified interpreter for the program's functions, or lemmas on what they compute; no condition. -/
import Derived.Test.YtoocidelbmbgcaaOctetSealsBiDraw
namespace Go.Ai
variable {N : Lim} {S I0 I I' J : Nat → Prop} {w0 w w' : World} {γ γ' : Nat → Hdr} {σ σ' σ1 σ2 : St} {a : Act} {Γ : Ctx} {o : Oper} {e : Eff} {β : Type} {r : β} {ops : Array Oper} {Q : Exit → Act → World → Prop}

/-! ### Cuts: what is kept -/
def cutOk (c : Cut) : Bool := distinct (c.slots.map (·.1))

/-- Slots, as trees. -/
def SlotsOk (N : Lim) (a : Act) (w : World) (J : Nat → Prop) : List (Nat × Sh) → List AV → List (List Hd) → Prop
  | [], vs, hss => vs = [] ∧ hss = []
  | (t, s) :: l, vs, hss => ∃ y vs' h hss', vs = y :: vs' ∧ hss = h :: hss' ∧ RO w J y (a.tmps.getD t undef) h ∧
      (∀ p, N.pin t = some p → s.isOwn = true → h = p.1.toList ∧ rowLen y = p.2) ∧ SlotsOk N a w J l vs' hss'
theorem SlotsOk.mono (hI : ∀ k, I k → I' k) : ∀ {l : List (Nat × Sh)} {vs : List AV} {hss : List (List Hd)}, SlotsOk N a w I l vs hss → SlotsOk N a w I' l vs hss
  | [], _, _, h => h
  | (t, s) :: l, vs, hss, h => by
    obtain ⟨y, vs', hd, hss', h1, h2, h3, h4, h5⟩ := h
    exact ⟨y, vs', hd, hss', h1, h2, RO_mono hI _ _ _ h3, h4, h5.mono hI⟩

theorem packSlots_some (hs : Sim N S I0 w0 γ I σ a w) : ∀ {l : List (Nat × Sh)} {K : List AV → List Nat → List Nat → Option β}, packSlots σ l K = some r →
    ∃ vs rs us hss, K vs rs us = some r ∧ SlotsOk N a w (Ix γ I rs) l vs hss ∧ Stand σ rs ∧ Units σ γ us hss.flatten
  | [], K, h => ⟨[], [], [], [], h, ⟨rfl, rfl⟩, (fun q hq => by cases hq), .nil⟩
  | (t, s) :: l, K, h => by
    simp only [packSlots] at h
    have both : ∃ y rs us bs, (packSlots σ l fun ys rs' us' => K (y :: ys) (rs ++ rs') (us ++ us')) = some r ∧ RO w (Ix γ I rs) y (a.tmps.getD t undef) bs ∧ Stand σ rs ∧ Units σ γ us bs ∧
        (∀ p, N.pin t = some p → s.isOwn = true → bs = p.1.toList ∧ rowLen y = p.2) := by
      cases hrow : s.isOwn with
      | false =>
        obtain ⟨y, rs, us, bs, h2, j1, j2, j3, j4, j5⟩ := closeK_some hs s (hs.env t) h
        exact ⟨y, rs, us, bs, h2, j1, j2, j3, fun p _ hf => by cases hf⟩
      | true =>
        obtain ⟨y, rs, us, h2, hnat, hlen⟩ := closeK_row hrow h rfl
        obtain ⟨y', rs', us', bs, h3, j1, j2, j3, j4, j5⟩ := closeK_some hs s (K := fun y rs us => some (y, rs, us)) (hs.env t) (hnat _)
        injection h3 with h3; injection h3 with e1 h3; injection h3 with e2 e3
        subst e1; subst e2; subst e3
        refine ⟨_, _, _, bs, h2, j1, j2, j3, fun p hp _ => ?_⟩
        have hl := j5 rfl
        obtain ⟨hp1, hp2⟩ := hs.pin t p hp
        cases s <;> simp only [Sh.isOwn, Bool.false_eq_true] at hrow
        rcases hl with ⟨e, _⟩ | ⟨q, v, part, R, e, k1, k2, k3, k4, k5, k6⟩
        · exact absurd e hp1
        · obtain ⟨g1, g2⟩ := hp2 q v part R e k1 k2 (by rw [k3]; simp)
          exact ⟨by rw [k6, g1], (hlen q v [] part R e k1).trans g2⟩
    obtain ⟨y, rs, us, bs, h2, j1, j2, j3, j4⟩ := both
    obtain ⟨ys, rs', us', hss, h3, k1, k2, k3⟩ := packSlots_some hs h2
    exact ⟨_, _, _, bs :: hss, h3, ⟨y, ys, bs, hss, rfl, rfl, RO_mono Ix_left _ _ _ j1, j4, k1.mono Ix_right⟩, j2.append k2, by simpa using j3.append k3⟩

theorem openK_notref {nx : Nat → Nat} {s : Sh} {n : Nat} {x : AV} {K : AV → List (Nat × Root) → Option β} (hrow : s.isOwn = false) (h : openK nx s n x K = some r) :
    ∃ v l, K v l = some r ∧ (∀ q ver p part, v ≠ .ref q ver p part) ∧ v ≠ .nils := by
  have leaf : ∀ {x : AV}, x.leafN = true → (∀ q ver p part, x ≠ .ref q ver p part) ∧ x ≠ .nils := fun hl =>
    ⟨fun q ver p part e => by subst e; simp [AV.leafN, AV.leaf] at hl, fun e => by subst e; simp [AV.leafN] at hl⟩
  cases s with
  | own _ _ _ => simp [Sh.isOwn] at hrow
  | box ty sz s =>
    simp only [openK] at h
    obtain ⟨cs, h1, e1⟩ := fitX_inv h
    obtain ⟨c, cs', h2, e2⟩ := hdK_inv h1
    obtain ⟨h3, e3⟩ := nlK_inv h2
    obtain ⟨hc, h4⟩ := cond_some h3
    obtain ⟨y, l, h5, e5⟩ := openK_inv s h4
    exact ⟨_, _, h5, fun _ _ _ _ e => (by cases e), fun e => (by cases e)⟩
  | agg ls =>
    simp only [openK] at h
    obtain ⟨cs, h1, e1⟩ := fitA_inv h
    obtain ⟨ys, l, h2, e2⟩ := openL_inv ls h1
    exact ⟨_, _, h2, fun _ _ _ _ e => (by cases e), fun e => (by cases e)⟩
  | tup ls =>
    simp only [openK] at h
    obtain ⟨cs, h1, e1⟩ := fitT_inv h
    obtain ⟨ys, l, h2, e2⟩ := openL_inv ls h1
    exact ⟨_, _, h2, fun _ _ _ _ e => (by cases e), fun e => (by cases e)⟩
  | fn f ls ms =>
    simp only [openK] at h
    obtain ⟨a, b, h1, e1⟩ := fitF_inv h
    obtain ⟨ys, l, h2, e2⟩ := openL_inv ls h1
    obtain ⟨ys', l', h3, e3⟩ := openL_inv ms h2
    exact ⟨_, _, h3, fun _ _ _ _ e => (by cases e), fun e => (by cases e)⟩
  | int k => simp only [openK] at h; obtain ⟨hl, h1⟩ := cond_some h; exact ⟨_, _, h1, (leaf hl).1, (leaf hl).2⟩
  | bool => simp only [openK] at h; obtain ⟨hl, h1⟩ := cond_some h; exact ⟨_, _, h1, (leaf hl).1, (leaf hl).2⟩
  | str => simp only [openK] at h; obtain ⟨hl, h1⟩ := cond_some h; exact ⟨_, _, h1, (leaf hl).1, (leaf hl).2⟩
  | sl sz => simp only [openK] at h; obtain ⟨hl, h1⟩ := cond_some h; exact ⟨_, _, h1, (leaf hl).1, (leaf hl).2⟩

/-- A slot's form is changed, its value is not. -/
theorem Sim.setEnv (h : Sim N S I0 w0 γ I σ a w) {t : Nat} {x : AV} (hx : RV σ.L γ w I x (a.tmps.getD t undef))
    (hp : ∀ p, N.pin t = some p → x ≠ .nils ∧ ∀ q v part R, x = .ref q v [] part → σ.L q = some R → R.ver = v → R.st ≠ .gone → γ q = p.1 ∧ R.xs.length = p.2) :
    Sim N S I0 w0 γ I { σ with env := setAt σ.env t x } a w := by
  refine ⟨h.size, h.defers, fun s => ?_, h.root, h.live, h.still, h.sep, h.imm, h.immNew, h.frame, fun s p hs => ?_⟩
  · by_cases e : s = t
    · subst e; simp only [setAt_self]; exact hx
    · simp only [setAt_ne _ e]; exact h.env s
  · by_cases e : s = t
    · subst e; simp only [setAt_self]; exact hp p hs
    · simp only [setAt_ne _ e]; exact h.pin s p hs
theorem Young.setEnv (h : Young σ) {t : Nat} {x : AV} (hx : ∀ r v, refers x r v → ∃ R, σ.L r = some R ∧ v ≤ R.ver) : Young { σ with env := setAt σ.env t x } := by
  refine ⟨fun s r v hr => ?_, h.box⟩
  by_cases e : s = t
  · subst e; simp only [setAt_self] at hr; exact hx r v hr
  · simp only [setAt_ne _ e] at hr; exact h.env s r v hr

/-- Roots that are all new. -/
theorem Sim.opened (h : Sim N S I0 w0 γ J σ a w) (hy : Young σ) {nx : Nat → Nat} {Z : List Ent} {bs : List Hd} (hE : Ents w J nx Z bs) (hnames : (Z.map (·.1.1)).Nodup) (hnew : ∀ z ∈ Z, σ.L z.1.1 = none) (hnd : (bs.map (·.1)).Nodup)
    (hbs : ∀ b ∈ bs.map (·.1), ¬ J b ∧ (w0.heap.size ≤ b ∨ S b)) (hsep : ∀ q R b o c, σ.L q = some R → R.st = .live → γ q = some (b, o, c) → b ∉ bs.map (·.1)) :
    Sim N S I0 w0 (hdrOf Z γ) J (σ.ups (Z.map (·.1))) a w ∧ Young (σ.ups (Z.map (·.1))) ∧ Ag (σ.ups (Z.map (·.1))).L (hdrOf Z γ) Z := by
  have hkeys : (Z.map (·.1)).map (·.1) = Z.map (·.1.1) := by simp [Function.comp_def]
  have hndl : ((Z.map (·.1)).map (·.1)).Nodup := by rw [hkeys]; exact hnames
  have hAg : Ag (σ.ups (Z.map (·.1))).L (hdrOf Z γ) Z := fun z hz => ⟨ups_get _ σ hndl z.1 (List.mem_map.2 ⟨z, hz, rfl⟩), hdrOf_mem hnames z hz⟩
  have hmem : ∀ {q : Nat} {R : Root}, (q, R) ∈ Z.map (·.1) → ∃ hd, ((q, R), hd) ∈ Z := fun hq => by
    obtain ⟨z, hz, e⟩ := List.mem_map.1 hq
    exact ⟨z.2, by rw [← e]; exact hz⟩
  have blkin : ∀ {z : Ent} {b o c : Nat}, z ∈ Z → z.2 = some (b, o, c) → b ∈ bs.map (·.1) := fun hz he => List.mem_map.2 ⟨_, by rw [← hE.blk]; exact blks_mem hz he, rfl⟩
  have T : Turn S I0 w0 γ J σ w (Z.map (·.1)) (hdrOf Z γ) J w (fun _ => False) := by
    refine ⟨hndl, fun q hq => hdrOf_not (by rw [← hkeys]; exact hq), Fr.refl _ _, fun _ hk => hk, fun k hk => ⟨h.imm k hk, .inl hk⟩, fun _ k => k.elim, fun _ _ _ _ _ _ _ _ _ k => k, fun q R b o c _ hR hl hg => (h.live q R b o c hR hl hg).1,
      fun q R hq R0 hR0 => ?_, fun q R hq hst => ?_, fun q R b o c hq hl hg => ?_, fun q R b o c hq hl hg => ?_, fun q R q' R' b o1 c1 o2 c2 hq hq' hne hl hl' hg hg' => ?_, fun q R q' R' b o1 c1 o2 c2 hq hq' hR' hl hl' hg hg' => ?_, fun q R x r' v hq hb hx hr => ?_⟩
    · obtain ⟨hd, hz⟩ := hmem hq
      rw [hnew _ hz] at hR0; cases hR0
    · obtain ⟨hd, hz⟩ := hmem hq
      rw [hdrOf_mem hnames _ hz]
      exact hE.root _ _ hAg _ hz
    · obtain ⟨hd, hz⟩ := hmem hq
      rw [hdrOf_mem hnames _ hz] at hg
      exact hbs b (blkin hz hg)
    · obtain ⟨hd, hz⟩ := hmem hq
      have := (hE.live _ hz).1
      simp only [] at this
      rw [this] at hl; cases hl
    · obtain ⟨hd, hz⟩ := hmem hq
      obtain ⟨hd', hz'⟩ := hmem hq'
      rw [hdrOf_mem hnames _ hz] at hg
      rw [hdrOf_mem hnames _ hz'] at hg'
      exact blks_sep (by rw [hE.blk]; exact hnd) _ hz _ hz' hne b o1 c1 o2 c2 hg hg'
    · obtain ⟨hd, hz⟩ := hmem hq
      rw [hdrOf_mem hnames _ hz] at hg
      exact hsep q' R' b o2 c2 hR' hl' hg' (blkin hz hg)
    · obtain ⟨hd, hz⟩ := hmem hq
      obtain ⟨z', hz', e1, e2⟩ := hE.rb _ hz x r' v hb hx hr
      exact ⟨z'.1.2, by rw [← e1]; exact (hAg z' hz').1, by omega⟩
  obtain ⟨g1, g2⟩ := h.many hy T
  exact ⟨g1, g2, hAg⟩

theorem hblocks_cons {h : List Hd} {hss : List (List Hd)} : hblocks (h :: hss) = h.map (·.1) ++ hblocks hss := by simp [hblocks]

theorem unpackSlots_ok : ∀ {l : List (Nat × Sh)} {vs : List AV} {hss : List (List Hd)} {σ1 : St} {γ1 : Nat → Hdr} {ns : List Nat} {K : St → Option β},
    SlotsOk N a w J l vs hss → unpackSlots l vs σ1 ns K = some r → Sim N S I0 w0 γ1 J σ1 a w → Young σ1 → (∀ q R, σ1.L q = some R → q ∈ ns) → (hblocks hss).Nodup → (∀ b ∈ hblocks hss, ¬ J b ∧ (w0.heap.size ≤ b ∨ S b)) →
    (∀ q R b o c, σ1.L q = some R → R.st = .live → γ1 q = some (b, o, c) → b ∉ hblocks hss) → ∃ σ2 γ2, K σ2 = some r ∧ Sim N S I0 w0 γ2 J σ2 a w ∧ Young σ2
  | [], vs, hss, σ1, γ1, ns, K, hsl, h, hs, hy, _, _, _, _ => by
    simp only [unpackSlots] at h
    obtain ⟨_, h1⟩ := nlK_some h
    exact ⟨σ1, γ1, h1, hs, hy⟩
  | (t, s) :: l, vs, hss, σ1, γ1, ns, K, hsl, h, hs, hy, hns, hnd, hbs, hsep => by
    obtain ⟨y, vs', hd, hss', rfl, rfl, hro, hpin, hrest⟩ := hsl
    simp only [unpackSlots] at h
    obtain ⟨v0, vs1, e0, h1⟩ := hdK_some h
    injection e0 with e0 e0'
    subst e0; subst e0'
    obtain ⟨v', hsame, h2⟩ := fitK_some h1
    rw [hblocks_cons] at hnd hbs hsep
    rw [List.nodup_append] at hnd
    have hro' := hsame.ro _ _ _ _ hro
    have step : ∀ (x : AV) (Z : List Ent), Opened w J (fun _ => 0) v' x (a.tmps.getD t undef) Z hd → (∀ p, N.pin t = some p → x ≠ .nils ∧ ∀ q v part, x = .ref q v [] part → ∀ z ∈ Z, z.1.1 = q → z.2 = p.1 ∧ z.1.2.xs.length = p.2) →
        (bif distinct ((Z.map (·.1)).map (·.1)) && disj ((Z.map (·.1)).map (·.1)) ns then unpackSlots l vs' { env := setAt σ1.env t x, L := (σ1.ups (Z.map (·.1))).L } ((Z.map (·.1)).map (·.1) ++ ns) K else none) = some r →
        ∃ σ2 γ2, K σ2 = some r ∧ Sim N S I0 w0 γ2 J σ2 a w ∧ Young σ2 := by
      intro x Z hO hxp h
      obtain ⟨hc, h⟩ := cond_some h
      simp only [Bool.and_eq_true] at hc
      have hkeys : (Z.map (·.1)).map (·.1) = Z.map (·.1.1) := by simp [Function.comp_def]
      rw [hkeys] at hc h
      have hnames := distinct_nodup hc.1
      have hdj := disj_not hc.2
      obtain ⟨g1, g2, hAg⟩ := hs.opened hy hO.ents hnames (fun z hz => by
          cases e : σ1.L z.1.1 with
          | none => rfl
          | some R => exact absurd (hns _ R e) (hdj _ (List.mem_map.2 ⟨z, hz, rfl⟩))) hnd.1 (fun b hb => hbs b (List.mem_append_left _ hb))
        (fun q R b o c hR hl hg hb => hsep q R b o c hR hl hg (List.mem_append_left _ hb))
      have g3 := g1.setEnv (t := t) (x := x) (hO.rv _ _ hAg).1 (fun p hp => ⟨(hxp p hp).1, fun q v part R e hR hv hst => by
        obtain ⟨z, hz, e1, e2⟩ := hO.rf q v (by rw [e]; exact ⟨rfl, rfl⟩)
        obtain ⟨k1, k2⟩ := (hxp p hp).2 q v part e z hz e1
        obtain ⟨a1, a2⟩ := hAg z hz
        rw [e1] at a1 a2
        rw [a1] at hR
        injection hR with hR
        exact ⟨a2.trans k1, by rw [← hR]; exact k2⟩⟩)
      have g4 := g2.setEnv (t := t) (x := x) (fun q v hr => by
        obtain ⟨z, hz, e1, e2⟩ := hO.rf q v hr
        exact ⟨z.1.2, by rw [← e1]; exact (hAg z hz).1, by omega⟩)
      rw [ups_env] at g3 g4
      have hL : ∀ q R, (σ1.ups (Z.map (·.1))).L q = some R → (q ∈ Z.map (·.1.1)) ∨ (q ∉ Z.map (·.1.1) ∧ σ1.L q = some R) := by
        intro q R hR
        by_cases hq : q ∈ Z.map (·.1.1)
        · exact .inl hq
        · refine .inr ⟨hq, ?_⟩
          rw [ups_ne] at hR
          · exact hR
          · intro y hy' e
            obtain ⟨z, hz, rfl⟩ := List.mem_map.1 hy'
            exact hq (List.mem_map.2 ⟨z, hz, e⟩)
      refine unpackSlots_ok hrest h g3 g4 (fun q R hR => ?_) hnd.2.1 (fun b hb => hbs b (List.mem_append_right _ hb)) (fun q R b o c hR hl hg hb => ?_)
      · rcases hL q R hR with k | ⟨_, k⟩
        · exact List.mem_append_left _ k
        · exact List.mem_append_right _ (hns q R k)
      · rcases hL q R hR with k | ⟨k0, k⟩
        · obtain ⟨z, hz, e⟩ := List.mem_map.1 k
          have h2 := (hAg z hz).2
          rw [show z.1.1 = q from e, hg] at h2
          have hin : b ∈ hd.map (·.1) := List.mem_map.2 ⟨(b, o, c), by rw [← hO.ents.blk]; exact blks_mem hz h2.symm, rfl⟩
          exact hnd.2.2 b hin b hb rfl
        · rw [hdrOf_not k0] at hg
          exact hsep q R b o c k hl hg (List.mem_append_right _ hb)
    cases hrow : s.isOwn with
    | true =>
      cases s <;> simp only [Sh.isOwn, Bool.false_eq_true] at hrow
      rename_i ty sz lent
      obtain ⟨xs, p0, hd0, e1, h3, e2, hO⟩ := openK_own h2 hro'
      refine step _ _ hO (fun p hp => ⟨fun e => (by cases e), fun q v part e z hz hzq => ?_⟩) h3
      simp only [List.mem_singleton] at hz
      subst hz
      obtain ⟨k1, k2⟩ := hpin p hp rfl
      refine ⟨?_, ?_⟩
      · rw [← e2] at k1
        cases hd0 <;> cases hp1 : p.1 <;> rw [hp1] at k1 <;> simp at k1 ⊢
        exact k1
      · have hrl := hsame.row
        rw [e1] at hrl
        exact hrl.trans k2
    | false =>
      obtain ⟨x, l0, h3, hn⟩ := openK_inv s h2
      obtain ⟨x1, Z, h4, hO⟩ := openK_some s (hn _ (fun _ _ => rfl) (fun v l => some (v, l))) hro'
      obtain ⟨x2, l2, h5, hx2⟩ := openK_notref hrow (hn _ (fun _ _ => rfl) (fun v l => some (v, l)))
      injection h4 with h4; injection h4 with e1 e2
      injection h5 with h5; injection h5 with e3 e4
      subst e1; subst e3; subst e2
      exact step _ _ hO (fun p hp => ⟨hx2.2, fun q v part e => absurd e (hx2.1 q v [] part)⟩) h3

/-- Kept at a cut. -/
def Packed (c : Cut) (σ : St) (vs : List AV) : Prop := ∃ rs us, packSlots (β := List AV × List Nat × List Nat) σ c.slots (fun vs rs us => some (vs, rs, us)) = some (vs, rs, us) ∧ distinct us = true ∧ disj rs us = true
theorem packSlots_inv : ∀ {l : List (Nat × Sh)} {K : List AV → List Nat → List Nat → Option β}, packSlots σ l K = some r → ∃ vs rs us, K vs rs us = some r ∧ ∀ {β' : Type} (K' : List AV → List Nat → List Nat → Option β'), packSlots σ l K' = K' vs rs us
  | [], K, h => ⟨_, _, _, h, fun K' => rfl⟩
  | (t, s) :: l, K, h => by
    simp only [packSlots] at h
    obtain ⟨y, rs, us, h, e1⟩ := closeK_inv s h
    obtain ⟨vs, rs', us', h, e2⟩ := packSlots_inv h
    exact ⟨_, _, _, h, fun K' => by simp only [packSlots]; rw [e1 σ (fun _ _ => rfl), e2]⟩
theorem packK_some {c : Cut} {K : List AV → Option β} (h : packK c σ K = some r) : ∃ vs, Packed c σ vs ∧ K vs = some r := by
  unfold packK at h
  obtain ⟨vs, rs, us, h, e⟩ := packSlots_inv h
  obtain ⟨hc, h⟩ := cond_some h
  simp only [Bool.and_eq_true] at hc
  exact ⟨vs, ⟨rs, us, e _, hc.1, hc.2⟩, h⟩

/-- The blocks of what was put together. -/
theorem lent_blocks (hs : Sim N S I0 w0 γ I σ a w) {rs us : List Nat} {hh : List Hd} (hst : Stand σ rs) (hun : Units σ γ us hh) (hdj : ∀ q ∈ rs, q ∉ us) : ∀ b ∈ hh.map (·.1), ¬ Ix γ I rs b ∧ (w0.heap.size ≤ b ∨ S b) := by
  intro b hb
  obtain ⟨q, hq, R, o', c', k1, k2, k3⟩ := hun.mem b hb
  refine ⟨?_, (hs.live q R b o' c' k1 k2 k3).2⟩
  rintro (hI | ⟨q2, hq2, o2, c2, hg2⟩)
  · exact (hs.live q R b o' c' k1 k2 k3).1 hI
  · obtain ⟨R2, j1, j2, _⟩ := hst q2 hq2
    have hne : q ≠ q2 := fun e => hdj q2 hq2 (e ▸ hq)
    cases e : R2.st with
    | live => exact hs.sep q q2 R R2 b o' c' o2 c2 hne k1 j1 k2 e k3 hg2
    | still => exact (hs.live q R b o' c' k1 k2 k3).1 (hs.still q2 R2 b o2 c2 j1 e hg2)
    | gone => exact j2 e
theorem Ix_new (hs : Sim N S I0 w0 γ I σ a w) {rs : List Nat} (hst : Stand σ rs) : ∀ k, Ix γ I rs k → I0 k ∨ w0.heap.size ≤ k ∨ S k := by
  rintro k (hk | ⟨q1, hq1, o1, c1, hg1⟩)
  · exact hs.immNew k hk
  · obtain ⟨R1, n1, n2, _⟩ := hst q1 hq1
    cases e : R1.st with
    | live => exact .inr (hs.live q1 R1 k o1 c1 n1 e hg1).2
    | still => exact hs.immNew k (hs.still q1 R1 k o1 c1 n1 e hg1)
    | gone => exact absurd e n2
/-- Nothing is known of the slots. -/
theorem Sim.blank (hsz : a.tmps.size = N.n ∧ ∀ t v, N.keep t = some v → a.tmps[t]? = some v) (hdf : a.defers = []) (himm : ∀ k, J k → k < w.heap.size) (hnew : ∀ k, J k → I0 k ∨ w0.heap.size ≤ k ∨ S k) (hfr : Fr S w0 w) :
    Sim N S I0 w0 (fun _ => none) J St.empty a w ∧ Young St.empty :=
  ⟨⟨hsz, hdf, fun _ => trivial, (fun q R hq => by cases hq), (fun q R b o c hq => by cases hq), (fun q R b o c hq => by cases hq), (fun q q' R R' b o c o' c' _ hq => by cases hq), himm, hnew, hfr, fun _ _ _ => ⟨fun e => (by cases e), fun q v part R e => (by cases e)⟩⟩,
    ⟨(fun t r v hr => hr.elim), (fun q Q x r v hq => by cases hq)⟩⟩

theorem unpackK_ok {c : Cut} {vs : List AV} {K : St → Option β} (hok : Ok N S I0 w0 σ a w) (hp : Packed c σ vs) (h : unpackK c vs K = some r) : ∃ σ', K σ' = some r ∧ Ok N S I0 w0 σ' a w := by
  obtain ⟨γ, I, hs, hy⟩ := hok
  obtain ⟨rs, us, h1, h2, h3⟩ := hp
  obtain ⟨vs', rs', us', hss, e, hsl, hst, hun⟩ := packSlots_some hs h1
  injection e with e; injection e with e1 e; injection e with e2 e3
  subst e1; subst e2; subst e3
  have hdj := disj_not h3
  have hnd := distinct_nodup h2
  obtain ⟨b1, b2⟩ := Sim.blank (N := N) (S := S) (I0 := I0) (w0 := w0) (a := a) hs.size hs.defers (Ix_lt hs hst) (Ix_new hs hst) hs.frame
  obtain ⟨σ2, γ2, k1, k2, k3⟩ := unpackSlots_ok hsl h b1 b2 (fun q R hq => by cases hq) (hun.nodup hs hnd) (lent_blocks hs hst hun hdj) (fun q R b o c hq => by cases hq)
  exact ⟨σ2, k1, γ2, _, k2, k3⟩

theorem leave_some {e : Ex} {q : Nat × List AV} : ∀ {l : List (Ex × Cut)} {j : Nat}, leave σ e l j = some q → ∃ i c, q.1 = j + i ∧ l[i]? = some (e, c) ∧ Packed c σ q.2
  | [], j, h => by cases h
  | (x, c) :: l, j, h => by
    simp only [leave] at h
    cases hb : Nat.beq x e with
    | true =>
      rw [cond_t hb] at h
      have hb := Nat.eq_of_beq_eq_true hb
      subst hb
      obtain ⟨vs, h1, h2⟩ := packK_some h
      injection h2 with h2; subst h2
      exact ⟨0, c, rfl, rfl, h1⟩
    | false =>
      rw [cond_f hb] at h
      obtain ⟨i, c', h1, h2, h3⟩ := leave_some h
      exact ⟨i + 1, c', by omega, by simpa using h2, h3⟩
end Go.Ai
