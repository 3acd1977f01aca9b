/- Part of the proofs: the verified interpreter for the program's functions, or lemmas on what they compute; no condition. -/
import Derived.Test.YtoocidelbmbgcaaOctetSealsBiOps14
namespace Go.Ai
variable {N : Lim} {S I0 I I' : Nat → Prop} {w0 w w' : World} {γ γ' : Nat → Hdr} {σ σ' : St} {a : Act} {β : Type} {r : β}

/-! ### Trees as values -/
abbrev Ent := (Nat × Root) × Hdr
def blks (zs : List Ent) : List Hd := zs.filterMap fun z => z.2
theorem blks_append (l m : List Ent) : blks (l ++ m) = blks l ++ blks m := by simp [blks]
def Ag (L : Nat → Option Root) (γ : Nat → Hdr) (zs : List Ent) : Prop := ∀ z ∈ zs, L z.1.1 = some z.1.2 ∧ γ z.1.1 = z.2
theorem Ag.left {L : Nat → Option Root} {l m : List Ent} (h : Ag L γ (l ++ m)) : Ag L γ l := fun z hz => h z (by simp [hz])
theorem Ag.right {L : Nat → Option Root} {l m : List Ent} (h : Ag L γ (l ++ m)) : Ag L γ m := fun z hz => h z (by simp [hz])

structure Ents (w : World) (I : Nat → Prop) (nx : Nat → Nat) (zs : List Ent) (bs : List Hd) : Prop where
  live : ∀ z ∈ zs, z.1.2.st = .live ∧ z.1.2.ver = nx z.1.1
  blk : blks zs = bs
  root : ∀ L γ, Ag L γ zs → ∀ z ∈ zs, RootOk L γ w I z.2 z.1.2
  rb : ∀ z ∈ zs, ∀ x q ver, z.1.2.bx = true → x ∈ z.1.2.xs → ref1 x q ver → ∃ z' ∈ zs, z'.1.1 = q ∧ ver = z'.1.2.ver
theorem Ents.append {nx : Nat → Nat} {zs zs' : List Ent} {bs bs' : List Hd} (h : Ents w I nx zs bs) (k : Ents w I nx zs' bs') : Ents w I nx (zs ++ zs') (bs ++ bs') := by
  refine ⟨fun z hz => ?_, by rw [blks_append, h.blk, k.blk], fun L γ hA z hz => ?_, fun z hz x q ver hb hx hr => ?_⟩
  · exact (List.mem_append.1 hz).elim (h.live z) (k.live z)
  · exact (List.mem_append.1 hz).elim (h.root L γ hA.left z) (k.root L γ hA.right z)
  · rcases List.mem_append.1 hz with hz | hz
    · obtain ⟨z', hz', h'⟩ := h.rb z hz x q ver hb hx hr
      exact ⟨z', by simp [hz'], h'⟩
    · obtain ⟨z', hz', h'⟩ := k.rb z hz x q ver hb hx hr
      exact ⟨z', by simp [hz'], h'⟩
theorem Ents.nil {nx : Nat → Nat} : Ents w I nx [] [] := ⟨fun z hz => (by cases hz), rfl, fun _ _ _ z hz => (by cases hz), fun z hz => (by cases hz)⟩

structure Opened (w : World) (I : Nat → Prop) (nx : Nat → Nat) (x v : AV) (u : Value) (zs : List Ent) (bs : List Hd) : Prop where
  ents : Ents w I nx zs bs
  rv : ∀ L γ, Ag L γ zs → RV L γ w I v u ∧ (x.oneT = true → RV1 L γ w I v u) ∧ (x.treeB = true → RVc L γ w I v u)
  rf : ∀ q ver, refers v q ver → ∃ z ∈ zs, z.1.1 = q ∧ ver = z.1.2.ver
structure OpenedL (w : World) (I : Nat → Prop) (nx : Nat → Nat) (xs vs : List AV) (us : List Value) (zs : List Ent) (bs : List Hd) : Prop where
  ents : Ents w I nx zs bs
  rv : ∀ L γ, Ag L γ zs → All2 (RV L γ w I) vs us ∧ (xs.all AV.oneT = true → All2 (RV1 L γ w I) vs us) ∧ (xs.all AV.treeB = true → All2 (RVc L γ w I) vs us)
  rf : ∀ c ∈ vs, ∀ q ver, refers c q ver → ∃ z ∈ zs, z.1.1 = q ∧ ver = z.1.2.ver

theorem ref1_refers {x : AV} {q v : Nat} (h : ref1 x q v) : refers x q v := by
  cases x <;> first | exact h | exact h.elim
theorem refc_ref1 {x : AV} {q v : Nat} (h : refc x q v) : ref1 x q v := by
  cases x <;> first | exact h | exact h.elim

theorem leafN_leaf {x : AV} (h : x.leafN = true) : x.leaf = true := by
  cases x <;> first | rfl | exact h
theorem open_leaf {nx : Nat → Nat} {x : AV} {u : Value} {bs : List Hd} (hl : x.leaf = true) (hx : RO w I x u bs) : Opened w I nx x x u [] bs := by
  obtain ⟨rfl, hr⟩ := (RO_leaf hl).1 hx
  exact ⟨.nil, fun L γ _ => ⟨RV_data hr, fun _ => RV1_data hr, fun _ => RVc_data hr hl⟩, fun q ver h => absurd h (refers_data hr q ver)⟩

theorem openK_own {nx : Nat → Nat} {ty sz n : Nat} {lent : Bool} {x : AV} {u : Value} {bs : List Hd} {K : AV → List (Nat × Root) → Option β} (h : openK nx (.own ty sz lent) n x K = some r) (hx : RO w I x u bs) :
    ∃ xs p hd, x = .own sz xs p ∧ K (.ref n (nx n) [] p) [(n, ⟨nx n, ty, sz, false, .live, xs⟩)] = some r ∧ hd.toList = bs ∧ Opened w I nx x (.ref n (nx n) [] p) u [((n, ⟨nx n, ty, sz, false, .live, xs⟩), hd)] bs := by
  simp only [openK] at h
  obtain ⟨xs, p, e0, h1⟩ := fitO_some h
  subst e0
  rcases hx with ⟨rfl, rfl, ad, rfl⟩ | ⟨b, o, cap, rfl, h2, h3, h6, h7⟩
  · have hc : ∀ L γ, Ag L γ [((n, (⟨nx n, ty, sz, false, .live, []⟩ : Root)), (none : Hdr))] → RVc L γ w I (.ref n (nx n) [] p) (.slice ad 0 0) := fun L γ hA => by
      obtain ⟨a1, a2⟩ := hA _ (List.mem_singleton.2 rfl)
      refine ⟨⟨_, _, _, rfl⟩, fun R' j1 _ _ _ => ?_⟩
      rw [show γ n = none from a2]
      exact ⟨_, rfl⟩
    refine ⟨[], p, none, rfl, h1, rfl, ⟨⟨fun z hz => ?_, rfl, fun L γ _ z hz => ?_, fun z hz x q ver hb => ?_⟩, fun L γ hA => ⟨hc L γ hA, fun _ => hc L γ hA, fun _ => hc L γ hA⟩, fun q ver hr => ?_⟩⟩
    · simp only [List.mem_singleton] at hz; subst hz; exact ⟨rfl, rfl⟩
    · simp only [List.mem_singleton] at hz; subst hz; exact ⟨rfl, rfl⟩
    · simp only [List.mem_singleton] at hz; subst hz; cases hb
    · exact ⟨_, List.mem_singleton.2 rfl, hr.1, hr.2.symm⟩
  · have hc : ∀ L γ, Ag L γ [((n, (⟨nx n, ty, sz, false, .live, xs⟩ : Root)), (some (b, o, cap) : Hdr))] → RVc L γ w I (.ref n (nx n) [] p) u := fun L γ hA => by
      obtain ⟨a1, a2⟩ := hA _ (List.mem_singleton.2 rfl)
      refine ⟨⟨_, _, _, h3.choose_spec.choose_spec.1⟩, fun R' j1 _ _ _ => ?_⟩
      rw [show γ n = some (b, o, cap) from a2]
      rw [show L n = some _ from a1] at j1
      injection j1 with j1; subst j1
      exact RefOk.same (h := some (b, o, cap)) rfl rfl h3
    refine ⟨xs, p, some (b, o, cap), rfl, h1, rfl, ⟨⟨fun z hz => ?_, rfl, fun L γ _ z hz => ?_, fun z hz x q ver hb => ?_⟩, fun L γ hA => ⟨hc L γ hA, fun _ => hc L γ hA, fun _ => hc L γ hA⟩, fun q ver hr => ?_⟩⟩
    · simp only [List.mem_singleton] at hz; subst hz; exact ⟨rfl, rfl⟩
    · simp only [List.mem_singleton] at hz; subst hz
      exact ⟨h2, RowOk.mkRow rfl h6, h7, fun hb => by cases hb⟩
    · simp only [List.mem_singleton] at hz; subst hz; cases hb
    · exact ⟨_, List.mem_singleton.2 rfl, hr.1, hr.2.symm⟩

mutual
theorem openK_some {nx : Nat → Nat} : ∀ (s : Sh) {n : Nat} {x : AV} {u : Value} {bs : List Hd} {K : AV → List (Nat × Root) → Option β}, openK nx s n x K = some r → RO w I x u bs →
    ∃ v zs, K v (zs.map (·.1)) = some r ∧ Opened w I nx x v u zs bs
  | .own ty sz _, n, x, u, bs, K, h, hx => by
    obtain ⟨xs, p, hd, _, h1, _, hO⟩ := openK_own h hx
    exact ⟨_, _, h1, hO⟩
  | .box ty sz s, n, x, u, bs, K, h, hx => by
    simp only [openK] at h
    obtain ⟨cs, e0, h1⟩ := fitX_some h
    obtain ⟨c, cs', e1, h2⟩ := hdK_some h1
    obtain ⟨e2, h3⟩ := nlK_some h2
    subst e2; subst e1; subst e0
    obtain ⟨b, bs', us, rfl, rfl, hf, hro, hl, hcell, hone⟩ := hx
    obtain ⟨u', us', b1, b2, rfl, rfl, hc, e3, e4⟩ := hro
    subst e3; subst e4
    simp only [List.all_cons, List.all_nil, Bool.and_true] at hone
    obtain ⟨hw, h3⟩ := cond_some h3
    obtain ⟨y, zs, h4, hO⟩ := openK_some s h3 hc
    have hw := Nat.eq_of_beq_eq_true hw
    have hloc : ∀ L γ, Ag L γ (((n, (⟨nx n, ty, sz, true, .live, [y]⟩ : Root)), (some (b, 0, 1) : Hdr)) :: zs) → RVc L γ w I (.loc n (nx n) [] 0 0) (.pointer (some ⟨b, 0, none⟩)) := fun L γ hA => by
      obtain ⟨a1, a2⟩ := hA _ (List.mem_cons_self ..)
      refine ⟨⟨_, rfl⟩, fun R' j1 _ _ _ => ?_⟩
      rw [show L n = some _ from a1] at j1
      injection j1 with j1; subst j1
      exact ⟨by simp, b, 0, 1, a2, by simp⟩
    refine ⟨_, ((n, ⟨nx n, ty, sz, true, .live, [y]⟩), some (b, 0, 1)) :: zs, h4, ⟨⟨fun z hz => ?_, ?_, fun L γ hA z hz => ?_, fun z hz x q ver hb hx hr => ?_⟩, fun L γ hA => ⟨hloc L γ hA, fun _ => hloc L γ hA, fun _ => hloc L γ hA⟩, fun q ver hr => ?_⟩⟩
    · rcases List.mem_cons.1 hz with rfl | hz
      · exact ⟨rfl, rfl⟩
      · exact hO.ents.live z hz
    · show (b, 0, 1) :: blks zs = (b, 0, 1) :: (b1 ++ [])
      rw [hO.ents.blk, List.append_nil]
    · have hA' : Ag L γ zs := fun z hz => hA z (List.mem_cons_of_mem _ hz)
      rcases List.mem_cons.1 hz with rfl | hz
      · have hr1 := (hO.rv L γ hA').2.1 hone
        refine ⟨by simp, RowOk.mkBox rfl ⟨y, u', rfl, hr1, ?_, hcell u' (by simp)⟩, ?_, fun _ => ⟨rfl, rfl⟩⟩
        · rw [← hr1.width, RO_width hone hc, hw]
        · simpa [AV.widths, hw] using hf
      · exact hO.ents.root L γ hA' z hz
    · rcases List.mem_cons.1 hz with rfl | hz
      · simp only [List.mem_singleton] at hx
        subst hx
        obtain ⟨z', hz', h'⟩ := hO.rf q ver (ref1_refers hr)
        exact ⟨z', List.mem_cons_of_mem _ hz', h'⟩
      · obtain ⟨z', hz', h'⟩ := hO.ents.rb z hz x q ver hb hx hr
        exact ⟨z', List.mem_cons_of_mem _ hz', h'⟩
    · exact ⟨_, List.mem_cons_self .., hr.1, hr.2.symm⟩
  | .agg ls, n, x, u, bs, K, h, hx => by
    simp only [openK] at h
    obtain ⟨cs, e0, h1⟩ := fitA_some h
    subst e0
    obtain ⟨us, rfl, hcs, htr⟩ := hx
    obtain ⟨ys, zs, h2, hO⟩ := openL_some ls h1 hcs
    have hv : ∀ L γ, Ag L γ zs → RV1 L γ w I (.agg ys) (.agg us.toArray) := fun L γ hA => ⟨us, rfl, (hO.rv L γ hA).2.2 htr⟩
    exact ⟨_, zs, h2, ⟨hO.ents, fun L γ hA => ⟨hv L γ hA, fun _ => hv L γ hA, fun ht => by simp [AV.treeB, AV.leaf] at ht⟩, fun q ver hr => by
      obtain ⟨c, hc, hr⟩ := hr
      exact hO.rf c hc q ver (ref1_refers (refc_ref1 hr))⟩⟩
  | .tup ls, n, x, u, bs, K, h, hx => by
    simp only [openK] at h
    obtain ⟨cs, e0, h1⟩ := fitT_some h
    subst e0
    obtain ⟨us, rfl, hcs, htr⟩ := hx
    obtain ⟨ys, zs, h2, hO⟩ := openL_some ls h1 hcs
    exact ⟨_, zs, h2, ⟨hO.ents, fun L γ hA => ⟨⟨us, rfl, (hO.rv L γ hA).2.1 htr⟩, fun ht => by simp [AV.oneT, AV.treeB, AV.leaf] at ht, fun ht => by simp [AV.treeB, AV.leaf] at ht⟩, fun q ver hr => by
      obtain ⟨c, hc, hr⟩ := hr
      exact hO.rf c hc q ver (ref1_refers hr)⟩⟩
  | .fn f ls ms, n, x, u, bs, K, h, hx => by
    simp only [openK] at h
    obtain ⟨l, m, e0, h1⟩ := fitF_some h
    subst e0
    obtain ⟨us, vs, b1, b2, rfl, rfl, hl, hm, o1, o2⟩ := hx
    obtain ⟨ys, zs, h2, hO⟩ := openL_some ls h1 hl
    obtain ⟨ys', zs', h3, hO'⟩ := openL_some ms h2 hm
    refine ⟨.fn f ys ys', zs ++ zs', by rw [List.map_append]; exact h3, ⟨hO.ents.append hO'.ents, fun L γ hA => ⟨⟨us, vs, rfl, (hO.rv L γ hA.left).2.1 o1, (hO'.rv L γ hA.right).2.1 o2⟩, fun ht => by simp [AV.oneT, AV.treeB, AV.leaf] at ht, fun ht => by simp [AV.treeB, AV.leaf] at ht⟩, fun q ver hr => ?_⟩⟩
    obtain ⟨c, hc, hr⟩ := hr
    rcases List.mem_append.1 hc with hc | hc
    · obtain ⟨z, hz, h'⟩ := hO.rf c hc q ver (ref1_refers hr)
      exact ⟨z, by simp [hz], h'⟩
    · obtain ⟨z, hz, h'⟩ := hO'.rf c hc q ver (ref1_refers hr)
      exact ⟨z, by simp [hz], h'⟩
  | .int k, n, x, u, bs, K, h, hx => by
    simp only [openK] at h
    obtain ⟨hl, h1⟩ := cond_some h
    exact ⟨x, [], h1, open_leaf (leafN_leaf hl) hx⟩
  | .bool, n, x, u, bs, K, h, hx => by
    simp only [openK] at h
    obtain ⟨hl, h1⟩ := cond_some h
    exact ⟨x, [], h1, open_leaf (leafN_leaf hl) hx⟩
  | .str, n, x, u, bs, K, h, hx => by
    simp only [openK] at h
    obtain ⟨hl, h1⟩ := cond_some h
    exact ⟨x, [], h1, open_leaf (leafN_leaf hl) hx⟩
  | .sl sz, n, x, u, bs, K, h, hx => by
    simp only [openK] at h
    obtain ⟨hl, h1⟩ := cond_some h
    exact ⟨x, [], h1, open_leaf (leafN_leaf hl) hx⟩
theorem openL_some {nx : Nat → Nat} : ∀ (ls : List Sh) {n j : Nat} {xs : List AV} {us : List Value} {bs : List Hd} {K : List AV → List (Nat × Root) → Option β}, openL nx ls n j xs K = some r → ROl w I xs us bs →
    ∃ vs zs, K vs (zs.map (·.1)) = some r ∧ OpenedL w I nx xs vs us zs bs
  | [], n, j, xs, us, bs, K, h, hx => by
    simp only [openL] at h
    obtain ⟨e0, h1⟩ := nlK_some h
    subst e0
    obtain ⟨rfl, rfl⟩ := hx
    exact ⟨[], [], h1, ⟨.nil, fun L γ _ => ⟨rfl, fun _ => rfl, fun _ => rfl⟩, fun c hc => by cases hc⟩⟩
  | s :: ls, n, j, xs, us, bs, K, h, hx => by
    simp only [openL] at h
    obtain ⟨x, xs', e0, h1⟩ := hdK_some h
    subst e0
    obtain ⟨u, us', b1, b2, rfl, rfl, hx1, hx2⟩ := hx
    obtain ⟨v, zs, h2, hO⟩ := openK_some s h1 hx1
    obtain ⟨vs, zs', h3, hO'⟩ := openL_some ls h2 hx2
    refine ⟨v :: vs, zs ++ zs', by rw [List.map_append]; exact h3, ⟨hO.ents.append hO'.ents, fun L γ hA => ?_, fun c hc q ver hr => ?_⟩⟩
    · obtain ⟨r1, r2, r3⟩ := hO.rv L γ hA.left
      obtain ⟨t1, t2, t3⟩ := hO'.rv L γ hA.right
      refine ⟨⟨u, us', rfl, r1, t1⟩, fun ha => ?_, fun ha => ?_⟩
      · simp only [List.all_cons, Bool.and_eq_true] at ha
        exact ⟨u, us', rfl, r2 ha.1, t2 ha.2⟩
      · simp only [List.all_cons, Bool.and_eq_true] at ha
        exact ⟨u, us', rfl, r3 ha.1, t3 ha.2⟩
    · rcases List.mem_cons.1 hc with rfl | hc
      · obtain ⟨z, hz, h'⟩ := hO.rf q ver hr
        exact ⟨z, by simp [hz], h'⟩
      · obtain ⟨z, hz, h'⟩ := hO'.rf c hc q ver hr
        exact ⟨z, by simp [hz], h'⟩
end
end Go.Ai
