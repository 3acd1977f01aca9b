/- Part of the proofs: the verified interpreter for the program's functions, or lemmas on what they compute; no condition. -/
import Derived.Test.YtoocidelbmbgcaaOctetSealsBiOps13
namespace Go.Ai
variable {N : Lim} {S I0 I I' : Nat → Prop} {w0 w w' : World} {γ γ' : Nat → Hdr} {σ σ' : St} {a : Act} {Γ : Ctx} {o : Oper} {e : Eff} {P : Program} {β : Type} {r : β}

/-! ### Trees: data in them -/
mutual
theorem RI_flat : ∀ (x : AV) (v : Value), flatAV x = true → RI w I x v → RI w I' x v
  | .int _ _, _, _, h => h
  | .bool _, _, _, h => h
  | .str _, _, _, h => h
  | .nilp, _, _, h => h
  | .nils, _, hf, _ => by simp [flatAV] at hf
  | .sl _ _, _, hf, _ => by simp [flatAV] at hf
  | .agg cs, v, hf, h => by
    obtain ⟨us, hv, hl, h⟩ := h
    exact ⟨us, hv, hl, RIl_flat cs us (by simpa [flatAV] using hf) h⟩
  | .tup _, _, _, h => h.elim
  | .own _ _ _, _, _, h => h.elim
  | .fn _ _ _, _, _, h => h.elim
  | .box _, _, _, h => h.elim
  | .ref _ _ _ _, _, _, h => h.elim
  | .loc _ _ _ _ _, _, _, h => h.elim
  | .elm _ _, _, _, h => h.elim
  | .dead, _, _, h => h.elim
theorem RIl_flat : ∀ (cs : List AV) (us : List Value), flatL cs = true → RIl w I cs us → RIl w I' cs us
  | [], _, _, h => h
  | c :: cs, us, hf, h => by
    simp only [flatL, Bool.and_eq_true] at hf
    obtain ⟨u, us', hu, h1, h2⟩ := h
    exact ⟨u, us', hu, RI_flat c u hf.1 h1, RIl_flat cs us' hf.2 h2⟩
end

/-- By cases on what a tree is. -/
theorem RO_leaf {x : AV} {v : Value} {bs : List Hd} (hx : x.leaf = true) : RO w I x v bs ↔ bs = [] ∧ RI w I x v := by
  cases x <;> simp only [AV.leaf, Bool.false_eq_true] at hx <;> simp [RO, AV.leaf]

mutual
theorem RO_mono (hI : ∀ k, I k → I' k) : ∀ (x : AV) (v : Value) (bs : List Hd), RO w I x v bs → RO w I' x v bs
  | .own sz xs p, v, bs, h => by
    rcases h with h | ⟨b, o, cap, h1, h2, h3, h6, h7⟩
    · exact .inl h
    · exact .inr ⟨b, o, cap, h1, h2, h3, RIs_mono hI (fun _ _ => rfl) _ _ _ _ rfl h6, h7⟩
  | .box xs, v, bs, h => by
    obtain ⟨b, bs', us, h1, h2, h3, h4, h5⟩ := h
    exact ⟨b, bs', us, h1, h2, h3, ROl_mono hI _ _ _ h4, h5⟩
  | .agg cs, v, bs, h => by
    obtain ⟨us, h1, h2, h3⟩ := h
    exact ⟨us, h1, ROl_mono hI _ _ _ h2, h3⟩
  | .tup cs, v, bs, h => by
    obtain ⟨us, h1, h2, h3⟩ := h
    exact ⟨us, h1, ROl_mono hI _ _ _ h2, h3⟩
  | .fn f l m, v, bs, h => by
    obtain ⟨us, vs, b1, b2, h1, h2, h3, h4, h5⟩ := h
    exact ⟨us, vs, b1, b2, h1, h2, ROl_mono hI _ _ _ h3, ROl_mono hI _ _ _ h4, h5⟩
  | .dead, v, bs, h => h
  | .int _ _, v, bs, h => h
  | .bool _, v, bs, h => h
  | .str _, v, bs, h => h
  | .nilp, v, bs, h => h
  | .nils, v, bs, h => h
  | .sl sz xs, v, bs, h => ⟨h.1, h.2.1, RI_mono hI (fun _ _ => rfl) _ _ h.2.2⟩
  | .ref _ _ _ _, v, bs, h => h.2.2.elim
  | .loc _ _ _ _ _, v, bs, h => h.2.2.elim
  | .elm _ _, v, bs, h => h.2.2.elim
theorem ROl_mono (hI : ∀ k, I k → I' k) : ∀ (l : List AV) (vs : List Value) (bs : List Hd), ROl w I l vs bs → ROl w I' l vs bs
  | [], _, _, h => h
  | c :: cs, vs, bs, h => by
    obtain ⟨u, us', b1, b2, h1, h2, h3, h4⟩ := h
    exact ⟨u, us', b1, b2, h1, h2, RO_mono hI c u b1 h3, ROl_mono hI cs us' b2 h4⟩
end
mutual
/-- What holds no data but numbers needs no memory of others. -/
theorem RO_flat : ∀ (x : AV) (v : Value) (bs : List Hd), flatAV x = true → RO w I x v bs → RO w I' x v bs
  | .own _ _ _, _, _, hf, _ => by simp [flatAV] at hf
  | .box xs, v, bs, hf, h => by
    obtain ⟨b, bs', us, h1, h2, h3, h4, h5⟩ := h
    exact ⟨b, bs', us, h1, h2, h3, ROl_flat _ _ _ (by simpa [flatAV] using hf) h4, h5⟩
  | .agg cs, v, bs, hf, h => by
    obtain ⟨us, h1, h2, h3⟩ := h
    exact ⟨us, h1, ROl_flat _ _ _ (by simpa [flatAV] using hf) h2, h3⟩
  | .tup cs, v, bs, hf, h => by
    obtain ⟨us, h1, h2, h3⟩ := h
    exact ⟨us, h1, ROl_flat _ _ _ (by simpa [flatAV] using hf) h2, h3⟩
  | .fn _ _ _, _, _, hf, _ => by simp [flatAV] at hf
  | .dead, v, bs, _, h => h
  | .int _ _, v, bs, _, h => h
  | .bool _, v, bs, _, h => h
  | .str _, v, bs, _, h => h
  | .nilp, v, bs, _, h => h
  | .nils, v, bs, _, h => h
  | .sl sz xs, v, bs, hf, _ => by simp [flatAV] at hf
  | .ref _ _ _ _, v, bs, _, h => h.2.2.elim
  | .loc _ _ _ _ _, v, bs, _, h => h.2.2.elim
  | .elm _ _, v, bs, _, h => h.2.2.elim
theorem ROl_flat : ∀ (l : List AV) (vs : List Value) (bs : List Hd), flatL l = true → ROl w I l vs bs → ROl w I' l vs bs
  | [], _, _, _, h => h
  | c :: cs, vs, bs, hf, h => by
    simp only [flatL, Bool.and_eq_true] at hf
    obtain ⟨u, us', b1, b2, h1, h2, h3, h4⟩ := h
    exact ⟨u, us', b1, b2, h1, h2, RO_flat c u b1 hf.1 h3, ROl_flat cs us' b2 hf.2 h4⟩
end
theorem ROl_len : ∀ {l : List AV} {vs : List Value} {bs : List Hd}, ROl w I l vs bs → vs.length = l.length
  | [], _, _, h => by rw [h.1]; rfl
  | _ :: _, _, _, h => by
    obtain ⟨u, us', b1, b2, rfl, _, _, h4⟩ := h
    simp [ROl_len h4]
theorem RO_one {x : AV} {v : Value} {bs : List Hd} (hx : x.treeB = true) (h : RO w I x v bs) : v.oneCell' = true := by
  cases x with
  | own sz xs p =>
    rcases h with ⟨_, _, a, rfl⟩ | ⟨b, o, cap, h1, h2, ⟨a, c, rfl, _⟩, h6, h7⟩ <;> rfl
  | box xs => obtain ⟨b, bs', us, rfl, _⟩ := h; rfl
  | dead => exact h.2
  | agg _ => simp [AV.treeB, AV.leaf] at hx
  | tup _ => simp [AV.treeB, AV.leaf] at hx
  | fn _ _ _ => simp [AV.treeB, AV.leaf] at hx
  | ref _ _ _ _ => simp [AV.treeB, AV.leaf] at hx
  | loc _ _ _ _ _ => simp [AV.treeB, AV.leaf] at hx
  | elm _ _ => simp [AV.treeB, AV.leaf] at hx
  | sl _ _ => obtain ⟨_, _, a, cap, rfl, _⟩ := h; rfl
  | int _ _ => obtain ⟨_, _, h⟩ := h; cases h; rfl
  | bool _ => obtain ⟨_, _, h⟩ := h; cases h; rfl
  | str _ => obtain ⟨_, _, h⟩ := h; cases h; rfl
  | nilp => obtain ⟨_, _, h⟩ := h; cases h; rfl
  | nils => obtain ⟨_, _, h⟩ := h; cases h; rfl
theorem RO_width {x : AV} {v : Value} {bs : List Hd} (hx : x.oneT = true) (h : RO w I x v bs) : v.cells.size = x.width := by
  by_cases hc : ∃ cs, x = .agg cs
  · obtain ⟨cs, rfl⟩ := hc
    obtain ⟨us, rfl, h2, h3⟩ := h
    simpa [Value.cells, AV.width] using ROl_len h2
  · have hc : ∀ cs, x ≠ .agg cs := fun cs e => hc ⟨cs, e⟩
    have ht : x.treeB = true := by cases x <;> first | exact hx | exact absurd rfl (hc _)
    rw [oneCell_cells (RO_one ht h)]
    cases x <;> first | rfl | exact absurd rfl (hc _)
theorem treeB_one {x : AV} (h : x.treeB = true) : x.oneT = true := by cases x <;> first | rfl | exact h
theorem RO_data {x : AV} {v : Value} (h : RI w I x v) : RO w I x v [] ∧ x.oneT = true ∧ (x.leaf = true → x.treeB = true) := by
  by_cases hc : ∃ cs, x = .agg cs
  · obtain ⟨cs, rfl⟩ := hc
    obtain ⟨us, rfl, hl, h⟩ := h
    refine ⟨⟨us, rfl, ?_, ?_⟩, rfl, fun h => by simp [AV.leaf] at h⟩
    · induction cs generalizing us with
      | nil => exact ⟨h, rfl⟩
      | cons c cs ih =>
        simp only [List.all_cons, Bool.and_eq_true] at hl
        obtain ⟨u, us', rfl, h1, h2⟩ := h
        exact ⟨u, us', [], [], rfl, rfl, (RO_leaf hl.1).2 ⟨rfl, h1⟩, ih us' hl.2 h2⟩
    · rw [List.all_eq_true] at hl ⊢
      exact fun c hc => treeB_leaf (hl c hc)
  · have hl := h.leaf (fun cs e => hc ⟨cs, e⟩)
    exact ⟨(RO_leaf hl).2 ⟨rfl, h⟩, treeB_one (treeB_leaf hl), fun h => treeB_leaf h⟩

theorem distinct_nodup : ∀ {l : List Nat}, distinct l = true → l.Nodup
  | [], _ => List.nodup_nil
  | x :: l, h => by
    simp only [distinct, Bool.and_eq_true] at h
    exact List.nodup_cons.2 ⟨mem_contains h.1, distinct_nodup h.2⟩
theorem disj_not {l m : List Nat} (h : disj l m = true) : ∀ x ∈ l, x ∉ m := by
  intro x hx
  have := List.all_eq_true.1 h x hx
  exact mem_contains this

/-! ### Values as trees -/
/-- The blocks of the roots that a tree has for its own. -/
inductive Units (σ : St) (γ : Nat → Hdr) : List Nat → List Hd → Prop
  | nil : Units σ γ [] []
  | blk {q : Nat} {us : List Nat} {h : Hd} {bs : List Hd} {R : Root} (h1 : σ.L q = some R) (h2 : R.st = .live) (h3 : γ q = some h) (k : Units σ γ us bs) : Units σ γ (q :: us) (h :: bs)
  | none {q : Nat} {us : List Nat} {bs : List Hd} {R : Root} (h1 : σ.L q = some R) (h2 : R.st = .live) (h3 : γ q = none) (k : Units σ γ us bs) : Units σ γ (q :: us) bs
theorem Units.append {us us' : List Nat} {bs bs' : List Hd} (h : Units σ γ us bs) (k : Units σ γ us' bs') : Units σ γ (us ++ us') (bs ++ bs') := by
  induction h with
  | nil => exact k
  | blk h1 h2 h3 _ ih => exact .blk h1 h2 h3 ih
  | none h1 h2 h3 _ ih => exact .none h1 h2 h3 ih
theorem Units.mem {us : List Nat} {bs : List Hd} (h : Units σ γ us bs) : ∀ b ∈ bs.map (·.1), ∃ q ∈ us, ∃ R o c, σ.L q = some R ∧ R.st = .live ∧ γ q = some (b, o, c) := by
  induction h with
  | nil => intro b hb; cases hb
  | @blk q us h bs R h1 h2 h3 _ ih =>
    intro b hb
    obtain ⟨b0, o0, c0⟩ := h
    rcases List.mem_cons.1 hb with rfl | hb
    · exact ⟨_, by simp, _, _, _, h1, h2, h3⟩
    · obtain ⟨q, hq, h⟩ := ih b hb
      exact ⟨q, by simp [hq], h⟩
  | none h1 h2 h3 _ ih =>
    intro b hb
    obtain ⟨q, hq, h⟩ := ih b hb
    exact ⟨q, by simp [hq], h⟩
/-- Each of the roots stands, and its block is among those that were lent. -/
theorem Units.root {us : List Nat} {bs : List Hd} (h : Units σ γ us bs) : ∀ q ∈ us, ∃ R, σ.L q = some R ∧ R.st = .live ∧ ∀ hd, γ q = some hd → hd ∈ bs := by
  induction h with
  | nil => intro b hb; cases hb
  | @blk q us h bs R h1 h2 h3 _ ih =>
    intro b hb
    rcases List.mem_cons.1 hb with rfl | hb
    · exact ⟨_, h1, h2, fun hd hg => by rw [h3] at hg; injection hg with hg; subst hg; simp⟩
    · obtain ⟨R', k1, k2, k3⟩ := ih b hb
      exact ⟨R', k1, k2, fun hd hg => List.mem_cons_of_mem _ (k3 hd hg)⟩
  | @none q us bs R h1 h2 h3 _ ih =>
    intro b hb
    rcases List.mem_cons.1 hb with rfl | hb
    · exact ⟨_, h1, h2, fun hd hg => by rw [h3] at hg; cases hg⟩
    · exact ih b hb
theorem Units.nodup (hs : Sim N S I0 w0 γ I σ a w) {us : List Nat} {bs : List Hd} (h : Units σ γ us bs) : us.Nodup → (bs.map (·.1)).Nodup := by
  induction h with
  | nil => intro _; exact List.nodup_nil
  | @blk q us h bs R h1 h2 h3 k ih =>
    intro hn
    obtain ⟨b, o, c⟩ := h
    obtain ⟨n1, n2⟩ := List.nodup_cons.1 hn
    refine List.nodup_cons.2 ⟨fun hb => ?_, ih n2⟩
    obtain ⟨q', hq', R', o', c', k1, k2, k3⟩ := k.mem _ hb
    exact hs.sep q q' R R' b o c o' c' (fun e => n1 (e ▸ hq')) h1 k1 h2 k2 h3 k3
  | none h1 h2 h3 _ ih => intro hn; exact ih (List.nodup_cons.1 hn).2

theorem own_close (hs : Sim N S I0 w0 γ I σ a w) {q v : Nat} {part : Option (Nat × Nat)} {u : Value} (hx : RVc σ.L γ w I (.ref q v [] part) u) {R : Root} (h1 : σ.L q = some R) (h2 : R.ver = v) (h3 : R.st = .live) (hb : R.bx = false) :
    ∃ bs, RO w I (.own R.sz R.xs part) u bs ∧ Units σ γ [q] bs ∧ bs = (γ q).toList := by
  have hr := hx.2 R h1 h2 (by rw [h3]; simp) rfl
  have hro := hs.root q R h1 (by rw [h3]; simp)
  cases hg : γ q with
  | none =>
    rw [hg] at hr hro
    rw [hro.1]
    exact ⟨[], .inl ⟨rfl, rfl, hr⟩, .none h1 h3 hg .nil, rfl⟩
  | some z =>
    obtain ⟨b, of, cap⟩ := z
    rw [hg] at hr hro
    obtain ⟨k1, k2, k3, k4⟩ := hro
    exact ⟨_, .inr ⟨b, of, cap, rfl, k1, RefOk.same rfl rfl hr, k2.row hb, k3⟩, .blk h1 h3 hg .nil, rfl⟩

mutual
/-- What a call is lent. -/
def LentK (σ : St) (γ : Nat → Hdr) : Sh → AV → List Hd → Prop
  | .own _ sz _, x, l => (x = .nils ∧ l = []) ∨ ∃ q v part R, x = .ref q v [] part ∧ σ.L q = some R ∧ R.ver = v ∧ R.st = .live ∧ R.bx = false ∧ R.sz = sz ∧ l = (γ q).toList
  | .box _ sz _, x, l => ∃ q v R b l', x = .loc q v [] 0 0 ∧ σ.L q = some R ∧ R.ver = v ∧ R.st = .live ∧ R.bx = true ∧ R.sz = sz ∧ γ q = some (b, 0, 1) ∧ l = (b, 0, 1) :: l'
  | .fn f ls ms, x, l => ∃ xs ys l1 l2, x = .fn f xs ys ∧ l = l1 ++ l2 ∧ LentL σ γ ls xs l1 ∧ LentL σ γ ms ys l2
  | _, _, _ => True
def LentL (σ : St) (γ : Nat → Hdr) : List Sh → List AV → List Hd → Prop
  | [], xs, l => xs = [] ∧ l = []
  | s :: ls, xs, l => ∃ x xs' l1 l2, xs = x :: xs' ∧ l = l1 ++ l2 ∧ LentK σ γ s x l1 ∧ LentL σ γ ls xs' l2
end

mutual
theorem closeK_some (hs : Sim N S I0 w0 γ I σ a w) {tol : Bool} : ∀ (s : Sh) {x : AV} {u : Value} {K : AV → List Nat → List Nat → Option β}, RV σ.L γ w I x u → closeK σ tol s x K = some r →
    ∃ y rs us bs, K y rs us = some r ∧ RO w (Ix γ I rs) y u bs ∧ Stand σ rs ∧ Units σ γ us bs ∧ (RV1 σ.L γ w I x u → y.oneT = true) ∧ (tol = false → LentK σ γ s x bs)
  | .own ty sz _, x, u, K, hx, h => by
    simp only [closeK] at h
    split at h
    · rename_i q v part
      split at h
      · rename_i R hR
        cases hc : (Nat.beq R.ver v && (R.st == .live)) with
        | true =>
          rw [cond_t hc] at h
          obtain ⟨hc2, h2⟩ := cond_some h
          simp only [Bool.and_eq_true] at hc hc2
          have hv := Nat.eq_of_beq_eq_true hc.1
          have hst : R.st = .live := by simpa using hc.2
          have hbx : R.bx = false := by simpa using hc2.1.1
          have hsz := Nat.eq_of_beq_eq_true hc2.2
          obtain ⟨bs, k1, k2, k3⟩ := own_close hs (part := part) hx hR hv hst hbx
          rw [← hsz] at h2
          exact ⟨_, _, _, bs, h2, RO_mono (fun k hk => .inl hk) _ _ _ k1, (fun q hq => by cases hq), k2, fun _ => rfl, fun _ => .inr ⟨q, v, part, R, rfl, hR, hv, hst, hbx, hsz, k3⟩⟩
        | false =>
          rw [cond_f hc] at h
          obtain ⟨ht, h2⟩ := cond_some h
          exact ⟨_, _, _, [], h2, ⟨rfl, RVc_one (c := .ref q v [] part) (γ := γ) (L := σ.L) (w := w) (I := I) hx⟩, (fun q hq => by cases hq), .nil, fun _ => rfl, fun hf => by rw [ht] at hf; cases hf⟩
      · cases h
    · have hu : u = .slice none 0 0 := hx.2
      exact ⟨_, _, _, [], h, .inl ⟨rfl, rfl, none, hu⟩, (fun q hq => by cases hq), .nil, fun _ => rfl, fun _ => .inl ⟨rfl, rfl⟩⟩
    · cases h
  | .box ty sz s, x, u, K, hx, h => by
    simp only [closeK] at h
    split at h
    case h_2 => cases h
    rename_i q v
    obtain ⟨R, h1, h2, h3, h4⟩ := liveK_some h
    obtain ⟨hc, h5⟩ := cond_some h4
    simp only [Bool.and_eq_true] at hc
    have hbx : R.bx = true := hc.1.1
    have hsz := Nat.eq_of_beq_eq_true hc.2
    obtain ⟨y0, hy0, h6⟩ := nthK_some h5
    obtain ⟨hi, b, of, cap, hg, hu⟩ := hx.2 R h1 h2 (by rw [h3]; simp) rfl
    have hro := hs.root q R h1 (by rw [h3]; simp)
    rw [hg] at hro
    obtain ⟨k1, k2, k3, k4⟩ := hro
    obtain ⟨rfl, rfl⟩ := k4 hbx
    obtain ⟨x1, ev, e1, e2, e3, e4⟩ := k2.box hbx
    rw [e1] at hy0
    simp only [List.getElem?_cons_zero, Option.some.injEq] at hy0
    subst hy0
    obtain ⟨y, rs, us, bs, h7, j1, j2, j3, j4, _⟩ := closeK_some hs s (RV_of1 e2) h6
    have ho := j4 e2
    have hw : y.width = R.sz := by rw [← RO_width ho j1, e2.width, e3]
    refine ⟨_, _, _, (b, 0, 1) :: bs, h7, ⟨b, bs, [ev], by simpa using hu, rfl, by simpa [AV.widths, hw] using k3, ⟨ev, [], bs, [], rfl, by simp, j1, rfl, rfl⟩, rfl, fun u' hu' => by
      simp only [List.mem_singleton] at hu'; subst hu'; exact e4, by simp [ho]⟩, j2, .blk h1 h3 hg j3, fun _ => rfl, fun _ => ⟨q, v, R, b, bs, rfl, h1, h2, h3, hbx, hsz, hg, rfl⟩⟩
  | .agg ls, x, u, K, hx, h => by
    simp only [closeK] at h
    obtain ⟨cs, e0, h1⟩ := fitA_some h
    subst e0
    obtain ⟨us, e1, hcs⟩ := hx
    obtain ⟨ys, rs, un, bs, h2, j1, j2, j3, j4, j5⟩ := closeL_some hs ls (hcs.imp (fun c _ u hcu => RV_of1 (by rw [RV1_cell (RVc_notAgg hcu)]; exact hcu))) h1
    obtain ⟨hb, h3⟩ := cond_some h2
    exact ⟨_, _, _, bs, h3, ⟨us, e1, j1, hb⟩, j2, j3, fun _ => rfl, fun _ => trivial⟩
  | .tup ls, x, u, K, hx, h => by
    simp only [closeK] at h
    obtain ⟨cs, e0, h1⟩ := fitT_some h
    subst e0
    obtain ⟨us, e1, hcs⟩ := hx
    obtain ⟨ys, rs, un, bs, h2, j1, j2, j3, j4, j5⟩ := closeL_some hs ls (hcs.imp (fun c _ u hcu => RV_of1 hcu)) h1
    exact ⟨_, _, _, bs, h2, ⟨us, e1, j1, j4 hcs⟩, j2, j3, fun hx1 => hx1.2.elim, fun _ => trivial⟩
  | .fn f ls ms, x, u, K, hx, h => by
    simp only [closeK] at h
    obtain ⟨l, m, e0, h1⟩ := fitF_some h
    subst e0
    obtain ⟨us, vs, e1, hl, hm⟩ := hx
    obtain ⟨ys, rs, un, bs, h2, j1, j2, j3, j4, j5⟩ := closeL_some hs ls (hl.imp (fun c _ u hcu => RV_of1 hcu)) h1
    obtain ⟨ys', rs', un', bs', h3, k1, k2, k3, k4, k5⟩ := closeL_some hs ms (hm.imp (fun c _ u hcu => RV_of1 hcu)) h2
    exact ⟨_, _, _, bs ++ bs', h3, ⟨us, vs, bs, bs', rfl, e1, ROl_mono Ix_left _ _ _ j1, ROl_mono Ix_right _ _ _ k1, j4 hl, k4 hm⟩, j2.append k2, j3.append k3, fun hx1 => hx1.2.elim, fun ht => ⟨l, m, bs, bs', rfl, rfl, j5 ht, k5 ht⟩⟩
  | .int k, x, u, K, hx, h => by
    obtain ⟨y, rs, us, bs, h1, h2, h3, h4, h5⟩ := close_data hs (.int k) hx (by simpa only [closeK] using h)
    exact ⟨y, rs, us, bs, h1, h2, h3, h4, h5, fun _ => trivial⟩
  | .bool, x, u, K, hx, h => by
    obtain ⟨y, rs, us, bs, h1, h2, h3, h4, h5⟩ := close_data hs .bool hx (by simpa only [closeK] using h)
    exact ⟨y, rs, us, bs, h1, h2, h3, h4, h5, fun _ => trivial⟩
  | .str, x, u, K, hx, h => by
    obtain ⟨y, rs, us, bs, h1, h2, h3, h4, h5⟩ := close_data hs .str hx (by simpa only [closeK] using h)
    exact ⟨y, rs, us, bs, h1, h2, h3, h4, h5, fun _ => trivial⟩
  | .sl sz, x, u, K, hx, h => by
    obtain ⟨y, rs, us, bs, h1, h2, h3, h4, h5⟩ := close_data hs (.sl sz) hx (by simpa only [closeK] using h)
    exact ⟨y, rs, us, bs, h1, h2, h3, h4, h5, fun _ => trivial⟩
theorem closeL_some (hs : Sim N S I0 w0 γ I σ a w) {tol : Bool} : ∀ (ls : List Sh) {xs : List AV} {vs : List Value} {K : List AV → List Nat → List Nat → Option β}, All2 (RV σ.L γ w I) xs vs → closeL σ tol ls xs K = some r →
    ∃ ys rs us bs, K ys rs us = some r ∧ ROl w (Ix γ I rs) ys vs bs ∧ Stand σ rs ∧ Units σ γ us bs ∧ (All2 (RV1 σ.L γ w I) xs vs → ys.all AV.oneT = true) ∧ (tol = false → LentL σ γ ls xs bs)
  | [], xs, vs, K, hx, h => by
    simp only [closeL] at h
    obtain ⟨e0, h1⟩ := nlK_some h
    subst e0
    exact ⟨_, _, _, [], h1, ⟨hx, rfl⟩, (fun q hq => by cases hq), .nil, fun _ => rfl, fun _ => ⟨rfl, rfl⟩⟩
  | s :: ls, xs, vs, K, hx, h => by
    simp only [closeL] at h
    obtain ⟨x, xs', e0, h1⟩ := hdK_some h
    subst e0
    obtain ⟨v, vs', rfl, hx1, hx2⟩ := hx
    obtain ⟨y, rs, us, bs, h2, j1, j2, j3, j4, j5⟩ := closeK_some hs s hx1 h1
    obtain ⟨ys, rs', us', bs', h3, k1, k2, k3, k4, k5⟩ := closeL_some hs ls hx2 h2
    refine ⟨_, _, _, bs ++ bs', h3, ⟨v, vs', bs, bs', rfl, rfl, RO_mono Ix_left _ _ _ j1, ROl_mono Ix_right _ _ _ k1⟩, j2.append k2, j3.append k3, fun ha => ?_, fun ht => ⟨x, xs', bs, bs', rfl, rfl, j5 ht, k5 ht⟩⟩
    obtain ⟨v1, vs1, e1, a1, a2⟩ := ha
    injection e1 with e1 e2
    subst e1; subst e2
    simp [j4 a1, k4 a2]
theorem close_data (hs : Sim N S I0 w0 γ I σ a w) (s : Sh) {x : AV} {u : Value} {K : AV → List Nat → List Nat → Option β} (hx : RV σ.L γ w I x u) (h : (dataK σ x fun y rs => fitK s y fun y' => K y' rs []) = some r) :
    ∃ y rs us bs, K y rs us = some r ∧ RO w (Ix γ I rs) y u bs ∧ Stand σ rs ∧ Units σ γ us bs ∧ (RV1 σ.L γ w I x u → y.oneT = true) := by
  obtain ⟨y, rs, h1, j1, j2, j3⟩ := dataK_some hs hx h
  obtain ⟨y', hsame, h2⟩ := fitK_some h1
  obtain ⟨k1, k2, _⟩ := RO_data (hsame.ri _ _ _ j1)
  exact ⟨y', rs, [], [], h2, k1, j2, .nil, fun _ => k2⟩
end
end Go.Ai
