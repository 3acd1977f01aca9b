/- Part of the proofs: the verified interpreter for the program's functions, or lemmas on what they compute; no condition. -/
import Derived.Test.YtoocidelbmbgcaaOctetSealsBiSim
namespace Go.Ai
variable {N : Lim} {S I0 I I' : Nat → Prop} {w0 w w' : World} {γ γ' : Nat → Hdr} {σ σ' : St} {a : Act} {β : Type} {r : β} {Γ : Ctx}

/-! ### What the combinators tell -/
theorem br_some {b : Bool} {x y : Option β} (h : br b x y = some r) : (b = true ∧ x = some r) ∨ (b = false ∧ y = some r) := by
  cases b <;> simp_all [br]
theorem nthK_some {l : List AV} {i : Nat} {K : AV → Option β} (h : nthK l i K = some r) : ∃ x, l[i]? = some x ∧ K x = some r := by
  unfold nthK at h
  split at h
  · exact ⟨_, by assumption, h⟩
  · cases h
theorem idxK_some {n : Int} {len : Nat} {K : Nat → Option β} (h : idxK n len K = some r) : 0 ≤ n ∧ n < (len : Int) ∧ K n.toNat = some r := by
  unfold idxK at h
  split at h
  · rename_i hp
    have hp := of_decide_eq_true hp
    exact ⟨by omega, by omega, h⟩
  · cases h
theorem okK_some {p : Prop} [Decidable p] {K : Option β} (h : okK p K = some r) : p ∧ K = some r := by
  unfold okK at h
  split at h
  · rename_i hp
    exact ⟨of_decide_eq_true hp, h⟩
  · cases h
theorem cond_some {b : Bool} {x : Option β} (h : (bif b then x else none) = some r) : b = true ∧ x = some r := by
  cases b
  · cases h
  · exact ⟨rfl, h⟩
theorem tyK_some {t : TypeId} {K : TI → Option β} (h : tyK Γ t K = some r) : ∃ i, Γ.ty t = some i ∧ K i = some r := by
  unfold tyK at h
  split at h
  · exact ⟨_, by assumption, h⟩
  · cases h
theorem dstK_some {o : Oper} {K : Nat → Option β} (h : dstK o K = some r) : ∃ d, o.dst = some d ∧ K d = some r := by
  unfold dstK at h
  split at h
  · exact ⟨_, by assumption, h⟩
  · cases h
theorem rootK_some {q v : Nat} {K : Root → Option β} (h : rootK σ q v K = some r) : ∃ R, σ.L q = some R ∧ R.ver = v ∧ R.st ≠ .gone ∧ K R = some r := by
  unfold rootK at h
  split at h
  · obtain ⟨h1, h2⟩ := cond_some h
    simp only [Bool.and_eq_true, Bool.not_eq_true', beq_eq_false_iff_ne] at h1
    exact ⟨_, by assumption, Nat.eq_of_beq_eq_true h1.1, h1.2, h2⟩
  · cases h
theorem liveK_some {q v : Nat} {K : Root → Option β} (h : liveK σ q v K = some r) : ∃ R, σ.L q = some R ∧ R.ver = v ∧ R.st = .live ∧ K R = some r := by
  unfold liveK at h
  split at h
  · obtain ⟨h1, h2⟩ := cond_some h
    simp only [Bool.and_eq_true, beq_iff_eq] at h1
    exact ⟨_, by assumption, Nat.eq_of_beq_eq_true h1.1, h1.2, h2⟩
  · cases h
theorem fitI_some {k : IntKind} {x : AV} {K : Int → Option β} (h : fitI k x K = some r) : ∃ n, x = .int k n ∧ K n = some r := by
  unfold fitI at h
  split at h
  · split at h
    · rename_i e; subst e; exact ⟨_, rfl, h⟩
    · cases h
  · cases h
theorem fitB_some {x : AV} {K : Bool → Option β} (h : fitB x K = some r) : ∃ n, x = .bool n ∧ K n = some r := by
  unfold fitB at h; split at h
  · exact ⟨_, rfl, h⟩
  · cases h
theorem fitStr_some {x : AV} {K : ByteArray → Option β} (h : fitStr x K = some r) : ∃ n, x = .str n ∧ K n = some r := by
  unfold fitStr at h; split at h
  · exact ⟨_, rfl, h⟩
  · cases h
theorem fitS_some {sz : Nat} {x : AV} {K : List AV → Option β} (h : fitS sz x K = some r) : ∃ xs, (x = .sl sz xs ∨ x = .nils ∧ xs = []) ∧ K xs = some r := by
  unfold fitS at h; split at h
  · obtain ⟨e, h2⟩ := cond_some h
    have e := Nat.eq_of_beq_eq_true e
    subst e
    exact ⟨_, .inl rfl, h2⟩
  · exact ⟨_, .inr ⟨rfl, rfl⟩, h⟩
  · cases h
theorem fitA_some {x : AV} {K : List AV → Option β} (h : fitA x K = some r) : ∃ n, x = .agg n ∧ K n = some r := by
  unfold fitA at h; split at h
  · exact ⟨_, rfl, h⟩
  · cases h
theorem fitT_some {x : AV} {K : List AV → Option β} (h : fitT x K = some r) : ∃ n, x = .tup n ∧ K n = some r := by
  unfold fitT at h; split at h
  · exact ⟨_, rfl, h⟩
  · cases h
theorem fitX_some {x : AV} {K : List AV → Option β} (h : fitX x K = some r) : ∃ n, x = .box n ∧ K n = some r := by
  unfold fitX at h; split at h
  · exact ⟨_, rfl, h⟩
  · cases h
theorem fitO_some {sz : Nat} {x : AV} {K : List AV → Option (Nat × Nat) → Option β} (h : fitO sz x K = some r) : ∃ n p, x = .own sz n p ∧ K n p = some r := by
  unfold fitO at h; split at h
  · obtain ⟨hb, h2⟩ := cond_some h
    have hb := Nat.eq_of_beq_eq_true hb
    subst hb
    exact ⟨_, _, rfl, h2⟩
  · cases h
theorem fitF_some {f : Nat} {x : AV} {K : List AV → List AV → Option β} (h : fitF f x K = some r) : ∃ l m, x = .fn f l m ∧ K l m = some r := by
  unfold fitF at h; split at h
  · obtain ⟨hb, h2⟩ := cond_some h
    have hb := Nat.eq_of_beq_eq_true hb
    subst hb
    exact ⟨_, _, rfl, h2⟩
  · cases h
theorem hdK_some {l : List AV} {K : AV → List AV → Option β} (h : hdK l K = some r) : ∃ x xs, l = x :: xs ∧ K x xs = some r := by
  unfold hdK at h; split at h
  · exact ⟨_, _, rfl, h⟩
  · cases h
theorem nlK_some {l : List AV} {K : Option β} (h : nlK l K = some r) : l = [] ∧ K = some r := by
  unfold nlK at h; split at h
  · exact ⟨rfl, h⟩
  · cases h
theorem valK_some {v : Option AV} {K : AV → Option β} (h : valK v K = some r) : ∃ x, v = some x ∧ K x = some r := by
  unfold valK at h; split at h
  · exact ⟨_, rfl, h⟩
  · cases h
theorem offK_some {fs : List (Nat × TypeId)} {f : Nat} {K : Nat → TypeId → Option β} (h : offK fs f K = some r) : ∃ o t, fs[f]? = some (o, t) ∧ K o t = some r := by
  unfold offK at h; split at h
  · exact ⟨_, _, by assumption, h⟩
  · cases h
theorem conK_some {q : Option (AV × List AV)} {K : AV → List AV → Option β} (h : conK q K = some r) : ∃ x o, q = some (x, o) ∧ K x o = some r := by
  unfold conK at h; split at h
  · exact ⟨_, _, rfl, h⟩
  · cases h
theorem preK_some {b : Bool} {K : Option β} (h : preK b K = some r) : b = true ∧ K = some r := by
  cases b with
  | true => exact ⟨rfl, h⟩
  | false => cases h
theorem okK_t {p : Prop} [Decidable p] (h : p) (K : Option β) : okK p K = K := by
  have : decide p = true := by simpa using h
  simp only [okK, this]
theorem bin_of {A : Ar} {tk : Option TK} {op : BinOp} {x y v : AV} (hp : binPre op x y = true) (h : binU A tk op x y = some v) : bin A tk op x y = some v := by
  unfold binU at h
  split at h
  · rename_i k a k' b
    simp only [binPre] at hp
    cases op <;> simp only [bin, binI] at h ⊢ <;> first | exact h | skip
    · rw [okK_t (by simpa using hp)]; exact h
    · rw [okK_t (by simpa using hp)]; exact h
    · rw [okK_t (by simpa using hp)]; exact h
    · rw [okK_t (by simpa using hp)]; exact h
  · simp only [binPre] at hp
    cases op <;> simp only [bin, binS] at h ⊢ <;> first | exact h | skip
    rw [okK_t (by simpa using hp)]; exact h
  · exact h
theorem conG_some {c : Con} {args : List AV} {K : AV → List AV → Option β} (h : conG c args K = some r) : ∃ x o, c.G args = some (x, o) ∧ K x o = some r := by
  unfold conG at h
  unfold Con.G
  cases hp : c.pre args with
  | false => rw [hp] at h; cases h
  | true => rw [hp] at h; simp only [preK] at h ⊢; exact conK_some h
theorem sel_some {α : Type} {q : Option (Nat × α)} {l : List (α → Option β)} (h : sel q l = some r) : ∃ j x f, q = some (j, x) ∧ l[j]? = some f ∧ f x = some r := by
  unfold sel at h; split at h
  · split at h
    · exact ⟨_, _, _, rfl, by assumption, h⟩
    · cases h
  · cases h

/-! ### Shapes -/
/-- x' is x, written out. -/
structure Same (x x' : AV) : Prop where
  width : x'.width = x.width
  leaf : x.leaf = true → x'.leaf = true
  tree : x.treeB = true → x'.treeB = true
  one : x.oneT = true → x'.oneT = true
  row : rowLen x' = rowLen x
  ri : ∀ w I v, RI w I x v → RI w I x' v
  ro : ∀ w I v bs, RO w I x v bs → RO w I x' v bs
theorem Same.refl (x : AV) : Same x x := ⟨rfl, fun h => h, fun h => h, fun h => h, rfl, fun _ _ _ h => h, fun _ _ _ _ h => h⟩
structure SameL (l l' : List AV) : Prop where
  len : l'.length = l.length
  widths : AV.widths l' = AV.widths l
  leaf : l.all AV.leaf = true → l'.all AV.leaf = true
  tree : l.all AV.treeB = true → l'.all AV.treeB = true
  one : l.all AV.oneT = true → l'.all AV.oneT = true
  ri : ∀ w I vs, RIl w I l vs → RIl w I l' vs
  ro : ∀ w I vs bs, ROl w I l vs bs → ROl w I l' vs bs
theorem treeB_leaf {x : AV} (h : x.leaf = true) : x.treeB = true := by
  cases x <;> first | rfl | exact h
mutual
theorem fitK_some : ∀ {s : Sh} {x : AV} {K : AV → Option β}, fitK s x K = some r → ∃ x', Same x x' ∧ K x' = some r
  | .int k, x, K, h => by
    simp only [fitK] at h
    obtain ⟨n, e, h1⟩ := fitI_some h
    subst e
    exact ⟨_, Same.refl _, h1⟩
  | .bool, x, K, h => by
    simp only [fitK] at h
    obtain ⟨n, e, h1⟩ := fitB_some h
    subst e
    exact ⟨_, Same.refl _, h1⟩
  | .str, x, K, h => by
    simp only [fitK] at h
    obtain ⟨n, e, h1⟩ := fitStr_some h
    subst e
    exact ⟨_, Same.refl _, h1⟩
  | .sl sz, x, K, h => by
    simp only [fitK] at h
    obtain ⟨xs, e, h⟩ := fitS_some h
    refine ⟨_, ?_, h⟩
    rcases e with rfl | ⟨rfl, rfl⟩
    · exact Same.refl _
    · have hri : ∀ w I v, RI w I .nils v → RI w I (.sl sz []) v := fun w I v hv => by
        simp only [RI] at hv
        subst hv
        exact ⟨none, 0, rfl, Nat.le_refl _, .inl rfl⟩
      exact ⟨rfl, fun _ => rfl, fun _ => rfl, fun _ => rfl, rfl, hri, fun w I v bs hv => ⟨hv.1, rfl, hri w I v hv.2.2⟩⟩
  | .agg ls, x, K, h => by
    simp only [fitK] at h
    obtain ⟨cs, rfl, h⟩ := fitA_some h
    obtain ⟨cs', hs, h⟩ := fitL_some h
    refine ⟨.agg cs', ⟨hs.len, fun hl => by simp [AV.leaf] at hl, fun hl => by simp [AV.treeB, AV.leaf] at hl, fun _ => rfl, rfl, fun w I v hv => ?_, fun w I v bs hv => ?_⟩, h⟩
    · obtain ⟨us, e, hl, hr⟩ := hv
      exact ⟨us, e, hs.leaf hl, hs.ri w I us hr⟩
    · obtain ⟨us, e, hr, hl⟩ := hv
      exact ⟨us, e, hs.ro w I us bs hr, hs.tree hl⟩
  | .tup ls, x, K, h => by
    simp only [fitK] at h
    obtain ⟨cs, rfl, h⟩ := fitT_some h
    obtain ⟨cs', hs, h⟩ := fitL_some h
    refine ⟨.tup cs', ⟨rfl, fun hl => by simp [AV.leaf] at hl, fun hl => by simp [AV.treeB, AV.leaf] at hl, fun hl => by simp [AV.oneT, AV.treeB, AV.leaf] at hl, rfl, fun w I v hv => hv.elim, fun w I v bs hv => ?_⟩, h⟩
    obtain ⟨us, e, hr, ho⟩ := hv
    exact ⟨us, e, hs.ro w I us bs hr, hs.one ho⟩
  | .own ty sz _, x, K, h => by
    simp only [fitK] at h
    obtain ⟨xs, p, e, h1⟩ := fitO_some h
    subst e
    exact ⟨_, Same.refl _, h1⟩
  | .box ty sz s, x, K, h => by
    simp only [fitK] at h
    obtain ⟨cs, e0, h1⟩ := fitX_some h
    obtain ⟨c, cs', e1, h2⟩ := hdK_some h1
    obtain ⟨e2, h3⟩ := nlK_some h2
    obtain ⟨c', hc, h4⟩ := fitK_some h3
    obtain ⟨_, h5⟩ := cond_some h4
    subst e2; subst e1; subst e0
    refine ⟨.box [c'], ⟨rfl, fun hl => by simp [AV.leaf] at hl, fun _ => rfl, fun _ => rfl, rfl, fun w I v hv => hv.elim, fun w I v bs hv => ?_⟩, h5⟩
    obtain ⟨b, bs', us, e1, e2, hf, ⟨u, us', b1, b2, e3, e4, h1, h2⟩, hu, hv, ho⟩ := hv
    exact ⟨b, bs', us, e1, e2, by simpa [AV.widths, hc.width] using hf, ⟨u, us', b1, b2, e3, e4, hc.ro _ _ _ _ h1, h2⟩, hu, hv, by simpa using hc.one (by simpa using ho)⟩
  | .fn f ls ms, x, K, h => by
    simp only [fitK] at h
    obtain ⟨l, m, e0, k1⟩ := fitF_some h
    obtain ⟨l', hl, k2⟩ := fitL_some k1
    obtain ⟨m', hm, k3⟩ := fitL_some k2
    subst e0
    refine ⟨.fn f l' m', ⟨rfl, fun hl => by simp [AV.leaf] at hl, fun hl => by simp [AV.treeB, AV.leaf] at hl, fun hl => by simp [AV.oneT, AV.treeB, AV.leaf] at hl, rfl, fun w I v hv => hv.elim, fun w I v bs hv => ?_⟩, k3⟩
    obtain ⟨us, vs, b1, b2, e1, e2, h1, h2, o1, o2⟩ := hv
    exact ⟨us, vs, b1, b2, e1, e2, hl.ro _ _ _ _ h1, hm.ro _ _ _ _ h2, hl.one o1, hm.one o2⟩
theorem fitL_some : ∀ {ls : List Sh} {cs : List AV} {K : List AV → Option β}, fitL ls cs K = some r → ∃ cs', SameL cs cs' ∧ K cs' = some r
  | [], cs, K, h => by
    simp only [fitL] at h
    obtain ⟨rfl, h⟩ := nlK_some h
    exact ⟨[], ⟨rfl, rfl, fun h => h, fun h => h, fun h => h, fun _ _ _ h => h, fun _ _ _ _ h => h⟩, h⟩
  | s :: ss, cs, K, h => by
    simp only [fitL] at h
    obtain ⟨c, cs, rfl, h⟩ := hdK_some h
    obtain ⟨c', hc, h⟩ := fitK_some h
    obtain ⟨cs', hcs, h⟩ := fitL_some h
    refine ⟨_, ⟨by simp [hcs.len], ?_, fun hl => ?_, fun hl => ?_, fun hl => ?_, fun w I vs hv => ?_, fun w I vs bs hv => ?_⟩, h⟩
    · have := hcs.len
      cases cs <;> cases cs' <;> simp [AV.widths, hc.width] at this ⊢
    · simp only [List.all_cons, Bool.and_eq_true] at hl ⊢
      exact ⟨hc.leaf hl.1, hcs.leaf hl.2⟩
    · simp only [List.all_cons, Bool.and_eq_true] at hl ⊢
      exact ⟨hc.tree hl.1, hcs.tree hl.2⟩
    · simp only [List.all_cons, Bool.and_eq_true] at hl ⊢
      exact ⟨hc.one hl.1, hcs.one hl.2⟩
    · obtain ⟨u, us, rfl, h1, h2⟩ := hv
      exact ⟨u, us, rfl, hc.ri _ _ _ h1, hcs.ri _ _ _ h2⟩
    · obtain ⟨u, us, b1, b2, rfl, rfl, h1, h2⟩ := hv
      exact ⟨u, us, b1, b2, rfl, rfl, hc.ro _ _ _ _ h1, hcs.ro _ _ _ _ h2⟩
end

/-! ### Operands -/
theorem RI_const1 {w : World} {I : Nat → Prop} {v : Value} (h : (ofConst1 v).leaf = true) : RI w I (ofConst1 v) v := by
  unfold ofConst1 at h ⊢
  split at h <;> first | rfl | (simp [AV.leaf] at h)
theorem RV_opd (h : Sim N S I0 w0 γ I σ a w) (x : Operand) : RV σ.L γ w I (opd σ x) (a.eval x) := by
  cases x with
  | tmp t => exact h.env t
  | const v =>
    simp only [opd, Act.eval]
    unfold ofConst
    split
    · rename_i cs
      cases hb : (cs.toList.map ofConst1).all AV.leaf with
      | false => trivial
      | true =>
        refine RV_data (x := .agg _) ⟨cs.toList, by simp, hb, (RIl_iff _ _).2 ⟨by simp, fun i c u hc hu => ?_⟩⟩
        simp only [List.getElem?_map, hu, Option.map_some, Option.some.injEq] at hc
        subst hc
        exact RI_const1 (List.all_eq_true.1 hb _ (List.mem_map.2 ⟨u, List.mem_of_getElem? hu, rfl⟩))
    · cases hl : (ofConst1 v).leaf with
      | true => exact RV_data (RI_const1 hl)
      | false =>
        have : ofConst1 v = .dead := by
          unfold ofConst1 at hl ⊢
          split at hl <;> first | (simp [AV.leaf] at hl; done) | rfl
        rw [this]; trivial
  | global g => trivial
  | func f => exact ⟨[], [], rfl, rfl, rfl⟩
theorem refers_opd (hy : Young σ) (x : Operand) : ∀ q v, refers (opd σ x) q v → ∃ R, σ.L q = some R ∧ v ≤ R.ver := by
  intro q v h
  cases x with
  | tmp t => exact hy.env t q v h
  | const c =>
    have hd : opd σ (.const c) = .dead ∨ RI (default : World) (fun _ => False) (opd σ (.const c)) c ∨ ∃ cs, opd σ (.const c) = .agg cs ∧ cs.all AV.leaf = true := by
      simp only [opd]
      unfold ofConst
      split
      · rename_i cs
        cases hb : (cs.toList.map ofConst1).all AV.leaf with
        | false => exact .inl rfl
        | true => exact .inr (.inr ⟨_, rfl, hb⟩)
      · cases hl : (ofConst1 c).leaf with
        | true => exact .inr (.inl (RI_const1 hl))
        | false =>
          left
          unfold ofConst1 at hl ⊢
          split at hl <;> first | (simp [AV.leaf] at hl; done) | rfl
    rcases hd with hd | hd | ⟨cs, hd, hl⟩
    · rw [hd] at h; exact h.elim
    · exact absurd h (refers_data hd q v)
    · rw [hd] at h
      obtain ⟨x, hx, hr⟩ := h
      exact absurd hr (refc_leaf (List.all_eq_true.1 hl x hx) q v)
  | global g => exact h.elim
  | func f => obtain ⟨x, hx, _⟩ := h; cases hx

/-! ### Plain data -/
/-- What is read besides: the blocks of these roots. -/
def Ix (γ : Nat → Hdr) (I : Nat → Prop) (rs : List Nat) : Nat → Prop := fun k => I k ∨ ∃ q ∈ rs, ∃ o c, γ q = some (k, o, c)
theorem Ix_nil (γ : Nat → Hdr) (I : Nat → Prop) : ∀ k, Ix γ I [] k → I k := fun k h => by
  rcases h with h | ⟨q, h, _⟩
  · exact h
  · cases h
/-- The roots of rs stand, and are rows. -/
def Stand (σ : St) (rs : List Nat) : Prop := ∀ q ∈ rs, ∃ R, σ.L q = some R ∧ R.st ≠ .gone ∧ R.bx = false
theorem Stand.append {rs rs' : List Nat} (h : Stand σ rs) (k : Stand σ rs') : Stand σ (rs ++ rs') := fun q hq => (List.mem_append.1 hq).elim (h q) (k q)
theorem Ix_left {rs rs' : List Nat} : ∀ k, Ix γ I rs k → Ix γ I (rs ++ rs') k := by
  rintro k (hk | ⟨q, hq, hg⟩)
  · exact .inl hk
  · exact .inr ⟨q, by simp [hq], hg⟩
theorem Ix_right {rs rs' : List Nat} : ∀ k, Ix γ I rs' k → Ix γ I (rs ++ rs') k := by
  rintro k (hk | ⟨q, hq, hg⟩)
  · exact .inl hk
  · exact .inr ⟨q, by simp [hq], hg⟩

theorem partOf_get {xs : List AV} {p : Option (Nat × Nat)} {i : Nat} {x : AV} (h : (partOf xs p)[i]? = some x) : xs[offOf p + i]? = some x := by
  cases p with
  | none => simpa [partOf, offOf] using h
  | some q =>
    obtain ⟨o, n⟩ := q
    simp only [partOf, List.getElem?_take] at h
    split at h
    · simpa [offOf] using h
    · cases h

theorem data1K_some (hs : Sim N S I0 w0 γ I σ a w) {x : AV} {u : Value} (hx : RVc σ.L γ w I x u) {K : AV → List Nat → Option β} (h : data1K σ x K = some r) :
    ∃ y rs, K y rs = some r ∧ RI w (Ix γ I rs) y u ∧ Stand σ rs ∧ y.leaf = true := by
  have plain : ∀ y : AV, RVc σ.L γ w I y u → (y.leaf = true ∧ RI w I y u) → K y [] = some r → ∃ y rs, K y rs = some r ∧ RI w (Ix γ I rs) y u ∧ Stand σ rs ∧ y.leaf = true :=
    fun y _ hy h => ⟨y, [], h, RI_mono (fun k hk => .inl hk) (fun _ _ => rfl) y u hy.2, (fun q hq => nomatch hq), hy.1⟩
  unfold data1K at h
  split at h
  · rename_i q v p
    obtain ⟨R, h1, h2, h3, h⟩ := rootK_some h
    cases hbx : R.bx with
    | true => rw [hbx] at h; cases h
    | false =>
    rw [hbx, cond_false] at h
    refine ⟨_, _, h, ?_, fun q' hq => ?_, rfl⟩
    · have hr := hx.2 R h1 h2 h3 rfl
      have hro := hs.root q R h1 h3
      cases hg : γ q with
      | none =>
        rw [hg] at hr hro
        obtain ⟨ad, hr⟩ := hr
        have : partOf R.xs p = [] := by rw [hro.1]; cases p <;> simp [partOf]
        rw [this, hr]
        exact ⟨ad, 0, rfl, Nat.le_refl _, .inl rfl⟩
      | some z =>
        obtain ⟨b, o, cap⟩ := z
        rw [hg] at hr hro
        obtain ⟨ad, c, hu, hl, hc, hz⟩ := hr
        have hrow := hro.2.1
        rw [hbx] at hrow
        refine ⟨ad, c, hu, hl, ?_⟩
        by_cases he : partOf R.xs p = []
        · exact .inl he
        · have hpos : 0 < (partOf R.xs p).length := List.length_pos_iff.2 he
          rcases hz with hz | hz
          · omega
          · refine .inr ⟨b, o + offOf p * R.sz, hz, .inr ⟨q, by simp, o, cap, hg⟩, (RIs_iff _ _ _ _).2 fun i x hi => ?_⟩
            obtain ⟨v', k1, k2, k3⟩ := (RIs_iff _ _ _ _).1 hrow _ x (partOf_get hi)
            refine ⟨v', RI_mono (fun k hk => .inl hk) (fun _ _ => rfl) _ _ k1, k2, ?_⟩
            rwa [Nat.add_mul, ← Nat.add_assoc] at k3
    · simp only [List.mem_singleton] at hq; subst hq; exact ⟨R, h1, h3, hbx⟩
  · exact plain _ hx hx h
  · exact plain _ hx hx h
  · exact plain _ hx hx h
  · exact plain _ hx hx h
  · exact plain _ hx hx h
  · exact plain _ hx hx h
  · cases h
theorem dataCK_some (hs : Sim N S I0 w0 γ I σ a w) : ∀ {cs : List AV} {us : List Value} {K : List AV → List Nat → Option β}, All2 (RVc σ.L γ w I) cs us → dataCK σ cs K = some r →
    ∃ ys rs, K ys rs = some r ∧ RIl w (Ix γ I rs) ys us ∧ Stand σ rs ∧ ys.all AV.leaf = true
  | [], us, K, hx, h => ⟨[], [], h, hx, (fun q hq => nomatch hq), rfl⟩
  | c :: cs, us, K, hx, h => by
    obtain ⟨u, us', rfl, h1, h2⟩ := hx
    simp only [dataCK] at h
    obtain ⟨y, rs, h, k1, k2, k3⟩ := data1K_some hs h1 h
    obtain ⟨ys, rs', h, j1, j2, j3⟩ := dataCK_some hs h2 h
    refine ⟨_, _, h, ⟨u, us', rfl, RI_mono Ix_left (fun _ _ => rfl) _ _ k1, RIl_mono Ix_right (fun _ _ => rfl) _ _ j1⟩, k2.append j2, by simp [k3, j3]⟩
theorem dataK_some (hs : Sim N S I0 w0 γ I σ a w) {x : AV} {u : Value} (hx : RV σ.L γ w I x u) {K : AV → List Nat → Option β} (h : dataK σ x K = some r) :
    ∃ y rs, K y rs = some r ∧ RI w (Ix γ I rs) y u ∧ Stand σ rs ∧ isData y = true := by
  unfold dataK at h
  split at h
  · rename_i cs
    obtain ⟨us, rfl, hx⟩ := hx
    obtain ⟨ys, rs, h, h1, h2, h3⟩ := dataCK_some hs hx h
    exact ⟨_, rs, h, ⟨us, rfl, h3, h1⟩, h2, rfl⟩
  · rename_i hne
    have hc : RVc σ.L γ w I x u := by
      cases x <;> first | exact hx | exact absurd rfl (hne _) | (simp [data1K] at h)
    obtain ⟨y, rs, h, h1, h2, h3⟩ := data1K_some hs hc h
    exact ⟨y, rs, h, h1, h2, by cases y <;> first | rfl | (simp [AV.leaf] at h3)⟩

theorem Sim.congrI (h : Sim N S I0 w0 γ I σ a w) (hI : ∀ k, I k ↔ I' k) : Sim N S I0 w0 γ I' σ a w := by
  have : I = I' := funext fun k => propext (hI k)
  rwa [← this]

/-- Roots that were read become plain data for good. -/
theorem freeze_ok : ∀ (rs : List Nat) {I : Nat → Prop} {σ1 : St}, Sim N S I0 w0 γ I σ1 a w → Young σ1 →
    (∀ q ∈ rs, ∃ R, σ.L q = some R ∧ R.st ≠ .gone ∧ R.bx = false ∧ (σ1.L q = some R ∨ σ1.L q = some { R with st := .still })) →
    Sim N S I0 w0 γ (Ix γ I rs) (σ1.ups (freezeUps σ rs)) a w ∧ Young (σ1.ups (freezeUps σ rs))
  | [], I, σ1, hs, hy, _ => ⟨hs.congrI (fun k => ⟨.inl, Ix_nil γ I k⟩), hy⟩
  | q :: rs, I, σ1, hs, hy, hst => by
    obtain ⟨R, h1, h2, hbx, h3⟩ := hst q (by simp)
    simp only [freezeUps, h1, St.ups]
    obtain ⟨R1, k1, k2, k3, k4, k5, k6, k7⟩ : ∃ R1, σ1.L q = some R1 ∧ R1.ver = R.ver ∧ R1.st ≠ .gone ∧ R1.xs = R.xs ∧ R1.sz = R.sz ∧ R1.bx = R.bx ∧ R1.ty = R.ty := by
      rcases h3 with h3 | h3
      · exact ⟨R, h3, rfl, h2, rfl, rfl, rfl, rfl⟩
      · exact ⟨_, h3, rfl, by simp, rfl, rfl, rfl, rfl⟩
    have blk : ∀ b o c, γ q = some (b, o, c) → b < w.heap.size := fun b o c hg => hs.root_block k1 k3 hg
    have own : ∀ b o c, γ q = some (b, o, c) → (R1.st = .live ∧ ¬ I b ∧ (w0.heap.size ≤ b ∨ S b)) ∨ I b := by
      intro b o c hg
      cases e : R1.st with
      | live => exact .inl ⟨rfl, hs.live q R1 b o c k1 e hg⟩
      | still => exact .inr (hs.still q R1 b o c k1 e hg)
      | gone => exact absurd e k3
    have up := hs.up (I' := Ix γ I [q]) (w' := w) hy (r := q) (R' := { R with st := .still }) (h' := γ q) (B := fun _ => False) (fun k hk => .inl hk) (Fr.refl _ _) (fun _ h => h.elim)
      (.inr ⟨R1, k1, k2, fun _ => ⟨k3, by rw [k4], k5, rfl⟩⟩) (fun _ _ _ _ _ _ _ _ _ h => h)
      (by
        intro q' Q b o c hne hQ hl hg hI
        rcases hI with hI | ⟨q2, hq2, o2, c2, hg2⟩
        · exact (hs.live q' Q b o c hQ hl hg).1 hI
        · simp only [List.mem_singleton] at hq2
          subst hq2
          rcases own b o2 c2 hg2 with ⟨hl2, _⟩ | hI
          · exact hs.sep q' q2 Q R1 b o c o2 c2 hne hQ k1 hl hl2 hg hg2
          · exact (hs.live q' Q b o c hQ hl hg).1 hI)
      (fun _ => by
        have := hs.root q R1 k1 k3
        refine RootOk.row (R := { R with st := .still }) hbx (RootOk.move (L := σ1.L) (γ := γ) (L' := σ1.L) (γ' := γ) (h := γ q) (R := { R with st := .still }) (fun k hk => .inl hk) (fun _ _ => rfl) (fun _ _ _ _ => rfl) (fun hb => by rw [hbx] at hb; cases hb) ?_)
        cases hg : γ q with
        | none => rw [hg] at this; exact ⟨by rw [← k4]; exact this.1, by rw [← k6]; exact this.2⟩
        | some z =>
          obtain ⟨b, o, cap⟩ := z
          rw [hg] at this
          simp only [RootOk] at this ⊢
          rw [← k4, ← k5, ← k6]
          exact this)
      (fun b o c hl _ => by simp at hl) (fun b o c _ hg => .inr ⟨q, by simp, o, c, hg⟩) (fun _ _ _ _ _ _ _ _ _ _ hl _ => by simp at hl)
      (fun k hk => by
        rcases hk with hk | ⟨q2, hq2, o2, c2, hg2⟩
        · exact ⟨hs.imm k hk, .inl hk⟩
        · simp only [List.mem_singleton] at hq2; subst hq2
          refine ⟨blk _ _ _ hg2, ?_⟩
          rcases own _ _ _ hg2 with ⟨_, _, hx⟩ | hI
          · exact .inr (.inr hx)
          · exact .inl hI)
      (fun x r v hb => by rw [hbx] at hb; cases hb)
    rw [setAt_id] at up
    have nx := freeze_ok rs up.1 up.2 (fun q' hq' => by
      obtain ⟨R', j1, j2, j0, j3⟩ := hst q' (by simp [hq'])
      by_cases e : q' = q
      · subst e
        rw [h1] at j1; injection j1 with j1; subst j1
        exact ⟨R, h1, h2, hbx, .inr (setAt_self _ _ _)⟩
      · exact ⟨R', j1, j2, j0, by simpa [setAt_ne _ e] using j3⟩)
    refine ⟨nx.1.congrI (fun k => ?_), nx.2⟩
    constructor
    · rintro ((h | ⟨q2, hq2, o, c, hg⟩) | ⟨q2, hq2, o, c, hg⟩)
      · exact .inl h
      · exact .inr ⟨q2, by simp at hq2; simp [hq2], o, c, hg⟩
      · exact .inr ⟨q2, by simp [hq2], o, c, hg⟩
    · rintro (h | ⟨q2, hq2, o, c, hg⟩)
      · exact .inl (.inl h)
      · rcases List.mem_cons.1 hq2 with e | hq2
        · exact .inl (.inr ⟨q2, by simp [e], o, c, hg⟩)
        · exact .inr ⟨q2, hq2, o, c, hg⟩

/-! ### One operation -/
def Ok (N : Lim) (S I0 : Nat → Prop) (w0 : World) (σ : St) (a : Act) (w : World) : Prop := ∃ γ I, Sim N S I0 w0 γ I σ a w ∧ Young σ
def Goes (P : Program) (N : Lim) (S I0 : Nat → Prop) (w0 : World) (σ' : St) (o : Oper) (a : Act) (w : World) : Prop :=
  ∀ (next : Act → World → Prop) (Q : Exit → Act → World → Prop), (∀ a' w', Ok N S I0 w0 σ' a' w' → next a' w') → o.wp P a w next Q

variable {P : Program} {o : Oper} {e : Eff}
theorem goes_value {u : Value} (hrun : (execOp a.eval o).run P w = .ok (.value u) w') (hok : Ok N S I0 w0 σ' (a.put o.dst u) w') : Goes P N S I0 w0 σ' o a w := by
  intro next Q hn
  unfold Oper.wp
  rw [hrun]
  exact hn _ _ hok
theorem goes_skip (hrun : (execOp a.eval o).run P w = .ok .skip w') (hok : Ok N S I0 w0 σ' (a.put o.dst undef) w') : Goes P N S I0 w0 σ' o a w := by
  intro next Q hn
  unfold Oper.wp
  rw [hrun]
  exact hn _ _ hok

/-- A plain value that comes of roots that are only read. -/
theorem ok_value (hs : Sim N S I0 w0 γ I σ a w) (hy : Young σ) {d : Option Nat} (hd : ∀ t, d = some t → N.ok t) {x : AV} {u : Value} {rr : List Nat} (hx : RV σ.L γ w I x u)
    (hr : ∀ q v, refers x q v → ∃ R, σ.L q = some R ∧ v ≤ R.ver) : Ok N S I0 w0 (σ.eff d ⟨x, [], rr⟩) (a.put d u) w :=
  ⟨γ, I, hs.slot hd hx, hy.slot hr⟩
/-- The same, the roots that were read being plain data from now on. -/
theorem ok_frozen (hs : Sim N S I0 w0 γ I σ a w) (hy : Young σ) {d : Option Nat} (hd : ∀ t, d = some t → N.ok t) {x : AV} {u : Value} {rr rs : List Nat} (hst : Stand σ rs) (hx : RI w (Ix γ I rs) x u) :
    Ok N S I0 w0 (σ.eff d ⟨x, freezeUps σ rs, rr⟩) (a.put d u) w := by
  obtain ⟨h1, h2⟩ := freeze_ok (σ := σ) rs hs hy (fun q hq => by
    obtain ⟨R, k1, k2, k3⟩ := hst q hq
    exact ⟨R, k1, k2, k3, .inl k1⟩)
  exact ⟨γ, _, h1.slot hd (RV_data hx), h2.slot (fun q v hr => absurd hr (refers_data hx q v))⟩
end Go.Ai
