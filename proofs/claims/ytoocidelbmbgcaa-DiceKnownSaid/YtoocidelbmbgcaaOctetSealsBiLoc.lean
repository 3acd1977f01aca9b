/- Part of the proofs: the verified interpreter for the program's functions, or lemmas on what they compute; no condition. -/
import Derived.Test.YtoocidelbmbgcaaOctetSealsBiOps16
namespace Go.Ai
variable {σ σ' : St} {Γ : Ctx} {o : Oper} {β : Type} {r : β}

/-! ### What an operation looks at: the same there, the same effect -/
/-- K goes on with x, whatever K is. -/
def Runs {α β : Type} (X : {β : Type} → (α → Option β) → Option β) (x : α) (K : α → Option β) (r : β) : Prop := K x = some r ∧ ∀ {β' : Type} (K' : α → Option β'), X K' = K' x

theorem tyK_inv {t : TypeId} {K : TI → Option β} (h : tyK Γ t K = some r) : ∃ i, K i = some r ∧ ∀ {β' : Type} (K' : TI → Option β'), tyK Γ t K' = K' i := by
  unfold tyK at h ⊢
  split at h
  · rename_i i hi; exact ⟨i, h, fun K' => rfl⟩
  · cases h
theorem dstK_inv {K : Nat → Option β} (h : dstK o K = some r) : ∃ d, K d = some r ∧ ∀ {β' : Type} (K' : Nat → Option β'), dstK o K' = K' d := by
  unfold dstK at h ⊢
  split at h
  · rename_i i hi; exact ⟨i, h, fun K' => rfl⟩
  · cases h
theorem nthK_inv {l : List AV} {i : Nat} {K : AV → Option β} (h : nthK l i K = some r) : ∃ x, K x = some r ∧ ∀ {β' : Type} (K' : AV → Option β'), nthK l i K' = K' x := by
  unfold nthK at h ⊢
  split at h
  · rename_i x hi; exact ⟨x, h, fun K' => rfl⟩
  · cases h
theorem idxK_inv {n : Int} {len : Nat} {K : Nat → Option β} (h : idxK n len K = some r) : K n.toNat = some r ∧ ∀ {β' : Type} (K' : Nat → Option β'), idxK n len K' = K' n.toNat := by
  unfold idxK at h ⊢
  split at h
  · rename_i hp; exact ⟨h, fun K' => by first | rw [if_pos hp] | rfl⟩
  · cases h
theorem okK_inv {p : Prop} [Decidable p] {K : Option β} (h : okK p K = some r) : K = some r ∧ ∀ {β' : Type} (K' : Option β'), okK p K' = K' := by
  unfold okK at h ⊢
  split at h
  · rename_i hp; exact ⟨h, fun K' => by first | rw [if_pos hp] | rfl⟩
  · cases h
theorem fitI_inv {k : IntKind} {x : AV} {K : Int → Option β} (h : fitI k x K = some r) : ∃ n, K n = some r ∧ ∀ {β' : Type} (K' : Int → Option β'), fitI k x K' = K' n := by
  obtain ⟨n, rfl, h2⟩ := fitI_some h
  exact ⟨n, h2, fun K' => by simp [fitI]⟩
theorem fitB_inv {x : AV} {K : Bool → Option β} (h : fitB x K = some r) : ∃ n, K n = some r ∧ ∀ {β' : Type} (K' : Bool → Option β'), fitB x K' = K' n := by
  obtain ⟨n, rfl, h⟩ := fitB_some h
  exact ⟨n, h, fun K' => rfl⟩
theorem fitStr_inv {x : AV} {K : ByteArray → Option β} (h : fitStr x K = some r) : ∃ n, K n = some r ∧ ∀ {β' : Type} (K' : ByteArray → Option β'), fitStr x K' = K' n := by
  obtain ⟨n, rfl, h⟩ := fitStr_some h
  exact ⟨n, h, fun K' => rfl⟩
theorem fitS_inv {sz : Nat} {x : AV} {K : List AV → Option β} (h : fitS sz x K = some r) : ∃ n, K n = some r ∧ ∀ {β' : Type} (K' : List AV → Option β'), fitS sz x K' = K' n := by
  obtain ⟨n, e, h⟩ := fitS_some h
  refine ⟨n, h, fun K' => ?_⟩
  rcases e with rfl | ⟨rfl, rfl⟩
  · simp [fitS]
  · rfl
theorem fitA_inv {x : AV} {K : List AV → Option β} (h : fitA x K = some r) : ∃ n, K n = some r ∧ ∀ {β' : Type} (K' : List AV → Option β'), fitA x K' = K' n := by
  obtain ⟨n, rfl, h⟩ := fitA_some h
  exact ⟨n, h, fun K' => rfl⟩
theorem fitT_inv {x : AV} {K : List AV → Option β} (h : fitT x K = some r) : ∃ n, K n = some r ∧ ∀ {β' : Type} (K' : List AV → Option β'), fitT x K' = K' n := by
  obtain ⟨n, rfl, h⟩ := fitT_some h
  exact ⟨n, h, fun K' => rfl⟩
theorem fitX_inv {x : AV} {K : List AV → Option β} (h : fitX x K = some r) : ∃ n, K n = some r ∧ ∀ {β' : Type} (K' : List AV → Option β'), fitX x K' = K' n := by
  obtain ⟨n, rfl, h⟩ := fitX_some h
  exact ⟨n, h, fun K' => rfl⟩
theorem hdK_inv {l : List AV} {K : AV → List AV → Option β} (h : hdK l K = some r) : ∃ x xs, K x xs = some r ∧ ∀ {β' : Type} (K' : AV → List AV → Option β'), hdK l K' = K' x xs := by
  obtain ⟨x, xs, rfl, h⟩ := hdK_some h
  exact ⟨x, xs, h, fun K' => rfl⟩
theorem nlK_inv {l : List AV} {K : Option β} (h : nlK l K = some r) : K = some r ∧ ∀ {β' : Type} (K' : Option β'), nlK l K' = K' := by
  obtain ⟨rfl, h⟩ := nlK_some h
  exact ⟨h, fun K' => rfl⟩
theorem valK_inv {v : Option AV} {K : AV → Option β} (h : valK v K = some r) : ∃ x, K x = some r ∧ ∀ {β' : Type} (K' : AV → Option β'), valK v K' = K' x := by
  obtain ⟨x, rfl, h⟩ := valK_some h
  exact ⟨x, h, fun K' => rfl⟩
theorem offK_inv {fs : List (Nat × TypeId)} {f : Nat} {K : Nat → TypeId → Option β} (h : offK fs f K = some r) : ∃ o t, K o t = some r ∧ ∀ {β' : Type} (K' : Nat → TypeId → Option β'), offK fs f K' = K' o t := by
  obtain ⟨o, t, e, h⟩ := offK_some h
  exact ⟨o, t, h, fun K' => by simp [offK, e]⟩
theorem conK_inv {q : Option (AV × List AV)} {K : AV → List AV → Option β} (h : conK q K = some r) : ∃ x o, K x o = some r ∧ ∀ {β' : Type} (K' : AV → List AV → Option β'), conK q K' = K' x o := by
  obtain ⟨x, o, rfl, h⟩ := conK_some h
  exact ⟨x, o, h, fun K' => rfl⟩
mutual
theorem conG_inv {c : Con} {args : List AV} {K : AV → List AV → Option β} (h : conG c args K = some r) : ∃ x o, K x o = some r ∧ ∀ {β' : Type} (K' : AV → List AV → Option β'), conG c args K' = K' x o := by
  unfold conG at h
  unfold conG
  cases hp : c.pre args with
  | false => rw [hp] at h; cases h
  | true => rw [hp] at h; simp only [preK] at h ⊢; exact conK_inv h
theorem fitO_inv {sz : Nat} {x : AV} {K : List AV → Option (Nat × Nat) → Option β} (h : fitO sz x K = some r) : ∃ n p, K n p = some r ∧ ∀ {β' : Type} (K' : List AV → Option (Nat × Nat) → Option β'), fitO sz x K' = K' n p := by
  obtain ⟨n, p, e, h1⟩ := fitO_some h
  subst e
  exact ⟨n, p, h1, fun K' => by simp only [fitO]; rw [cond_t (by simp)]⟩
theorem fitF_inv {f : Nat} {x : AV} {K : List AV → List AV → Option β} (h : fitF f x K = some r) : ∃ l m, K l m = some r ∧ ∀ {β' : Type} (K' : List AV → List AV → Option β'), fitF f x K' = K' l m := by
  obtain ⟨l, m, e, h1⟩ := fitF_some h
  subst e
  exact ⟨l, m, h1, fun K' => by simp only [fitF]; rw [cond_t (by simp)]⟩
theorem fitK_inv : ∀ {s : Sh} {x : AV} {K : AV → Option β}, fitK s x K = some r → ∃ x', K x' = some r ∧ ∀ {β' : Type} (K' : AV → Option β'), fitK s x K' = K' x'
  | .int k, x, K, h => by
    simp only [fitK] at h ⊢
    obtain ⟨n, h, e⟩ := fitI_inv h
    exact ⟨_, h, fun K' => e _⟩
  | .bool, x, K, h => by
    simp only [fitK] at h ⊢
    obtain ⟨n, h, e⟩ := fitB_inv h
    exact ⟨_, h, fun K' => e _⟩
  | .str, x, K, h => by
    simp only [fitK] at h ⊢
    obtain ⟨n, h, e⟩ := fitStr_inv h
    exact ⟨_, h, fun K' => e _⟩
  | .sl sz, x, K, h => by
    simp only [fitK] at h ⊢
    obtain ⟨n, h, e⟩ := fitS_inv h
    exact ⟨_, h, fun K' => e _⟩
  | .agg ls, x, K, h => by
    simp only [fitK] at h ⊢
    obtain ⟨n, h, e⟩ := fitA_inv h
    obtain ⟨cs, h, e2⟩ := fitL_inv h
    exact ⟨_, h, fun K' => by rw [e, e2]⟩
  | .tup ls, x, K, h => by
    simp only [fitK] at h ⊢
    obtain ⟨n, h, e⟩ := fitT_inv h
    obtain ⟨cs, h, e2⟩ := fitL_inv h
    exact ⟨_, h, fun K' => by rw [e, e2]⟩
  | .own ty sz _, x, K, h => by
    simp only [fitK] at h ⊢
    obtain ⟨n, p, h1, e⟩ := fitO_inv h
    exact ⟨_, h1, fun K' => e _⟩
  | .box ty sz s, x, K, h => by
    simp only [fitK] at h ⊢
    obtain ⟨cs, h1, e1⟩ := fitX_inv h
    obtain ⟨c, cs', h2, e2⟩ := hdK_inv h1
    obtain ⟨h3, e3⟩ := nlK_inv h2
    obtain ⟨c', h4, e4⟩ := fitK_inv h3
    obtain ⟨hc, h5⟩ := cond_some h4
    exact ⟨_, h5, fun K' => by rw [e1, e2, e3, e4, cond_t hc]⟩
  | .fn f ls ms, x, K, h => by
    simp only [fitK] at h ⊢
    obtain ⟨l, m, h1, e1⟩ := fitF_inv h
    obtain ⟨l', h2, e2⟩ := fitL_inv h1
    obtain ⟨m', h3, e3⟩ := fitL_inv h2
    exact ⟨_, h3, fun K' => by rw [e1, e2, e3]⟩
theorem fitL_inv : ∀ {ls : List Sh} {cs : List AV} {K : List AV → Option β}, fitL ls cs K = some r → ∃ x', K x' = some r ∧ ∀ {β' : Type} (K' : List AV → Option β'), fitL ls cs K' = K' x'
  | [], cs, K, h => by
    simp only [fitL] at h ⊢
    obtain ⟨h, e⟩ := nlK_inv h
    exact ⟨_, h, fun K' => e _⟩
  | s :: ss, cs, K, h => by
    simp only [fitL] at h ⊢
    obtain ⟨c, cs, h, e⟩ := hdK_inv h
    obtain ⟨c', h, e2⟩ := fitK_inv h
    obtain ⟨cs', h, e3⟩ := fitL_inv h
    exact ⟨_, h, fun K' => by rw [e, e2, e3]⟩
end
theorem partK_inv {i : TI} {cs : List AV} {off : Nat} {K : AV → Option β} (h : partK i cs off K = some r) : ∃ x, K x = some r ∧ ∀ {β' : Type} (K' : AV → Option β'), partK i cs off K' = K' x := by
  unfold partK at h ⊢
  cases ha : isAggT i.tk with
  | true =>
    rw [ha] at h
    obtain ⟨h1, h⟩ := cond_some h
    exact ⟨_, h, fun K' => by rw [cond_true, cond_t h1]⟩
  | false =>
    rw [ha] at h
    simp only [cond_false] at h ⊢
    split at h
    · rename_i c hc
      obtain ⟨h1, h⟩ := cond_some h
      exact ⟨_, h, fun K' => by rw [cond_t h1]⟩
    · cases h

theorem partC_inv {i : TI} {cs : List AV} {off : Nat} {K : AV → Option β} (h : partC i cs off K = some r) : ∃ x, K x = some r ∧ ∀ {β' : Type} (K' : AV → Option β'), partC i cs off K' = K' x := by
  unfold partC at h ⊢
  cases ha : isAggT i.tk with
  | true =>
    rw [ha] at h
    obtain ⟨h1, h⟩ := cond_some h
    exact ⟨_, h, fun K' => by rw [cond_true, cond_t h1]⟩
  | false =>
    rw [ha] at h
    simp only [cond_false] at h ⊢
    split at h
    · rename_i c hc
      obtain ⟨h1, h⟩ := cond_some h
      exact ⟨_, h, fun K' => by rw [cond_t h1]⟩
    · cases h

theorem cellsK_inv {x : AV} {K : List AV → Option β} (h : cellsK x K = some r) : ∃ y, K y = some r ∧ ∀ {β' : Type} (K' : List AV → Option β'), cellsK x K' = K' y := by
  unfold cellsK at h
  split at h
  · obtain ⟨hc, h⟩ := cond_some h
    exact ⟨_, h, fun K' => by simp only [cellsK]; rw [cond_t hc]⟩
  · rename_i hne
    obtain ⟨hc, h⟩ := cond_some h
    refine ⟨_, h, fun K' => ?_⟩
    cases x <;> first | exact absurd rfl (hne _) | (simp only [cellsK]; rw [cond_t hc])
theorem deadK_inv {x : AV} {A B : Option β} (h : deadK x A B = some r) : (x = .dead ∧ A = some r) ∨ (x ≠ .dead ∧ B = some r) := deadK_some h
/-- The same roots there. -/
def AgreeL (σ σ' : St) (rs : List Nat) : Prop := ∀ q ∈ rs, σ'.L q = σ.L q
theorem AgreeL.left {rs rs' : List Nat} (h : AgreeL σ σ' (rs ++ rs')) : AgreeL σ σ' rs := fun q hq => h q (by simp [hq])
theorem AgreeL.right {rs rs' : List Nat} (h : AgreeL σ σ' (rs ++ rs')) : AgreeL σ σ' rs' := fun q hq => h q (by simp [hq])
theorem rootK_inv {q v : Nat} {K : Root → Option β} (h : rootK σ q v K = some r) : ∃ R, K R = some r ∧ ∀ σ' : St, σ'.L q = σ.L q → ∀ {β' : Type} (K' : Root → Option β'), rootK σ' q v K' = K' R := by
  unfold rootK at h ⊢
  split at h
  · rename_i R hR
    obtain ⟨h1, h⟩ := cond_some h
    exact ⟨R, h, fun σ' e β' K' => by rw [e, hR]; simp only []; rw [cond_t h1]⟩
  · cases h
theorem liveK_inv {q v : Nat} {K : Root → Option β} (h : liveK σ q v K = some r) : ∃ R, σ.L q = some R ∧ K R = some r ∧ ∀ σ' : St, σ'.L q = σ.L q → ∀ {β' : Type} (K' : Root → Option β'), liveK σ' q v K' = K' R := by
  unfold liveK at h ⊢
  split at h
  · rename_i R hR
    obtain ⟨h1, h⟩ := cond_some h
    exact ⟨R, hR, h, fun σ' e β' K' => by rw [e, hR]; simp only []; rw [cond_t h1]⟩
  · cases h
theorem data1K_inv {x : AV} {K : AV → List Nat → Option β} (h : data1K σ x K = some r) : ∃ y rs, K y rs = some r ∧ ∀ σ' : St, AgreeL σ σ' rs → ∀ {β' : Type} (K' : AV → List Nat → Option β'), data1K σ' x K' = K' y rs := by
  unfold data1K at h
  split at h
  · obtain ⟨R, h, e⟩ := rootK_inv h
    cases hb : R.bx with
    | true => rw [hb] at h; cases h
    | false =>
      rw [hb, cond_false] at h
      exact ⟨_, _, h, fun σ' ha β' K' => by simp only [data1K]; rw [e σ' (ha _ (by simp)), hb, cond_false]⟩
  all_goals first
    | (refine ⟨_, _, h, fun σ' ha β' K' => ?_⟩; rfl)
    | cases h
theorem dataCK_inv : ∀ {cs : List AV} {K : List AV → List Nat → Option β}, dataCK σ cs K = some r → ∃ ys rs, K ys rs = some r ∧ ∀ σ' : St, AgreeL σ σ' rs → ∀ {β' : Type} (K' : List AV → List Nat → Option β'), dataCK σ' cs K' = K' ys rs
  | [], K, h => ⟨[], [], h, fun _ _ _ _ => rfl⟩
  | c :: cs, K, h => by
    simp only [dataCK] at h
    obtain ⟨y, rs, h1, e1⟩ := data1K_inv h
    obtain ⟨ys, rs', h2, e2⟩ := dataCK_inv h1
    exact ⟨_, _, h2, fun σ' ha β' K' => by simp only [dataCK]; rw [e1 σ' ha.left, e2 σ' ha.right]⟩
theorem dataK_inv {x : AV} {K : AV → List Nat → Option β} (h : dataK σ x K = some r) : ∃ y rs, K y rs = some r ∧ ∀ σ' : St, AgreeL σ σ' rs → ∀ {β' : Type} (K' : AV → List Nat → Option β'), dataK σ' x K' = K' y rs := by
  unfold dataK at h
  split at h
  · obtain ⟨ys, rs, h1, e1⟩ := dataCK_inv h
    exact ⟨_, _, h1, fun σ' ha β' K' => by simp only [dataK]; exact e1 σ' ha _⟩
  · rename_i hne
    obtain ⟨y, rs, h1, e1⟩ := data1K_inv h
    refine ⟨y, rs, h1, fun σ' ha β' K' => ?_⟩
    have := e1 σ' ha K'
    cases x <;> first | exact this | exact absurd rfl (hne _)
theorem freeze_agree : ∀ {rs : List Nat}, AgreeL σ σ' rs → freezeUps σ' rs = freezeUps σ rs
  | [], _ => rfl
  | q :: rs, h => by
    simp only [freezeUps, h q (by simp), freeze_agree (fun q hq => h q (by simp [hq]) : AgreeL σ σ' rs)]
theorem gone_agree : ∀ {rs : List Nat}, AgreeL σ σ' rs → goneUps σ' rs = goneUps σ rs
  | [], _ => rfl
  | q :: rs, h => by
    simp only [goneUps, h q (by simp), gone_agree (fun q hq => h q (by simp [hq]) : AgreeL σ σ' rs)]
theorem next_agree {d : Nat} (h : σ'.L d = σ.L d) : σ'.next d = σ.next d := by simp only [St.next, h]

/-- The same slots there. -/
def AgreeO (σ σ' : St) (o : Oper) : Prop := ∀ t ∈ slotsOf o.op.operands.toList, σ'.env t = σ.env t
theorem opd_agree {x : Operand} (h : ∀ t, x = .tmp t → σ'.env t = σ.env t) : opd σ' x = opd σ x := by
  cases x <;> first | rfl | exact h _ rfl
theorem mem_slots {t : Nat} : ∀ {l : List Operand}, Operand.tmp t ∈ l → t ∈ slotsOf l
  | [], h => by cases h
  | x :: l, h => by
    rcases List.mem_cons.1 h with h2 | h2
    · subst h2; simp [slotsOf]
    · have := mem_slots h2
      cases x <;> simp only [slotsOf, List.mem_cons] <;> first | exact this | exact .inr this
theorem AgreeO.opd (h : AgreeO σ σ' o) {x : Operand} (hx : x ∈ o.op.operands.toList) : opd σ' x = opd σ x :=
  opd_agree (fun t e => h t (mem_slots (e ▸ hx)))

theorem fillK_inv {sz : Nat} : ∀ {ps : List (Nat × Operand)} {xs : List AV} {rs : List Nat} {K : List AV → List Nat → Option β}, fillK σ sz ps xs rs K = some r →
    ∃ xs' rs', K xs' rs' = some r ∧ (∀ q ∈ rs, q ∈ rs') ∧ ∀ σ' : St, (∀ p ∈ ps, opd σ' p.2 = opd σ p.2) → AgreeL σ σ' rs' → ∀ {β' : Type} (K' : List AV → List Nat → Option β'), fillK σ' sz ps xs rs K' = K' xs' rs'
  | [], xs, rs, K, h => ⟨xs, rs, h, fun _ h => h, fun σ' _ _ β' K' => rfl⟩
  | (i, x) :: ps, xs, rs, K, h => by
    simp only [fillK] at h
    obtain ⟨y, rs1, h, e1⟩ := dataK_inv h
    obtain ⟨hc, h⟩ := cond_some h
    obtain ⟨xs', rs', h, hm, e2⟩ := fillK_inv h
    refine ⟨xs', rs', h, fun q hq => hm q (by simp [hq]), fun σ' hp ha β' K' => ?_⟩
    simp only [fillK]
    rw [hp (i, x) (by simp), e1 σ' (fun q hq => ha q (hm q (by simp [hq]))), cond_t hc]
    exact e2 σ' (fun p hp' => hp p (by simp [hp'])) ha K'
theorem buildK_inv {fs : List (Nat × TypeId)} : ∀ {ps : List (Nat × Operand)} {xs : List AV} {K : List AV → Option β}, buildK Γ σ fs ps xs K = some r →
    ∃ xs', K xs' = some r ∧ ∀ σ' : St, (∀ p ∈ ps, opd σ' p.2 = opd σ p.2) → ∀ {β' : Type} (K' : List AV → Option β'), buildK Γ σ' fs ps xs K' = K' xs'
  | [], xs, K, h => ⟨xs, h, fun σ' _ β' K' => rfl⟩
  | (i, x) :: ps, xs, K, h => by
    simp only [buildK] at h
    obtain ⟨off, t, h, e3⟩ := offK_inv h
    obtain ⟨ti, h, e4⟩ := tyK_inv h
    obtain ⟨y, h, e1⟩ := cellsK_inv h
    obtain ⟨hc, h⟩ := cond_some h
    obtain ⟨xs', h, e2⟩ := buildK_inv h
    refine ⟨xs', h, fun σ' hp β' K' => ?_⟩
    simp only [buildK]
    rw [e3, e4, hp (i, x) (by simp), e1, cond_t hc]
    exact e2 σ' (fun p hp' => hp p (by simp [hp'])) K'
mutual
theorem closeK_inv : ∀ (s : Sh) {x : AV} {K : AV → List Nat → List Nat → Option β}, closeK σ false s x K = some r →
    ∃ y rs us, K y rs us = some r ∧ ∀ σ' : St, AgreeL σ σ' (rs ++ us) → ∀ {β' : Type} (K' : AV → List Nat → List Nat → Option β'), closeK σ' false s x K' = K' y rs us
  | .own ty sz _, x, K, h => by
    simp only [closeK] at h
    split at h
    · rename_i q v part
      split at h
      · rename_i R hR
        cases hc : (Nat.beq R.ver v && (R.st == .live)) with
        | true =>
          rw [cond_t hc] at h
          obtain ⟨hc2, h2⟩ := cond_some h
          exact ⟨_, _, _, h2, fun σ' ha β' K' => by simp only [closeK]; rw [ha q (by simp), hR]; simp only []; rw [cond_t hc, cond_t hc2]⟩
        | false => rw [cond_f hc] at h; cases h
      · cases h
    · exact ⟨_, _, _, h, fun σ' ha β' K' => rfl⟩
    · cases h
  | .box ty sz s, x, K, h => by
    simp only [closeK] at h
    split at h
    case h_2 => cases h
    rename_i q v
    obtain ⟨R, hR, h1, e1⟩ := liveK_inv h
    obtain ⟨hc, h2⟩ := cond_some h1
    obtain ⟨y0, h3, e3⟩ := nthK_inv h2
    obtain ⟨y, rs, us, h4, e4⟩ := closeK_inv s h3
    exact ⟨_, _, _, h4, fun σ' ha β' K' => by
      simp only [closeK]
      rw [e1 σ' (ha q (by simp)), cond_t hc, e3]
      exact e4 σ' (fun q' hq => ha q' (by simp only [List.mem_append, List.mem_cons] at hq ⊢; rcases hq with h | h <;> simp [h])) _⟩
  | .agg ls, x, K, h => by
    simp only [closeK] at h
    obtain ⟨cs, h1, e1⟩ := fitA_inv h
    obtain ⟨ys, rs, us, h2, e2⟩ := closeL_inv ls h1
    obtain ⟨hc, h3⟩ := cond_some h2
    exact ⟨_, _, _, h3, fun σ' ha β' K' => by simp only [closeK]; rw [e1, e2 σ' ha, cond_t hc]⟩
  | .tup ls, x, K, h => by
    simp only [closeK] at h
    obtain ⟨cs, h1, e1⟩ := fitT_inv h
    obtain ⟨ys, rs, us, h2, e2⟩ := closeL_inv ls h1
    exact ⟨_, _, _, h2, fun σ' ha β' K' => by simp only [closeK]; rw [e1, e2 σ' ha]⟩
  | .fn f ls ms, x, K, h => by
    simp only [closeK] at h
    obtain ⟨l, m, h1, e1⟩ := fitF_inv h
    obtain ⟨ys, rs, us, h2, e2⟩ := closeL_inv ls h1
    obtain ⟨ys', rs', us', h3, e3⟩ := closeL_inv ms h2
    exact ⟨_, _, _, h3, fun σ' ha β' K' => by
      simp only [closeK]
      rw [e1, e2 σ' (fun q hq => ha q (by simp only [List.mem_append] at hq ⊢; rcases hq with h | h <;> simp [h])), e3 σ' (fun q hq => ha q (by simp only [List.mem_append] at hq ⊢; rcases hq with h | h <;> simp [h]))]⟩
  | .int k, x, K, h => by
    simp only [closeK] at h
    obtain ⟨y, rs, h1, e1⟩ := dataK_inv h
    obtain ⟨y', h2, e2⟩ := fitK_inv h1
    exact ⟨_, _, _, h2, fun σ' ha β' K' => by simp only [closeK]; rw [e1 σ' ha.left, e2]⟩
  | .bool, x, K, h => by
    simp only [closeK] at h
    obtain ⟨y, rs, h1, e1⟩ := dataK_inv h
    obtain ⟨y', h2, e2⟩ := fitK_inv h1
    exact ⟨_, _, _, h2, fun σ' ha β' K' => by simp only [closeK]; rw [e1 σ' ha.left, e2]⟩
  | .str, x, K, h => by
    simp only [closeK] at h
    obtain ⟨y, rs, h1, e1⟩ := dataK_inv h
    obtain ⟨y', h2, e2⟩ := fitK_inv h1
    exact ⟨_, _, _, h2, fun σ' ha β' K' => by simp only [closeK]; rw [e1 σ' ha.left, e2]⟩
  | .sl sz, x, K, h => by
    simp only [closeK] at h
    obtain ⟨y, rs, h1, e1⟩ := dataK_inv h
    obtain ⟨y', h2, e2⟩ := fitK_inv h1
    exact ⟨_, _, _, h2, fun σ' ha β' K' => by simp only [closeK]; rw [e1 σ' ha.left, e2]⟩
theorem closeL_inv : ∀ (ls : List Sh) {xs : List AV} {K : List AV → List Nat → List Nat → Option β}, closeL σ false ls xs K = some r →
    ∃ ys rs us, K ys rs us = some r ∧ ∀ σ' : St, AgreeL σ σ' (rs ++ us) → ∀ {β' : Type} (K' : List AV → List Nat → List Nat → Option β'), closeL σ' false ls xs K' = K' ys rs us
  | [], xs, K, h => by
    simp only [closeL] at h
    obtain ⟨h1, e1⟩ := nlK_inv h
    exact ⟨_, _, _, h1, fun σ' ha β' K' => by simp only [closeL]; exact e1 _⟩
  | s :: ls, xs, K, h => by
    simp only [closeL] at h
    obtain ⟨x, xs', h1, e1⟩ := hdK_inv h
    obtain ⟨y, rs, us, h2, e2⟩ := closeK_inv s h1
    obtain ⟨ys, rs', us', h3, e3⟩ := closeL_inv ls h2
    exact ⟨_, _, _, h3, fun σ' ha β' K' => by
      simp only [closeL]
      rw [e1, e2 σ' (fun q hq => ha q (by simp only [List.mem_append] at hq ⊢; rcases hq with h | h <;> simp [h])), e3 σ' (fun q hq => ha q (by simp only [List.mem_append] at hq ⊢; rcases hq with h | h <;> simp [h]))]⟩
end
mutual
theorem openK_inv {nx : Nat → Nat} : ∀ (s : Sh) {n : Nat} {x : AV} {K : AV → List (Nat × Root) → Option β}, openK nx s n x K = some r →
    ∃ v l, K v l = some r ∧ ∀ nx' : Nat → Nat, (∀ q ∈ l.map (·.1), nx' q = nx q) → ∀ {β' : Type} (K' : AV → List (Nat × Root) → Option β'), openK nx' s n x K' = K' v l
  | .own ty sz _, n, x, K, h => by
    simp only [openK] at h
    obtain ⟨xs, p, h1, e1⟩ := fitO_inv h
    exact ⟨_, _, h1, fun nx' ha β' K' => by simp only [openK]; rw [e1, ha n (by simp)]⟩
  | .box ty sz s, n, x, K, h => by
    simp only [openK] at h
    obtain ⟨cs, h1, e1⟩ := fitX_inv h
    obtain ⟨c, cs', h2, e2⟩ := hdK_inv h1
    obtain ⟨h3, e3⟩ := nlK_inv h2
    obtain ⟨hc, h4⟩ := cond_some h3
    obtain ⟨y, l, h5, e5⟩ := openK_inv s h4
    exact ⟨_, _, h5, fun nx' ha β' K' => by simp only [openK]; rw [e1, e2, e3, cond_t hc, e5 nx' (fun q hq => ha q (by simp only [List.map_cons, List.mem_cons]; exact .inr hq)), ha n (by simp)]⟩
  | .agg ls, n, x, K, h => by
    simp only [openK] at h
    obtain ⟨cs, h1, e1⟩ := fitA_inv h
    obtain ⟨ys, l, h2, e2⟩ := openL_inv ls h1
    exact ⟨_, _, h2, fun nx' ha β' K' => by simp only [openK]; rw [e1, e2 nx' ha]⟩
  | .tup ls, n, x, K, h => by
    simp only [openK] at h
    obtain ⟨cs, h1, e1⟩ := fitT_inv h
    obtain ⟨ys, l, h2, e2⟩ := openL_inv ls h1
    exact ⟨_, _, h2, fun nx' ha β' K' => by simp only [openK]; rw [e1, e2 nx' ha]⟩
  | .fn f ls ms, n, x, K, h => by
    simp only [openK] at h
    obtain ⟨a, b, h1, e1⟩ := fitF_inv h
    obtain ⟨ys, l, h2, e2⟩ := openL_inv ls h1
    obtain ⟨ys', l', h3, e3⟩ := openL_inv ms h2
    exact ⟨_, _, h3, fun nx' ha β' K' => by simp only [openK]; rw [e1, e2 nx' (fun q hq => ha q (by rw [List.map_append]; exact List.mem_append_left _ hq)), e3 nx' (fun q hq => ha q (by rw [List.map_append]; exact List.mem_append_right _ hq))]⟩
  | .int k, n, x, K, h => by
    simp only [openK] at h
    obtain ⟨hc, h1⟩ := cond_some h
    exact ⟨_, _, h1, fun nx' ha β' K' => by simp only [openK]; rw [cond_t hc]⟩
  | .bool, n, x, K, h => by
    simp only [openK] at h
    obtain ⟨hc, h1⟩ := cond_some h
    exact ⟨_, _, h1, fun nx' ha β' K' => by simp only [openK]; rw [cond_t hc]⟩
  | .str, n, x, K, h => by
    simp only [openK] at h
    obtain ⟨hc, h1⟩ := cond_some h
    exact ⟨_, _, h1, fun nx' ha β' K' => by simp only [openK]; rw [cond_t hc]⟩
  | .sl sz, n, x, K, h => by
    simp only [openK] at h
    obtain ⟨hc, h1⟩ := cond_some h
    exact ⟨_, _, h1, fun nx' ha β' K' => by simp only [openK]; rw [cond_t hc]⟩
theorem openL_inv {nx : Nat → Nat} : ∀ (ls : List Sh) {n j : Nat} {xs : List AV} {K : List AV → List (Nat × Root) → Option β}, openL nx ls n j xs K = some r →
    ∃ vs l, K vs l = some r ∧ ∀ nx' : Nat → Nat, (∀ q ∈ l.map (·.1), nx' q = nx q) → ∀ {β' : Type} (K' : List AV → List (Nat × Root) → Option β'), openL nx' ls n j xs K' = K' vs l
  | [], n, j, xs, K, h => by
    simp only [openL] at h
    obtain ⟨h1, e1⟩ := nlK_inv h
    exact ⟨_, _, h1, fun nx' ha β' K' => by simp only [openL]; exact e1 _⟩
  | s :: ls, n, j, xs, K, h => by
    simp only [openL] at h
    obtain ⟨x, xs', h1, e1⟩ := hdK_inv h
    obtain ⟨v, l, h2, e2⟩ := openK_inv s h1
    obtain ⟨vs, l', h3, e3⟩ := openL_inv ls h2
    exact ⟨_, _, h3, fun nx' ha β' K' => by simp only [openL]; rw [e1, e2 nx' (fun q hq => ha q (by rw [List.map_append]; exact List.mem_append_left _ hq)), e3 nx' (fun q hq => ha q (by rw [List.map_append]; exact List.mem_append_right _ hq))]⟩
end
mutual
theorem reopenK_inv : ∀ (s : Sh) {x o : AV} {K : List (Nat × Root) → Option β}, reopenK σ s x o K = some r →
    ∃ u, K u = some r ∧ ∀ σ' : St, AgreeL σ σ' (u.map (·.1)) → ∀ {β' : Type} (K' : List (Nat × Root) → Option β'), reopenK σ' s x o K' = K' u
  | .own ty sz false, x, o, K, h => by simp only [reopenK, cond_false] at h; exact ⟨_, h, fun σ' ha β' K' => by simp only [reopenK, cond_false]⟩
  | .own ty sz true, x, o, K, h => by
    simp only [reopenK, cond_true] at h
    split at h
    · rename_i q _ _ _
      split at h
      · rename_i R hR
        rcases deadK_inv h with ⟨rfl, h1⟩ | ⟨hne, h1⟩
        · exact ⟨_, h1, fun σ' ha β' K' => by simp only [reopenK, cond_true]; rw [ha q (by simp), hR]; rfl⟩
        · obtain ⟨ys, p, h2, e2⟩ := fitO_inv h1
          exact ⟨_, h2, fun σ' ha β' K' => by
            simp only [reopenK, cond_true]; rw [ha q (by simp), hR]
            simp only []
            have : ∀ A B : Option β', deadK o A B = B := by
              intro A B
              cases o <;> first | rfl | exact absurd rfl hne
            rw [this, e2]⟩
      · cases h
    · rename_i hne
      refine ⟨_, h, fun σ' ha β' K' => ?_⟩
      simp only [reopenK, cond_true]
  | .box ty sz s, x, o, K, h => by
    simp only [reopenK] at h
    split at h
    case h_2 => cases h
    rename_i q _ _ _ _
    split at h
    · rename_i R hR
      obtain ⟨cs, h1, e1⟩ := fitX_inv h
      obtain ⟨c, cs', h2, e2⟩ := hdK_inv h1
      obtain ⟨h3, e3⟩ := nlK_inv h2
      obtain ⟨c', h4, e4⟩ := fitK_inv h3
      obtain ⟨hc, h5⟩ := cond_some h4
      obtain ⟨y, l, h6, e6⟩ := openK_inv s h5
      exact ⟨_, h6, fun σ' ha β' K' => by
        simp only [reopenK]
        rw [ha q (by simp), hR]
        simp only []
        rw [e1, e2, e3, e4, cond_t hc, e6 σ'.next (fun q' hq => next_agree (ha q' (by simp only [List.map_cons, List.mem_cons]; exact .inr hq)))]⟩
    · cases h
  | .agg ls, x, o, K, h => by
    simp only [reopenK] at h
    cases hb : Sh.ownsL ls with
    | true => rw [hb] at h; cases h
    | false => rw [hb, cond_false] at h; exact ⟨_, h, fun σ' ha β' K' => by simp only [reopenK]; rw [hb, cond_false]⟩
  | .tup ls, x, o, K, h => by
    simp only [reopenK] at h
    cases hb : Sh.ownsL ls with
    | true => rw [hb] at h; cases h
    | false => rw [hb, cond_false] at h; exact ⟨_, h, fun σ' ha β' K' => by simp only [reopenK]; rw [hb, cond_false]⟩
  | .fn f ls ms, x, o, K, h => by
    simp only [reopenK] at h
    cases hrow : (ls ++ ms).any Sh.row with
    | true => rw [hrow] at h; cases h
    | false =>
    rw [hrow, cond_false] at h
    cases hb : (Sh.ownsL ls || Sh.ownsL ms) with
    | false => rw [hb, cond_false] at h; exact ⟨_, h, fun σ' ha β' K' => by simp only [reopenK]; rw [hrow, cond_false, hb, cond_false]⟩
    | true =>
    rw [hb, cond_true] at h
    obtain ⟨l, m, h1, e1⟩ := fitF_inv h
    obtain ⟨l', m', h2, e2⟩ := fitF_inv h1
    obtain ⟨u, h3, e3⟩ := reopenL_inv ls h2
    obtain ⟨u', h4, e4⟩ := reopenL_inv ms h3
    exact ⟨_, h4, fun σ' ha β' K' => by simp only [reopenK]; rw [hrow, cond_false, hb, cond_true, e1, e2, e3 σ' (fun q hq => ha q (by rw [List.map_append]; exact List.mem_append_left _ hq)), e4 σ' (fun q hq => ha q (by rw [List.map_append]; exact List.mem_append_right _ hq))]⟩
  | .int k, x, o, K, h => by simp only [reopenK] at h; exact ⟨_, h, fun σ' ha β' K' => by simp only [reopenK]⟩
  | .bool, x, o, K, h => by simp only [reopenK] at h; exact ⟨_, h, fun σ' ha β' K' => by simp only [reopenK]⟩
  | .str, x, o, K, h => by simp only [reopenK] at h; exact ⟨_, h, fun σ' ha β' K' => by simp only [reopenK]⟩
  | .sl sz, x, o, K, h => by simp only [reopenK] at h; exact ⟨_, h, fun σ' ha β' K' => by simp only [reopenK]⟩
theorem reopenL_inv : ∀ (ls : List Sh) {xs os : List AV} {K : List (Nat × Root) → Option β}, reopenL σ ls xs os K = some r →
    ∃ u, K u = some r ∧ ∀ σ' : St, AgreeL σ σ' (u.map (·.1)) → ∀ {β' : Type} (K' : List (Nat × Root) → Option β'), reopenL σ' ls xs os K' = K' u
  | [], xs, os, K, h => by simp only [reopenL] at h; exact ⟨_, h, fun σ' ha β' K' => by simp only [reopenL]⟩
  | s :: ls, xs, os, K, h => by
    simp only [reopenL] at h
    obtain ⟨x, xs', h1, e1⟩ := hdK_inv h
    obtain ⟨o, os', h2, e2⟩ := hdK_inv h1
    obtain ⟨u, h3, e3⟩ := reopenK_inv s h2
    obtain ⟨u', h4, e4⟩ := reopenL_inv ls h3
    exact ⟨_, h4, fun σ' ha β' K' => by simp only [reopenL]; rw [e1, e2, e3 σ' (fun q hq => ha q (by rw [List.map_append]; exact List.mem_append_left _ hq)), e4 σ' (fun q hq => ha q (by rw [List.map_append]; exact List.mem_append_right _ hq))]⟩
end
theorem outsK_inv : ∀ (ls : List Sh) {xs outs : List AV} {K : List (Nat × Root) → Option β}, outsK σ ls xs outs K = some r →
    ∃ u, K u = some r ∧ ∀ σ' : St, AgreeL σ σ' (u.map (·.1)) → ∀ {β' : Type} (K' : List (Nat × Root) → Option β'), outsK σ' ls xs outs K' = K' u
  | [], xs, outs, K, h => by
    simp only [outsK] at h
    obtain ⟨h1, e1⟩ := nlK_inv h
    exact ⟨_, h1, fun σ' ha β' K' => by simp only [outsK]; exact e1 _⟩
  | s :: ls, xs, outs, K, h => by
    simp only [outsK] at h
    obtain ⟨x, xs', h1, e1⟩ := hdK_inv h
    cases ho : s.owns with
    | false =>
      rw [ho, cond_false] at h1
      obtain ⟨u, h2, e2⟩ := outsK_inv ls h1
      exact ⟨_, h2, fun σ' ha β' K' => by simp only [outsK]; rw [e1, ho, cond_false, e2 σ' ha]⟩
    | true =>
      rw [ho, cond_true] at h1
      obtain ⟨o, outs', h2, e2⟩ := hdK_inv h1
      obtain ⟨u, h3, e3⟩ := reopenK_inv s h2
      obtain ⟨u', h4, e4⟩ := outsK_inv ls h3
      exact ⟨_, h4, fun σ' ha β' K' => by simp only [outsK]; rw [e1, ho, cond_true, e2, e3 σ' (fun q hq => ha q (by rw [List.map_append]; exact List.mem_append_left _ hq)), e4 σ' (fun q hq => ha q (by rw [List.map_append]; exact List.mem_append_right _ hq))]⟩
theorem callEnd_inv {rs us : List Nat} {ups : List (Nat × Root)} {K : List (Nat × Root) → Option β} (h : callEnd σ rs us ups K = some r) :
    ∃ l, K l = some r ∧ ∀ σ' : St, AgreeL σ σ' (rs ++ us) → ∀ {β' : Type} (K' : List (Nat × Root) → Option β'), callEnd σ' rs us ups K' = K' l := by
  unfold callEnd at h
  obtain ⟨hc, h⟩ := cond_some h
  refine ⟨_, h, fun σ' ha β' K' => ?_⟩
  unfold callEnd
  rw [cond_t hc, freeze_agree ha.left, gone_agree (fun q hq => ha q (by
    simp only [without, List.mem_filter] at hq
    simp [hq.1]))]
theorem boundK_inv {x : Option Operand} {d : Nat} {K : Int → Option β} (h : boundK σ x d K = some r) : ∃ n, K n = some r ∧ ∀ σ' : St, (∀ y, x = some y → opd σ' y = opd σ y) → ∀ {β' : Type} (K' : Int → Option β'), boundK σ' x d K' = K' n := by
  unfold boundK at h
  split at h
  · exact ⟨_, h, fun σ' _ β' K' => rfl⟩
  · rename_i y
    split at h
    · rename_i k n hy
      exact ⟨_, h, fun σ' hx β' K' => by simp only [boundK]; rw [hx y rfl, hy]⟩
    · cases h
theorem srcK_inv {sz : Nat} {x : AV} {K : List AV → List Nat → Option β} (h : srcK σ sz x K = some r) : ∃ y rs, K y rs = some r ∧ ∀ σ' : St, AgreeL σ σ' rs → ∀ {β' : Type} (K' : List AV → List Nat → Option β'), srcK σ' sz x K' = K' y rs := by
  unfold srcK at h
  split at h
  · obtain ⟨hc, h⟩ := cond_some h
    exact ⟨_, _, h, fun σ' _ β' K' => by simp only [srcK]; rw [cond_t hc]⟩
  · rename_i hne
    obtain ⟨y, rs, h, e1⟩ := dataK_inv h
    obtain ⟨ys, h, e2⟩ := fitS_inv h
    refine ⟨_, _, h, fun σ' ha β' K' => ?_⟩
    unfold srcK
    split
    · rename_i s; exact absurd rfl (hne s)
    · rw [e1 σ' ha, e2]
theorem byteK_inv {s : ByteArray} {i : Nat} {K : UInt8 → Option β} (h : byteK s i K = some r) : ∃ b, K b = some r ∧ ∀ {β' : Type} (K' : UInt8 → Option β'), byteK s i K' = K' b := by
  unfold byteK at h ⊢
  split at h
  · exact ⟨_, h, fun K' => rfl⟩
  · cases h
theorem bytesK_inv {xs : List AV} {K : ByteArray → Option β} (h : bytesK xs K = some r) : ∃ b, K b = some r ∧ ∀ {β' : Type} (K' : ByteArray → Option β'), bytesK xs K' = K' b := by
  unfold bytesK at h ⊢
  split at h
  · exact ⟨_, h, fun K' => rfl⟩
  · cases h
theorem lenK_inv {x : AV} {K : Nat → Option β} (h : lenK x K = some r) : ∃ n, K n = some r ∧ ∀ {β' : Type} (K' : Nat → Option β'), lenK x K' = K' n := by
  unfold lenK at h
  split at h
  · exact ⟨_, h, fun K' => rfl⟩
  · exact ⟨_, h, fun K' => rfl⟩
  · cases h
end Go.Ai
