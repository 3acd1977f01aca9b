/- Part of the proofs: the verified interpreter for the program's functions, or lemmas on what they compute; no condition. -/
import Derived.Test.YtoocidelbmbgcaaAiOps15
namespace Go.Ai
variable {σ σ' : St} {Γ : Ctx} {o : Oper} {β : Type} {r : β}

/-! ### What an operation looks at: the same there, the same effect -/
/-- K goes on with x, whatever K is. -/
def Runs {α β : Type} (X : {β : Type} → (α → Option β) → Option β) (x : α) (K : α → Option β) (r : β) : Prop := K x = some r ∧ ∀ {β' : Type} (K' : α → Option β'), X K' = K' x

theorem tyK_inv {t : TypeId} {K : TI → Option β} (h : tyK Γ t K = some r) : ∃ i, K i = some r ∧ ∀ {β' : Type} (K' : TI → Option β'), tyK Γ t K' = K' i := by
  unfold tyK at h ⊢
  split at h
  · rename_i i hi; exact ⟨i, h, fun K' => rfl⟩
  · cases h
theorem dstK_inv {K : Nat → Option β} (h : dstK o K = some r) : ∃ d, K d = some r ∧ ∀ {β' : Type} (K' : Nat → Option β'), dstK o K' = K' d := by
  unfold dstK at h ⊢
  split at h
  · rename_i i hi; exact ⟨i, h, fun K' => rfl⟩
  · cases h
theorem nthK_inv {l : List AV} {i : Nat} {K : AV → Option β} (h : nthK l i K = some r) : ∃ x, K x = some r ∧ ∀ {β' : Type} (K' : AV → Option β'), nthK l i K' = K' x := by
  unfold nthK at h ⊢
  split at h
  · rename_i x hi; exact ⟨x, h, fun K' => rfl⟩
  · cases h
theorem idxK_inv {n : Int} {len : Nat} {K : Nat → Option β} (h : idxK n len K = some r) : K n.toNat = some r ∧ ∀ {β' : Type} (K' : Nat → Option β'), idxK n len K' = K' n.toNat := by
  unfold idxK at h ⊢
  split at h
  · rename_i hp; exact ⟨h, fun K' => by first | rw [if_pos hp] | rfl⟩
  · cases h
theorem okK_inv {p : Prop} [Decidable p] {K : Option β} (h : okK p K = some r) : K = some r ∧ ∀ {β' : Type} (K' : Option β'), okK p K' = K' := by
  unfold okK at h ⊢
  split at h
  · rename_i hp; exact ⟨h, fun K' => by first | rw [if_pos hp] | rfl⟩
  · cases h
theorem fitI_inv {k : IntKind} {x : AV} {K : Int → Option β} (h : fitI k x K = some r) : ∃ n, K n = some r ∧ ∀ {β' : Type} (K' : Int → Option β'), fitI k x K' = K' n := by
  obtain ⟨n, rfl, h2⟩ := fitI_some h
  exact ⟨n, h2, fun K' => by simp [fitI]⟩
theorem fitB_inv {x : AV} {K : Bool → Option β} (h : fitB x K = some r) : ∃ n, K n = some r ∧ ∀ {β' : Type} (K' : Bool → Option β'), fitB x K' = K' n := by
  obtain ⟨n, rfl, h⟩ := fitB_some h
  exact ⟨n, h, fun K' => rfl⟩
theorem fitStr_inv {x : AV} {K : ByteArray → Option β} (h : fitStr x K = some r) : ∃ n, K n = some r ∧ ∀ {β' : Type} (K' : ByteArray → Option β'), fitStr x K' = K' n := by
  obtain ⟨n, rfl, h⟩ := fitStr_some h
  exact ⟨n, h, fun K' => rfl⟩
theorem fitS_inv {sz : Nat} {x : AV} {K : List AV → Option β} (h : fitS sz x K = some r) : ∃ n, K n = some r ∧ ∀ {β' : Type} (K' : List AV → Option β'), fitS sz x K' = K' n := by
  obtain ⟨n, e, h⟩ := fitS_some h
  refine ⟨n, h, fun K' => ?_⟩
  rcases e with rfl | ⟨rfl, rfl⟩
  · simp [fitS]
  · rfl
theorem fitA_inv {x : AV} {K : List AV → Option β} (h : fitA x K = some r) : ∃ n, K n = some r ∧ ∀ {β' : Type} (K' : List AV → Option β'), fitA x K' = K' n := by
  obtain ⟨n, rfl, h⟩ := fitA_some h
  exact ⟨n, h, fun K' => rfl⟩
theorem fitT_inv {x : AV} {K : List AV → Option β} (h : fitT x K = some r) : ∃ n, K n = some r ∧ ∀ {β' : Type} (K' : List AV → Option β'), fitT x K' = K' n := by
  obtain ⟨n, rfl, h⟩ := fitT_some h
  exact ⟨n, h, fun K' => rfl⟩
theorem fitX_inv {x : AV} {K : List AV → Option β} (h : fitX x K = some r) : ∃ n, K n = some r ∧ ∀ {β' : Type} (K' : List AV → Option β'), fitX x K' = K' n := by
  obtain ⟨n, rfl, h⟩ := fitX_some h
  exact ⟨n, h, fun K' => rfl⟩
theorem hdK_inv {l : List AV} {K : AV → List AV → Option β} (h : hdK l K = some r) : ∃ x xs, K x xs = some r ∧ ∀ {β' : Type} (K' : AV → List AV → Option β'), hdK l K' = K' x xs := by
  obtain ⟨x, xs, rfl, h⟩ := hdK_some h
  exact ⟨x, xs, h, fun K' => rfl⟩
theorem nlK_inv {l : List AV} {K : Option β} (h : nlK l K = some r) : K = some r ∧ ∀ {β' : Type} (K' : Option β'), nlK l K' = K' := by
  obtain ⟨rfl, h⟩ := nlK_some h
  exact ⟨h, fun K' => rfl⟩
theorem valK_inv {v : Option AV} {K : AV → Option β} (h : valK v K = some r) : ∃ x, K x = some r ∧ ∀ {β' : Type} (K' : AV → Option β'), valK v K' = K' x := by
  obtain ⟨x, rfl, h⟩ := valK_some h
  exact ⟨x, h, fun K' => rfl⟩
theorem offK_inv {fs : List (Nat × TypeId)} {f : Nat} {K : Nat → TypeId → Option β} (h : offK fs f K = some r) : ∃ o t, K o t = some r ∧ ∀ {β' : Type} (K' : Nat → TypeId → Option β'), offK fs f K' = K' o t := by
  obtain ⟨o, t, e, h⟩ := offK_some h
  exact ⟨o, t, h, fun K' => by simp [offK, e]⟩
theorem conK_inv {q : Option (AV × List AV)} {K : AV → List AV → Option β} (h : conK q K = some r) : ∃ x o, K x o = some r ∧ ∀ {β' : Type} (K' : AV → List AV → Option β'), conK q K' = K' x o := by
  obtain ⟨x, o, rfl, h⟩ := conK_some h
  exact ⟨x, o, h, fun K' => rfl⟩
mutual
theorem conG_inv {c : Con} {args : List AV} {K : AV → List AV → Option β} (h : conG c args K = some r) : ∃ x o, K x o = some r ∧ ∀ {β' : Type} (K' : AV → List AV → Option β'), conG c args K' = K' x o := by
  unfold conG at h
  unfold conG
  cases hp : c.pre args with
  | false => rw [hp] at h; cases h
  | true => rw [hp] at h; simp only [preK] at h ⊢; exact conK_inv h
theorem fitK_inv : ∀ {s : Sh} {x : AV} {K : AV → Option β}, fitK s x K = some r → ∃ x', K x' = some r ∧ ∀ {β' : Type} (K' : AV → Option β'), fitK s x K' = K' x'
  | .int k, x, K, h => by
    simp only [fitK] at h ⊢
    obtain ⟨n, h, e⟩ := fitI_inv h
    exact ⟨_, h, fun K' => e _⟩
  | .bool, x, K, h => by
    simp only [fitK] at h ⊢
    obtain ⟨n, h, e⟩ := fitB_inv h
    exact ⟨_, h, fun K' => e _⟩
  | .str, x, K, h => by
    simp only [fitK] at h ⊢
    obtain ⟨n, h, e⟩ := fitStr_inv h
    exact ⟨_, h, fun K' => e _⟩
  | .sl sz, x, K, h => by
    simp only [fitK] at h ⊢
    obtain ⟨n, h, e⟩ := fitS_inv h
    exact ⟨_, h, fun K' => e _⟩
  | .agg ls, x, K, h => by
    simp only [fitK] at h ⊢
    obtain ⟨n, h, e⟩ := fitA_inv h
    obtain ⟨cs, h, e2⟩ := fitL_inv h
    exact ⟨_, h, fun K' => by rw [e, e2]⟩
  | .tup ls, x, K, h => by
    simp only [fitK] at h ⊢
    obtain ⟨n, h, e⟩ := fitT_inv h
    obtain ⟨cs, h, e2⟩ := fitL_inv h
    exact ⟨_, h, fun K' => by rw [e, e2]⟩
theorem fitL_inv : ∀ {ls : List Sh} {cs : List AV} {K : List AV → Option β}, fitL ls cs K = some r → ∃ x', K x' = some r ∧ ∀ {β' : Type} (K' : List AV → Option β'), fitL ls cs K' = K' x'
  | [], cs, K, h => by
    simp only [fitL] at h ⊢
    obtain ⟨h, e⟩ := nlK_inv h
    exact ⟨_, h, fun K' => e _⟩
  | s :: ss, cs, K, h => by
    simp only [fitL] at h ⊢
    obtain ⟨c, cs, h, e⟩ := hdK_inv h
    obtain ⟨c', h, e2⟩ := fitK_inv h
    obtain ⟨cs', h, e3⟩ := fitL_inv h
    exact ⟨_, h, fun K' => by rw [e, e2, e3]⟩
end
theorem partK_inv {i : TI} {cs : List AV} {off : Nat} {K : AV → Option β} (h : partK i cs off K = some r) : ∃ x, K x = some r ∧ ∀ {β' : Type} (K' : AV → Option β'), partK i cs off K' = K' x := by
  unfold partK at h ⊢
  cases ha : isAggT i.tk with
  | true =>
    rw [ha] at h
    obtain ⟨h1, h⟩ := cond_some h
    exact ⟨_, h, fun K' => by rw [cond_true, cond_t h1]⟩
  | false =>
    rw [ha] at h
    simp only [cond_false] at h ⊢
    split at h
    · rename_i c hc
      obtain ⟨h1, h⟩ := cond_some h
      exact ⟨_, h, fun K' => by rw [cond_t h1]⟩
    · cases h

/-- The same roots there. -/
def AgreeL (σ σ' : St) (rs : List Nat) : Prop := ∀ q ∈ rs, σ'.L q = σ.L q
theorem AgreeL.left {rs rs' : List Nat} (h : AgreeL σ σ' (rs ++ rs')) : AgreeL σ σ' rs := fun q hq => h q (by simp [hq])
theorem AgreeL.right {rs rs' : List Nat} (h : AgreeL σ σ' (rs ++ rs')) : AgreeL σ σ' rs' := fun q hq => h q (by simp [hq])
theorem rootK_inv {q v : Nat} {K : Root → Option β} (h : rootK σ q v K = some r) : ∃ R, K R = some r ∧ ∀ σ' : St, σ'.L q = σ.L q → ∀ {β' : Type} (K' : Root → Option β'), rootK σ' q v K' = K' R := by
  unfold rootK at h ⊢
  split at h
  · rename_i R hR
    obtain ⟨h1, h⟩ := cond_some h
    exact ⟨R, h, fun σ' e β' K' => by rw [e, hR]; simp only []; rw [cond_t h1]⟩
  · cases h
theorem liveK_inv {q v : Nat} {K : Root → Option β} (h : liveK σ q v K = some r) : ∃ R, σ.L q = some R ∧ K R = some r ∧ ∀ σ' : St, σ'.L q = σ.L q → ∀ {β' : Type} (K' : Root → Option β'), liveK σ' q v K' = K' R := by
  unfold liveK at h ⊢
  split at h
  · rename_i R hR
    obtain ⟨h1, h⟩ := cond_some h
    exact ⟨R, hR, h, fun σ' e β' K' => by rw [e, hR]; simp only []; rw [cond_t h1]⟩
  · cases h
theorem dataK_inv {x : AV} {K : AV → List Nat → Option β} (h : dataK σ x K = some r) : ∃ y rs, K y rs = some r ∧ ∀ σ' : St, AgreeL σ σ' rs → ∀ {β' : Type} (K' : AV → List Nat → Option β'), dataK σ' x K' = K' y rs := by
  unfold dataK at h
  split at h
  · obtain ⟨R, h, e⟩ := rootK_inv h
    exact ⟨_, _, h, fun σ' ha β' K' => by unfold dataK; exact e σ' (ha _ (by simp)) _⟩
  all_goals first
    | (refine ⟨_, _, h, fun σ' ha β' K' => ?_⟩; rfl)
    | cases h
theorem freeze_agree : ∀ {rs : List Nat}, AgreeL σ σ' rs → freezeUps σ' rs = freezeUps σ rs
  | [], _ => rfl
  | q :: rs, h => by
    simp only [freezeUps, h q (by simp), freeze_agree (fun q hq => h q (by simp [hq]) : AgreeL σ σ' rs)]
theorem next_agree {d : Nat} (h : σ'.L d = σ.L d) : σ'.next d = σ.next d := by simp only [St.next, h]

/-- The same slots there. -/
def AgreeO (σ σ' : St) (o : Oper) : Prop := ∀ t ∈ slotsOf o.op.operands.toList, σ'.env t = σ.env t
theorem opd_agree {x : Operand} (h : ∀ t, x = .tmp t → σ'.env t = σ.env t) : opd σ' x = opd σ x := by
  cases x <;> first | rfl | exact h _ rfl
theorem mem_slots {t : Nat} : ∀ {l : List Operand}, Operand.tmp t ∈ l → t ∈ slotsOf l
  | [], h => by cases h
  | x :: l, h => by
    rcases List.mem_cons.1 h with h2 | h2
    · subst h2; simp [slotsOf]
    · have := mem_slots h2
      cases x <;> simp only [slotsOf, List.mem_cons] <;> first | exact this | exact .inr this
theorem AgreeO.opd (h : AgreeO σ σ' o) {x : Operand} (hx : x ∈ o.op.operands.toList) : opd σ' x = opd σ x :=
  opd_agree (fun t e => h t (mem_slots (e ▸ hx)))

theorem fillK_inv {sz : Nat} : ∀ {ps : List (Nat × Operand)} {xs : List AV} {rs : List Nat} {K : List AV → List Nat → Option β}, fillK σ sz ps xs rs K = some r →
    ∃ xs' rs', K xs' rs' = some r ∧ (∀ q ∈ rs, q ∈ rs') ∧ ∀ σ' : St, (∀ p ∈ ps, opd σ' p.2 = opd σ p.2) → AgreeL σ σ' rs' → ∀ {β' : Type} (K' : List AV → List Nat → Option β'), fillK σ' sz ps xs rs K' = K' xs' rs'
  | [], xs, rs, K, h => ⟨xs, rs, h, fun _ h => h, fun σ' _ _ β' K' => rfl⟩
  | (i, x) :: ps, xs, rs, K, h => by
    simp only [fillK] at h
    obtain ⟨y, rs1, h, e1⟩ := dataK_inv h
    obtain ⟨hc, h⟩ := cond_some h
    obtain ⟨xs', rs', h, hm, e2⟩ := fillK_inv h
    refine ⟨xs', rs', h, fun q hq => hm q (by simp [hq]), fun σ' hp ha β' K' => ?_⟩
    simp only [fillK]
    rw [hp (i, x) (by simp), e1 σ' (fun q hq => ha q (hm q (by simp [hq]))), cond_t hc]
    exact e2 σ' (fun p hp' => hp p (by simp [hp'])) ha K'
theorem buildK_inv {fs : List (Nat × TypeId)} : ∀ {ps : List (Nat × Operand)} {xs : List AV} {rs : List Nat} {K : List AV → List Nat → Option β}, buildK Γ σ fs ps xs rs K = some r →
    ∃ xs' rs', K xs' rs' = some r ∧ (∀ q ∈ rs, q ∈ rs') ∧ ∀ σ' : St, (∀ p ∈ ps, opd σ' p.2 = opd σ p.2) → AgreeL σ σ' rs' → ∀ {β' : Type} (K' : List AV → List Nat → Option β'), buildK Γ σ' fs ps xs rs K' = K' xs' rs'
  | [], xs, rs, K, h => ⟨xs, rs, h, fun _ h => h, fun σ' _ _ β' K' => rfl⟩
  | (i, x) :: ps, xs, rs, K, h => by
    simp only [buildK] at h
    obtain ⟨off, t, h, e3⟩ := offK_inv h
    obtain ⟨ti, h, e4⟩ := tyK_inv h
    obtain ⟨y, rs1, h, e1⟩ := dataK_inv h
    obtain ⟨hc, h⟩ := cond_some h
    obtain ⟨xs', rs', h, hm, e2⟩ := buildK_inv h
    refine ⟨xs', rs', h, fun q hq => hm q (by simp [hq]), fun σ' hp ha β' K' => ?_⟩
    simp only [buildK]
    rw [e3, e4, hp (i, x) (by simp), e1 σ' (fun q hq => ha q (hm q (by simp [hq]))), cond_t hc]
    exact e2 σ' (fun p hp' => hp p (by simp [hp'])) ha K'
theorem argsK_inv : ∀ {l : List AV} {K : List AV → List Nat → List Nat → Option β}, argsK σ l K = some r →
    ∃ args rs bs, K args rs bs = some r ∧ ∀ σ' : St, AgreeL σ σ' (rs ++ bs) → ∀ {β' : Type} (K' : List AV → List Nat → List Nat → Option β'), argsK σ' l K' = K' args rs bs
  | [], K, h => ⟨[], [], [], h, fun σ' _ β' K' => rfl⟩
  | x :: l, K, h => by
    unfold argsK at h
    split at h
    · rename_i heq; cases heq
    · rename_i q ver xs heq
      injection heq with e1 e2
      subst e1; subst e2
      obtain ⟨R, hR, h, e1⟩ := liveK_inv h
      obtain ⟨hc, h⟩ := cond_some h
      obtain ⟨ys, rs, bs, h, e2⟩ := argsK_inv h
      refine ⟨_, _, _, h, fun σ' ha β' K' => ?_⟩
      simp only [argsK]
      rw [e1 σ' (ha q (by simp)), cond_t hc]
      exact e2 σ' (fun q' hq => ha q' (by rcases List.mem_append.1 hq with h | h <;> simp [h])) _
    · rename_i hne heq
      injection heq with e1 e2
      subst e1; subst e2
      obtain ⟨y, rs1, h, e1⟩ := dataK_inv h
      obtain ⟨ys, rs, bs, h, e2⟩ := argsK_inv h
      refine ⟨_, _, _, h, fun σ' ha β' K' => ?_⟩
      unfold argsK
      split
      · rename_i heq; cases heq
      · rename_i q ver xs heq
        injection heq with e3 e4
        exact absurd e3 (by intro e; exact hne _ _ e)
      · rename_i heq
        injection heq with e3 e4
        subst e3; subst e4
        rw [e1 σ' (fun q hq => ha q (by simp [hq]))]
        exact e2 σ' (fun q' hq => ha q' (by rcases List.mem_append.1 hq with h | h <;> simp [h])) _
theorem outsK_inv : ∀ {bs : List Nat} {outs : List AV} {K : List (Nat × Root) → Option β}, outsK Γ σ bs outs K = some r →
    ∃ ups, K ups = some r ∧ ∀ σ' : St, AgreeL σ σ' bs → ∀ {β' : Type} (K' : List (Nat × Root) → Option β'), outsK Γ σ' bs outs K' = K' ups
  | [], outs, K, h => by
    simp only [outsK] at h
    obtain ⟨h, e⟩ := nlK_inv h
    exact ⟨_, h, fun σ' _ β' K' => by simp only [outsK]; exact e _⟩
  | q :: bs, outs, K, h => by
    simp only [outsK] at h
    obtain ⟨y, ys, h, e1⟩ := hdK_inv h
    split at h
    · rename_i R hR
      obtain ⟨ti, h, e2⟩ := tyK_inv h
      obtain ⟨y', h, e3⟩ := fitK_inv h
      obtain ⟨hc, h⟩ := cond_some h
      obtain ⟨ups, h, e4⟩ := outsK_inv h
      refine ⟨_, h, fun σ' ha β' K' => ?_⟩
      simp only [outsK]
      rw [e1, ha q (by simp), hR]
      simp only []
      rw [e2, e3, cond_t hc]
      exact e4 σ' (fun q' hq => ha q' (by simp [hq])) _
    · cases h
theorem boundK_inv {x : Option Operand} {d : Nat} {K : Int → Option β} (h : boundK σ x d K = some r) : ∃ n, K n = some r ∧ ∀ σ' : St, (∀ y, x = some y → opd σ' y = opd σ y) → ∀ {β' : Type} (K' : Int → Option β'), boundK σ' x d K' = K' n := by
  unfold boundK at h
  split at h
  · exact ⟨_, h, fun σ' _ β' K' => rfl⟩
  · rename_i y
    split at h
    · rename_i k n hy
      exact ⟨_, h, fun σ' hx β' K' => by simp only [boundK]; rw [hx y rfl, hy]⟩
    · cases h
theorem srcK_inv {sz : Nat} {x : AV} {K : List AV → List Nat → Option β} (h : srcK σ sz x K = some r) : ∃ y rs, K y rs = some r ∧ ∀ σ' : St, AgreeL σ σ' rs → ∀ {β' : Type} (K' : List AV → List Nat → Option β'), srcK σ' sz x K' = K' y rs := by
  unfold srcK at h
  split at h
  · obtain ⟨hc, h⟩ := cond_some h
    exact ⟨_, _, h, fun σ' _ β' K' => by simp only [srcK]; rw [cond_t hc]⟩
  · rename_i hne
    obtain ⟨y, rs, h, e1⟩ := dataK_inv h
    obtain ⟨ys, h, e2⟩ := fitS_inv h
    refine ⟨_, _, h, fun σ' ha β' K' => ?_⟩
    unfold srcK
    split
    · rename_i s; exact absurd rfl (hne s)
    · rw [e1 σ' ha, e2]
theorem byteK_inv {s : ByteArray} {i : Nat} {K : UInt8 → Option β} (h : byteK s i K = some r) : ∃ b, K b = some r ∧ ∀ {β' : Type} (K' : UInt8 → Option β'), byteK s i K' = K' b := by
  unfold byteK at h ⊢
  split at h
  · exact ⟨_, h, fun K' => rfl⟩
  · cases h
theorem bytesK_inv {xs : List AV} {K : ByteArray → Option β} (h : bytesK xs K = some r) : ∃ b, K b = some r ∧ ∀ {β' : Type} (K' : ByteArray → Option β'), bytesK xs K' = K' b := by
  unfold bytesK at h ⊢
  split at h
  · exact ⟨_, h, fun K' => rfl⟩
  · cases h
theorem lenK_inv {x : AV} {K : Nat → Option β} (h : lenK x K = some r) : ∃ n, K n = some r ∧ ∀ {β' : Type} (K' : Nat → Option β'), lenK x K' = K' n := by
  unfold lenK at h
  split at h
  · exact ⟨_, h, fun K' => rfl⟩
  · exact ⟨_, h, fun K' => rfl⟩
  · cases h
end Go.Ai
