/- Part of the proofs: the verified interpreter for the program's functions, or lemmas on what they compute; no condition. -/
import Derived.Test.YtoocidelbmbgcaaAiOps13
namespace Go.Ai
variable {N : Lim} {S I0 I I' : Nat → Prop} {w0 w w' : World} {γ γ' : Nat → Hdr} {σ σ' : St} {a : Act} {Γ : Ctx} {o : Oper} {e : Eff} {P : Program} {β : Type} {r : β}

/-! ### Calls -/
mutual
theorem RI_flat : ∀ (x : AV) (v : Value), flatAV x = true → RI w I x v → RI w' I' x v
  | .int _ _, _, _, h => h
  | .bool _, _, _, h => h
  | .str _, _, _, h => h
  | .nilp, _, _, h => h
  | .nils, _, hf, _ => by simp [flatAV] at hf
  | .sl _ _, _, hf, _ => by simp [flatAV] at hf
  | .agg cs, v, hf, h => by
    obtain ⟨us, hv, hl, h⟩ := h
    exact ⟨us, hv, hl, RIl_flat cs us (by simpa [flatAV] using hf) h⟩
  | .tup _, _, _, h => h.elim
  | .own _, _, _, h => h.elim
  | .box _, _, _, h => h.elim
  | .ref _ _ _ _, _, _, h => h.elim
  | .loc _ _ _ _ _, _, _, h => h.elim
  | .elm _ _, _, _, h => h.elim
  | .dead, _, _, h => h.elim
theorem RIl_flat : ∀ (cs : List AV) (us : List Value), flatL cs = true → RIl w I cs us → RIl w' I' cs us
  | [], _, _, h => h
  | c :: cs, us, hf, h => by
    simp only [flatL, Bool.and_eq_true] at hf
    obtain ⟨u, us', hu, h1, h2⟩ := h
    exact ⟨u, us', hu, RI_flat c u hf.1 h1, RIl_flat cs us' hf.2 h2⟩
end
theorem RT_flat {x : AV} {v : Value} (hf : flatAV x = true) (h : RT w I x v) : RT w' I' x v := by
  cases x with
  | tup cs => obtain ⟨us, hv, h⟩ := h; exact ⟨us, hv, RIl_flat cs us (by simpa [flatAV] using hf) h⟩
  | _ => exact RI_flat (w := w) (I := I) _ _ hf h

theorem BoxOk.mono (hI : ∀ k, I k → I' k) {xs : List AV} {b : Nat} {v : Value} (h : BoxOk w I xs b v) : BoxOk w I' xs b v := by
  obtain ⟨x, h1, h2, h3, h4⟩ := h
  exact ⟨x, h1, h2, h3, RIs_mono hI (fun _ _ => rfl) _ _ _ _ rfl h4⟩
theorem ArgsOk_cons {x : AV} {l : List AV} {v : Value} {vs : List Value} {bs : List Nat} (hx : RI w I x v) (h : ArgsOk w I l vs bs) : ArgsOk w I (x :: l) (v :: vs) bs := by
  cases x <;> first | exact ⟨v, vs, rfl, hx, h⟩ | exact hx.elim
theorem ArgsOk_mono (hI : ∀ k, I k → I' k) : ∀ {l : List AV} {vs : List Value} {bs : List Nat}, ArgsOk w I l vs bs → ArgsOk w I' l vs bs
  | [], _, _, h => h
  | x :: l, vs, bs, h => by
    have plain : (∃ v vs', vs = v :: vs' ∧ RI w I x v ∧ ArgsOk w I l vs' bs) → ∃ v vs', vs = v :: vs' ∧ RI w I' x v ∧ ArgsOk w I' l vs' bs := by
      rintro ⟨v, vs', h1, h2, h3⟩
      exact ⟨v, vs', h1, RI_mono hI (fun _ _ => rfl) _ _ h2, ArgsOk_mono hI h3⟩
    cases x with
    | box xs =>
      obtain ⟨v, vs', b, bs', h1, h2, h3, h4⟩ := h
      exact ⟨v, vs', b, bs', h1, h2, h3.mono hI, ArgsOk_mono hI h4⟩
    | _ => exact plain h

/-- The roots bs are boxes of the call's own, in the blocks bls. -/
def BoxRoots (σ : St) (γ : Nat → Hdr) : List Nat → List Nat → Prop
  | [], bls => bls = []
  | r :: bs, bls => ∃ b bls', bls = b :: bls' ∧ (∃ R x, σ.L r = some R ∧ R.st = .live ∧ R.bx = true ∧ R.xs = [x] ∧ γ r = some (b, 0, 1)) ∧ BoxRoots σ γ bs bls'

inductive Vals (σ : St) (γ : Nat → Hdr) (w : World) (I : Nat → Prop) : List AV → List Value → Prop
  | nil : Vals σ γ w I [] []
  | cons {x v l vs} : RV σ.L γ w I x v → Vals σ γ w I l vs → Vals σ γ w I (x :: l) (v :: vs)
theorem vals_of (hs : Sim N S I0 w0 γ I σ a w) : ∀ l : List Operand, Vals σ γ w I (l.map (opd σ)) (l.map a.eval)
  | [] => .nil
  | x :: l => .cons (RV_opd hs x) (vals_of hs l)

theorem argsK_some (hs : Sim N S I0 w0 γ I σ a w) : ∀ {l : List AV} {vs : List Value} {K : List AV → List Nat → List Nat → Option β}, Vals σ γ w I l vs → argsK σ l K = some r →
    ∃ args rs bs bls, K args rs bs = some r ∧ ArgsOk w (Ix γ I rs) args vs bls ∧ Stand σ rs ∧ BoxRoots σ γ bs bls
  | [], _, K, .nil, h => ⟨[], [], [], [], h, ⟨rfl, rfl⟩, (fun q hq => by cases hq), rfl⟩
  | x :: l, v :: vs, K, .cons hx hl, h => by
    have plain : (dataK σ x fun y rs => argsK σ l fun ys rs' bs => K (y :: ys) (rs ++ rs') bs) = some r →
        ∃ args rs bs bls, K args rs bs = some r ∧ ArgsOk w (Ix γ I rs) args (v :: vs) bls ∧ Stand σ rs ∧ BoxRoots σ γ bs bls := by
      intro h
      obtain ⟨y, rs, h, h1, h2, h3⟩ := dataK_some hs hx h
      obtain ⟨ys, rs', bs, bls, h, k1, k2, k3⟩ := argsK_some hs hl h
      refine ⟨_, _, _, bls, h, ArgsOk_cons (RI_mono (fun k hk => ?_) (fun _ _ => rfl) _ _ h1) (ArgsOk_mono (fun k hk => ?_) k1), fun q hq => ?_, k3⟩
      · rcases hk with hk | ⟨q, hq, hg⟩
        · exact .inl hk
        · exact .inr ⟨q, by simp [hq], hg⟩
      · rcases hk with hk | ⟨q, hq, hg⟩
        · exact .inl hk
        · exact .inr ⟨q, by simp [hq], hg⟩
      · rcases List.mem_append.1 hq with hq | hq
        · exact h2 q hq
        · exact k2 q hq
    unfold argsK at h
    split at h
    · rename_i heq; cases heq
    · rename_i q ver xs heq
      injection heq with e1 e2
      subst e1; subst e2
      obtain ⟨R, r1, r2, r3, h⟩ := liveK_some h
      obtain ⟨r4, h⟩ := cond_some h
      obtain ⟨ys, rs, bs, bls, h, k1, k2, k3⟩ := argsK_some hs hl h
      obtain ⟨_, hx⟩ := hx
      obtain ⟨hi, b, of, cap, hg, hv⟩ := hx R r1 r2 (by rw [r3]; simp) rfl
      have hro := hs.root q R r1 (by rw [r3]; simp)
      rw [hg] at hro
      obtain ⟨j1, j2, j3, j4⟩ := hro
      obtain ⟨rfl, rfl⟩ := j4 r4
      obtain ⟨x, hxs⟩ : ∃ x, R.xs = [x] := by
        match hR : R.xs with
        | [] => rw [hR] at hi; simp at hi
        | [x] => exact ⟨x, rfl⟩
        | _ :: _ :: _ => rw [hR] at j1; simp at j1
      rw [hxs] at j2
      have hw : x.width = R.sz := j2.1.choose_spec.2.1
      rw [← hw] at j2 j3
      refine ⟨_, _, _, b :: bls, h, ⟨v, vs, b, bls, rfl, rfl, ⟨x, hxs, by simpa using hv, by simpa using j3, RIs_mono (fun k hk => .inl hk) (fun _ _ => rfl) _ _ _ _ rfl j2⟩, k1⟩, k2, b, bls, rfl, ⟨R, x, r1, r3, r4, hxs, hg⟩, k3⟩
    · rename_i heq
      injection heq with e1 e2
      subst e1; subst e2
      exact plain h

theorem distinct_nodup : ∀ {l : List Nat}, distinct l = true → l.Nodup
  | [], _ => List.nodup_nil
  | x :: l, h => by
    simp only [distinct, Bool.and_eq_true] at h
    exact List.nodup_cons.2 ⟨mem_contains h.1, distinct_nodup h.2⟩
theorem disj_not {l m : List Nat} (h : disj l m = true) : ∀ x ∈ l, x ∉ m := by
  intro x hx
  have := List.all_eq_true.1 h x hx
  exact mem_contains this

theorem BoxRoots.mem : ∀ {bs bls : List Nat}, BoxRoots σ γ bs bls → ∀ b ∈ bls, ∃ q ∈ bs, ∃ R x, σ.L q = some R ∧ R.st = .live ∧ R.bx = true ∧ R.xs = [x] ∧ γ q = some (b, 0, 1)
  | [], bls, h, b, hb => by simp only [BoxRoots] at h; subst h; cases hb
  | q :: bs, bls, h, b, hb => by
    obtain ⟨b', bls', rfl, ⟨R, x, h1⟩, h2⟩ := h
    rcases List.mem_cons.1 hb with rfl | hb
    · exact ⟨q, by simp, R, x, h1⟩
    · obtain ⟨q', hq', h⟩ := h2.mem b hb
      exact ⟨q', by simp [hq'], h⟩
theorem BoxRoots.nodup (hs : Sim N S I0 w0 γ I σ a w) : ∀ {bs bls : List Nat}, BoxRoots σ γ bs bls → bs.Nodup → bls.Nodup
  | [], bls, h, _ => by simp only [BoxRoots] at h; subst h; exact List.nodup_nil
  | q :: bs, bls, h, hn => by
    obtain ⟨b, bls', rfl, ⟨R, x, h1, h2, h3, h4, h5⟩, h6⟩ := h
    obtain ⟨n1, n2⟩ := List.nodup_cons.1 hn
    refine List.nodup_cons.2 ⟨fun hb => ?_, h6.nodup hs n2⟩
    obtain ⟨q', hq', R', x', k1, k2, k3, k4, k5⟩ := h6.mem b hb
    exact hs.sep q q' R R' b 0 1 0 1 (fun e => n1 (e ▸ hq')) h1 k1 h2 k2 h5 k5

/-- What the boxes hold after a call. -/
def UpsOk (σ : St) (γ : Nat → Hdr) (w' : World) (I' : Nat → Prop) : List (Nat × Root) → List Nat → Prop
  | [], bls => bls = []
  | (q, R') :: ups, bls => ∃ b bls', bls = b :: bls' ∧ (∃ R, σ.L q = some R ∧ R.st = .live ∧ γ q = some (b, 0, 1) ∧ R'.ver = R.ver ∧ R'.st = .live ∧ R'.sz = R.sz ∧ R'.xs.length = R.xs.length ∧ RootOk w' I' (some (b, 0, 1)) R') ∧ UpsOk σ γ w' I' ups bls'
theorem UpsOk.mem : ∀ {ups : List (Nat × Root)} {bls : List Nat}, UpsOk σ γ w' I' ups bls → (∀ z ∈ ups, ∃ b ∈ bls, ∃ R, σ.L z.1 = some R ∧ R.st = .live ∧ γ z.1 = some (b, 0, 1) ∧ z.2.ver = R.ver ∧ z.2.st = .live ∧ z.2.sz = R.sz ∧ z.2.xs.length = R.xs.length ∧ RootOk w' I' (some (b, 0, 1)) z.2) ∧
    ∀ b ∈ bls, ∃ z ∈ ups, ∃ R, σ.L z.1 = some R ∧ R.st = .live ∧ γ z.1 = some (b, 0, 1)
  | [], bls, h => by simp only [UpsOk] at h; subst h; exact ⟨fun _ h => by (cases h), fun _ h => by (cases h)⟩
  | (q, R') :: ups, bls, h => by
    obtain ⟨b, bls', rfl, ⟨R, h1⟩, h2⟩ := h
    obtain ⟨m1, m2⟩ := h2.mem
    refine ⟨fun z hz => ?_, fun b' hb => ?_⟩
    · rcases List.mem_cons.1 hz with rfl | hz
      · exact ⟨b, by simp, R, h1⟩
      · obtain ⟨b', hb', h⟩ := m1 z hz
        exact ⟨b', by simp [hb'], h⟩
    · rcases List.mem_cons.1 hb with rfl | hb
      · exact ⟨(q, R'), by simp, R, h1.1, h1.2.1, h1.2.2.1⟩
      · obtain ⟨z, hz, h⟩ := m2 b' hb
        exact ⟨z, by simp [hz], h⟩

theorem ups_get : ∀ (ups : List (Nat × Root)) (σ : St), (ups.map (·.1)).Nodup → ∀ z ∈ ups, (σ.ups ups).L z.1 = some z.2
  | [], _, _, _, h => by cases h
  | (q, R') :: ups, σ, hn, z, hz => by
    simp only [List.map_cons, List.nodup_cons] at hn
    simp only [St.ups]
    rcases List.mem_cons.1 hz with rfl | hz
    · rw [ups_ne]
      · exact setAt_self _ _ _
      · intro x hx e
        exact hn.1 (List.mem_map.2 ⟨x, hx, e⟩)
    · exact ups_get ups _ hn.2 z hz

theorem Sim.boxes (h : Sim N S I0 w0 γ I σ a w) (hy : Young σ) {ups : List (Nat × Root)} {bls : List Nat} (hu : UpsOk σ γ w' I' ups bls) (hd : (ups.map (·.1)).Nodup) (hI : ∀ k, I k → I' k) (hfr : Fr (· ∈ bls) w w')
    (himm : ∀ k, I' k → (I k ∨ w.heap.size ≤ k) ∧ k < w'.heap.size) (hb : ∀ b ∈ bls, ¬ I' b) : Sim N S I0 w0 γ I' (σ.ups ups) a w' ∧ Young (σ.ups ups) := by
  obtain ⟨m1, m2⟩ := hu.mem
  have key : ∀ q, (∃ R', (q, R') ∈ ups ∧ (σ.ups ups).L q = some R') ∨ ((∀ x ∈ ups, x.1 ≠ q) ∧ (σ.ups ups).L q = σ.L q) := by
    intro q
    by_cases hq : ∃ x ∈ ups, x.1 = q
    · obtain ⟨x, hx, rfl⟩ := hq
      exact .inl ⟨x.2, hx, ups_get ups σ hd x hx⟩
    · have : ∀ x ∈ ups, x.1 ≠ q := fun x hx e => hq ⟨x, hx, e⟩
      exact .inr ⟨this, ups_ne ups σ this⟩
  have old : ∀ q Q, (σ.ups ups).L q = some Q → ∃ R, σ.L q = some R ∧ R.ver = Q.ver ∧ (Q.st ≠ .gone → R.st ≠ .gone ∧ R.xs.length = Q.xs.length ∧ R.sz = Q.sz) ∧ (Q.st = .live → R.st = .live) := by
    intro q Q hQ
    rcases key q with ⟨R', hz, hL⟩ | ⟨_, hL⟩
    · rw [hL] at hQ; injection hQ with hQ; subst hQ
      obtain ⟨b, hb, R, k1, k2, k3, k4, k5, k6, k7, k8⟩ := m1 _ hz
      exact ⟨R, k1, k4.symm, fun _ => ⟨by rw [k2]; simp, k7.symm, k6.symm⟩, fun _ => k2⟩
    · rw [hL] at hQ
      exact ⟨Q, hQ, rfl, fun h => ⟨h, rfl, rfl⟩, fun h => h⟩
  have blk : ∀ k, k < w.heap.size → k ∉ bls → w'.heap[k]? = w.heap[k]? := hfr.block
  have hIw : ∀ k, I k → w'.heap[k]? = w.heap[k]? := fun k hk => blk k (h.imm k hk) (fun hm => hb k hm (hI k hk))
  constructor
  · refine ⟨h.size, h.defers, fun t => ?_, fun q Q h1 h2 => ?_, fun q Q b o c h1 h2 h3 => ?_, fun q Q b o c h1 h2 h3 => ?_, fun q q' Q Q' b o c o' c' hne h1 h2 h3 h4 h5 => ?_, fun k hk => (himm k hk).2, fun k hk => ?_, ?_⟩
    · rw [ups_env]
      refine RV_move hI hIw (fun q v R' _ h2 h3 h4 => ?_) (h.env t)
      obtain ⟨R, k1, k2, k3, _⟩ := old q R' h2
      obtain ⟨k4, k5, k6⟩ := k3 h4
      exact ⟨R, k1, by omega, k4, k5, k6, rfl⟩
    · rcases key q with ⟨R', hz, hL⟩ | ⟨hne, hL⟩
      · rw [hL] at h1; injection h1 with h1; subst h1
        obtain ⟨b, hb, R, k1, k2, k3, k4, k5, k6, k7, k8⟩ := m1 _ hz
        rw [k3]; exact k8
      · rw [hL] at h1
        refine (h.root q Q h1 h2).move hI hIw (fun b o c h3 => blk b (h.root_block h1 h2 h3) (fun hm => ?_))
        obtain ⟨z, hz, R, k1, k2, k3⟩ := m2 b hm
        cases e : Q.st with
        | live => exact h.sep q z.1 Q R b o c 0 1 (Ne.symm (hne z hz)) h1 k1 e k2 h3 k3
        | still => exact (h.live z.1 R b 0 1 k1 k2 k3).1 (h.still q Q b o c h1 e h3)
        | gone => exact h2 e
    · rcases key q with ⟨R', hz, hL⟩ | ⟨hne, hL⟩
      · obtain ⟨b', hb', R, k1, k2, k3, _⟩ := m1 _ hz
        rw [k3] at h3
        injection h3 with h3; injection h3 with e1 _; subst e1
        exact ⟨hb _ hb', (h.live q R _ _ _ k1 k2 k3).2⟩
      · rw [hL] at h1
        obtain ⟨j1, j2⟩ := h.live q Q b o c h1 h2 h3
        refine ⟨fun hk => ?_, j2⟩
        rcases (himm b hk).1 with hk | hk
        · exact j1 hk
        · have := h.root_block h1 (by rw [h2]; simp) h3
          omega
    · rcases key q with ⟨R', hz, hL⟩ | ⟨hne, hL⟩
      · rw [hL] at h1; injection h1 with h1; subst h1
        obtain ⟨b', hb', R, k1, k2, k3, k4, k5, _⟩ := m1 _ hz
        simp only [] at k5
        rw [k5] at h2; cases h2
      · rw [hL] at h1
        exact hI _ (h.still q Q b o c h1 h2 h3)
    · obtain ⟨R, k1, _, _, k2⟩ := old q Q h1
      obtain ⟨R', j1, _, _, j2⟩ := old q' Q' h2
      exact h.sep q q' R R' b o c o' c' hne k1 j1 (k2 h3) (j2 h4) h5
    · rcases (himm k hk).1 with hk | hk
      · exact h.immNew k hk
      · exact .inr (.inl (Nat.le_trans h.frame.size hk))
    · refine h.frame.trans ⟨hfr.os, hfr.tape, hfr.output, hfr.size, fun k hk hS => blk k hk (fun hm => hS ?_)⟩
      obtain ⟨z, hz, R, k1, k2, k3⟩ := m2 k hm
      exact (h.live z.1 R k 0 1 k1 k2 k3).2
  · intro t q v ht
    rw [ups_env] at ht
    obtain ⟨R, k1, k2⟩ := hy t q v ht
    rcases key q with ⟨R', hz, hL⟩ | ⟨hne, hL⟩
    · obtain ⟨b', hb', R2, j1, j2, j3, j4, _⟩ := m1 _ hz
      rw [k1] at j1; injection j1 with j1; subst j1
      exact ⟨R', hL, by simp only [] at j4; omega⟩
    · exact ⟨R, by rw [hL]; exact k1, k2⟩
end Go.Ai
