/- Part of the proofs: the verified interpreter for the program's functions, or lemmas on what they compute; no condition. -/
import Derived.Test.YtoocidelbmbgcaaOctetSealsBiPack
import Derived.LoopN
namespace Go.Ai
variable {N : Lim} {S I0 I I' : Nat → Prop} {w0 w w' : World} {γ γ' : Nat → Hdr} {Γ : Ctx} {o : Oper} {e : Eff} {ops : Array Oper}

/-! ### Code -/
def dstB (n : Nat) (ks : List Nat) (o : Oper) : Bool := match o.dst with | some t => Nat.blt t n && !ks.contains t | none => true
def lexB (ops : List Oper) : Nat → Bool
  | i => match ops with
    | [] => true
    | o :: l => (o.after.toList.all fun ed => !Region.binds .any ed || Nat.blt ed.on i) && lexB l (i + 1)
def codeB (n : Nat) (ks : List Nat) : Code → Bool
  | .skip | .ret | .exit _ => true
  | .region _ ops draw => ops.toList.all (dstB n ks) && (!draw || lexB ops.toList 0)
  | .seq a b => codeB n ks a && codeB n ks b
  | .cond _ a b => codeB n ks a && codeB n ks b
  | .block _ a => codeB n ks a
  | .loop a => codeB n ks a
  | _ => false
def exitOf : Ex → Exit
  | 0 => .normal
  | 1 => .ret
  | n + 2 => .exit n

theorem dstB_ok {n : Nat} {ks : List Nat} (h : ops.toList.all (dstB n ks) = true) (hn : n ≤ N.n) (hk : ∀ t, t ∉ ks → N.keep t = none ∧ N.pin t = none) : DstOk N ops := by
  intro i o t ho hd
  have := List.all_eq_true.1 h o (by rw [← Array.getElem?_toList] at ho; exact List.mem_of_getElem? ho)
  rw [dstB, hd] at this
  simp only [Bool.and_eq_true] at this
  exact ⟨Nat.lt_of_lt_of_le (blt_of this.1) hn, hk t (mem_contains this.2)⟩
theorem lexB_ok : ∀ {l : List Oper} {i : Nat}, lexB l i = true → ∀ (j : Nat) (o : Oper), l[j]? = some o → ∀ ed ∈ o.after.toList, Region.binds .any ed = true → ed.on < i + j
  | [], _, _, j, o, hj, _, _, _ => by simp at hj
  | o :: l, i, h, j, o', hj, ed, he, hb => by
    unfold lexB at h
    simp only [Bool.and_eq_true] at h
    cases j with
    | zero =>
      simp only [List.getElem?_cons_zero, Option.some.injEq] at hj
      subst hj
      have := List.all_eq_true.1 h.1 ed he
      rw [hb] at this
      simpa using blt_of this
    | succ j =>
      have := lexB_ok h.2 j o' (by simpa using hj) ed he hb
      omega

theorem Ok.drawn {σ : St} {a : Act} (h : Ok N S I0 w0 σ a w) : Ok N S I0 w0 σ a { w with drawn := w.drawn + 1 } := by
  obtain ⟨γ, I, hs, hy⟩ := h
  exact ⟨γ, I, hs.drawn _, hy⟩

theorem region_ok (hΓ : CtxOk Γ) {n : Nat} {ks : List Nat} (hn : n ≤ N.n) (hk : ∀ t, t ∉ ks → N.keep t = none ∧ N.pin t = none) {fuel : Nat} {β : Type} {r : β} {id : Nat} {draw : Bool} {σ : St} {K : Ex → St → Option β} (h : codeK Γ fuel .leaf (.region id ops draw) σ K = some r) (hc : codeB n ks (.region id ops draw) = true) {a : Act} {Q : Exit → Act → World → Prop}
    (hok : Ok N S I0 w0 σ a w) (hq : ∀ e σ' a' w', K e σ' = some r → Ok N S I0 w0 σ' a' w' → Q (exitOf e) a' w') : (Code.region id ops draw).wp Γ.P Q a w := by
  simp only [codeK] at h
  obtain ⟨σ', fs, h1, ht⟩ := regK_trace h (fun j o hj => by rw [Nat.zero_add, ← Array.getElem?_toList]; exact hj)
  obtain ⟨hap, h1⟩ := cond_some h1
  simp only [codeB, Bool.and_eq_true] at hc
  have hd := dstB_ok hc.1 hn hk
  rw [Array.length_toList] at ht
  have hq' : ∀ a' w', Ok N S I0 w0 σ' a' w' → Q .normal a' w' := fun a' w' hok' => hq 0 σ' a' w' h1 hok'
  cases draw with
  | false =>
    refine wp_region ?_
    rw [List.range_eq_range']
    exact ht.wp hΓ hd hok hq'
  | true =>
    simp only [Bool.not_true, Bool.false_or] at hap hc
    have hx : LexOk ops := fun i o ho ed he hb => by
      have := lexB_ok hc.2 i o (by rw [Array.getElem?_toList]; exact ho) ed he hb
      omega
    refine wp_region_any hΓ.mixed ?_
    refine any_ok hΓ hd hx hq' ops.size (List.range' 0 ops.size) _ σ fs a _ (by simp) ht (apartAll_P hap) ⟨by simp, ?_, fun i => ?_, fun i o ho hl => ?_⟩ hok.drawn
    · rw [← List.range_eq_range']; exact List.pairwise_lt_range
    · rw [← List.range_eq_range', List.mem_range]
      constructor
      · intro hi; exact ⟨hi, by simp [Array.getD_eq_getD_getElem?, hi]⟩
      · exact fun h => h.1
    · exfalso
      simp [Array.getD_eq_getD_getElem?, Array.getElem?_replicate] at hl
      split at hl <;> simp at hl

theorem codeK_ok (hΓ : CtxOk Γ) {n : Nat} {ks : List Nat} (hn : n ≤ N.n) (hk : ∀ t, t ∉ ks → N.keep t = none ∧ N.pin t = none) {fuel : Nat} : ∀ (A : An) (c : Code) {β : Type} {r : β} {σ : St} {K : Ex → St → Option β}, codeK Γ fuel A c σ K = some r → codeB n ks c = true → ∀ {a : Act} {w : World} {Q : Exit → Act → World → Prop},
    Ok N S I0 w0 σ a w → (∀ e σ' a' w', K e σ' = some r → Ok N S I0 w0 σ' a' w' → Q (exitOf e) a' w') → c.wp Γ.P Q a w := by
  intro A
  induction A with
  | leaf =>
    intro c β r σ K h hc a w Q hok hq
    cases c with
    | skip => exact wp_skip (hq 0 _ _ _ h hok)
    | ret => exact wp_ret (hq 1 _ _ _ h hok)
    | exit n => exact wp_exit (hq (n + 2) _ _ _ h hok)
    | region id ops draw => exact region_ok hΓ hn hk h hc hok hq
    | _ => simp [codeK] at h
  | seq A B ihA ihB =>
    intro c β r σ K h hc a w Q hok hq
    cases c with
    | seq x y =>
      simp only [codeB, Bool.and_eq_true] at hc
      simp only [codeK] at h
      refine wp_seq (ihA x h hc.1 hok (fun e σ' a' w' he hok' => ?_))
      cases hb : Nat.beq e 0 with
      | true =>
        rw [cond_t hb] at he
        have hb := Nat.eq_of_beq_eq_true hb
        subst hb
        exact ihB y he hc.2 hok' hq
      | false =>
        rw [cond_f hb] at he
        have := hq e σ' a' w' he hok'
        match e, hb with
        | 1, _ => exact this
        | n + 2, _ => exact this
    | _ => simp [codeK] at h
  | cond A B ihA ihB =>
    intro c β r σ K h hc a w Q hok hq
    cases c with
    | cond b x y =>
      simp only [codeB, Bool.and_eq_true] at hc
      simp only [codeK] at h
      split at h
      case h_2 => cases h
      rename_i t ht
      obtain ⟨γ, I, hs, hy⟩ := hok
      have hev := RV_opd hs b
      rw [ht] at hev
      have hev : a.eval b = .bool t := RV_bool hev
      rcases br_some h with ⟨rfl, h2⟩ | ⟨rfl, h2⟩
      · refine wp_cond_true hev (ihA x (K := K) (σ := σ) ?_ hc.1 ⟨γ, I, hs, hy⟩ hq)
        cases b with
        | tmp s => simp only [setB_self (σ := σ) (s := s) ht] at h2; exact h2
        | _ => exact h2
      · refine wp_cond_false hev (ihB y (K := K) (σ := σ) ?_ hc.2 ⟨γ, I, hs, hy⟩ hq)
        cases b with
        | tmp s => simp only [setB_self (σ := σ) (s := s) ht] at h2; exact h2
        | _ => exact h2
    | _ => simp [codeK] at h
  | block A ih =>
    intro c β r σ K h hc a w Q hok hq
    cases c with
    | block n x =>
      simp only [codeB] at hc
      simp only [codeK] at h
      refine wp_block (ih x h hc hok (fun e σ' a' w' he hok' => ?_))
      cases hb : Nat.beq e (n + 2) with
      | true =>
        rw [cond_t hb] at he
        have hb := Nat.eq_of_beq_eq_true hb
        subst hb
        have := hq 0 σ' a' w' he hok'
        simpa [exitOf, Exit.inBlock] using this
      | false =>
        rw [cond_f hb] at he
        have := hq e σ' a' w' he hok'
        match e, hb with
        | 0, _ => exact this
        | 1, _ => exact this
        | k + 2, hb =>
          have hne : k ≠ n := by
            intro e; subst e
            have : Nat.beq (k + 2) (k + 2) = true := by simp
            rw [hb] at this; cases this
          simpa [exitOf, Exit.inBlock, hne] using this
    | _ => simp [codeK] at h
  | cut exits A ih =>
    intro c β r σ K h hc a w Q hok hq
    simp only [codeK] at h
    obtain ⟨j, ws, f, h1, h2, h3⟩ := sel_some h
    refine ih c h1 hc hok (fun e σ' a' w' he hok' => ?_)
    obtain ⟨i, ct, e1, e2, hp⟩ := leave_some he
    simp only [Nat.zero_add] at e1
    subst e1
    rw [List.getElem?_map, e2] at h2
    simp only [Option.map_some, Option.some.injEq] at h2
    subst h2
    obtain ⟨σ2, k1, k2⟩ := unpackK_ok hok' hp h3
    exact hq e σ2 a' w' k1 k2
  | loop head exits A ih =>
    intro c β r σ K h hc a w Q hok hq
    cases c with
    | loop x =>
      simp only [codeB] at hc
      simp only [codeK] at h
      obtain ⟨vs, hp, h⟩ := packK_some h
      obtain ⟨j, ws, f, h1, h2, h3⟩ := sel_some h
      have leaves : ∀ e σ' a' w', leave σ' e exits 0 = some (j, ws) → Ok N S I0 w0 σ' a' w' → Q (exitOf e) a' w' := by
        intro e σ' a' w' he hok'
        obtain ⟨i, ct, e1, e2, hp⟩ := leave_some he
        simp only [Nat.zero_add] at e1
        subst e1
        rw [List.getElem?_map, e2] at h2
        simp only [Option.map_some, Option.some.injEq] at h2
        subst h2
        obtain ⟨σ2, k1, k2⟩ := unpackK_ok hok' hp h3
        exact hq e σ2 a' w' k1 k2
      have rounds : ∀ (n : Nat) (vs : List AV) (σ : St) (a : Act) (w : World), Ok N S I0 w0 σ a w → Packed head σ vs →
          loopN (fun again vs => unpackK head vs fun σ => codeK Γ fuel A x σ fun e σ' => bif Nat.beq e 0 then packK head σ' again else leave σ' e exits 0) n vs = some (j, ws) → Code.rounds Γ.P x Q n a w := by
        intro n
        induction n with
        | zero => intro vs σ a w _ _ h; cases h
        | succ n ihn =>
          intro vs σ a w hok hp h
          simp only [loopN] at h
          obtain ⟨σ2, k1, k2⟩ := unpackK_ok hok hp h
          rw [rounds_succ]
          refine ih x k1 hc k2 (fun e σ' a' w' he hok' => ?_)
          cases hb : Nat.beq e 0 with
          | true =>
            rw [cond_t hb] at he
            have hb := Nat.eq_of_beq_eq_true hb
            subst hb
            obtain ⟨vs', hp', he⟩ := packK_some he
            exact ihn vs' σ' a' w' hok' hp' he
          | false =>
            rw [cond_f hb] at he
            have := leaves e σ' a' w' he hok'
            match e, hb with
            | 1, _ => exact this
            | n + 2, _ => exact this
      exact wp_loop_rounds fuel (rounds fuel vs σ a w hok hp h1)
    | _ => simp [codeK] at h
end Go.Ai
