/- Part of the proofs: the verified interpreter for the program's functions, or lemmas on what they compute; no condition. -/
import Derived.Test.YtoocidelbmbgcaaOctetSealsBiDisp
namespace Go.Ai
variable {N : Lim} {S I0 I I' : Nat → Prop} {w0 w w' : World} {γ γ' : Nat → Hdr} {σ σ' σ1 σ2 : St} {a : Act} {Γ : Ctx} {o : Oper} {e : Eff} {β : Type} {r : β} {ops : Array Oper} {Q : Exit → Act → World → Prop} {K : Act → World → Prop}

/-! ### One operation, with its guard -/
inductive Step (Γ : Ctx) (ops : Array Oper) (o : Oper) (σ : St) : Eff → Prop
  | plain {e : Eff} (h : o.guard = none) (ho : opK Γ o σ some = some e) : Step Γ ops o σ e
  | go {e : Eff} {g : Nat} {want : Bool} {s : Nat} (h : o.guard = some (g, want)) (hs : (ops[g]?).bind (·.dst) = some s) (hb : σ.env s = .bool want) (ho : opK Γ o σ some = some e) : Step Γ ops o σ e
  | no {g : Nat} {want : Bool} {s : Nat} {b : Bool} (h : o.guard = some (g, want)) (hs : (ops[g]?).bind (·.dst) = some s) (hb : σ.env s = .bool b) (hne : b ≠ want) : Step Γ ops o σ skipEff

theorem guardSlot_some {g : Nat} {want : Bool} {s : Nat} (h : o.guard = some (g, want)) (hs : (ops[g]?).bind (·.dst) = some s) : guardSlot ops o = [s] := by
  simp [guardSlot, h, hs]

/-- The same there. -/
theorem Step.agree (h : Step Γ ops o σ e) (h1 : ∀ t ∈ (fpOf ops o e).rs, σ'.env t = σ.env t) (h2 : AgreeL σ σ' e.rr) : Step Γ ops o σ' e := by
  have hop : AgreeO σ σ' o := fun t ht => h1 t (by simp [fpOf, ht])
  have run : ∀ {e : Eff}, AgreeL σ σ' e.rr → opK Γ o σ some = some e → opK Γ o σ' some = some e := by
    intro e he h
    obtain ⟨e', h3, h4⟩ := opK_inv h
    injection h3 with h3; subst h3
    exact h4 σ' hop he some
  have sl : ∀ {s}, guardSlot ops o = [s] → σ'.env s = σ.env s := fun hs => h1 _ (by simp [fpOf, hs])
  cases h with
  | plain h ho => exact .plain h (run h2 ho)
  | go h hs hb ho => exact .go h hs (by rw [sl (guardSlot_some h hs)]; exact hb) (run h2 ho)
  | no h hs hb hne => exact .no h hs (by rw [sl (guardSlot_some h hs)]; exact hb) hne

theorem RV_bool_slot {L : Nat → Option Root} {x : AV} {b : Bool} {tmps : Array Value} {s : Nat} (hx : x = .bool b) (h : RV L γ w I x (tmps.getD s undef)) : tmps[s]? = some (.bool b) := by
  subst hx
  have h : tmps.getD s undef = .bool b := RV_bool h
  rw [Array.getD_eq_getD_getElem?] at h
  cases hs : tmps[s]? with
  | none => rw [hs] at h; simp [undef] at h
  | some v => rw [hs] at h; simp at h; rw [h]

theorem step_ok (hΓ : CtxOk Γ) {i : Nat} (ho : ops[i]? = some o) (hd : ∀ t, o.dst = some t → N.ok t) (hok : Ok N S I0 w0 σ a w) (h : Step Γ ops o σ e) (hk : ∀ a' w', Ok N S I0 w0 (σ.eff o.dst e) a' w' → K a' w') : wpOp Γ.P ops Q i K a w := by
  obtain ⟨γ, I, hs, hy⟩ := hok
  unfold wpOp
  simp only [ho]
  cases h with
  | plain hg hop =>
    have : Region.wanted o (yielded ops a.tmps) = true := by simp [Region.wanted, hg]
    rw [if_pos this]
    exact .inl (opK_ok hΓ hs hy hd hop K Q hk)
  | go hg hsl hb hop =>
    have hbs := RV_bool_slot hb (hs.env _)
    have : Region.wanted o (yielded ops a.tmps) = true := by
      simp [Region.wanted, hg, yielded, hsl, hbs]
    rw [if_pos this]
    exact .inl (opK_ok hΓ hs hy hd hop K Q hk)
  | no hg hsl hb hne =>
    rename_i b
    have hbs := RV_bool_slot hb (hs.env _)
    have : Region.wanted o (yielded ops a.tmps) = false := by
      simp [Region.wanted, hg, yielded, hsl, hbs, hne]
    rw [if_neg (by simp [this])]
    refine hk _ _ ⟨γ, I, ?_, ?_⟩
    · exact hs.slot (d := o.dst) hd (x := .dead) trivial
    · exact hy.slot (d := o.dst) (fun r v hr => hr.elim)

/-! ### Operations one behind the other -/
inductive Trace (Γ : Ctx) (ops : Array Oper) : List Nat → St → List (Nat × Fp) → St → Prop
  | nil {σ : St} : Trace Γ ops [] σ [] σ
  | cons {i : Nat} {o : Oper} {e : Eff} {l : List Nat} {σ : St} {fs : List (Nat × Fp)} {σ' : St} (ho : ops[i]? = some o) (hs : Step Γ ops o σ e) (ht : Trace Γ ops l (σ.eff o.dst e) fs σ') : Trace Γ ops (i :: l) σ ((i, fpOf ops o e) :: fs) σ'

theorem setB_self {s : Nat} {b : Bool} (h : σ.env s = .bool b) : setB σ s b = σ := by
  unfold setB
  rw [← h, setAt_id]

theorem forceN_eq {β : Type} : ∀ (n : Nat) (K : Nat → Option β), forceN n K = K n
  | 0, _ => rfl
  | n + 1, K => by simp only [forceN]; rw [forceN_eq n]
theorem force0_eq {β : Type} (v : AV) (K : AV → Option β) : force0 v K = K v := by cases v <;> simp only [force0, forceN_eq]
theorem forceL0_eq {β : Type} : ∀ (l : List AV) (K : List AV → Option β), forceL0 l K = K l
  | [], _ => rfl
  | c :: cs, K => by simp only [forceL0]; rw [force0_eq, forceL0_eq cs]
theorem force1_eq {β : Type} (v : AV) (K : AV → Option β) : force1 v K = K v := by cases v <;> simp only [force1, forceL0_eq, force0_eq]
theorem forceL1_eq {β : Type} : ∀ (l : List AV) (K : List AV → Option β), forceL1 l K = K l
  | [], _ => rfl
  | c :: cs, K => by simp only [forceL1]; rw [force1_eq, forceL1_eq cs]
theorem forceV_eq {β : Type} (v : AV) (K : AV → Option β) : forceV v K = K v := by cases v <;> simp only [forceV, forceL1_eq, force1_eq]
theorem forceU_eq {β : Type} : ∀ (l : List (Nat × Root)) (K : List (Nat × Root) → Option β), forceU l K = K l
  | [], _ => rfl
  | (r, ⟨ver, ty, sz, bx, st, xs⟩) :: l, K => by
    simp only [forceU]
    rw [forceN_eq, forceN_eq, forceN_eq]
    cases bx <;> cases st <;> simp only [forceB, forceSt, forceX, forceL1_eq] <;> rw [forceU_eq l]
theorem forceNs_eq {β : Type} : ∀ (l : List Nat) (K : List Nat → Option β), forceNs l K = K l
  | [], _ => rfl
  | c :: cs, K => by simp only [forceNs]; rw [forceNs_eq cs]
theorem forceE_eq {β : Type} (e : Eff) (K : Eff → Option β) : forceE e K = K e := by simp only [forceE, forceV_eq, forceU_eq, forceNs_eq]

theorem regK_trace : ∀ {l : List Oper} {i : Nat} {σ : St} {K : St → List (Nat × Fp) → Option β}, regK Γ ops l i σ K = some r → (∀ j o, l[j]? = some o → ops[i + j]? = some o) →
    ∃ σ' fs, K σ' fs = some r ∧ Trace Γ ops (List.range' i l.length) σ fs σ'
  | [], i, σ, K, h, _ => ⟨σ, [], h, .nil⟩
  | o :: l, i, σ, K, h, hl => by
    have ho : ops[i]? = some o := by simpa using hl 0 o rfl
    have hl' : ∀ j o', l[j]? = some o' → ops[i + 1 + j]? = some o' := fun j o' hj => by
      have := hl (j + 1) o' (by simpa using hj)
      rwa [show i + (j + 1) = i + 1 + j by omega] at this
    have fin : ∀ {e : Eff} {K' : St → List (Nat × Fp) → Option β}, Step Γ ops o σ e → (regK Γ ops l (i + 1) (σ.eff o.dst e) fun σ' fs => K σ' ((i, fpOf ops o e) :: fs)) = some r →
        ∃ σ' fs, K σ' fs = some r ∧ Trace Γ ops (List.range' i (o :: l).length) σ fs σ' := by
      intro e K' hs h
      obtain ⟨σ', fs, h1, h2⟩ := regK_trace h hl'
      refine ⟨σ', _, h1, ?_⟩
      rw [List.length_cons, List.range'_succ]
      exact .cons ho hs h2
    have goes : ∀ {σ1 : St}, σ1 = σ → (∀ e, opK Γ o σ some = some e → Step Γ ops o σ e) → (opK Γ o σ1 fun e => regK Γ ops l (i + 1) (σ1.eff o.dst e) fun σ' fs => K σ' ((i, fpOf ops o e) :: fs)) = some r →
        ∃ σ' fs, K σ' fs = some r ∧ Trace Γ ops (List.range' i (o :: l).length) σ fs σ' := by
      rintro σ1 rfl hs h
      obtain ⟨e, h1, h2⟩ := opK_inv h
      exact fin (K' := K) (hs e (h2 _ (fun _ _ => rfl) (fun _ _ => rfl) some)) h1
    simp only [regK, forceE_eq] at h
    split at h
    · rename_i hg
      exact goes rfl (fun e he => .plain hg he) h
    · rename_i g want hg
      split at h
      · rename_i s hsl
        split at h
        · rename_i b hb
          rcases br_some h with ⟨rfl, h⟩ | ⟨rfl, h⟩
          · cases want with
            | true => exact goes (setB_self hb) (fun e he => .go hg hsl hb he) h
            | false =>
              simp only [cond_false, setB_self hb] at h
              exact fin (K' := K) (.no hg hsl hb (by simp)) h
          · cases want with
            | false => exact goes (setB_self hb) (fun e he => .go hg hsl hb he) h
            | true =>
              simp only [cond_true, setB_self hb] at h
              exact fin (K' := K) (.no hg hsl hb (by simp)) h
        · cases h
      · cases h

def DstOk (N : Lim) (ops : Array Oper) : Prop := ∀ (i : Nat) (o : Oper) (t : Nat), ops[i]? = some o → o.dst = some t → N.ok t

theorem Trace.wp (hΓ : CtxOk Γ) (hd : DstOk N ops) : ∀ {l : List Nat} {σ : St} {fs : List (Nat × Fp)} {σ' : St} {a : Act} {w : World}, Trace Γ ops l σ fs σ' → Ok N S I0 w0 σ a w → (∀ a' w', Ok N S I0 w0 σ' a' w' → Q .normal a' w') → wpOps Γ.P ops Q l a w
  | [], _, _, _, a, w, .nil, hok, hq => hq a w hok
  | i :: l, σ, _, σ', a, w, .cons ho hs ht, hok, hq => by
    rw [wpOps_cons]
    exact step_ok hΓ ho (fun t => hd i _ t ho) hok hs (fun a' w' hok' => Trace.wp hΓ hd ht hok' hq)
end Go.Ai
