/- Part of the proofs: the verified interpreter for the program's functions, or lemmas on what they compute; no condition. -/
import Derived.Test.YtoocidelbmbgcaaOctetSealsBiBack
namespace Go.Ai
variable {N : Lim} {S I0 I I' J : Nat → Prop} {w0 w w' : World} {γ γ' : Nat → Hdr} {σ σ' : St} {a : Act} {Γ : Ctx} {o : Oper} {e : Eff} {P : Program} {β : Type} {r : β}

/-! ### Calls -/
theorem OutsOk_mono (hI : ∀ k, I k → I' k) : ∀ {ls : List Sh} {xs : List AV} {vs : List Value} {hss : List (List Hd)} {outs : List AV} {hs : List Hd}, OutsOk w I ls xs vs hss outs hs → OutsOk w I' ls xs vs hss outs hs
  | [], _, _, _, _, _, h => h
  | s :: ls, xs, vs, hss, outs, hs, h => by
    obtain ⟨x, xs', v, vs', l, hss', h1, h2, h3, h⟩ := h
    refine ⟨x, xs', v, vs', l, hss', h1, h2, h3, h.imp (fun k => ⟨k.1, OutsOk_mono hI k.2⟩) (fun k => ?_)⟩
    obtain ⟨k0, o, outs', b1, b2, k1, k2, k3, k4, k5⟩ := k
    exact ⟨k0, o, outs', b1, b2, k1, k2, RO_mono hI _ _ _ k3, k4, OutsOk_mono hI k5⟩
theorem OutsOk_flat : ∀ {ls : List Sh} {xs : List AV} {vs : List Value} {hss : List (List Hd)} {outs : List AV} {hs : List Hd}, outs.all flatAV = true → OutsOk w I ls xs vs hss outs hs → OutsOk w I' ls xs vs hss outs hs
  | [], _, _, _, _, _, _, h => h
  | s :: ls, xs, vs, hss, outs, hs, hf, h => by
    obtain ⟨x, xs', v, vs', l, hss', h1, h2, h3, h⟩ := h
    refine ⟨x, xs', v, vs', l, hss', h1, h2, h3, h.imp (fun k => ⟨k.1, OutsOk_flat hf k.2⟩) (fun k => ?_)⟩
    obtain ⟨k0, o, outs', b1, b2, rfl, k2, k3, k4, k5⟩ := k
    simp only [List.all_cons, Bool.and_eq_true] at hf
    exact ⟨k0, o, outs', b1, b2, rfl, k2, RO_flat _ _ _ hf.1 k3, k4, OutsOk_flat hf.2 k5⟩

theorem run_callFn {c : Call} {f : FuncId} {g : Operand} {us vs : List Value} (ho : o.op = .call c) (hc : c.callee = .value g) (hg : a.eval g = .func (.func f) us.toArray vs.toArray) :
    (execOp a.eval o).run P w = (callFunc f (us ++ c.args.toList.map a.eval ++ vs).toArray).run P w := by
  have he : us.toArray ++ c.args.map a.eval ++ vs.toArray = (us ++ c.args.toList.map a.eval ++ vs).toArray := by
    apply Array.ext'; simp
  simp only [execOp, ho, resolve, hc, hg, Deferred.ofValue]
  rw [← he]
  rfl

theorem goes_call {c : Call} {f : FuncId} {g : Operand} {us vs : List Value} (ho : o.op = .call c) (hc : c.callee = .value g) (hg : a.eval g = .func (.func f) us.toArray vs.toArray) {R : Value → World → Prop}
    (hf : Fires P f (us ++ c.args.toList.map a.eval ++ vs).toArray w R) (hok : ∀ v w', R v w' → Ok N S I0 w0 σ' (a.put o.dst v) w') :
    Goes P N S I0 w0 σ' o a w := by
  intro next Q hn
  unfold Oper.wp
  rw [run_callFn ho hc hg]
  rcases hf with ⟨v, w', h1, h2⟩ | ⟨h1, h2⟩
  · rw [h1]; exact hn _ _ (hok v w' h2)
  · rw [h1]
    rw [Oper.upon_enter]
    exact Calls.mono h2 (fun e w' he => by
      cases e with
      | returned v => exact hn _ _ (hok v w' he)
      | panicked _ => exact he.elim
      | outgrown => exact he.elim)

theorem freeze_keys {rs : List Nat} : ∀ z ∈ freezeUps σ rs, z.1 ∈ rs := freezeUps_keys rs
theorem goneUps_mem {rs : List Nat} : ∀ z ∈ goneUps σ rs, z.1 ∈ rs ∧ ∃ R, σ.L z.1 = some R ∧ z.2 = { R with st := .gone, xs := [] } := by
  induction rs with
  | nil => intro z hz; cases hz
  | cons q rs ih =>
    intro z hz
    unfold goneUps at hz
    split at hz
    · rename_i R hR
      rcases List.mem_cons.1 hz with rfl | hz
      · exact ⟨by simp, R, hR, rfl⟩
      · exact ⟨by simp [(ih z hz).1], (ih z hz).2⟩
    · exact ⟨by simp [(ih z hz).1], (ih z hz).2⟩
theorem goneUps_has {rs : List Nat} {q : Nat} {R : Root} (hq : q ∈ rs) (hR : σ.L q = some R) : q ∈ (goneUps σ rs).map (·.1) := by
  induction rs with
  | nil => cases hq
  | cons p rs ih =>
    unfold goneUps
    rcases List.mem_cons.1 hq with rfl | hq
    · rw [hR]; simp
    · split
      · exact List.mem_cons_of_mem _ (ih hq)
      · exact ih hq
theorem goneUps_nodup : ∀ {rs : List Nat}, rs.Nodup → ((goneUps σ rs).map (·.1)).Nodup
  | [], _ => List.nodup_nil
  | q :: rs, h => by
    obtain ⟨h1, h2⟩ := List.nodup_cons.1 h
    unfold goneUps
    split
    · refine List.nodup_cons.2 ⟨fun hm => ?_, goneUps_nodup h2⟩
      obtain ⟨z, hz, e⟩ := List.mem_map.1 hm
      have hm2 := (goneUps_mem z hz).1
      rw [show z.1 = q from e] at hm2
      exact h1 hm2
    · exact goneUps_nodup h2

def hdrOf (Z : List Ent) (γ : Nat → Hdr) : Nat → Hdr := fun q => match Z.find? (fun z => z.1.1 == q) with | some z => z.2 | none => γ q
theorem hdrOf_not {Z : List Ent} {q : Nat} (h : q ∉ Z.map (·.1.1)) : hdrOf Z γ q = γ q := by
  unfold hdrOf
  have : Z.find? (fun z => z.1.1 == q) = none := by
    rw [List.find?_eq_none]
    intro z hz he
    exact h (List.mem_map.2 ⟨z, hz, by simpa using he⟩)
  rw [this]
theorem hdrOf_mem : ∀ {Z : List Ent}, (Z.map (·.1.1)).Nodup → ∀ z ∈ Z, hdrOf Z γ z.1.1 = z.2
  | [], _, z, hz => by cases hz
  | y :: Z, hn, z, hz => by
    obtain ⟨h1, h2⟩ := List.nodup_cons.1 hn
    rcases List.mem_cons.1 hz with rfl | hz
    · simp [hdrOf]
    · have hne : (y.1.1 == z.1.1) = false := by
        rw [beq_eq_false_iff_ne]
        intro e
        exact h1 (List.mem_map.2 ⟨z, hz, e.symm⟩)
      have := hdrOf_mem h2 z hz
      unfold hdrOf at this ⊢
      rw [List.find?_cons, hne]
      exact this
theorem blks_mem {Z : List Ent} {z : Ent} {hd : Hd} (hz : z ∈ Z) (h : z.2 = some hd) : hd ∈ blks Z := List.mem_filterMap.2 ⟨z, hz, h⟩
theorem blks_sep : ∀ {Z : List Ent}, ((blks Z).map (·.1)).Nodup → ∀ z ∈ Z, ∀ z' ∈ Z, z.1.1 ≠ z'.1.1 → ∀ b o c o' c', z.2 = some (b, o, c) → z'.2 ≠ some (b, o', c')
  | [], _, z, hz, _, _, _, _, _, _, _, _, _, _ => by cases hz
  | y :: Z, hn, z, hz, z', hz', hne, b, o, c, o', c', h1, h2 => by
    have hrest : ((blks Z).map (·.1)).Nodup := by
      unfold blks at hn ⊢
      rw [List.filterMap_cons] at hn
      split at hn
      · exact hn
      · exact (List.nodup_cons.1 hn).2
    have inZ : ∀ {u : Ent} {x y' : Nat}, u ∈ Z → u.2 = some (b, x, y') → b ∈ (blks Z).map (·.1) := fun hu he => List.mem_map.2 ⟨_, blks_mem hu he, rfl⟩
    have hd : ∀ {x y' : Nat}, y.2 = some (b, x, y') → b ∉ (blks Z).map (·.1) := fun he => by
      unfold blks at hn ⊢
      rw [List.filterMap_cons, he] at hn
      exact (List.nodup_cons.1 hn).1
    rcases List.mem_cons.1 hz with e1 | hz1 <;> rcases List.mem_cons.1 hz' with e2 | hz2
    · exact hne (by rw [e1, e2])
    · exact hd (e1 ▸ h1) (inZ hz2 h2)
    · exact hd (e2 ▸ h2) (inZ hz1 h1)
    · exact blks_sep hrest z hz1 z' hz2 hne b o c o' c' h1 h2

/-- What a call leaves. -/
theorem call_end (hs : Sim N S I0 w0 γ I σ a w) (hy : Young σ) {rs us : List Nat} {hh : List Hd} (hst : Stand σ rs) (hun : Units σ γ us hh) (hndu : us.Nodup) (hdj : ∀ q ∈ rs, q ∉ us)
    (hfr : Fr (· ∈ hh.map (·.1)) w w') (hJ : ∀ k, Ix γ I rs k → J k) (hJ2 : ∀ k, J k → k < w'.heap.size ∧ (Ix γ I rs k ∨ w.heap.size ≤ k ∨ k ∈ hh.map (·.1)))
    {Z : List Ent} {bs : List Hd} (hB : Back w' J σ γ Z bs) (hnd : (bs.map (·.1)).Nodup) (hbs : ∀ b ∈ bs.map (·.1), ¬ J b ∧ (w.heap.size ≤ b ∨ b ∈ hh.map (·.1)))
    (hnames : (Z.map (·.1.1)).Nodup) (hdz : ∀ q ∈ rs, q ∉ Z.map (·.1.1)) :
    Sim N S I0 w0 (hdrOf Z γ) J ((σ.ups (freezeUps σ rs)).ups (goneUps σ (without us (Z.map (·.1.1))) ++ Z.map (·.1))) a w' ∧ Young ((σ.ups (freezeUps σ rs)).ups (goneUps σ (without us (Z.map (·.1.1))) ++ Z.map (·.1))) ∧
      Ag ((σ.ups (freezeUps σ rs)).ups (goneUps σ (without us (Z.map (·.1.1))) ++ Z.map (·.1))).L (hdrOf Z γ) Z := by
  obtain ⟨f1, f2⟩ := freeze_st hs hy hst
  generalize hl2 : goneUps σ (without us (Z.map (·.1.1))) ++ Z.map (·.1) = l2
  have hkeys : Z.map (·.1.1) = (Z.map (·.1)).map (·.1) := by simp
  have hwo : ∀ q, q ∈ without us (Z.map (·.1.1)) ↔ q ∈ us ∧ q ∉ Z.map (·.1.1) := by
    intro q
    simp [without]
  have hmem : ∀ q R, (q, R) ∈ l2 → (q ∈ us ∧ q ∉ Z.map (·.1.1) ∧ ∃ R1, σ.L q = some R1 ∧ R = { R1 with st := .gone, xs := [] }) ∨ ∃ h, ((q, R), h) ∈ Z := by
    intro q R hq
    rw [← hl2] at hq
    rcases List.mem_append.1 hq with hq | hq
    · obtain ⟨k1, k2⟩ := goneUps_mem _ hq
      exact .inl ⟨((hwo q).1 k1).1, ((hwo q).1 k1).2, k2⟩
    · obtain ⟨z, hz, e⟩ := List.mem_map.1 hq
      exact .inr ⟨z.2, by rw [← e]; exact hz⟩
  have hnot : ∀ q, q ∉ l2.map (·.1) → q ∉ Z.map (·.1.1) ∧ (∀ R, q ∈ us → σ.L q = some R → False) := by
    intro q hq
    rw [← hl2, List.map_append, List.mem_append] at hq
    have h1 : q ∉ Z.map (·.1.1) := fun hm => hq (.inr (by rw [← hkeys]; exact hm))
    exact ⟨h1, fun R hqu hR => hq (.inl (goneUps_has ((hwo q).2 ⟨hqu, h1⟩) hR))⟩
  have hndl : (l2.map (·.1)).Nodup := by
    rw [← hl2, List.map_append, List.nodup_append]
    refine ⟨goneUps_nodup (hndu.filter _), by rw [← hkeys]; exact hnames, fun x hx y hy' e => ?_⟩
    subst e
    obtain ⟨z, hz, e⟩ := List.mem_map.1 hx
    have := (hwo z.1).1 (goneUps_mem z hz).1
    rw [← hkeys] at hy'
    rw [e] at this
    exact this.2 hy'
  have hsig : ∀ q, q ∉ rs → (σ.ups (freezeUps σ rs)).L q = σ.L q := fun q hq => freeze_other hq
  have hAg : Ag ((σ.ups (freezeUps σ rs)).ups l2).L (hdrOf Z γ) Z := fun z hz => by
    refine ⟨?_, hdrOf_mem hnames z hz⟩
    exact ups_get l2 _ hndl z.1 (by rw [← hl2]; exact List.mem_append_right _ (List.mem_map.2 ⟨z, hz, rfl⟩))
  -- a lent block
  have hlent : ∀ b, b ∈ hh.map (·.1) → ∃ q ∈ us, ∃ R o c, σ.L q = some R ∧ R.st = .live ∧ γ q = some (b, o, c) := fun b hb => hun.mem b hb
  have hlx : ∀ b, b ∈ hh.map (·.1) → ¬ Ix γ I rs b ∧ (w0.heap.size ≤ b ∨ S b) := by
    intro b hb
    obtain ⟨q, hq, R, o', c', k1, k2, k3⟩ := hlent b hb
    refine ⟨?_, (hs.live q R b o' c' k1 k2 k3).2⟩
    rintro (hI | ⟨q2, hq2, o2, c2, hg2⟩)
    · exact (hs.live q R b o' c' k1 k2 k3).1 hI
    · obtain ⟨R2, j1, j2, _⟩ := hst q2 hq2
      have hne : q ≠ q2 := fun e => hdj q2 hq2 (e ▸ hq)
      cases e : R2.st with
      | live => exact hs.sep q q2 R R2 b o' c' o2 c2 hne k1 j1 k2 e k3 hg2
      | still => exact (hs.live q R b o' c' k1 k2 k3).1 (hs.still q2 R2 b o2 c2 j1 e hg2)
      | gone => exact j2 e
  have hother : ∀ q R b o' c', q ∉ l2.map (·.1) → (σ.ups (freezeUps σ rs)).L q = some R → R.st ≠ .gone → γ q = some (b, o', c') → b ∉ hh.map (·.1) := by
    intro q R b o' c' hq hR hst' hg hb
    obtain ⟨q0, hq0, R0, o0, c0, k1, k2, k3⟩ := hlent b hb
    have hne : q0 ≠ q := by
      rintro rfl
      exact (hnot q0 hq).2 R0 hq0 k1
    have hq0r : q0 ∉ rs := fun hm => hdj q0 hm hq0
    have k1' := (hsig q0 hq0r).trans k1
    cases e : R.st with
    | live => exact f1.sep q0 q R0 R b o0 c0 o' c' hne k1' hR k2 e k3 hg
    | still => exact (f1.live q0 R0 b o0 c0 k1' k2 k3).1 (f1.still q R b o' c' hR e hg)
    | gone => exact hst' e
  have T : Turn S I0 w0 γ (Ix γ I rs) (σ.ups (freezeUps σ rs)) w l2 (hdrOf Z γ) J w' (· ∈ hh.map (·.1)) := by
    refine ⟨hndl, fun q hq => hdrOf_not (hnot q hq).1, hfr, hJ, fun k hk => ?_, hlx, hother, fun q R b o' c' hq hR hlv hg hJb => ?_, fun q R hq R0 hR0 => ?_, fun q R hq hst' => ?_, fun q R b o' c' hq hlv hg => ?_, fun q R b o' c' hq hstl hg => ?_,
      fun q R q' R' b o1 c1 o2 c2 hq hq' hne hlv hlv' hg hg' => ?_, fun q R q' R' b o1 c1 o2 c2 hq hq' hR' hlv hlv' hg hg' => ?_, fun q R x r' v hq hb hx hr => ?_⟩
    · obtain ⟨k1, k2⟩ := hJ2 k hk
      refine ⟨k1, ?_⟩
      rcases k2 with k2 | k2 | k2
      · exact .inl k2
      · exact .inr (.inr (.inl (Nat.le_trans hs.frame.size k2)))
      · exact .inr (.inr (hlx k k2).2)
    · rcases (hJ2 b hJb).2 with k | k | k
      · exact (f1.live q R b o' c' hR hlv hg).1 k
      · have := f1.root_block hR (by rw [hlv]; simp) hg
        omega
      · exact hother q R b o' c' hq hR (by rw [hlv]; simp) hg k
    · rcases hmem q R hq with ⟨hqu, _, R1, k1, rfl⟩ | ⟨h, hz⟩
      · have : q ∉ rs := fun hm => hdj q hm hqu
        rw [hsig q this, k1] at hR0
        injection hR0 with hR0; subst hR0
        exact .inr ⟨rfl, fun hne => absurd rfl hne⟩
      · have hqr : q ∉ rs := fun hm => hdz q hm (List.mem_map.2 ⟨_, hz, rfl⟩)
        rw [hsig q hqr] at hR0
        rcases hB.ok _ hz with ⟨_, hv⟩ | ⟨R2, k1, k2, k3, hk⟩
        · left
          have := next_lt (σ := σ) R0 hR0
          simp only [] at hv
          omega
        · simp only [] at k1
          rw [k1] at hR0; injection hR0 with hR0; subst hR0
          refine .inr ⟨k3, fun hne => ?_⟩
          rcases hk with ⟨_, j2, j3, j4⟩ | ⟨j1, _⟩
          · exact ⟨by rw [k2]; simp, j2, j3, (hdrOf_mem hnames _ hz).trans j4⟩
          · exact absurd j1 hne
    · rcases hmem q R hq with ⟨_, _, R1, _, rfl⟩ | ⟨h, hz⟩
      · exact absurd rfl hst'
      · have hlv : R.st = .live := by
          rcases hB.ok _ hz with ⟨k, _⟩ | ⟨_, _, _, _, ⟨k, _⟩ | ⟨k, _⟩⟩
          · exact k
          · exact k
          · exact absurd k hst'
        rw [hdrOf_mem hnames _ hz]
        exact hB.root _ _ hAg _ hz hlv
    · rcases hmem q R hq with ⟨_, _, R1, _, rfl⟩ | ⟨h, hz⟩
      · simp at hlv
      · rw [hdrOf_mem hnames _ hz] at hg
        have hin := hB.sub.subset (blks_mem hz hg)
        obtain ⟨k1, k2⟩ := hbs b (List.mem_map.2 ⟨_, hin, rfl⟩)
        refine ⟨k1, ?_⟩
        rcases k2 with k2 | k2
        · exact .inl (Nat.le_trans hs.frame.size k2)
        · exact (hlx b k2).2
    · rcases hmem q R hq with ⟨_, _, R1, _, rfl⟩ | ⟨h, hz⟩
      · simp at hstl
      · rcases hB.ok _ hz with ⟨k, _⟩ | ⟨_, _, _, _, ⟨k, _⟩ | ⟨k, _⟩⟩ <;> simp only [] at k <;> rw [k] at hstl <;> cases hstl
    · rcases hmem q R hq with ⟨_, _, R1, _, rfl⟩ | ⟨h, hz⟩
      · simp at hlv
      · rcases hmem q' R' hq' with ⟨_, _, R1, _, rfl⟩ | ⟨h', hz'⟩
        · simp at hlv'
        · rw [hdrOf_mem hnames _ hz] at hg
          rw [hdrOf_mem hnames _ hz'] at hg'
          exact blks_sep ((hB.sub.map _).nodup hnd) _ hz _ hz' hne b o1 c1 o2 c2 hg hg'
    · rcases hmem q R hq with ⟨_, _, R1, _, rfl⟩ | ⟨h, hz⟩
      · simp at hlv
      · rw [hdrOf_mem hnames _ hz] at hg
        have hin := hB.sub.subset (blks_mem hz hg)
        rcases (hbs b (List.mem_map.2 ⟨_, hin, rfl⟩)).2 with k | k
        · have := f1.root_block hR' (by rw [hlv']; simp) hg'
          omega
        · exact hother q' R' b o2 c2 hq' hR' (by rw [hlv']; simp) hg' k
    · rcases hmem q R hq with ⟨_, _, R1, _, rfl⟩ | ⟨h, hz⟩
      · simp at hx
      · obtain ⟨z', hz', e1, e2⟩ := hB.rb _ hz x r' v hb hx hr
        refine ⟨z'.1.2, ?_, by omega⟩
        rw [← e1]
        exact (hAg z' hz').1
  obtain ⟨g1, g2⟩ := f1.many f2 T
  exact ⟨g1, g2, hAg⟩
end Go.Ai
