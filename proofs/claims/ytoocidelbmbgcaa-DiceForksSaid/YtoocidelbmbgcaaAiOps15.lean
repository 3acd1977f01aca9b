/- Part of the proofs: the verified interpreter for the program's functions, or lemmas on what they compute; no condition. -/
import Derived.Test.YtoocidelbmbgcaaAiOps14
namespace Go.Ai
variable {N : Lim} {S I0 I I' : Nat → Prop} {w0 w w' : World} {γ γ' : Nat → Hdr} {σ σ' : St} {a : Act} {Γ : Ctx} {o : Oper} {e : Eff} {P : Program} {β : Type} {r : β}

theorem run_callFn {c : Call} {f : FuncId} (ho : o.op = .call c) (hc : c.callee = .value (.func f)) : (execOp a.eval o).run P w = (callFunc f (c.args.map a.eval)).run P w := by
  simp [execOp, ho, resolve, hc, invoke, Act.eval, Deferred.ofValue]

theorem goes_call {c : Call} {f : FuncId} (ho : o.op = .call c) (hc : c.callee = .value (.func f)) {R : Value → World → Prop} (hf : Fires P f (c.args.map a.eval) w R) (hok : ∀ v w', R v w' → Ok N S I0 w0 σ' (a.put o.dst v) w') :
    Goes P N S I0 w0 σ' o a w := by
  intro next Q hn
  unfold Oper.wp
  rw [run_callFn ho hc]
  rcases hf with ⟨v, w', h1, h2⟩ | ⟨h1, h2⟩
  · rw [h1]; exact hn _ _ (hok v w' h2)
  · rw [h1]
    rw [Oper.upon_enter]
    exact Calls.mono h2 (fun e w' he => by
      cases e with
      | returned v => exact hn _ _ (hok v w' he)
      | panicked _ => exact he.elim
      | outgrown => exact he.elim)

theorem BoxRoots.of_other {σ1 : St} : ∀ {bs bls : List Nat}, BoxRoots σ γ bs bls → (∀ q ∈ bs, σ1.L q = σ.L q) → BoxRoots σ1 γ bs bls
  | [], _, h, _ => h
  | q :: bs, bls, h, hq => by
    obtain ⟨b, bls', rfl, ⟨R, x, h1, h2⟩, h6⟩ := h
    exact ⟨b, bls', rfl, ⟨R, x, by rw [hq q (by simp)]; exact h1, h2⟩, h6.of_other (fun q' hq' => hq q' (by simp [hq']))⟩

theorem outsK_some : ∀ {bs bls : List Nat} {outs : List AV} {K : List (Nat × Root) → Option β}, BoxRoots σ γ bs bls → OutsOk w' I' outs bls → outsK Γ σ bs outs K = some r →
    ∃ ups, K ups = some r ∧ ups.map (·.1) = bs ∧ UpsOk σ γ w' I' ups bls
  | [], bls, outs, K, hb, ho, h => by
    simp only [BoxRoots] at hb; subst hb
    simp only [outsK] at h
    obtain ⟨_, h⟩ := nlK_some h
    exact ⟨[], h, rfl, rfl⟩
  | q :: bs, bls, outs, K, hb, ho, h => by
    obtain ⟨b, bls', rfl, ⟨R, x, h1, h2, h3, h4, h5⟩, h6⟩ := hb
    simp only [outsK] at h
    obtain ⟨y, ys, rfl, h⟩ := hdK_some h
    obtain ⟨b', bs', e, o1, o2, o3⟩ := ho
    injection e with e1 e2; subst e1; subst e2
    rw [h1] at h
    obtain ⟨ti, hti, h⟩ := tyK_some h
    obtain ⟨y', hs, h⟩ := fitK_some h
    obtain ⟨hw, h⟩ := cond_some h
    have hw := Nat.eq_of_beq_eq_true hw
    obtain ⟨ups, k1, k2, k3⟩ := outsK_some h6 o3 h
    refine ⟨_, k1, by simp [k2], b, _, rfl, ⟨R, h1, h2, h5, rfl, h2, rfl, by simp [h4], ?_⟩, k3⟩
    obtain ⟨⟨u, v1, v2, v3⟩, _⟩ := o2
    rw [← hs.1] at o1
    exact ⟨by simp, ⟨⟨u, hs.2.2 _ _ _ v1, hw, v3⟩, trivial⟩, by simpa [hw] using o1, fun _ => ⟨rfl, rfl⟩⟩

theorem UpsOk.mono (hI : ∀ k, I k → I' k) : ∀ {ups : List (Nat × Root)} {bls : List Nat}, UpsOk σ γ w' I ups bls → UpsOk σ γ w' I' ups bls
  | [], _, h => h
  | (q, R') :: ups, bls, h => by
    obtain ⟨b, bls', rfl, ⟨R, h1, h2, h3, h4, h5, h6, h7, h8⟩, h9⟩ := h
    exact ⟨b, bls', rfl, ⟨R, h1, h2, h3, h4, h5, h6, h7, h8.move hI (fun _ _ => rfl) (fun _ _ _ _ => rfl)⟩, h9.mono hI⟩
theorem UpsOk.of_other {σ1 : St} : ∀ {ups : List (Nat × Root)} {bls : List Nat}, UpsOk σ γ w' I ups bls → (∀ z ∈ ups, σ1.L z.1 = σ.L z.1) → UpsOk σ1 γ w' I ups bls
  | [], _, h, _ => h
  | (q, R') :: ups, bls, h, hq => by
    obtain ⟨b, bls', rfl, ⟨R, h1, h2⟩, h9⟩ := h
    exact ⟨b, bls', rfl, ⟨R, (hq (q, R') (by simp)).trans h1, h2⟩, h9.of_other (fun z hz => hq z (by simp [hz]))⟩
theorem RIs_flat : ∀ (xs : List AV) (b o sz : Nat), flatL xs = true → RIs w I xs b o sz → RIs w I' xs b o sz
  | [], _, _, _, _, _ => trivial
  | x :: xs, b, o, sz, hf, h => by
    simp only [flatL, Bool.and_eq_true] at hf
    obtain ⟨⟨u, h1, h2, h3⟩, h4⟩ := h
    exact ⟨⟨u, RI_flat (w := w) (I := I) _ _ hf.1 h1, h2, h3⟩, RIs_flat xs b (o + sz) sz hf.2 h4⟩
theorem UpsOk.flat : ∀ {ups : List (Nat × Root)} {bls : List Nat}, (∀ z ∈ ups, flatL z.2.xs = true) → UpsOk σ γ w' I ups bls → UpsOk σ γ w' I' ups bls
  | [], _, _, h => h
  | (q, R') :: ups, bls, hf, h => by
    obtain ⟨b, bls', rfl, ⟨R, h1, h2, h3, h4, h5, h6, h7, h8⟩, h9⟩ := h
    obtain ⟨j1, j2, j3, j4⟩ := h8
    exact ⟨b, bls', rfl, ⟨R, h1, h2, h3, h4, h5, h6, h7, ⟨j1, RIs_flat _ _ _ _ (hf (q, R') (by simp)) j2, j3, j4⟩⟩, h9.flat (fun z hz => hf z (by simp [hz]))⟩

theorem freeze_keys {rs : List Nat} : ∀ z ∈ freezeUps σ rs, z.1 ∈ rs := by
  induction rs with
  | nil => intro z hz; cases hz
  | cons q rs ih =>
    intro z hz
    unfold freezeUps at hz
    split at hz
    · rcases List.mem_cons.1 hz with rfl | hz
      · simp
      · simp [ih z hz]
    · simp [ih z hz]

theorem Fr.weaken {S' : Nat → Prop} {w1 : World} (h : Fr S w1 w') (hS : ∀ k, S k → S' k) : Fr S' w1 w' := ⟨h.os, h.tape, h.output, h.size, fun k hk hn => h.block k hk (fun hs => hn (hS k hs))⟩

theorem RV_res {L : Nat → Option Root} {x : AV} {u : Value} (h : RT w I x u) : RV L γ w I x u := by
  cases x with
  | tup cs => exact h
  | _ => exact RV_data h
theorem refers_res {x : AV} {u : Value} (h : RT w I x u) (q v : Nat) : ¬ refers x q v := by
  cases x with
  | tup cs => exact fun k => k.elim
  | _ => exact refers_data h q v
theorem ResOk.data {w1 : World} {x : AV} {u : Value} (h : ResOk w1 w' I x u) (hx : ∀ xs, x ≠ .box xs) : RT w' I x u := by
  cases x with
  | box xs => exact absurd rfl (hx xs)
  | _ => exact h

theorem op_call (hΓ : CtxOk Γ) (hs : Sim N S I0 w0 γ I σ a w) (hy : Young σ) (hd : ∀ t, o.dst = some t → N.ok t) {c : Call} (ho : o.op = .call c) {f : FuncId} (hc : c.callee = .value (.func f)) (h : opK Γ o σ some = some e) :
    Goes Γ.P N S I0 w0 (σ.eff o.dst e) o a w := by
  simp only [opK, ho, hc] at h
  split at h
  case h_2 => cases h
  rename_i con hcon
  have hsound := hΓ.fn f con hcon
  obtain ⟨args, rs, bs, bls, h, hargs, hst, hbx⟩ := argsK_some hs (vals_of hs c.args.toList) h
  obtain ⟨hcc, h⟩ := cond_some h
  simp only [Bool.and_eq_true] at hcc
  have hnd := distinct_nodup hcc.1
  have hdj := disj_not hcc.2
  obtain ⟨res, outs, hF, h⟩ := conG_some h
  have hlt := Ix_lt hs hst
  have hbls : ∀ b ∈ bls, ¬ Ix γ I rs b ∧ b < w.heap.size := by
    intro b hb
    obtain ⟨q, hq, R, x, k1, k2, k3, k4, k5⟩ := hbx.mem b hb
    refine ⟨?_, hs.root_block k1 (by rw [k2]; simp) k5⟩
    rintro (hI | ⟨q', hq', o', c', hg⟩)
    · exact (hs.live q R b 0 1 k1 k2 k5).1 hI
    · obtain ⟨R', j1, j2⟩ := hst q' hq'
      have hne : q ≠ q' := fun e => hdj q' hq' (e ▸ hq)
      cases e : R'.st with
      | live => exact hs.sep q q' R R' b 0 1 o' c' hne k1 j1 k2 e k5 hg
      | still => exact (hs.live q R b 0 1 k1 k2 k5).1 (hs.still q' R' b o' c' j1 e hg)
      | gone => exact j2 e
  have hfire := hsound args res outs hF w (c.args.toList.map a.eval) bls (Ix γ I rs) hargs hlt (hbx.nodup hs hnd) hbls
  have hvs : (c.args.toList.map a.eval).toArray = c.args.map a.eval := by
    apply Array.ext'; simp
  rw [hvs] at hfire
  refine goes_call ho hc hfire ?_
  rintro u w' ⟨I', hres, houts, hfr, hI'1, hI'2⟩
  obtain ⟨ups, h, hkeys, hups⟩ := outsK_some (σ := σ) hbx houts h
  have hself : ∀ z ∈ ups, z.1 ∈ bs := fun z hz => by rw [← hkeys]; exact List.mem_map.2 ⟨z, hz, rfl⟩
  -- what was lent is plain data from now on
  have frozen : Sim N S I0 w0 γ (fun k => Ix γ I rs k ∨ I' k) ((σ.ups (freezeUps σ rs)).ups ups) a w' ∧ Young ((σ.ups (freezeUps σ rs)).ups ups) := by
    obtain ⟨f1, f2⟩ := freeze_st hs hy hst
    refine f1.boxes f2 ((hups.mono (fun k hk => .inr hk)).of_other (fun z hz => freeze_other (fun hm => hdj z.1 hm (hself z hz)))) (by rw [hkeys]; exact hnd) (fun k hk => .inl hk) hfr (fun k hk => ?_) (fun b hb hk => ?_)
    · rcases hk with hk | hk
      · exact ⟨.inl hk, Nat.lt_of_lt_of_le (hlt k hk) hfr.size⟩
      · exact hI'1 k hk
    · rcases hk with hk | hk
      · exact (hbls b hb).1 hk
      · exact hI'2 b hb hk
  split at h
  · -- plain data comes back
    rename_i s hs'
    obtain ⟨res', hsame, h⟩ := fitK_res h
    injection h with h; subst h
    have hnb : ∀ xs, res ≠ .box xs := by
      rintro xs rfl
      cases s <;> simp only [fitK] at h <;> cases h
    have hrt := hsame _ _ _ (hres.data hnb)
    cases hfl : (flatAV res' && ups.all (fun q => flatL q.2.xs)) with
    | true =>
      simp only [cond_true, List.nil_append]
      simp only [Bool.and_eq_true, List.all_eq_true] at hfl
      have hbI : ∀ b ∈ bls, ¬ I b := fun b hb hk => (hbls b hb).1 (.inl hk)
      obtain ⟨g1, g2⟩ := hs.boxes hy (hups.flat hfl.2) (by rw [hkeys]; exact hnd) (fun k hk => hk) hfr (fun k hk => ⟨.inl hk, Nat.lt_of_lt_of_le (hs.imm k hk) hfr.size⟩) hbI
      exact ⟨γ, I, g1.slot (d := o.dst) hd (RV_res (RT_flat hfl.1 hrt)), g2.slot (d := o.dst) (fun q v hr => absurd hr (refers_res hrt q v))⟩
    | false =>
      simp only [cond_false]
      obtain ⟨g1, g2⟩ := frozen
      rw [← ups_append] at g1 g2
      exact ⟨γ, _, g1.slot (d := o.dst) hd (RV_res (RT_mono (fun k hk => .inr hk) (fun _ _ => rfl) hrt)), g2.slot (d := o.dst) (fun q v hr => absurd hr (refers_res hrt q v))⟩
  · -- a pointer to a box of its own comes back
    rename_i s hs'
    obtain ⟨cs, rfl, h⟩ := fitX_some h
    obtain ⟨c1, cs', rfl, h⟩ := hdK_some h
    obtain ⟨rfl, h⟩ := nlK_some h
    obtain ⟨x, hsame, h⟩ := fitK_some h
    obtain ⟨d, hdst, h⟩ := dstK_some h
    obtain ⟨ti, hti, h⟩ := tyK_some h
    split at h
    case h_2 => cases h
    obtain ⟨ei, hei, h⟩ := tyK_some h
    obtain ⟨hcc2, h⟩ := cond_some h
    simp only [Bool.and_eq_true] at hcc2
    have hw : x.width = ei.size := Nat.eq_of_beq_eq_true hcc2.1.1
    have hn1 := mem_contains hcc2.1.2
    have hn2 := mem_contains hcc2.2
    injection h with h; subst h
    obtain ⟨b, ⟨x1, hx1, hu, hfree, hrow⟩, hge, hnI⟩ := hres
    injection hx1 with hx1 _; subst hx1
    obtain ⟨g1, g2⟩ := frozen
    have hnext : ((σ.ups (freezeUps σ rs)).ups ups).next d = σ.next d := by
      simp only [St.next]
      rw [ups_ne ups (q := d) _ (fun z hz e => hn2 (by rw [← e]; exact hself z hz)), freeze_other hn1]
    obtain ⟨⟨u1, v1, v2, v3⟩, _⟩ := hrow
    obtain ⟨t1, t2⟩ := g1.take g2 (d := d) (R' := ⟨σ.next d, _, ei.size, true, .live, [x]⟩) (b := b) (of := 0) (cap := 1) (p := 0) (us := []) (w' := w') hnext.symm rfl (fun hk => by
        rcases hk with hk | hk
        · have := hlt b hk; omega
        · exact hnI hk)
      (.inl (Nat.le_trans hs.frame.size hge))
      (fun q Q o' c' hne hQ hlQ hg => by
        have : b < w.heap.size := by
          by_cases hq : ∃ z ∈ ups, z.1 = q
          · obtain ⟨z, hz, rfl⟩ := hq
            obtain ⟨b', hb', R, k1, k2, k3, _⟩ := hups.mem.1 z hz
            exact hs.root_block k1 (by rw [k2]; simp) hg
          · rw [ups_ne ups (q := q) _ (fun z hz e => hq ⟨z, hz, e⟩)] at hQ
            by_cases hq2 : q ∈ rs
            · obtain ⟨R, k1, k2⟩ := hst q hq2
              exact hs.root_block k1 k2 hg
            · rw [freeze_other hq2] at hQ
              exact hs.root_block hQ (by rw [hlQ]; simp) hg
        omega)
      (.inl rfl)
      ⟨by simp, ⟨⟨u1, hsame.2.2 _ _ _ (RI_mono (fun k hk => .inr hk) (fun _ _ => rfl) _ _ v1), hw, v3⟩, trivial⟩, by rw [← hw, hsame.1]; simpa using hfree, fun _ => ⟨rfl, rfl⟩⟩
    refine ⟨setAt γ d (some (b, 0, 1)), fun k => Ix γ I rs k ∨ I' k, ?_⟩
    simp only [St.eff, ups_append, St.ups]
    refine ⟨t1.slot (d := o.dst) hd ?_, t2.slot (d := o.dst) (refers_new (fun q v hq => ⟨hq.1.symm, hq.2.symm⟩))⟩
    rw [hu]
    exact RV_newLoc (by simp)
end Go.Ai
