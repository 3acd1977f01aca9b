/- Part of the proofs: the verified interpreter for the program's functions, or lemmas on what they compute; no condition. -/
import Derived.Test.YtoocidelbmbgcaaOctetSealsBiOps15
namespace Go.Ai
variable {N : Lim} {S I0 I I' J : Nat → Prop} {w0 w w' : World} {γ γ' : Nat → Hdr} {σ σ' : St} {a : Act} {Γ : Ctx} {o : Oper} {e : Eff} {P : Program} {β : Type} {r : β}

theorem args_vals (hs : Sim N S I0 w0 γ I σ a w) : ∀ l : List Operand, All2 (RV σ.L γ w I) (l.map (opd σ)) (l.map a.eval)
  | [] => rfl
  | x :: l => ⟨_, _, rfl, RV_opd hs x, args_vals hs l⟩
theorem callEnd_some {rs us : List Nat} {ups : List (Nat × Root)} {K : List (Nat × Root) → Option β} (h : callEnd σ rs us ups K = some r) :
    (ups.map (·.1)).Nodup ∧ (∀ q ∈ rs, q ∉ ups.map (·.1)) ∧ K (freezeUps σ rs ++ (goneUps σ (without us (ups.map (·.1))) ++ ups)) = some r := by
  unfold callEnd at h
  obtain ⟨hc, h⟩ := cond_some h
  simp only [Bool.and_eq_true] at hc
  exact ⟨distinct_nodup hc.1, disj_not hc.2, h⟩

theorem op_call (hΓ : CtxOk Γ) (hs : Sim N S I0 w0 γ I σ a w) (hy : Young σ) (hd : ∀ t, o.dst = some t → N.ok t) {c : Call} (ho : o.op = .call c) {g : Operand} (hc : c.callee = .value g) (h : opK Γ o σ some = some e) :
    Goes Γ.P N S I0 w0 (σ.eff o.dst e) o a w := by
  have hgv := RV_opd hs g
  simp only [opK, ho, hc] at h
  split at h
  case h_2 => cases h
  rename_i f l m hg
  rw [hg] at hgv
  obtain ⟨us1, vs1, hgv, hl1, hm1⟩ := hgv
  split at h
  case h_2 => cases h
  rename_i con hcon
  have hsound := hΓ.fn f con hcon
  have hvals : All2 (RV σ.L γ w I) (l ++ c.args.toList.map (opd σ) ++ m) (us1 ++ c.args.toList.map a.eval ++ vs1) :=
    ((hl1.imp (fun c _ u hcu => RV_of1 hcu)).append (args_vals hs _)).append (hm1.imp (fun c _ u hcu => RV_of1 hcu))
  generalize l ++ c.args.toList.map (opd σ) ++ m = xs at *
  obtain ⟨args, rs, us, hss, h, hargs, hst, hun, hla⟩ := closeA_some hs con.pars hvals h
  obtain ⟨hcc, h⟩ := cond_some h
  simp only [Bool.and_eq_true] at hcc
  have hnd := distinct_nodup hcc.1
  have hdj := disj_not hcc.2
  obtain ⟨res, outs, hF, h⟩ := conG_some h
  obtain ⟨res', hsame, h⟩ := fitK_some h
  have hlt := Ix_lt hs hst
  have hblk : ∀ b ∈ hblocks hss, ¬ Ix γ I rs b ∧ b < w.heap.size := by
    intro b hb
    obtain ⟨q, hq, R, o', c', k1, k2, k3⟩ := hun.mem b hb
    refine ⟨?_, hs.root_block k1 (by rw [k2]; simp) k3⟩
    rintro (hI | ⟨q', hq', o2, c2, hg2⟩)
    · exact (hs.live q R b o' c' k1 k2 k3).1 hI
    · obtain ⟨R', j1, j2, _⟩ := hst q' hq'
      have hne : q ≠ q' := fun e => hdj q' hq' (e ▸ hq)
      cases e : R'.st with
      | live => exact hs.sep q q' R R' b o' c' o2 c2 hne k1 j1 k2 e k3 hg2
      | still => exact (hs.live q R b o' c' k1 k2 k3).1 (hs.still q' R' b o2 c2 j1 e hg2)
      | gone => exact j2 e
  have hfire := hsound args res outs hF w _ hss (Ix γ I rs) hargs hlt (hun.nodup hs hnd) hblk
  refine goes_call ho hc hgv hfire ?_
  rintro u w' ⟨I', b1, b2, hres, houts, hfr, hI', hndb, hbb⟩
  have hres := hsame.ro _ _ _ _ hres
  -- what is left, once it is told what is plain data from now on
  have fin : ∀ (J : Nat → Prop) (rs' : List Nat) (rr : List (Nat × Root) → List (Nat × Root) → List Nat), Stand σ rs' → (∀ q ∈ rs', q ∉ us) → RO w' J res' u b1 → OutsOk w' J con.pars args (us1 ++ c.args.toList.map a.eval ++ vs1) hss outs b2 →
      (∀ k, Ix γ I rs' k → J k) → (∀ k, J k → k < w'.heap.size ∧ (Ix γ I rs' k ∨ w.heap.size ≤ k ∨ k ∈ hblocks hss)) → (∀ b ∈ (b1 ++ b2).map (·.1), ¬ J b) →
      (outsK σ con.pars xs outs fun ups => openK σ.next con.res (match o.dst with | some d => d | none => 0) res' fun v ups' => callEnd σ rs' us (ups ++ ups') fun l => some ⟨v, l, rr ups ups'⟩) = some e →
      Ok N S I0 w0 (σ.eff o.dst e) (a.put o.dst u) w' := by
    intro J rs' rr hst' hdj' hresJ houtsJ hJ hJ2 hJb h
    obtain ⟨zs, h, hB⟩ := outsK_some hs con.pars hvals hla houtsJ h
    obtain ⟨v, zs', h, hO⟩ := openK_some con.res h hresJ
    obtain ⟨n1, n2, h⟩ := callEnd_some h
    injection h with h; subst h
    have hmap : (zs.map (·.1) ++ zs'.map (·.1)).map (·.1) = (zs ++ zs').map (·.1.1) := by simp [Function.comp_def]
    have hmap2 : zs.map (·.1) ++ zs'.map (·.1) = (zs ++ zs').map (·.1) := by simp
    rw [hmap] at n1 n2
    have hBB : Back w' J σ γ (zs ++ zs') (b2 ++ b1) := hB.append hO.ents.toBack
    have hperm : ((b2 ++ b1).map (·.1)).Nodup := by
      rw [List.map_append] at hndb ⊢
      rw [List.nodup_append] at hndb ⊢
      exact ⟨hndb.2.1, hndb.1, fun x hx y hy' e => hndb.2.2 y hy' x hx e.symm⟩
    have hin : ∀ b ∈ (b2 ++ b1).map (·.1), b ∈ (b1 ++ b2).map (·.1) := by
      intro b hb
      simp only [List.map_append, List.mem_append] at hb ⊢
      exact hb.symm
    obtain ⟨g1, g2, hAg⟩ := call_end hs hy hst' hun hnd hdj' hfr hJ hJ2 hBB hperm (fun b hb => ⟨hJb b (hin b hb), (hbb b (hin b hb)).2⟩) n1 n2
    refine ⟨hdrOf (zs ++ zs') γ, J, ?_⟩
    simp only [St.eff, ups_append (freezeUps σ rs')]
    rw [hmap2, show ((zs ++ zs').map (·.1)).map (·.1) = (zs ++ zs').map (·.1.1) by simp [Function.comp_def]]
    refine ⟨g1.slot hd (hO.rv _ _ hAg.right).1, g2.slot (fun q ver hr => ?_)⟩
    obtain ⟨z, hz, e1, e2⟩ := hO.rf q ver hr
    refine ⟨z.1.2, ?_, by omega⟩
    rw [← e1]
    exact (hAg z (List.mem_append_right _ hz)).1
  have hjb : ∀ b ∈ (b1 ++ b2).map (·.1), ¬ Ix γ I rs b := by
    intro b hb
    rcases (hbb b hb).2 with k | k
    · exact fun hk => by have := hlt b hk; omega
    · exact (hblk b k).1
  cases hown : (con.res.owns && o.dst.isNone) with
  | true =>
    exfalso
    simp only [hown, cond_true] at h
    obtain ⟨zs, h, _⟩ := outsK_some hs con.pars hvals hla houts h
    obtain ⟨v, zs', h, _⟩ := openK_some con.res h hres
    cases h
  | false =>
  simp only [hown, cond_false] at h
  cases hfl : (flatAV res' && outs.all flatAV) with
  | true =>
    simp only [hfl, cond_true] at h
    simp only [Bool.and_eq_true] at hfl
    refine fin I [] (fun ups ups' => rs ++ us ++ ups'.map (·.1) ++ ups.map (·.1)) (fun q hq => by cases hq) (fun q hq => by cases hq) (RO_flat _ _ _ hfl.1 hres) (OutsOk_flat hfl.2 houts) (Ix_nil γ I) (fun k hk => ⟨Nat.lt_of_lt_of_le (hs.imm k hk) hfr.size, .inl (.inl hk)⟩) (fun b hb hk => hjb b hb (.inl hk)) h
  | false =>
    simp only [hfl, cond_false] at h
    refine fin (fun k => Ix γ I rs k ∨ I' k) rs (fun ups ups' => rs ++ us ++ ups'.map (·.1) ++ ups.map (·.1)) hst hdj (RO_mono (fun k hk => .inr hk) _ _ _ hres) (OutsOk_mono (fun k hk => .inr hk) houts) (fun k hk => .inl hk) (fun k hk => ?_) (fun b hb hk => ?_) h
    · rcases hk with hk | hk
      · exact ⟨Nat.lt_of_lt_of_le (hlt k hk) hfr.size, .inl hk⟩
      · exact ⟨(hI' k hk).2, (hI' k hk).1⟩
    · rcases hk with hk | hk
      · exact hjb b hb hk
      · exact (hbb b hb).1 hk

theorem oneB_some {L : Nat → Option Root} : ∀ {l : List AV} {us : List Value}, l.all AV.oneB = true → All2 (RV L γ w I) l us → All2 (RV1 L γ w I) l us
  | [], _, _, h => h
  | x :: l, us, hb, h => by
    obtain ⟨u, us', rfl, h1, h2⟩ := h
    simp only [List.all_cons, Bool.and_eq_true] at hb
    refine ⟨u, us', rfl, ?_, oneB_some hb.2 h2⟩
    cases x <;> first | exact h1 | (simp [AV.oneB, AV.cellB, AV.leaf] at hb)
theorem op_makeFunc (hs : Sim N S I0 w0 γ I σ a w) (hy : Young σ) (hd : ∀ t, o.dst = some t → N.ok t) {fn : Fn} {first captured : Array Operand} (ho : o.op = .makeFunc fn first captured) (h : opK Γ o σ some = some e) :
    Goes Γ.P N S I0 w0 (σ.eff o.dst e) o a w := by
  simp only [opK, ho] at h
  split at h
  case h_2 => cases h
  rename_i f
  obtain ⟨hc, h⟩ := cond_some h
  simp only [Bool.and_eq_true] at hc
  injection h with h; subst h
  have h1 := oneB_some hc.1 (args_vals hs first.toList)
  have h2 := oneB_some hc.2 (args_vals hs captured.toList)
  refine goes_value (u := .func (.func f) (first.map a.eval) (captured.map a.eval)) (w' := w) ?_ (ok_value hs hy hd (x := .fn f _ _) ⟨first.toList.map a.eval, captured.toList.map a.eval, by rw [show first.map a.eval = (first.toList.map a.eval).toArray from by apply Array.ext'; simp, show captured.map a.eval = (captured.toList.map a.eval).toArray from by apply Array.ext'; simp], h1, h2⟩ (fun q v hr => ?_))
  · simp only [execOp, ho]
    exact exec_value rfl
  · obtain ⟨c, hc', hr⟩ := hr
    rcases List.mem_append.1 hc' with hc' | hc'
    · obtain ⟨x, _, rfl⟩ := List.mem_map.1 hc'
      exact refers_opd hy x q v (ref1_refers hr)
    · obtain ⟨x, _, rfl⟩ := List.mem_map.1 hc'
      exact refers_opd hy x q v (ref1_refers hr)
end Go.Ai
