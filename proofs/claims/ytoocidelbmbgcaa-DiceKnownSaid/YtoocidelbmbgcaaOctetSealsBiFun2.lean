/- Part of the proofs: the verified interpreter for the program's functions, or lemmas on what they compute; no condition. -/
import Derived.Test.YtoocidelbmbgcaaOctetSealsBiWalk
namespace Go.Ai
variable {N : Lim} {S I0 I I' J : Nat → Prop} {w0 w w' : World} {γ γ' : Nat → Hdr} {σ σ' : St} {a : Act} {Γ : Ctx} {β : Type} {r : β}

/-! ### Functions -/
theorem all_getD {all : Array Value} {s : Nat} {v : Value} (h : all[s]? = some v) : all.getD s undef = v := by
  simp [Array.getD_eq_getD_getElem?, h]
def resSem (tmps : Array Value) : ResultVar → Sem Value
  | .tmp t => pure (tmps.getD t undef)
  | .cell a t => do loadVar t (← asAddr (tmps.getD a undef))
theorem oneB_RV1 {L : Nat → Option Root} {x : AV} {u : Value} (hb : x.oneB = true) (h : RV L γ w I x u) : RV1 L γ w I x u := by
  cases x <;> first | exact h | (simp [AV.oneB, AV.cellB, AV.leaf] at hb)

theorem resK_some (hΓ : CtxOk Γ) (hs : Sim N S I0 w0 γ I σ a w) : ∀ {l : List ResultVar} {K : List AV → Option β}, resK Γ σ l K = some r →
    ∃ ys us, K ys = some r ∧ (l.mapM (resSem a.tmps)).run Γ.P w = .ok us w ∧ All2 (RV1 σ.L γ w I) ys us
  | [], K, h => ⟨[], [], h, by simp, rfl⟩
  | .tmp t :: l, K, h => by
    simp only [resK] at h
    obtain ⟨hb, h⟩ := cond_some h
    obtain ⟨ys, us, h, k1, k2⟩ := resK_some hΓ hs h
    refine ⟨_, _, h, ?_, _, _, rfl, oneB_RV1 hb (hs.env t), k2⟩
    simp only [List.mapM_cons, resSem, Sem.run_bind, Sem.run_pure, Result.andThen_ok, k1]
  | .cell t ty :: l, K, h => by
    simp only [resK] at h
    split at h
    case h_2 => cases h
    rename_i q v he
    obtain ⟨R, h1, h2, h3, h⟩ := rootK_some h
    obtain ⟨hbx, h⟩ := cond_some h
    obtain ⟨x, hx, h⟩ := nthK_some h
    obtain ⟨ti, hti, h⟩ := tyK_some h
    have hv := hs.env t
    rw [he] at hv
    obtain ⟨hi, b, of, cap, hg, hu⟩ := hv.2 R h1 h2 h3 rfl
    have hro := hs.root q R h1 h3
    rw [hg] at hro
    obtain ⟨k1, k2, k3, k4⟩ := hro
    obtain ⟨rfl, rfl⟩ := k4 hbx
    obtain ⟨x1, ev, e1, e2, e3, e4⟩ := k2.box hbx
    rw [e1] at hx
    simp only [List.getElem?_cons_zero, Option.some.injEq] at hx
    subst hx
    obtain ⟨y, uy, h, hld, hy, _⟩ := run_partC (P := Γ.P) (hΓ.ty ty ti hti) (off := 0) e2 e4 h
    obtain ⟨ys, us, h, j1, j2⟩ := resK_some hΓ hs h
    refine ⟨_, _, h, ?_, _, _, rfl, hy, j2⟩
    simp only [List.mapM_cons, resSem, Sem.run_bind, hu, asAddr, Sem.run_pure, Result.andThen_ok]
    rw [show (0 : Nat) + 0 * R.sz + 0 = 0 + 0 by omega]
    simp only [hld, Result.andThen_ok, j1]

theorem closeK_rowT {ty sz : Nat} {lent : Bool} {x : AV} {K : AV → List Nat → List Nat → Option β} (h : closeK σ true (.own ty sz lent) x K = some r) :
    (x = .nils ∧ K (.own sz [] none) [] [] = some r) ∨ (K .dead [] [] = some r ∧ ∃ q v part, x = .ref q v [] part) ∨ ∃ q v part R, x = .ref q v [] part ∧ σ.L q = some R ∧ R.ver = v ∧ R.st = .live ∧ K (.own sz R.xs part) [] [q] = some r ∧
      ∀ {β' : Type} (K' : AV → List Nat → List Nat → Option β'), closeK σ false (.own ty sz lent) x K' = K' (.own sz R.xs part) [] [q] := by
  simp only [closeK] at h ⊢
  split at h
  · rename_i q v part
    split at h
    · rename_i R hR
      cases hc : (Nat.beq R.ver v && (R.st == .live)) with
      | true =>
        rw [cond_t hc] at h
        obtain ⟨hc2, h2⟩ := cond_some h
        simp only [Bool.and_eq_true] at hc
        exact .inr (.inr ⟨q, v, part, R, rfl, hR, Nat.eq_of_beq_eq_true hc.1, by simpa using hc.2, h2, fun K' => by rw [cond_t hc2]; rfl⟩)
      | false =>
        rw [cond_f hc, cond_true] at h
        exact .inr (.inl ⟨h, q, v, part, rfl⟩)
    · cases h
  · exact .inl ⟨rfl, h⟩
  · cases h

theorem outSlots_some (hs : Sim N S I0 w0 γ I σ a w) {I1 : Nat → Prop} : ∀ (pars : List Sh) {t : Nat} {args : List AV} {vs : List Value} {hss : List (List Hd)} {K : List AV → List Nat → List Nat → Option β},
    outSlots σ (ownSlots pars t) K = some r → ArgsOk w0 I1 args vs hss → args.length = pars.length → (∀ (j : Nat) (s : Sh) (v : Value), pars[j]? = some s → s.owns = true → vs[j]? = some v → a.tmps.getD (t + j) undef = v) →
    (∀ (j : Nat) (s : Sh) (y : AV) (l : List Hd), pars[j]? = some s → args[j]? = some y → hss[j]? = some l → s.row = true → N.pin (t + j) = some (l.head?, rowLen y) ∧ l.head?.toList = l) →
    ∃ outs rs us b2, K outs rs us = some r ∧ OutsOk w (Ix γ I rs) pars args vs hss outs b2 ∧ Stand σ rs ∧ Units σ γ us b2
  | [], t, args, vs, hss, K, h, ha, hl, hv, hp => ⟨[], [], [], [], h, ⟨rfl, rfl⟩, (fun q hq => by cases hq), .nil⟩
  | s :: pars, t, args, vs, hss, K, h, ha, hl, hv, hp => by
    cases args with
    | nil => simp at hl
    | cons y args =>
    obtain ⟨v, vs', l, hss', rfl, rfl, h0, ha⟩ := ha
    have hl' : args.length = pars.length := by simpa using hl
    have hv' : ∀ (j : Nat) (s : Sh) (v : Value), pars[j]? = some s → s.owns = true → vs'[j]? = some v → a.tmps.getD (t + 1 + j) undef = v := fun j s' u h1 h2 hj => by
      have := hv (j + 1) s' u (by simpa using h1) h2 (by simpa using hj)
      rwa [show t + (j + 1) = t + 1 + j by omega] at this
    have hp' : ∀ j s y l, pars[j]? = some s → args[j]? = some y → hss'[j]? = some l → s.row = true → N.pin (t + 1 + j) = some (l.head?, rowLen y) ∧ l.head?.toList = l := fun j s y l h1 h2 h3 h4 => by
      have := hp (j + 1) s y l (by simpa using h1) (by simpa using h2) (by simpa using h3) h4
      rwa [show t + (j + 1) = t + 1 + j by omega] at this
    simp only [ownSlots] at h
    cases hown : s.owns with
    | false =>
      rw [hown, cond_false] at h
      obtain ⟨outs, rs, us, b2, h, k1, k2, k3⟩ := outSlots_some hs pars h ha hl' hv' hp'
      exact ⟨outs, rs, us, b2, h, ⟨y, args, v, vs', l, hss', rfl, rfl, rfl, .inl ⟨hown, k1⟩⟩, k2, k3⟩
    | true =>
      rw [hown, cond_true] at h
      simp only [outSlots] at h
      have hvt : a.tmps.getD t undef = v := by simpa using hv 0 s v rfl hown rfl
      have he := hs.env t
      rw [hvt] at he
      have both : ∃ o rs us b1, (outSlots σ (ownSlots pars (t + 1)) fun ys rs' us' => K (o :: ys) (rs ++ rs') (us ++ us')) = some r ∧ RO w (Ix γ I rs) o v b1 ∧ Stand σ rs ∧ Units σ γ us b1 ∧ (s.row = true → (b1 = l ∧ rowLen o = rowLen y) ∨ o = .dead) := by
        cases hrow : s.row with
        | false =>
          obtain ⟨o, rs, us, bs, h2, j1, j2, j3, j4, j5⟩ := closeK_some hs s he h
          exact ⟨o, rs, us, bs, h2, j1, j2, j3, fun hf => by cases hf⟩
        | true =>
          obtain ⟨hp1, hp2⟩ := hp 0 s y l rfl rfl rfl hrow
          rw [Nat.add_zero] at hp1
          obtain ⟨q1, q2⟩ := hs.pin t _ hp1
          cases s <;> simp only [Sh.row, Bool.false_eq_true] at hrow
          rcases closeK_rowT h with ⟨e, _⟩ | ⟨h2, q, v', part, e⟩ | ⟨q, v', part, R, e, k1, k2, k3, h2, hnat⟩
          · exact absurd e q1
          · rw [e] at he
            exact ⟨.dead, [], [], [], h2, ⟨rfl, RVc_one (c := .ref q v' [] part) (γ := γ) (L := σ.L) (w := w) (I := I) he⟩, (fun q hq => by cases hq), .nil, fun _ => .inr rfl⟩
          · obtain ⟨y', rs', us', bs, h3, j1, j2, j3, j4, j5⟩ := closeK_some hs _ (K := fun y rs us => some (y, rs, us)) he (hnat _)
            injection h3 with h3; injection h3 with e1 h3; injection h3 with e2 e3
            subst e1; subst e2; subst e3
            obtain ⟨g1, g2⟩ := q2 q v' part R e k1 k2 (by rw [k3]; simp)
            refine ⟨_, _, _, bs, h2, j1, j2, j3, fun _ => .inl ⟨?_, g2⟩⟩
            rcases j5 rfl with ⟨e', _⟩ | ⟨q0, v0, part0, R0, e', m1, m2, m3, m4, m5, m6⟩
            · rw [e] at e'; cases e'
            · rw [e] at e'
              injection e' with e'1
              subst e'1
              rw [m6, g1]; exact hp2
      obtain ⟨o, rs, us, b1, h, j1, j2, j3, j4⟩ := both
      obtain ⟨outs, rs', us', b2, h, k1, k2, k3⟩ := outSlots_some hs pars h ha hl' hv' hp'
      exact ⟨_, _, _, b1 ++ b2, h, ⟨y, args, v, vs', l, hss', rfl, rfl, rfl, .inr ⟨hown, o, outs, b1, b2, rfl, rfl, RO_mono Ix_left _ _ _ j1, j4, OutsOk_mono Ix_right k1⟩⟩, j2.append k2, j3.append k3⟩

/-- F is the program's own function. -/
structure FunOk (P : Program) (F : Fun) : Prop where
  fn : ∃ fn, P.funcs[F.f]? = some fn ∧ (fn.name == "runtime.NumGoroutine") = false ∧ fn.body = some F.body ∧ fn.results.toList = F.results ∧ F.pars.length ≤ fn.ntmps ∧ codeB fn.ntmps ((ownSlots F.pars 0).map (·.1)) F.body = true

def resVal : List Value → Value
  | [u] => u
  | us => .tuple us.toArray
theorem results_run {P : Program} {fn : Func} {tmps : Array Value} {us : List Value} (h : (fn.results.toList.mapM (resSem tmps)).run P w = .ok us w) : (results fn tmps).run P w = .ok (resVal us) w := by
  have hm : (fn.results.mapM (resSem tmps)).run P w = .ok us.toArray w := by
    rw [Array.mapM_eq_mapM_toList]
    simp [h]
  change ((fn.results.mapM (resSem tmps)) >>= fun vs => (pure (if h : vs.size = 1 then vs[0] else .tuple vs) : Sem Value)).run P w = _
  rw [Sem.run_bind, hm]
  match us with
  | [] => rfl
  | [u] => rfl
  | _ :: _ :: _ => rfl
theorem res_RV {L : Nat → Option Root} : ∀ {ys : List AV} {us : List Value}, All2 (RV1 L γ w I) ys us → RV L γ w I (one? ys) (resVal us)
  | [], us, h => by simp only [All2] at h; subst h; exact ⟨[], rfl, rfl⟩
  | [y], us, h => by
    obtain ⟨u, us', rfl, h1, h2⟩ := h
    simp only [All2] at h2; subst h2
    exact RV_of1 h1
  | y1 :: y2 :: ys, us, h => by
    have h0 := h
    obtain ⟨u, us', rfl, h1, u2, us'', rfl, h2, h3⟩ := h
    exact ⟨_, rfl, h0⟩

theorem unpack_rows : ∀ {pars : List Sh} {t : Nat} {args : List AV} {σ : St} {ns : List Nat} {K : St → Option β}, unpackSlots (parSlots pars t) args σ ns K = some r →
    args.length = pars.length ∧ ∀ (j : Nat) (s : Sh) (y : AV), pars[j]? = some s → args[j]? = some y → s.row = true → ∃ sz xs p, y = .own sz xs p
  | [], t, args, σ, ns, K, h => by
    simp only [parSlots, unpackSlots] at h
    obtain ⟨rfl, _⟩ := nlK_some h
    exact ⟨rfl, fun j s y h => by simp at h⟩
  | s :: pars, t, args, σ, ns, K, h => by
    simp only [parSlots, unpackSlots] at h
    obtain ⟨y, args', rfl, h1⟩ := hdK_some h
    have hrow : s.row = true → ∃ sz xs p, y = .own sz xs p := by
      intro hr
      cases s <;> simp only [Sh.row, Bool.false_eq_true] at hr
      simp only [fitK] at h1
      obtain ⟨xs, p, e, _⟩ := fitO_some h1
      exact ⟨_, _, _, e⟩
    obtain ⟨y', _, h2⟩ := fitK_some h1
    obtain ⟨x, l, h3, _⟩ := openK_inv s h2
    obtain ⟨_, h4⟩ := cond_some h3
    obtain ⟨k1, k2⟩ := unpack_rows h4
    refine ⟨by simp [k1], fun j s' y' hj hy' hr => ?_⟩
    cases j with
    | zero => simp at hj hy'; subst hj; subst hy'; exact hrow hr
    | succ j => exact k2 j s' y' (by simpa using hj) (by simpa using hy') hr

theorem ArgsOk_len : ∀ {l : List AV} {vs : List Value} {hss : List (List Hd)}, ArgsOk w I l vs hss → vs.length = l.length ∧ hss.length = l.length
  | [], _, _, h => by rw [h.1, h.2]; exact ⟨rfl, rfl⟩
  | _ :: _, _, _, h => by
    obtain ⟨u, us', b, hss', rfl, rfl, h3, h4⟩ := h
    simp [ArgsOk_len h4]
theorem ArgsOk_at : ∀ {l : List AV} {vs : List Value} {hss : List (List Hd)}, ArgsOk w I l vs hss → ∀ (j : Nat) (y : AV) (hd : List Hd), l[j]? = some y → hss[j]? = some hd → ∃ v, vs[j]? = some v ∧ RO w I y v hd
  | [], _, _, _, j, y, hd, h, _ => by simp at h
  | _ :: _, _, _, h, j, y, hd, h1, h2 => by
    obtain ⟨u, us', b, hss', rfl, rfl, h3, h4⟩ := h
    cases j with
    | zero => simp at h1 h2; subst h1; subst h2; exact ⟨u, rfl, h3⟩
    | succ j => exact ArgsOk_at h4 j y hd (by simpa using h1) (by simpa using h2)
theorem slots_of_args {N : Lim} {a : Act} : ∀ {pars : List Sh} {t : Nat} {args : List AV} {vs : List Value} {hss : List (List Hd)}, ArgsOk w I args vs hss → args.length = pars.length → (∀ j v, vs[j]? = some v → a.tmps.getD (t + j) undef = v) →
    (∀ j s y l p, pars[j]? = some s → args[j]? = some y → hss[j]? = some l → s.isOwn = true → N.pin (t + j) = some p → l = p.1.toList ∧ rowLen y = p.2) → SlotsOk N a w I (parSlots pars t) args hss
  | [], t, args, vs, hss, ha, hl, hv, hp => by
    have := List.eq_nil_of_length_eq_zero hl
    subst this
    exact ⟨rfl, ha.2⟩
  | s :: pars, t, args, vs, hss, ha, hl, hv, hp => by
    cases args with
    | nil => simp at hl
    | cons y args =>
    obtain ⟨v, vs', l, hss', rfl, rfl, h0, ha⟩ := ha
    refine ⟨y, args, l, hss', rfl, rfl, ?_, fun p hpin hr => hp 0 s y l p rfl rfl rfl hr (by simpa using hpin), slots_of_args ha (by simpa using hl) (fun j u hj => ?_) (fun j s' y' l' p h1 h2 h3 h4 h5 => ?_)⟩
    · rw [show a.tmps.getD t undef = v by simpa using hv 0 v rfl]; exact h0
    · have := hv (j + 1) u (by simpa using hj)
      rwa [show t + (j + 1) = t + 1 + j by omega] at this
    · exact hp (j + 1) s' y' l' p (by simpa using h1) (by simpa using h2) (by simpa using h3) h4 (by rw [show t + (j + 1) = t + 1 + j by omega]; exact h5)
theorem ownSlots_mem : ∀ {pars : List Sh} {t j : Nat} {s : Sh}, pars[j]? = some s → s.owns = true → t + j ∈ (ownSlots pars t).map (·.1)
  | [], _, _, _, h, _ => by simp at h
  | s0 :: pars, t, j, s, h, ho => by
    simp only [ownSlots]
    cases j with
    | zero =>
      simp at h; subst h
      rw [ho, cond_true]; simp
    | succ j =>
      have := ownSlots_mem (pars := pars) (t := t + 1) (j := j) (s := s) (by simpa using h) ho
      rw [show t + 1 + j = t + (j + 1) by omega] at this
      cases s0.owns <;> simp only [cond_true, cond_false]
      · exact this
      · exact List.mem_cons_of_mem _ this

theorem fun_sound (hΓ : CtxOk Γ) {F : Fun} (hF : FunOk Γ.P F) (fuel : Nat) : Sound Γ.P F.f F.pars (funK Γ fuel F) := by
  intro args res outs h w vs hss I hargs hI hnd hbs
  obtain ⟨fn, f1, f2, f3, f4, f5, f6⟩ := hF.fn
  have f2' : fn.name ≠ "runtime.NumGoroutine" := by simpa using f2
  refine .inr ⟨by simp [callFunc, f1, f2', f3], ?_⟩
  refine calls_of_wp f1 f3 ?_
  unfold funK at h
  obtain ⟨hlen, hrows⟩ := unpack_rows h
  obtain ⟨hl1, hl2⟩ := ArgsOk_len hargs
  generalize hall : vs.toArray ++ Array.replicate (fn.ntmps - vs.toArray.size) undef = all at *
  have hsize : all.size = fn.ntmps := by
    rw [← hall]; simp; omega
  have hget : ∀ j v, vs[j]? = some v → all[j]? = some v := fun j v hj => by
    have hlt := (List.getElem?_eq_some_iff.1 hj).1
    rw [← hall, Array.getElem?_append_left (by simpa using hlt)]
    simpa using hj
  let N : Lim := ⟨fn.ntmps, fun t => if t ∈ (ownSlots F.pars 0).map (·.1) then all[t]? else none, fun t => match F.pars[t]?, args[t]?, hss[t]? with
    | some s, some y, some l => if s.row = true then some (l.head?, rowLen y) else none
    | _, _, _ => none⟩
  have hpinrow : ∀ (j : Nat) (s : Sh) (y : AV) (l : List Hd), F.pars[j]? = some s → args[j]? = some y → hss[j]? = some l → s.row = true → N.pin j = some (l.head?, rowLen y) ∧ l.head?.toList = l := by
    intro j s y l h1 h2 h3 h4
    refine ⟨by simp only [N, h1, h2, h3, if_pos h4], ?_⟩
    obtain ⟨sz, xs, p, rfl⟩ := hrows j s y h1 h2 h4
    obtain ⟨v, hv, hro⟩ := ArgsOk_at hargs j _ l h2 h3
    rcases hro with ⟨_, rfl, _⟩ | ⟨b, o, cap, rfl, _⟩ <;> rfl
  obtain ⟨b1, b2⟩ := Sim.blank (N := N) (S := (· ∈ hblocks hss)) (I0 := I) (w0 := w) (w := w) (J := I) (a := ⟨all, []⟩) ⟨hsize, fun t v hk => by
      simp only [N] at hk
      split at hk
      · exact hk
      · cases hk⟩ rfl hI (fun k hk => .inl hk) (Fr.refl _ _)
  have hslots : SlotsOk N ⟨all, []⟩ w I (parSlots F.pars 0) args hss := slots_of_args hargs hlen (fun j v hj => by
      rw [Nat.zero_add]; exact all_getD (hget j v hj)) (fun j s y l p h1 h2 h3 h4 h5 => by
      rw [Nat.zero_add] at h5
      have hrw : s.row = true := by
        cases hr : s.row with
        | true => rfl
        | false => simp only [N, h1, h2, h3, hr, Bool.false_eq_true, if_false] at h5; cases h5
      obtain ⟨k1, k2⟩ := hpinrow j s y l h1 h2 h3 hrw
      rw [k1] at h5
      injection h5 with h5; subst h5
      exact ⟨k2.symm, rfl⟩)
  obtain ⟨σ, γ, h, hs, hy⟩ := unpackSlots_ok hslots h b1 b2 (fun q R hq => by cases hq) hnd (fun b hb => ⟨(hbs b hb).1, .inr hb⟩) (fun q R b o c hq => by cases hq)
  refine codeK_ok (N := N) (S := (· ∈ hblocks hss)) (I0 := I) (w0 := w) hΓ (n := fn.ntmps) (ks := (ownSlots F.pars 0).map (·.1)) (Nat.le_refl _) (fun t ht => ⟨by simp only [N]; rw [if_neg ht], ?_⟩) F.an F.body h f6 ⟨γ, I, hs, hy⟩ ?_
  · simp only [N]
    split
    · rename_i s y l h1 h2 h3
      cases hr : s.row with
      | false => rfl
      | true =>
        exfalso
        refine ht ?_
        have := ownSlots_mem (t := 0) h1 (by cases s <;> simp only [Sh.row, Bool.false_eq_true] at hr; exact hr)
        rwa [Nat.zero_add] at this
    · rfl
  intro e σ' a' w' he ⟨γ', I1, hs', hy'⟩
  obtain ⟨hle, he⟩ := cond_some he
  have hle := Nat.le_of_ble_eq_true hle
  obtain ⟨ys, us, he, k1, k2⟩ := resK_some hΓ hs' he
  obtain ⟨res', rs, un, hb1, he, r1, r2, r3, _⟩ := closeK_some hs' F.res (res_RV k2) he
  obtain ⟨outs', rs', un', hb2, he, o1, o2, o3⟩ := outSlots_some hs' F.pars he hargs hlen (fun j s v hj ho hv => by
      rw [Nat.zero_add]
      refine all_getD (hs'.size.2 j v ?_)
      have hm := ownSlots_mem (t := 0) hj ho
      rw [Nat.zero_add] at hm
      simp only [N]
      rw [if_pos hm]
      exact hget j v hv) (fun j s y l h1 h2 h3 h4 => by rw [Nat.zero_add]; exact hpinrow j s y l h1 h2 h3 h4)
  obtain ⟨hc, he⟩ := cond_some he
  simp only [Bool.and_eq_true] at hc
  injection he with he; injection he with e1 e2
  subst e1; subst e2
  have hdj := disj_not hc.2
  have hst := r2.append o2
  have hun := r3.append o3
  have hu := results_run (fn := fn) (tmps := a'.tmps) (P := Γ.P) (w := w') (by rw [f4]; exact k1)
  have post : ∃ v, (results fn a'.tmps).run Γ.P w' = .ok v w' ∧ ∃ (I' : Nat → Prop) (b1 b2 : List Hd), RO w' I' res' v b1 ∧ OutsOk w' I' F.pars args vs hss outs' b2 ∧ Fr (· ∈ hblocks hss) w w' ∧
      (∀ k, I' k → (I k ∨ w.heap.size ≤ k ∨ k ∈ hblocks hss) ∧ k < w'.heap.size) ∧ ((b1 ++ b2).map (·.1)).Nodup ∧ (∀ b ∈ (b1 ++ b2).map (·.1), ¬ I' b ∧ (w.heap.size ≤ b ∨ b ∈ hblocks hss)) :=
    ⟨_, hu, Ix γ' I1 (rs ++ rs'), hb1, hb2, RO_mono Ix_left _ _ _ r1, OutsOk_mono Ix_right o1, hs'.frame, fun k hk => ⟨Ix_new hs' hst k hk, Ix_lt hs' hst k hk⟩, hun.nodup hs' (distinct_nodup hc.1), lent_blocks hs' hst hun hdj⟩
  obtain ⟨v, hv, hpost⟩ := post
  have hdf := hs'.defers
  match e, hle with
  | 0, _ => exact ⟨hdf, v, hv, hpost⟩
  | 1, _ => exact ⟨hdf, v, hv, hpost⟩
end Go.Ai
