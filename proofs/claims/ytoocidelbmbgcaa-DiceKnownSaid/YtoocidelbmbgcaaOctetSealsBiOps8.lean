/- Part of the proofs: the verified interpreter for the program's functions, or lemmas on what they compute; no condition. -/
import Derived.Test.YtoocidelbmbgcaaOctetSealsBiOps7
namespace Go.Ai
variable {N : Lim} {S I0 I I' : Nat → Prop} {w0 w w' : World} {γ γ' : Nat → Hdr} {σ σ' : St} {a : Act} {Γ : Ctx} {o : Oper} {e : Eff} {P : Program} {β : Type} {r : β}

/-! ### Slicing -/
theorem boundK_some (hs : Sim N S I0 w0 γ I σ a w) {x : Option Operand} {d : Nat} {K : Int → Option β} (h : boundK σ x d K = some r) :
    ∃ n : Int, K n = some r ∧ ((x = none ∧ n = d) ∨ ∃ y k, x = some y ∧ a.eval y = .int k n) := by
  unfold boundK at h
  split at h
  · exact ⟨_, h, .inl ⟨rfl, rfl⟩⟩
  · rename_i y
    split at h
    · rename_i k n hq
      have := RV_opd hs y
      rw [hq] at this
      exact ⟨_, h, .inr ⟨y, k, rfl, RV_int this⟩⟩
    · cases h
theorem run_sliceBound {k : IntKind} {n : Int} {y : Nat} (code : BoundsCode) (h0 : 0 ≤ n) (h1 : n ≤ (y : Int)) : (Instr.sliceBound (.int k n) y code).run P w = .ok n.toNat w := by
  simp only [Instr.sliceBound, Sem.run_bind, asIntOf, Sem.run_pure, Result.andThen_ok]
  rw [if_pos ⟨h0, h1⟩]; rfl

/-- The three bounds, each given or not. -/
theorem run_sliceBounds (isSlice : Bool) {len cap : Nat} {lo hi mx : Option Operand} {l h m : Int}
    (hl : (lo = none ∧ l = 0) ∨ ∃ y k, lo = some y ∧ a.eval y = .int k l) (hh : (hi = none ∧ h = len) ∨ ∃ y k, hi = some y ∧ a.eval y = .int k h)
    (hm : (mx = none ∧ m = cap) ∨ ∃ y k, mx = some y ∧ a.eval y = .int k m) (hn : ¬ (hi = none ∧ mx ≠ none)) (h0 : 0 ≤ l) (h1 : l ≤ h) (h2 : h ≤ m) (h3 : m ≤ (cap : Int)) :
    (Instr.sliceBounds isSlice len cap (lo.map a.eval) (hi.map a.eval) (mx.map a.eval)).run P w = .ok (l.toNat, h.toNat, m.toNat) w := by
  rcases hm with ⟨rfl, rfl⟩ | ⟨ym, km, rfl, hym⟩
  · rcases hh with ⟨rfl, rfl⟩ | ⟨yh, kh, rfl, hyh⟩
    · simp only [Instr.sliceBounds, Option.map_none, Sem.run_bind, Sem.run_pure, Result.andThen_ok, Option.isSome_none, Bool.false_eq_true, if_false]
      rcases hl with ⟨rfl, rfl⟩ | ⟨y, k, rfl, hy⟩
      · simp
      · simp only [Option.map_some, hy, Sem.run_bind]
        rw [run_sliceBound _ h0 (by omega)]
        simp
    · simp only [Instr.sliceBounds, Option.map_none, Option.map_some, hyh, Sem.run_bind, Sem.run_pure, Result.andThen_ok, Option.isSome_none, Bool.false_eq_true, if_false]
      rw [run_sliceBound _ (by omega) (by omega)]
      simp only [Result.andThen_ok]
      rcases hl with ⟨rfl, rfl⟩ | ⟨y, k, rfl, hy⟩
      · simp
      · simp only [Option.map_some, hy, Sem.run_bind]
        rw [run_sliceBound _ h0 (by omega)]
        simp
  · rcases hh with ⟨rfl, rfl⟩ | ⟨yh, kh, rfl, hyh⟩
    · exact absurd ⟨rfl, by simp⟩ hn
    · simp only [Instr.sliceBounds, Option.map_some, hyh, hym, Sem.run_bind, Option.isSome_some, if_true]
      rw [run_sliceBound _ (by omega) (by omega)]
      simp only [Result.andThen_ok]
      rw [run_sliceBound _ (by omega) (by omega)]
      simp only [Result.andThen_ok]
      rcases hl with ⟨rfl, rfl⟩ | ⟨y, k, rfl, hy⟩
      · simp
      · simp only [Option.map_some, hy, Sem.run_bind]
        rw [run_sliceBound _ h0 (by omega)]
        simp

theorem take_drop_get {xs : List AV} {h l i : Nat} {x : AV} (hx : ((xs.take h).drop l)[i]? = some x) : xs[l + i]? = some x ∧ l + i < h := by
  simp only [List.getElem?_drop, List.getElem?_take] at hx
  split at hx
  · exact ⟨hx, by assumption⟩
  · cases hx

theorem op_slice (hΓ : CtxOk Γ) (hs : Sim N S I0 w0 γ I σ a w) (hy : Young σ) (hd : ∀ t, o.dst = some t → N.ok t) {t : TypeId} {x : Operand} {lo hi mx : Option Operand} (ho : o.op = .slice t x lo hi mx) (h : opK Γ o σ some = some e) :
    Goes Γ.P N S I0 w0 (σ.eff o.dst e) o a w := by
  have hv := RV_opd hs x
  simp only [opK, ho] at h
  obtain ⟨i, ht, h⟩ := tyK_some h
  have hty := hΓ.ty t i ht
  obtain ⟨hnn, h⟩ := cond_some h
  have nn : ¬ (hi = none ∧ mx ≠ none) := by
    rintro ⟨rfl, hne⟩
    cases mx with
    | none => exact hne rfl
    | some v => simp at hnn
  split at h
  · rename_i s hk hq
    rw [hq] at hv
    have hv := RV_str hv
    obtain ⟨hmx, h⟩ := cond_some h
    have hmx : mx = none := by simpa using hmx
    obtain ⟨l, h, hl⟩ := boundK_some hs h
    obtain ⟨hh, h, hhh⟩ := boundK_some hs h
    obtain ⟨⟨c0, c1, c2⟩, h⟩ := okK_some h
    injection h with h; subst h; subst hmx
    refine goes_value (u := .string (s.extract l.toNat hh.toNat)) (w' := w) ?_ (data_ok hs hy hd rfl)
    simp only [execOp, ho]
    refine exec_value ?_
    have hb := run_sliceBounds (P := Γ.P) (w := w) (a := a) false (len := s.size) (cap := s.size) (mx := none) (m := s.size) hl hhh (.inl ⟨rfl, rfl⟩) (by simp) c0 c1 (by omega) (Int.le_refl _)
    simp only [Option.map_none] at hb
    simp only [Instr.sliceAt, Sem.run_bind, run_underlying (hty.str hk), Result.andThen_ok, Instr.slice, hv, Option.map_none, Option.isSome_none, Bool.false_eq_true, if_false, hb, Sem.run_pure]
  · rename_i el sz xs hk hq
    rw [hq] at hv
    obtain ⟨l, h, hl⟩ := boundK_some hs h
    obtain ⟨hh, h, hhh⟩ := boundK_some hs h
    obtain ⟨m, h, hm⟩ := boundK_some hs h
    obtain ⟨ei, hte, h⟩ := tyK_some h
    obtain ⟨hw, h⟩ := cond_some h
    have hsz : ei.size = sz := Nat.eq_of_beq_eq_true hw
    obtain ⟨⟨c0, c1, c2, c3⟩, h⟩ := okK_some h
    injection h with h; subst h
    obtain ⟨ad, cap, hu, hlen, hrow⟩ := RV_sl hv
    -- the capacity that the machine takes
    obtain ⟨m', hm', hm1, hm2⟩ : ∃ m' : Int, ((mx = none ∧ m' = cap) ∨ ∃ y k, mx = some y ∧ a.eval y = .int k m') ∧ hh ≤ m' ∧ m' ≤ (cap : Int) := by
      rcases hm with ⟨h1, h2⟩ | h1
      · exact ⟨cap, .inl ⟨h1, rfl⟩, by omega, Int.le_refl _⟩
      · exact ⟨m, .inr h1, by omega, by omega⟩
    have hb := run_sliceBounds (P := Γ.P) (w := w) (a := a) true (len := xs.length) (cap := cap) hl hhh hm' nn c0 c1 hm1 hm2
    have hnl : ((xs.take hh.toNat).drop l.toNat).length = hh.toNat - l.toNat := by simp; omega
    refine goes_value (u := .slice (if m'.toNat = l.toNat then ad else ad.map (·.add (l.toNat * ei.size))) (hh.toNat - l.toNat) (m'.toNat - l.toNat)) (w' := w) ?_ (data_ok hs hy hd ⟨_, _, by rw [hnl], by rw [hnl]; omega, ?_⟩)
    · simp only [execOp, ho]
      refine exec_value ?_
      simp only [Instr.sliceAt, Sem.run_bind, run_underlying (hty.slice hk), Result.andThen_ok, Instr.slice, hu, hb, (hΓ.ty el ei hte).size, Sem.run_pure]
    · by_cases he : (xs.take hh.toNat).drop l.toNat = []
      · exact .inl he
      · have hpos : 0 < ((xs.take hh.toNat).drop l.toNat).length := List.length_pos_iff.2 he
        rcases hrow with rfl | ⟨b, of, rfl, hb, hrow⟩
        · simp at hpos
        · refine .inr ⟨b, of + l.toNat * ei.size, ?_, hb, (RIs_iff _ _ _ _).2 fun i x hi => ?_⟩
          · rw [if_neg (by omega)]; simp [addr_add]
          · obtain ⟨u, k1, k2, k3⟩ := (RIs_iff _ _ _ _).1 hrow _ x (take_drop_get hi).1
            refine ⟨u, k1, k2, ?_⟩
            rw [hsz]
            rwa [Nat.add_mul, ← Nat.add_assoc] at k3
  · rename_i el q v p hk hq
    rw [hq] at hv
    obtain ⟨R, r1, r2, r3, h⟩ := rootK_some h
    obtain ⟨l, h, hl⟩ := boundK_some hs h
    obtain ⟨hh, h, hhh⟩ := boundK_some hs h
    obtain ⟨m, h, hm⟩ := boundK_some hs h
    obtain ⟨ei, hte, h⟩ := tyK_some h
    obtain ⟨hw, h⟩ := cond_some h
    have hsz : ei.size = R.sz := Nat.eq_of_beq_eq_true hw
    obtain ⟨⟨c0, c1, c2, c3⟩, h⟩ := okK_some h
    injection h with h; subst h
    have hr := hv.2 R r1 r2 r3 rfl
    have hro := hs.root q R r1 r3
    have step : ∀ (ad : Option Addr) (cap : Nat), a.eval x = .slice ad (partOf R.xs p).length cap → (partOf R.xs p).length ≤ cap →
        ∃ m' : Int, hh ≤ m' ∧ m' ≤ (cap : Int) ∧ (execOp a.eval o).run Γ.P w = .ok (.value (.slice (if m'.toNat = l.toNat then ad else ad.map (·.add (l.toNat * ei.size))) (hh.toNat - l.toNat) (m'.toNat - l.toNat))) w := by
      intro ad cap hu hlen
      obtain ⟨m', hm', hm1, hm2⟩ : ∃ m' : Int, ((mx = none ∧ m' = cap) ∨ ∃ y k, mx = some y ∧ a.eval y = .int k m') ∧ hh ≤ m' ∧ m' ≤ (cap : Int) := by
        rcases hm with ⟨h1, h2⟩ | h1
        · exact ⟨cap, .inl ⟨h1, rfl⟩, by omega, Int.le_refl _⟩
        · exact ⟨m, .inr h1, by omega, by omega⟩
      have hb := run_sliceBounds (P := Γ.P) (w := w) (a := a) true (len := (partOf R.xs p).length) (cap := cap) hl hhh hm' nn c0 c1 hm1 hm2
      refine ⟨m', hm1, hm2, ?_⟩
      simp only [execOp, ho]
      refine exec_value ?_
      simp only [Instr.sliceAt, Sem.run_bind, run_underlying (hty.slice hk), Result.andThen_ok, Instr.slice, hu, hb, (hΓ.ty el ei hte).size, Sem.run_pure]
    have hoff : offOf (some ((p.map (·.1)).getD 0 + l.toNat, hh.toNat - l.toNat)) = offOf p + l.toNat := rfl
    have hplen : (partOf R.xs (some ((p.map (·.1)).getD 0 + l.toNat, hh.toNat - l.toNat))).length = hh.toNat - l.toNat := by
      cases p with
      | none =>
        simp only [partOf] at c3 ⊢
        simp only [Option.map_none, Option.getD_none, Nat.zero_add, List.length_take, List.length_drop]
        omega
      | some pp =>
        obtain ⟨o1, n1⟩ := pp
        simp only [partOf, List.length_take, List.length_drop] at c3 ⊢
        simp only [Option.map_some, Option.getD_some]
        omega
    cases hg : γ q with
    | none =>
      rw [hg] at hr hro
      have he : partOf R.xs p = [] := by rw [hro.1]; cases p <;> simp [partOf]
      obtain ⟨ad, hr⟩ : ∃ ad, a.eval x = .slice ad 0 0 := hr
      obtain ⟨m', h1, h2, hrun⟩ := step ad 0 (by rw [he]; exact hr) (by rw [he]; exact Nat.le_refl _)
      rw [he] at c3
      simp only [List.length_nil] at c3
      refine goes_value hrun (ok_value hs hy hd ⟨⟨_, _, _, rfl⟩, fun R' j1 j2 j3 j4 => ?_⟩ (fun q' v' hr' => ⟨R, by rw [← hr'.1]; exact r1, by rw [← hr'.2, r2]; exact Nat.le_refl _⟩))
      rw [hg]
      have e1 : hh.toNat - l.toNat = 0 := by omega
      have e2 : m'.toNat - l.toNat = 0 := by omega
      rw [e1, e2]
      exact ⟨_, rfl⟩
    | some z =>
      obtain ⟨b, of, cap⟩ := z
      rw [hg] at hr hro
      obtain ⟨ad, c, hu, hlc, hc, hz⟩ := hr
      obtain ⟨m', h1, h2, hrun⟩ := step ad c hu hlc
      refine goes_value hrun (ok_value hs hy hd ⟨⟨_, _, _, rfl⟩, fun R' j1 j2 j3 j4 => ?_⟩ (fun q' v' hr' => ⟨R, by rw [← hr'.1]; exact r1, by rw [← hr'.2, r2]; exact Nat.le_refl _⟩))
      rw [r1] at j1
      injection j1 with j1; subst j1
      rw [hg]
      refine ⟨_, m'.toNat - l.toNat, by rw [hplen], by rw [hplen]; omega, by rw [hoff]; omega, ?_⟩
      by_cases hml : m'.toNat = l.toNat
      · left; omega
      · right
        rw [if_neg hml]
        rcases hz with hz | rfl
        · omega
        · simp only [Option.map_some, addr_add, hsz, hoff]
          rw [Nat.add_mul, Nat.add_assoc]
  · cases h
end Go.Ai
