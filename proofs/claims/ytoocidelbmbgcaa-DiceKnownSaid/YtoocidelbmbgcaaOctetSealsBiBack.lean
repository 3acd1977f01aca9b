/- Part of the proofs: the verified interpreter for the program's functions, or lemmas on what they compute; no condition. -/
import Derived.Test.YtoocidelbmbgcaaOctetSealsBiOpen
namespace Go.Ai
variable {N : Lim} {S I0 I I' : Nat → Prop} {w0 w w' : World} {γ γ' : Nat → Hdr} {σ σ' : St} {a : Act} {β : Type} {r : β}

/-! ### What comes back -/
def Vb (σ : St) (γ : Nat → Hdr) (z : Ent) : Prop :=
  (z.1.2.st = .live ∧ z.1.2.ver = σ.next z.1.1) ∨ ∃ R0, σ.L z.1.1 = some R0 ∧ R0.st = .live ∧ R0.ver = z.1.2.ver ∧
    ((z.1.2.st = .live ∧ R0.xs.length = z.1.2.xs.length ∧ R0.sz = z.1.2.sz ∧ z.2 = γ z.1.1) ∨ (z.1.2.st = .gone ∧ z.2 = none))
structure Back (w : World) (I : Nat → Prop) (σ : St) (γ : Nat → Hdr) (zs : List Ent) (hs : List Hd) : Prop where
  ok : ∀ z ∈ zs, Vb σ γ z
  sub : (blks zs).Sublist hs
  root : ∀ L γ', Ag L γ' zs → ∀ z ∈ zs, z.1.2.st = .live → RootOk L γ' w I z.2 z.1.2
  rb : ∀ z ∈ zs, ∀ x q ver, z.1.2.bx = true → x ∈ z.1.2.xs → ref1 x q ver → ∃ z' ∈ zs, z'.1.1 = q ∧ ver = z'.1.2.ver
theorem Back.nil {hs : List Hd} : Back w I σ γ [] hs := ⟨fun z hz => (by cases hz), List.nil_sublist _, fun _ _ _ z hz => (by cases hz), fun z hz => (by cases hz)⟩
theorem Back.append {zs zs' : List Ent} {hs hs' : List Hd} (h : Back w I σ γ zs hs) (k : Back w I σ γ zs' hs') : Back w I σ γ (zs ++ zs') (hs ++ hs') := by
  refine ⟨fun z hz => ?_, by rw [blks_append]; exact h.sub.append k.sub, fun L γ hA z hz => ?_, fun z hz x q ver hb hx hr => ?_⟩
  · exact (List.mem_append.1 hz).elim (h.ok z) (k.ok z)
  · exact (List.mem_append.1 hz).elim (h.root L γ hA.left z) (k.root L γ hA.right z)
  · rcases List.mem_append.1 hz with hz | hz
    · obtain ⟨z', hz', h'⟩ := h.rb z hz x q ver hb hx hr
      exact ⟨z', by simp [hz'], h'⟩
    · obtain ⟨z', hz', h'⟩ := k.rb z hz x q ver hb hx hr
      exact ⟨z', by simp [hz'], h'⟩
theorem Ents.toBack {zs : List Ent} {hs : List Hd} (h : Ents w I σ.next zs hs) : Back w I σ γ zs hs :=
  ⟨fun z hz => .inl (h.live z hz), by rw [h.blk]; exact List.Sublist.refl _, fun L γ hA z hz _ => h.root L γ hA z hz, h.rb⟩
theorem deadK_some {x : AV} {A B : Option β} (h : deadK x A B = some r) : (x = .dead ∧ A = some r) ∨ (x ≠ .dead ∧ B = some r) := by
  unfold deadK at h
  split at h
  · exact .inl ⟨rfl, h⟩
  · rename_i hne
    exact .inr ⟨hne, h⟩
theorem widths_one (x : AV) : AV.widths [x] = x.width := rfl

theorem reopen_own (hs : Sim N S I0 w0 γ I σ a w) {ty sz : Nat} {x o : AV} {u : Value} {l b1 : List Hd} {K : List (Nat × Root) → Option β} (hx : RV σ.L γ w I x u) (hl : LentK σ γ (.own ty sz true) x l) (ho : RO w' I' o u b1)
    (hr : (b1 = l ∧ ∀ q v p part R, x = .ref q v p part → σ.L q = some R → rowLen o = R.xs.length) ∨ o = .dead) (h : reopenK σ (.own ty sz true) x o K = some r) :
    ∃ zs, K (zs.map (·.1)) = some r ∧ Back w' I' σ γ zs b1 := by
  simp only [reopenK, cond_true] at h
  rcases hl with ⟨rfl, rfl⟩ | ⟨q, v, part, R, rfl, h1, h2, h3, h4, h5, h6⟩
  · exact ⟨[], h, .nil⟩
  · simp only [h1] at h
    rcases deadK_some h with ⟨rfl, h⟩ | ⟨hne, h⟩
    · refine ⟨[((q, { R with st := .gone, xs := [] }), none)], h, ⟨fun z hz => ?_, by simp [blks], fun L γ' _ z hz hst => ?_, fun z hz x q ver _ hx => ?_⟩⟩
      · simp only [List.mem_singleton] at hz; subst hz
        exact .inr ⟨R, h1, h3, rfl, .inr ⟨rfl, rfl⟩⟩
      · simp only [List.mem_singleton] at hz; subst hz; simp at hst
      · simp only [List.mem_singleton] at hz; subst hz; simp at hx
    · obtain ⟨ys, p', e0, h9⟩ := fitO_some h
      subst e0
      rcases hr with ⟨rfl, hlen⟩ | hd
      case inr => exact absurd hd hne
      have hlen : ys.length = R.xs.length := hlen q v [] part R rfl h1
      have hro := hs.root q R h1 (by rw [h3]; simp)
      refine ⟨[((q, { R with xs := ys }), γ q)], h9, ⟨fun z hz => ?_, ?_, fun L γ' _ z hz hst => ?_, fun z hz x q ver hb => ?_⟩⟩
      · simp only [List.mem_singleton] at hz; subst hz
        exact .inr ⟨R, h1, h3, rfl, .inl ⟨h3, hlen.symm, rfl, rfl⟩⟩
      · rw [h6]; cases γ q <;> simp [blks]
      · simp only [List.mem_singleton] at hz; subst hz
        rcases ho with ⟨rfl, e, _⟩ | ⟨b, of, cap, e, k1, k2, k3, k4⟩
        · rw [h6] at e
          cases hg : γ q with
          | none => exact ⟨rfl, h4⟩
          | some hd => rw [hg] at e; cases e
        · rw [h6] at e
          cases hg : γ q with
          | none => rw [hg] at e; cases e
          | some hd =>
            rw [hg] at e
            injection e with e _; subst e
            exact ⟨k1, RowOk.mkRow h4 (h5 ▸ k3), h5 ▸ k4, fun hb => by rw [h4] at hb; cases hb⟩
      · simp only [List.mem_singleton] at hz; subst hz
        rw [h4] at hb; cases hb

theorem reopen_box (hs : Sim N S I0 w0 γ I σ a w) {ty sz : Nat} {s : Sh} {x o : AV} {u : Value} {l b1 : List Hd} {K : List (Nat × Root) → Option β} (hx : RV σ.L γ w I x u) (hl : LentK σ γ (.box ty sz s) x l) (ho : RO w' I' o u b1)
    (h : reopenK σ (.box ty sz s) x o K = some r) : ∃ zs, K (zs.map (·.1)) = some r ∧ Back w' I' σ γ zs b1 := by
  simp only [reopenK] at h
  obtain ⟨q, v, R, b, l', rfl, h1, h2, h3, h4, h5, hg, h6⟩ := hl
  simp only [h1] at h
  obtain ⟨cs, rfl, h⟩ := fitX_some h
  obtain ⟨c, cs', rfl, h⟩ := hdK_some h
  obtain ⟨rfl, h⟩ := nlK_some h
  obtain ⟨c', hsame, h⟩ := fitK_some h
  obtain ⟨hw, h⟩ := cond_some h
  have hw := Nat.eq_of_beq_eq_true hw
  obtain ⟨b', hs', us, hu', rfl, hf, ⟨u', us', c1, c2, rfl, rfl, hc, e3, e4⟩, hul, hcell, hone⟩ := ho
  subst e3; subst e4
  simp only [List.all_cons, List.all_nil, Bool.and_true] at hone
  obtain ⟨hi, b2, of, cap, hg2, hu⟩ := hx.2 R h1 h2 (by rw [h3]; simp) rfl
  rw [hg] at hg2
  injection hg2 with hg2; injection hg2 with e1 e2; injection e2 with e2 e3
  subst e1; subst e2; subst e3
  rw [hu] at hu'
  injection hu' with hu'; injection hu' with hu'; injection hu' with hb' _
  subst hb'
  obtain ⟨y, zs, h, hO⟩ := openK_some s h (hsame.ro _ _ _ _ hc)
  have hone' := hsame.one hone
  have hro := hs.root q R h1 (by rw [h3]; simp)
  rw [hg] at hro
  obtain ⟨x1, ev, e1, e2, e3, e4⟩ := hro.2.1.box h4
  refine ⟨((q, { R with xs := [y] }), some (b, 0, 1)) :: zs, h, ⟨fun z hz => ?_, ?_, fun L γ' hA z hz hst => ?_, fun z hz x q' ver hb hx' hr => ?_⟩⟩
  · rcases List.mem_cons.1 hz with rfl | hz
    · exact .inr ⟨R, h1, h3, rfl, .inl ⟨h3, by rw [e1]; rfl, rfl, hg.symm⟩⟩
    · exact .inl (hO.ents.live z hz)
  · show ((b, 0, 1) :: blks zs).Sublist ((b, 0, 1) :: (c1 ++ []))
    rw [hO.ents.blk, List.append_nil]
    exact List.Sublist.refl _
  · have hA' : Ag L γ' zs := fun z hz => hA z (List.mem_cons_of_mem _ hz)
    rcases List.mem_cons.1 hz with rfl | hz
    · have hr1 := (hO.rv L γ' hA').2.1 hone'
      refine ⟨by simp, RowOk.mkBox h4 ⟨y, u', rfl, hr1, ?_, hcell u' (by simp)⟩, ?_, fun _ => ⟨rfl, rfl⟩⟩
      · rw [← hr1.width, RO_width hone' (hsame.ro _ _ _ _ hc), hw, ← h5]
      · rw [widths_one, ← hsame.width, hw, ← h5] at hf
        simpa using hf
    · exact hO.ents.root L γ' hA' z hz
  · rcases List.mem_cons.1 hz with rfl | hz
    · simp only [List.mem_singleton] at hx'
      subst hx'
      obtain ⟨z', hz', h'⟩ := hO.rf q' ver (ref1_refers hr)
      exact ⟨z', List.mem_cons_of_mem _ hz', h'⟩
    · obtain ⟨z', hz', h'⟩ := hO.ents.rb z hz x q' ver hb hx' hr
      exact ⟨z', List.mem_cons_of_mem _ hz', h'⟩

mutual
theorem reopenK_some (hs : Sim N S I0 w0 γ I σ a w) : ∀ (s : Sh) {x o : AV} {u : Value} {l b1 : List Hd} {K : List (Nat × Root) → Option β}, RV σ.L γ w I x u → LentK σ γ s x l → RO w' I' o u b1 →
    (s.row = true → (b1 = l ∧ ∀ q v p part R, x = .ref q v p part → σ.L q = some R → rowLen o = R.xs.length) ∨ o = .dead) → reopenK σ s x o K = some r →
    ∃ zs, K (zs.map (·.1)) = some r ∧ Back w' I' σ γ zs b1
  | .own ty sz true, x, o, u, l, b1, K, hx, hl, ho, hr, h => reopen_own hs hx hl ho (hr rfl) h
  | .own ty sz false, x, o, u, l, b1, K, hx, hl, ho, hr, h => ⟨[], by simp only [reopenK, cond_false] at h; exact h, .nil⟩
  | .box ty sz s, x, o, u, l, b1, K, hx, hl, ho, hr, h => reopen_box hs hx hl ho h
  | .agg ls, x, o, u, l, b1, K, hx, hl, ho, hr, h => by
    simp only [reopenK] at h
    cases hb : Sh.ownsL ls with
    | true => rw [hb] at h; cases h
    | false => rw [hb, cond_false] at h; exact ⟨[], h, .nil⟩
  | .tup ls, x, o, u, l, b1, K, hx, hl, ho, hr, h => by
    simp only [reopenK] at h
    cases hb : Sh.ownsL ls with
    | true => rw [hb] at h; cases h
    | false => rw [hb, cond_false] at h; exact ⟨[], h, .nil⟩
  | .fn f ls ms, x, o, u, l, b1, K, hx, hl, ho, hr, h => by
    simp only [reopenK] at h
    cases hrow : (ls ++ ms).any Sh.row with
    | true => rw [hrow] at h; cases h
    | false =>
    rw [hrow, cond_false] at h
    cases hb : (Sh.ownsL ls || Sh.ownsL ms) with
    | false => rw [hb, cond_false] at h; exact ⟨[], h, .nil⟩
    | true =>
    rw [hb, cond_true] at h
    obtain ⟨xs, ys, e0, h1⟩ := fitF_some h
    obtain ⟨os, ps, e1, h2⟩ := fitF_some h1
    subst e0; subst e1
    obtain ⟨xs', ys', l1, l2, e2, e3, hl1, hl2⟩ := hl
    injection e2 with _ e4 e5
    subst e4; subst e5
    obtain ⟨us, vs, hu, hx1, hx2⟩ := hx
    obtain ⟨us', vs', c1, c2, e6, e7, ho1, ho2, _, _⟩ := ho
    rw [hu] at e7
    injection e7 with _ e8 e9
    have e8 : us = us' := by simpa using congrArg Array.toList e8
    have e9 : vs = vs' := by simpa using congrArg Array.toList e9
    subst e8; subst e9; subst e6
    rw [List.any_append, Bool.or_eq_false_iff] at hrow
    obtain ⟨zs, h3, k1⟩ := reopenL_some hs ls (hx1.imp (fun c _ u hcu => RV_of1 hcu)) hl1 ho1 hrow.1 h2
    obtain ⟨zs', h4, k2⟩ := reopenL_some hs ms (hx2.imp (fun c _ u hcu => RV_of1 hcu)) hl2 ho2 hrow.2 h3
    exact ⟨zs ++ zs', by rw [List.map_append]; exact h4, k1.append k2⟩
  | .int k, x, o, u, l, b1, K, hx, hl, ho, hr, h => ⟨[], by simp only [reopenK] at h; exact h, .nil⟩
  | .bool, x, o, u, l, b1, K, hx, hl, ho, hr, h => ⟨[], by simp only [reopenK] at h; exact h, .nil⟩
  | .str, x, o, u, l, b1, K, hx, hl, ho, hr, h => ⟨[], by simp only [reopenK] at h; exact h, .nil⟩
  | .sl sz, x, o, u, l, b1, K, hx, hl, ho, hr, h => ⟨[], by simp only [reopenK] at h; exact h, .nil⟩
theorem reopenL_some (hs : Sim N S I0 w0 γ I σ a w) : ∀ (ls : List Sh) {xs os : List AV} {us : List Value} {l b1 : List Hd} {K : List (Nat × Root) → Option β}, All2 (RV σ.L γ w I) xs us → LentL σ γ ls xs l → ROl w' I' os us b1 →
    ls.any Sh.row = false → reopenL σ ls xs os K = some r → ∃ zs, K (zs.map (·.1)) = some r ∧ Back w' I' σ γ zs b1
  | [], xs, os, us, l, b1, K, hx, hl, ho, hr, h => ⟨[], by simp only [reopenL] at h; exact h, .nil⟩
  | s :: ls, xs, os, us, l, b1, K, hx, hl, ho, hr, h => by
    simp only [reopenL] at h
    obtain ⟨x, xs1, e0, h1⟩ := hdK_some h
    obtain ⟨o, os1, e1, h2⟩ := hdK_some h1
    subst e0; subst e1
    obtain ⟨x', xs', l1, l2, e2, rfl, hl1, hl2⟩ := hl
    injection e2 with e2 e3
    subst e2; subst e3
    obtain ⟨u, us', rfl, hx1, hx2⟩ := hx
    obtain ⟨u', us1, c1, c2, e4, rfl, ho1, ho2⟩ := ho
    injection e4 with e4 e5
    subst e4; subst e5
    simp only [List.any_cons, Bool.or_eq_false_iff] at hr
    obtain ⟨zs, h3, k1⟩ := reopenK_some hs s hx1 hl1 ho1 (fun hrow => by rw [hr.1] at hrow; cases hrow) h2
    obtain ⟨zs', h4, k2⟩ := reopenL_some hs ls hx2 hl2 ho2 hr.2 h3
    exact ⟨zs ++ zs', by rw [List.map_append]; exact h4, k1.append k2⟩
end

/-! ### Arguments -/
def LentA (σ : St) (γ : Nat → Hdr) : List Sh → List AV → List AV → List (List Hd) → Prop
  | [], xs, ys, hss => xs = [] ∧ ys = [] ∧ hss = []
  | s :: ls, xs, ys, hss => ∃ x xs' y ys' l hss', xs = x :: xs' ∧ ys = y :: ys' ∧ hss = l :: hss' ∧ LentK σ γ s x l ∧
      (s.row = true → ∀ q v p part R, x = .ref q v p part → σ.L q = some R → rowLen y = R.xs.length) ∧ LentA σ γ ls xs' ys' hss'
theorem row_own {s : Sh} (h : s.row = true) : s.isOwn = true := by
  cases s <;> first | rfl | exact h
theorem closeK_row {tol : Bool} {s : Sh} {x : AV} {K : AV → List Nat → List Nat → Option β} (hrow : s.isOwn = true) (h : closeK σ tol s x K = some r) (ht : tol = false) :
    ∃ y rs us, K y rs us = some r ∧ (∀ {β' : Type} (K' : AV → List Nat → List Nat → Option β'), closeK σ tol s x K' = K' y rs us) ∧ (∀ q v p part R, x = .ref q v p part → σ.L q = some R → rowLen y = R.xs.length) := by
  cases s <;> simp only [Sh.isOwn, Bool.false_eq_true] at hrow
  simp only [closeK] at h ⊢
  split at h
  · rename_i q v part
    split at h
    · rename_i R hR
      cases hc : (Nat.beq R.ver v && (R.st == .live)) with
      | true =>
        rw [cond_t hc] at h
        obtain ⟨hc2, h2⟩ := cond_some h
        refine ⟨_, _, _, h2, fun K' => by rw [hc2]; rfl, fun q' v' p' part' R' e hR' => ?_⟩
        injection e with e1 e2
        subst e1
        rw [hR] at hR'; injection hR' with hR'; subst hR'
        rfl
      | false => rw [cond_f hc, ht] at h; cases h
    · cases h
  · exact ⟨_, _, _, h, fun K' => rfl, fun q v p part R e => by cases e⟩
  · cases h
theorem closeA_some (hs : Sim N S I0 w0 γ I σ a w) : ∀ (ls : List Sh) {xs : List AV} {vs : List Value} {K : List AV → List Nat → List Nat → Option β}, All2 (RV σ.L γ w I) xs vs → closeL σ false ls xs K = some r →
    ∃ ys rs us hss, K ys rs us = some r ∧ ArgsOk w (Ix γ I rs) ys vs hss ∧ Stand σ rs ∧ Units σ γ us hss.flatten ∧ LentA σ γ ls xs ys hss
  | [], xs, vs, K, hx, h => by
    simp only [closeL] at h
    obtain ⟨rfl, h1⟩ := nlK_some h
    exact ⟨_, _, _, [], h1, ⟨hx, rfl⟩, (fun q hq => by cases hq), .nil, rfl, rfl, rfl⟩
  | s :: ls, xs, vs, K, hx, h => by
    simp only [closeL] at h
    obtain ⟨x, xs', rfl, h1⟩ := hdK_some h
    obtain ⟨v, vs', rfl, hx1, hx2⟩ := hx
    have both : ∃ y rs us bs, (closeL σ false ls xs' fun ys rs' us' => K (y :: ys) (rs ++ rs') (us ++ us')) = some r ∧ RO w (Ix γ I rs) y v bs ∧ Stand σ rs ∧ Units σ γ us bs ∧ LentK σ γ s x bs ∧
        (s.row = true → ∀ q v p part R, x = .ref q v p part → σ.L q = some R → rowLen y = R.xs.length) := by
      cases hrow : s.isOwn with
      | false =>
        obtain ⟨y, rs, us, bs, h2, j1, j2, j3, j4, j5⟩ := closeK_some hs s hx1 h1
        exact ⟨y, rs, us, bs, h2, j1, j2, j3, j5 rfl, fun hf => by rw [row_own hf] at hrow; cases hrow⟩
      | true =>
        obtain ⟨y, rs, us, h2, hnat, hlen⟩ := closeK_row hrow h1 rfl
        obtain ⟨y', rs', us', bs, h3, j1, j2, j3, j4, j5⟩ := closeK_some hs s (K := fun y rs us => some (y, rs, us)) hx1 (hnat _)
        injection h3 with h3; injection h3 with e1 h3; injection h3 with e2 e3
        subst e1; subst e2; subst e3
        exact ⟨_, _, _, bs, h2, j1, j2, j3, j5 rfl, fun _ => hlen⟩
    obtain ⟨y, rs, us, bs, h2, j1, j2, j3, j5, j6⟩ := both
    obtain ⟨ys, rs', us', hss, h3, k1, k2, k3, k4⟩ := closeA_some hs ls hx2 h2
    exact ⟨_, _, _, bs :: hss, h3, ⟨v, vs', bs, hss, rfl, rfl, RO_mono Ix_left _ _ _ j1, ArgsOk_mono Ix_right k1⟩, j2.append k2, by simpa using j3.append k3, ⟨x, xs', y, ys, bs, hss, rfl, rfl, rfl, j5, j6, k4⟩⟩
where
  ArgsOk_mono {I I' : Nat → Prop} (hI : ∀ k, I k → I' k) : ∀ {l : List AV} {vs : List Value} {hss : List (List Hd)}, ArgsOk w I l vs hss → ArgsOk w I' l vs hss
    | [], _, _, h => h
    | _ :: _, _, _, h => by
      obtain ⟨u, us', b, hss', h1, h2, h3, h4⟩ := h
      exact ⟨u, us', b, hss', h1, h2, RO_mono hI _ _ _ h3, ArgsOk_mono hI h4⟩

theorem outsK_some (hs : Sim N S I0 w0 γ I σ a w) : ∀ (ls : List Sh) {xs ys outs : List AV} {vs : List Value} {hss : List (List Hd)} {b2 : List Hd} {K : List (Nat × Root) → Option β}, All2 (RV σ.L γ w I) xs vs → LentA σ γ ls xs ys hss →
    OutsOk w' I' ls ys vs hss outs b2 → outsK σ ls xs outs K = some r → ∃ zs, K (zs.map (·.1)) = some r ∧ Back w' I' σ γ zs b2
  | [], xs, ys, outs, vs, hss, b2, K, hx, hl, ho, h => by
    simp only [outsK] at h
    obtain ⟨_, h1⟩ := nlK_some h
    exact ⟨[], h1, .nil⟩
  | s :: ls, xs, ys, outs, vs, hss, b2, K, hx, hl, ho, h => by
    simp only [outsK] at h
    obtain ⟨x, xs1, rfl, h1⟩ := hdK_some h
    obtain ⟨x', xs', y, ys', l, hss', e1, rfl, rfl, hl1, hl2, hl3⟩ := hl
    injection e1 with e1 e2
    subst e1; subst e2
    obtain ⟨v, vs', rfl, hx1, hx2⟩ := hx
    obtain ⟨y1, ys1, v1, vs1, l1, hss1, e3, e4, e5, ho⟩ := ho
    injection e3 with e3 e3'
    injection e4 with e4 e4'
    injection e5 with e5 e5'
    subst e3; subst e3'; subst e4; subst e4'; subst e5; subst e5'
    rcases ho with ⟨hown, ho⟩ | ⟨hown, o, outs', b1, b2', rfl, rfl, ho1, ho2, ho3⟩
    · rw [hown, cond_false] at h1
      exact outsK_some hs ls hx2 hl3 ho h1
    · rw [hown, cond_true] at h1
      obtain ⟨o', outs1, e6, h2⟩ := hdK_some h1
      injection e6 with e6 e7
      subst e6; subst e7
      obtain ⟨zs, h3, k1⟩ := reopenK_some hs s hx1 hl1 ho1 (fun hrow => (ho2 hrow).imp (fun k => ⟨k.1, fun q v p part R e hR => k.2.trans (hl2 hrow q v p part R e hR)⟩) id) h2
      obtain ⟨zs', h4, k2⟩ := outsK_some hs ls hx2 hl3 ho3 h3
      exact ⟨zs ++ zs', by rw [List.map_append]; exact h4, k1.append k2⟩
end Go.Ai
