/- Part of the proofs: the verified interpreter for the program's functions, or lemmas on what they compute; no condition. -/
import Derived.Test.YtoocidelbmbgcaaOctetSealsBiReg
namespace Go.Ai
variable {N : Lim} {S I0 I I' : Nat → Prop} {w0 w w' : World} {γ γ' : Nat → Hdr} {σ σ' σ1 σ2 : St} {a : Act} {Γ : Ctx} {o : Oper} {e : Eff} {β : Type} {r : β} {ops : Array Oper} {Q : Exit → Act → World → Prop} {K : Act → World → Prop}

/-! ### Any order that the edges allow -/
theorem meets_false {l m : List Nat} (h : meets l m = false) : ∀ x ∈ l, x ∉ m := by
  intro x hx hm
  have : meets l m = true := List.any_eq_true.2 ⟨x, hx, by simpa using hm⟩
  rw [h] at this; cases this

theorem eff_env {d : Option Nat} (t : Nat) : (σ.eff d e).env t = if d = some t then e.v else σ.env t := by
  cases d with
  | none => simp [St.eff, St.slot, ups_env]
  | some d =>
    simp only [St.eff, St.slot, ups_env]
    by_cases h : d = t
    · subst h; simp [setAt_self]
    · rw [setAt_ne _ (Ne.symm h)]; simp [h]
theorem eff_L {d : Option Nat} (q : Nat) : (σ.eff d e).L q = (σ.ups e.ups).L q := by
  cases d <;> rfl
theorem eff_ne {d : Option Nat} {q : Nat} (h : q ∉ e.ups.map (·.1)) : (σ.eff d e).L q = σ.L q := by
  rw [eff_L]
  exact ups_ne _ _ (fun x hx he => h (List.mem_map.2 ⟨x, hx, he⟩))
theorem ups_L : ∀ (l : List (Nat × Root)) (σ1 σ2 : St) (q : Nat), σ1.L q = σ2.L q ∨ q ∈ l.map (·.1) → (σ1.ups l).L q = (σ2.ups l).L q
  | [], _, _, _, h => by
    rcases h with h | h
    · exact h
    · cases h
  | (r, R) :: l, σ1, σ2, q, h => by
    simp only [St.ups]
    refine ups_L l _ _ q ?_
    by_cases e : q = r
    · subst e; left; simp [setAt_self]
    · rcases h with h | h
      · left; simp only [setAt_ne _ e]; exact h
      · simp only [List.map_cons, List.mem_cons] at h
        rcases h with h | h
        · exact absurd h e
        · exact .inr h
theorem eff_comm {d1 d2 : Option Nat} {e1 e2 : Eff} (hd : ∀ d, d1 = some d → d2 ≠ some d) (hk : ∀ q ∈ e1.ups.map (·.1), q ∉ e2.ups.map (·.1)) : (σ.eff d1 e1).eff d2 e2 = (σ.eff d2 e2).eff d1 e1 := by
  have henv : ((σ.eff d1 e1).eff d2 e2).env = ((σ.eff d2 e2).eff d1 e1).env := by
    funext t
    simp only [eff_env]
    by_cases h1 : d1 = some t
    · rw [if_neg (hd t h1), if_pos h1, if_pos h1]
    · rw [if_neg h1, if_neg h1]
  have hL : ((σ.eff d1 e1).eff d2 e2).L = ((σ.eff d2 e2).eff d1 e1).L := by
    funext q
    by_cases h1 : q ∈ e1.ups.map (·.1)
    · rw [eff_ne (hk q h1), eff_L, eff_L]
      exact ups_L _ _ _ _ (.inr h1)
    · rw [eff_ne (d := d1) h1, eff_L, eff_L]
      refine ups_L _ _ _ _ (.inl ?_)
      exact eff_ne h1
  generalize (σ.eff d1 e1).eff d2 e2 = x at *
  generalize (σ.eff d2 e2).eff d1 e1 = y at *
  cases x; cases y
  simp only at henv hL
  subst henv; subst hL; rfl

theorem Trace.front {i : Nat} {l2 : List Nat} : ∀ {l1 : List Nat} {σ : St} {fs : List (Nat × Fp)} {σ' : St}, Trace Γ ops (l1 ++ i :: l2) σ fs σ' →
    ∃ fs1 f fs2, fs = fs1 ++ (i, f) :: fs2 ∧ fs1.map (·.1) = l1 ∧ ((∀ x ∈ fs1, clash x.2 f = false) → Trace Γ ops (i :: (l1 ++ l2)) σ ((i, f) :: (fs1 ++ fs2)) σ')
  | [], σ, fs, σ', h => by
    cases h with
    | cons ho hs ht => exact ⟨[], _, _, rfl, rfl, fun _ => .cons ho hs ht⟩
  | j :: l1, σ, fs, σ', h => by
    cases h with
    | @cons _ oj ej _ _ fs' _ hoj hsj htj =>
      obtain ⟨fs1, f, fs2, h1, h2, h3⟩ := Trace.front htj
      refine ⟨(j, fpOf ops oj ej) :: fs1, f, fs2, by rw [h1]; rfl, by simp [h2], fun hc => ?_⟩
      have hcj := hc _ (List.mem_cons_self ..)
      have h4 := h3 (fun x hx => hc x (by simp [hx]))
      cases h4 with
      | @cons _ oi ei _ _ _ _ hoi hsi hti =>
        simp only [clash, Bool.or_eq_false_iff] at hcj
        obtain ⟨⟨⟨c1, c2⟩, c3⟩, c4⟩ := hcj
        have c1 := meets_false c1
        have c2 := meets_false c2
        have c3 := meets_false c3
        have c4 := meets_false c4
        have hsi' : Step Γ ops oi σ ei := hsi.agree (fun t ht => by
            rw [eff_env, if_neg]
            intro hd
            exact c1 t (by simp [fpOf, hd]) (by simp [ht])) (fun q hq => by
            refine (eff_ne ?_).symm
            intro hm
            exact c3 q hm (by simp [fpOf, hq]))
        have hsj' : Step Γ ops oj (σ.eff oi.dst ei) ej := hsj.agree (fun t ht => by
            rw [eff_env, if_neg]
            intro hd
            exact c2 t (by simp [fpOf, hd]) ht) (fun q hq => by
            refine eff_ne ?_
            intro hm
            exact c4 q hm hq)
        refine .cons hoi hsi' ?_
        refine .cons hoj hsj' ?_
        rw [eff_comm (σ := σ) (d1 := oi.dst) (d2 := oj.dst) (e1 := ei) (e2 := ej)]
        · exact hti
        · intro d hd hd2
          exact c1 d (by simp [fpOf, hd2]) (by simp [fpOf, hd])
        · intro q hq hm
          exact c3 q hm (by simp only [fpOf, List.mem_append]; exact .inl hq)

inductive Anc (ops : Array Oper) (j : Nat) : Nat → Prop
  | one {i : Nat} {o : Oper} {ed : Edge} (ho : ops[i]? = some o) (he : ed ∈ o.after.toList) (hb : Region.binds .any ed = true) (hj : ed.on = j) : Anc ops j i
  | more {i : Nat} {o : Oper} {ed : Edge} (ho : ops[i]? = some o) (he : ed ∈ o.after.toList) (hb : Region.binds .any ed = true) (hj : Anc ops j ed.on) : Anc ops j i
theorem ahead_anc : ∀ {n j i : Nat}, ahead ops n j i = true → Anc ops j i
  | 0, _, _, h => by simp [ahead] at h
  | n + 1, j, i, h => by
    unfold ahead at h
    split at h
    · rename_i o ho
      rcases Bool.or_eq_true_iff.1 h with h | h
      · obtain ⟨ed, h1, h2⟩ := List.any_eq_true.1 h
        simp only [Bool.and_eq_true] at h2
        exact .one ho h1 h2.1 (Nat.eq_of_beq_eq_true h2.2)
      · obtain ⟨ed, h1, h2⟩ := List.any_eq_true.1 h
        simp only [Bool.and_eq_true] at h2
        exact .more ho h1 h2.1 (ahead_anc h2.2)
    · cases h
def ApartP (ops : Array Oper) (fs : List (Nat × Fp)) : Prop := fs.Pairwise fun x y => clash x.2 y.2 = false ∨ Anc ops x.1 y.1
theorem apart1_all {i : Nat} {f : Fp} : ∀ {l : List (Nat × Fp)}, apart1 ops i f l = true → ∀ y ∈ l, clash f y.2 = false ∨ Anc ops i y.1
  | [], _, y, hy => by cases hy
  | (j, g) :: l, h, y, hy => by
    simp only [apart1, Bool.and_eq_true, Bool.or_eq_true, Bool.not_eq_true'] at h
    rcases List.mem_cons.1 hy with rfl | hy
    · exact h.1.imp id ahead_anc
    · exact apart1_all h.2 y hy
theorem apartAll_P : ∀ {fs : List (Nat × Fp)}, apartAll ops fs = true → ApartP ops fs
  | [], _ => List.Pairwise.nil
  | (i, f) :: l, h => by
    simp only [apartAll, Bool.and_eq_true] at h
    exact List.Pairwise.cons (fun y hy => apart1_all h.1 y hy) (apartAll_P h.2)

/-- The edges lead backwards in the text. -/
def LexOk (ops : Array Oper) : Prop := ∀ (i : Nat) (o : Oper), ops[i]? = some o → ∀ ed ∈ o.after.toList, Region.binds .any ed = true → ed.on < i
structure Left (ops : Array Oper) (listed : Array Bool) (l : List Nat) : Prop where
  size : listed.size = ops.size
  sorted : l.Pairwise (· < ·)
  mem : ∀ i, i ∈ l ↔ i < ops.size ∧ listed.getD i true = false
  closed : ∀ i o, ops[i]? = some o → listed.getD i false = true → ∀ ed ∈ o.after.toList, Region.binds .any ed = true → listed.getD ed.on false = true

theorem mem_ready {listed : Array Bool} {i : Nat} : i ∈ Region.ready .any ops listed ↔ i < ops.size ∧ listed.getD i true = false ∧ ∃ o, ops[i]? = some o ∧ ∀ ed ∈ o.after.toList, Region.binds .any ed = true → listed.getD ed.on false = true := by
  unfold Region.ready
  simp only [List.mem_filter, List.mem_range, Bool.and_eq_true, Bool.not_eq_true']
  constructor
  · rintro ⟨h1, h2, h3⟩
    refine ⟨h1, h2, _, Array.getElem?_eq_getElem h1, ?_⟩
    rw [Array.getElem?_eq_getElem h1] at h3
    simp only [Option.map_some, Option.getD_some, Array.all_eq_true_iff_forall_mem, Bool.or_eq_true, Bool.not_eq_true'] at h3
    intro ed he hb
    rcases h3 ed (by simpa using he) with h | h
    · rw [hb] at h; cases h
    · exact h
  · rintro ⟨h1, h2, o, h3, h4⟩
    refine ⟨h1, h2, ?_⟩
    rw [h3]
    simp only [Option.map_some, Option.getD_some, Array.all_eq_true_iff_forall_mem, Bool.or_eq_true, Bool.not_eq_true']
    intro ed he
    cases hb : Region.binds .any ed with
    | false => exact .inl rfl
    | true => exact .inr (h4 ed (by simpa using he) hb)

theorem getD_tf {listed : Array Bool} {i : Nat} (h : i < listed.size) : listed.getD i true = listed.getD i false := by
  simp [Array.getD_eq_getD_getElem?, Array.getElem?_eq_getElem h]

theorem Left.anc {listed : Array Bool} {l : List Nat} (h : Left ops listed l) {j i : Nat} (hi : listed.getD i false = true) (ha : Anc ops j i) : listed.getD j false = true := by
  induction ha with
  | one ho he hb hj => rw [← hj]; exact h.closed _ _ ho hi _ he hb
  | more ho he hb _ ih => exact ih (h.closed _ _ ho hi _ he hb)

theorem any_ok (hΓ : CtxOk Γ) (hd : DstOk N ops) (hx : LexOk ops) (hq : ∀ a' w', Ok N S I0 w0 σ' a' w' → Q .normal a' w') :
    ∀ (n : Nat) (l : List Nat) (listed : Array Bool) (σ : St) (fs : List (Nat × Fp)) (a : Act) (w : World), l.length = n → Trace Γ ops l σ fs σ' → ApartP ops fs → Left ops listed l → Ok N S I0 w0 σ a w → wpAny Γ.P .any ops Q n listed a w
  | 0, l, listed, σ, fs, a, w, hn, ht, hp, hl, hok => by
    have := List.eq_nil_of_length_eq_zero hn
    subst this
    cases ht with
    | nil =>
      refine ⟨?_, hq _ _ hok⟩
      cases hr : Region.ready .any ops listed with
      | nil => rfl
      | cons i is =>
        have : i ∈ Region.ready .any ops listed := by rw [hr]; simp
        obtain ⟨h1, h2, _⟩ := mem_ready.1 this
        have := (hl.mem i).2 ⟨h1, h2⟩
        cases this
  | n + 1, l, listed, σ, fs, a, w, hn, ht, hp, hl, hok => by
    refine ⟨fun hnil => ?_, fun i hi => ?_⟩
    · -- the first one left is ready
      cases l with
      | nil => simp at hn
      | cons i l =>
        exfalso
        obtain ⟨h1, h2⟩ := (hl.mem i).1 (by simp)
        have : i ∈ Region.ready .any ops listed := by
          refine mem_ready.2 ⟨h1, h2, _, Array.getElem?_eq_getElem h1, fun ed he hb => ?_⟩
          have hlt := hx i _ (Array.getElem?_eq_getElem h1) ed he hb
          have hlt2 : ed.on < listed.size := by rw [hl.size]; omega
          rw [← getD_tf hlt2]
          cases hv : listed.getD ed.on true with
          | true => rfl
          | false =>
            have := (hl.mem ed.on).2 ⟨by omega, hv⟩
            rcases List.mem_cons.1 this with e | hm
            · omega
            · have := List.rel_of_pairwise_cons hl.sorted hm
              omega
        rw [hnil] at this
        cases this
    · obtain ⟨h1, h2, o, ho, h3⟩ := mem_ready.1 hi
      obtain ⟨l1, l2, rfl⟩ := List.append_of_mem ((hl.mem i).2 ⟨h1, h2⟩)
      obtain ⟨fs1, f, fs2, e1, e2, e3⟩ := ht.front
      subst e1
      have hanc : ∀ j, Anc ops j i → listed.getD j false = true := by
        intro j ha
        cases ha with
        | one ho' he hb hj =>
          rw [ho] at ho'; injection ho' with ho'; subst ho'
          rw [← hj]; exact h3 _ he hb
        | more ho' he hb hj =>
          rw [ho] at ho'; injection ho' with ho'; subst ho'
          exact hl.anc (h3 _ he hb) hj
      have hnc : ∀ x ∈ fs1, clash x.2 f = false := by
        intro x hx1
        rcases (List.pairwise_append.1 hp).2.2 x hx1 (i, f) (by simp) with h | h
        · exact h
        · exfalso
          have hm : x.1 ∈ l1 ++ i :: l2 := by
            rw [← e2]
            exact List.mem_append_left _ (List.mem_map.2 ⟨x, hx1, rfl⟩)
          obtain ⟨k1, k2⟩ := (hl.mem x.1).1 hm
          rw [getD_tf (by rw [hl.size]; exact k1), hanc x.1 h] at k2
          cases k2
      have ht' := e3 hnc
      cases ht' with
      | @cons _ oi ei _ _ _ _ hoi hsi hti =>
        rw [ho] at hoi; injection hoi with hoi; subst hoi
        refine step_ok hΓ ho (fun t => hd i o t ho) hok hsi (fun a' w' hok' => ?_)
        have hlt : i < listed.size := by rw [hl.size]; exact h1
        refine any_ok hΓ hd hx hq n (l1 ++ l2) (listed.setIfInBounds i true) _ (fs1 ++ fs2) a' w' ?_ hti ?_ ?_ hok'
        · simp only [List.length_append, List.length_cons] at hn ⊢; omega
        · refine List.Pairwise.sublist ?_ hp
          exact List.Sublist.append (List.Sublist.refl _) (List.sublist_cons_self _ _)
        · have hsub : (l1 ++ l2).Sublist (l1 ++ i :: l2) := List.Sublist.append (List.Sublist.refl _) (List.sublist_cons_self _ _)
          have get : ∀ j b, (listed.setIfInBounds i true).getD j b = if j = i then true else listed.getD j b := by
            intro j b
            simp only [Array.getD_eq_getD_getElem?, Array.getElem?_setIfInBounds]
            by_cases e : i = j
            · subst e; simp [hlt]
            · simp [e, Ne.symm e]
          have hnd : ∀ j ∈ l1 ++ l2, j ≠ i := by
            intro j hj e
            subst e
            have hs := hl.sorted
            rw [List.pairwise_append] at hs
            rcases List.mem_append.1 hj with h | h
            · have := hs.2.2 j h j (by simp); omega
            · have := List.rel_of_pairwise_cons hs.2.1 h; omega
          refine ⟨by simpa using hl.size, hl.sorted.sublist hsub, fun j => ?_, fun j oj hj hlj ed he hb => ?_⟩
          · rw [get]
            constructor
            · intro hj
              obtain ⟨k1, k2⟩ := (hl.mem j).1 (hsub.mem hj)
              exact ⟨k1, by rw [if_neg (hnd j hj)]; exact k2⟩
            · rintro ⟨k1, k2⟩
              by_cases e : j = i
              · rw [if_pos e] at k2; cases k2
              · rw [if_neg e] at k2
                have := (hl.mem j).2 ⟨k1, k2⟩
                simp only [List.mem_append, List.mem_cons] at this ⊢
                rcases this with h | h | h
                · exact .inl h
                · exact absurd h e
                · exact .inr h
          · rw [get] at hlj ⊢
            by_cases e : ed.on = i
            · rw [if_pos e]
            · rw [if_neg e]
              by_cases e2 : j = i
              · subst e2
                rw [ho] at hj; injection hj with hj; subst hj
                exact h3 ed he hb
              · rw [if_neg e2] at hlj
                exact hl.closed j oj hj hlj ed he hb
end Go.Ai
