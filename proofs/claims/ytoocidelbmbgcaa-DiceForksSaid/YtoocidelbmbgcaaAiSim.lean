/- Part of the proofs: the verified interpreter for the program's functions, or lemmas on what they compute; no condition. -/
import Derived.Test.YtoocidelbmbgcaaAiInterp
namespace Go.Ai

/-! ### What stands in memory -/
abbrev Hdr := Option (Nat × Nat × Nat)   -- block, offset, capacity
def offOf (p : Option (Nat × Nat)) : Nat := (p.map (·.1)).getD 0

/-- Block b is a row of cells that may be written. -/
def Free (w : World) (b n : Nat) : Prop := ∃ arr ty lo hi, w.heap[b]? = some (.cells arr ty (lo, hi)) ∧ n ≤ arr.size ∧ ∀ j, j < arr.size → ¬ (lo ≤ j ∧ j < hi)

def RootOk (w : World) (I : Nat → Prop) (h : Hdr) (R : Root) : Prop :=
  match h with
  | none => R.xs = [] ∧ R.bx = false
  | some (b, o, cap) => R.xs.length ≤ cap ∧ RIs w I R.xs b o R.sz ∧ Free w b (o + cap * R.sz) ∧ (R.bx = true → o = 0 ∧ cap = 1)

def RefOk (h : Hdr) (R : Root) (p : Option (Nat × Nat)) (u : Value) : Prop :=
  match h with
  | none => u = .slice none 0 0
  | some (b, o, cap) => ∃ a c, u = .slice a (partOf R.xs p).length c ∧ (partOf R.xs p).length ≤ c ∧ offOf p + c ≤ cap ∧ (c = 0 ∨ a = some ⟨b, o + offOf p * R.sz, none⟩)

/-- Value u is what a slot with x in it holds. -/
def RV (L : Nat → Option Root) (γ : Nat → Hdr) (w : World) (I : Nat → Prop) : AV → Value → Prop
  | .ref r v p part, u => ∀ R, L r = some R → R.ver = v → R.st ≠ .gone → p = [] → RefOk (γ r) R part u
  | .loc r v p i off, u => (∃ ad, u = .pointer (some ad)) ∧ ∀ R, L r = some R → R.ver = v → R.st ≠ .gone → p = [] →
      i < R.xs.length ∧ ∃ b o cap, γ r = some (b, o, cap) ∧ u = .pointer (some ⟨b, o + i * R.sz + off, none⟩)
  | .elm x off, u => ∃ b o v, u = .pointer (some ⟨b, o + off, none⟩) ∧ I b ∧ RI w I x v ∧ cellsAt w b o v.cells
  | .dead, _ => True
  | .tup cs, u => RT w I (.tup cs) u
  | x, u => RI w I x u

/-- What was there at the beginning is as it was, but for the blocks of S. -/
structure Fr (S : Nat → Prop) (w0 w : World) : Prop where
  os : w.os = w0.os
  tape : w.tape = w0.tape
  output : w.output = w0.output
  size : w0.heap.size ≤ w.heap.size
  block : ∀ k, k < w0.heap.size → ¬ S k → w.heap[k]? = w0.heap[k]?

/-- How many slots there are; which of them stay as they are. -/
structure Lim where
  n : Nat
  keep : Nat → Option Value
def Lim.ok (N : Lim) (t : Nat) : Prop := t < N.n ∧ N.keep t = none

structure Sim (N : Lim) (S I0 : Nat → Prop) (w0 : World) (γ : Nat → Hdr) (I : Nat → Prop) (σ : St) (a : Act) (w : World) : Prop where
  size : a.tmps.size = N.n ∧ ∀ t v, N.keep t = some v → a.tmps[t]? = some v
  defers : a.defers = []
  env : ∀ t, RV σ.L γ w I (σ.env t) (a.tmps.getD t undef)
  root : ∀ r R, σ.L r = some R → R.st ≠ .gone → RootOk w I (γ r) R
  live : ∀ r R b o c, σ.L r = some R → R.st = .live → γ r = some (b, o, c) → ¬ I b ∧ (w0.heap.size ≤ b ∨ S b)
  still : ∀ r R b o c, σ.L r = some R → R.st = .still → γ r = some (b, o, c) → I b
  sep : ∀ r r' R R' b o c o' c', r ≠ r' → σ.L r = some R → σ.L r' = some R' → R.st = .live → R'.st = .live → γ r = some (b, o, c) → γ r' ≠ some (b, o', c')
  imm : ∀ k, I k → k < w.heap.size
  immNew : ∀ k, I k → I0 k ∨ w0.heap.size ≤ k ∨ S k
  frame : Fr S w0 w

/-- A pointer to a box of its own. -/
def BoxOk (w : World) (I : Nat → Prop) (xs : List AV) (b : Nat) (v : Value) : Prop :=
  ∃ x, xs = [x] ∧ v = .pointer (some ⟨b, 0, none⟩) ∧ Free w b x.width ∧ RIs w I [x] b 0 x.width
def ArgsOk (w : World) (I : Nat → Prop) : List AV → List Value → List Nat → Prop
  | [], vs, bs => vs = [] ∧ bs = []
  | .box xs :: l, vs, bs => ∃ v vs' b bs', vs = v :: vs' ∧ bs = b :: bs' ∧ BoxOk w I xs b v ∧ ArgsOk w I l vs' bs'
  | x :: l, vs, bs => ∃ v vs', vs = v :: vs' ∧ RI w I x v ∧ ArgsOk w I l vs' bs
def OutsOk (w : World) (I : Nat → Prop) : List AV → List Nat → Prop
  | [], bs => bs = []
  | x :: l, bs => ∃ b bs', bs = b :: bs' ∧ Free w b x.width ∧ RIs w I [x] b 0 x.width ∧ OutsOk w I l bs'
def ResOk (w w' : World) (I : Nat → Prop) (x : AV) (u : Value) : Prop :=
  match x with
  | .box xs => ∃ b, BoxOk w' I xs b u ∧ w.heap.size ≤ b ∧ ¬ I b
  | x => RT w' I x u

def Fires (P : Program) (f : FuncId) (args : Array Value) (w : World) (R : Value → World → Prop) : Prop :=
  (∃ v w', (callFunc f args).run P w = .ok (.value v) w' ∧ R v w') ∨
  ((callFunc f args).run P w = .ok (.enter f args) w ∧ Calls P f args w fun | .returned v, w' => R v w' | _, _ => False)

/-- F tells what the program's function f does. -/
def Sound (P : Program) (f : FuncId) (F : List AV → Option (AV × List AV)) : Prop :=
  ∀ args res outs, F args = some (res, outs) → ∀ (w : World) (vs : List Value) (bs : List Nat) (I : Nat → Prop), ArgsOk w I args vs bs →
    (∀ k, I k → k < w.heap.size) → bs.Nodup → (∀ b ∈ bs, ¬ I b ∧ b < w.heap.size) →
    Fires P f vs.toArray w fun u w' => ∃ I' : Nat → Prop, ResOk w w' I' res u ∧ OutsOk w' I' outs bs ∧ Fr (· ∈ bs) w w' ∧
      (∀ k, I' k → (I k ∨ w.heap.size ≤ k) ∧ k < w'.heap.size) ∧ (∀ b ∈ bs, ¬ I' b)

/-- A type of the program, as the context tells it. -/
def zeroIs : AV → Value → Prop := fun x v => ∀ w I, RI w I x v
def tkIs (P : Program) (t : TypeId) : TK → Prop
  | .int k => P.underlying t = some (.int k)
  | .bool => P.underlying t = some .bool
  | .str => P.underlying t = some .string
  | .slice e => P.underlying t = some (.slice e)
  | .ptr e => P.underlying t = some (.pointer e)
  | .struct fs => ∃ fields : Array Field, P.underlying t = some (.struct fields) ∧ fields.toList.map (fun f => (f.offset, f.type)) = fs
  | .array n e => P.underlying t = some (.array n e)
  | .tuple => ∃ es, P.underlying t = some (.tuple es)
structure TyOk (P : Program) (t : TypeId) (i : TI) : Prop where
  tk : tkIs P t i.tk
  info : ∃ j, P.info? t = some j ∧ j.size = i.size ∧ j.bytes = i.bytes ∧ ∃ z, j.zero = some z ∧ zeroIs i.zero z
  zw : i.zero.width = i.size
  parts : ∀ fs, i.tk = .struct fs → ∀ q ∈ fs, ∃ j, P.info? q.2 = some j
structure CtxOk (Γ : Ctx) : Prop where
  ty : ∀ t i, Γ.ty t = some i → TyOk Γ.P t i
  fn : ∀ f c, Γ.fn f = some c → Sound Γ.P f c.G
  ar : Γ.ar = real
  mixed : Γ.P.follows .mixedOrders = true

/-! ### Movers -/
theorem Fr.refl (S : Nat → Prop) (w : World) : Fr S w w := ⟨rfl, rfl, rfl, Nat.le_refl _, fun _ _ _ => rfl⟩
theorem Fr.trans {S : Nat → Prop} {a b c : World} (h : Fr S a b) (k : Fr (fun k => a.heap.size ≤ k ∨ S k) b c) : Fr S a c :=
  ⟨k.os.trans h.os, k.tape.trans h.tape, k.output.trans h.output, Nat.le_trans h.size k.size, fun i hi hs =>
    (k.block i (Nat.lt_of_lt_of_le hi h.size) (by rintro (h1 | h1); omega; exact hs h1)).trans (h.block i hi hs)⟩

theorem RV_data {L : Nat → Option Root} {γ : Nat → Hdr} {w : World} {I : Nat → Prop} {x : AV} {u : Value} (h : RI w I x u) : RV L γ w I x u := by
  cases x <;> first | exact h | exact h.elim | trivial


theorem beq_ne {t d : Nat} (h : t ≠ d) : Nat.beq t d = false := by
  cases k : Nat.beq t d with
  | false => rfl
  | true => exact absurd (Nat.eq_of_beq_eq_true k) h

def refers : AV → Nat → Nat → Prop
  | .ref r v _ _, r', v' => r = r' ∧ v = v'
  | .loc r v _ _ _, r', v' => r = r' ∧ v = v'
  | _, _, _ => False

theorem partOf_length {xs ys : List AV} (h : xs.length = ys.length) (p : Option (Nat × Nat)) : (partOf xs p).length = (partOf ys p).length := by
  cases p with
  | none => exact h
  | some q => obtain ⟨o, n⟩ := q; simp [partOf, h]

theorem RefOk.same {h : Hdr} {R R' : Root} {p : Option (Nat × Nat)} {u : Value} (hl : R.xs.length = R'.xs.length) (hs : R.sz = R'.sz) (k : RefOk h R p u) : RefOk h R' p u := by
  cases h with
  | none => exact k
  | some q =>
    obtain ⟨b, o, cap⟩ := q
    simp only [RefOk] at k ⊢
    rwa [← partOf_length hl p, ← hs]

/-- Another world, other roots: a slot's value stands where what it refers to has not turned. -/
theorem RV_move {L L' : Nat → Option Root} {γ γ' : Nat → Hdr} {w w' : World} {I I' : Nat → Prop} (hI : ∀ k, I k → I' k) (hw : ∀ k, I k → w'.heap[k]? = w.heap[k]?) {x : AV} {u : Value}
    (hL : ∀ r v R', refers x r v → L' r = some R' → R'.ver = v → R'.st ≠ .gone → ∃ R, L r = some R ∧ R.ver = v ∧ R.st ≠ .gone ∧ R.xs.length = R'.xs.length ∧ R.sz = R'.sz ∧ γ' r = γ r)
    (h : RV L γ w I x u) : RV L' γ' w' I' x u := by
  cases x with
  | ref r v p part =>
    intro R' h1 h2 h3 h4
    obtain ⟨R, k1, k2, k3, k4, k5, k6⟩ := hL r v R' ⟨rfl, rfl⟩ h1 h2 h3
    rw [k6]
    exact (h R k1 k2 k3 h4).same k4 k5
  | loc r v p i off =>
    refine ⟨h.1, fun R' h1 h2 h3 h4 => ?_⟩
    obtain ⟨R, k1, k2, k3, k4, k5, k6⟩ := hL r v R' ⟨rfl, rfl⟩ h1 h2 h3
    rw [k6, ← k4, ← k5]
    exact h.2 R k1 k2 k3 h4
  | elm x off =>
    obtain ⟨b, o, v, h1, h2, h3, h4⟩ := h
    exact ⟨b, o, v, h1, hI _ h2, RI_mono hI hw _ _ h3, h4.of_heap (hw _ h2)⟩
  | dead => trivial
  | int k n => exact h
  | bool b => exact h
  | str s => exact h
  | nilp => exact h
  | nils => exact h
  | sl sz xs => exact RI_mono hI hw (.sl sz xs) u h
  | own xs => exact h.elim
  | box xs => exact h.elim
  | agg cs => exact RI_mono hI hw (.agg cs) u h
  | tup cs => exact RT_mono hI hw (x := .tup cs) h

theorem Free.of_heap {w w' : World} {b n : Nat} (h : Free w b n) (hb : w'.heap[b]? = w.heap[b]?) : Free w' b n := by
  obtain ⟨arr, ty, lo, hi, h1, h2⟩ := h
  exact ⟨arr, ty, lo, hi, hb.trans h1, h2⟩
theorem Free.lt {w : World} {b n : Nat} (h : Free w b n) : b < w.heap.size := by
  obtain ⟨arr, ty, lo, hi, h1, h2⟩ := h
  exact (Array.getElem?_eq_some_iff.1 h1).1

theorem RootOk.move {w w' : World} {I I' : Nat → Prop} {h : Hdr} {R : Root} (hI : ∀ k, I k → I' k) (hw : ∀ k, I k → w'.heap[k]? = w.heap[k]?) (hb : ∀ b o c, h = some (b, o, c) → w'.heap[b]? = w.heap[b]?)
    (k : RootOk w I h R) : RootOk w' I' h R := by
  cases h with
  | none => exact k
  | some q =>
    obtain ⟨b, o, cap⟩ := q
    obtain ⟨k1, k2, k3, k4⟩ := k
    have e := hb b o cap rfl
    exact ⟨k1, RIs_mono hI hw _ _ _ _ e k2, k3.of_heap e, k4⟩

variable {N : Lim} {S I0 I I' : Nat → Prop} {w0 w w' : World} {γ γ' : Nat → Hdr} {σ : St} {a : Act}

/-- Every slot's reference is no younger than its root. -/
def Young (σ : St) : Prop := ∀ t r v, refers (σ.env t) r v → ∃ R, σ.L r = some R ∧ v ≤ R.ver

theorem Sim.root_block (h : Sim N S I0 w0 γ I σ a w) {r : Nat} {R : Root} {b o c : Nat} (h1 : σ.L r = some R) (h2 : R.st ≠ .gone) (h3 : γ r = some (b, o, c)) : b < w.heap.size := by
  have := h.root r R h1 h2
  rw [h3] at this
  exact this.2.2.1.lt

/-- The world alone has turned: nothing that was there. -/
theorem Sim.world (h : Sim N S I0 w0 γ I σ a w) (ho : w'.os = w.os) (ht : w'.tape = w.tape) (hp : w'.output = w.output) (hs : w.heap.size ≤ w'.heap.size) (hb : ∀ k, k < w.heap.size → w'.heap[k]? = w.heap[k]?) :
    Sim N S I0 w0 γ I σ a w' := by
  have hI : ∀ k, I k → w'.heap[k]? = w.heap[k]? := fun k hk => hb k (h.imm k hk)
  refine ⟨h.size, h.defers, fun t => ?_, fun r R h1 h2 => ?_, h.live, h.still, h.sep, fun k hk => Nat.lt_of_lt_of_le (h.imm k hk) hs, h.immNew, ?_⟩
  · exact RV_move (fun _ hk => hk) hI (fun r v R' _ h2 h3 h4 => ⟨R', h2, h3, h4, rfl, rfl, rfl⟩) (h.env t)
  · exact (h.root r R h1 h2).move (fun _ hk => hk) hI (fun b o c h3 => hb b (h.root_block h1 h2 h3))
  · exact ⟨ho.trans h.frame.os, ht.trans h.frame.tape, hp.trans h.frame.output, Nat.le_trans h.frame.size hs, fun k hk hS => (hb k (Nat.lt_of_lt_of_le hk h.frame.size)).trans (h.frame.block k hk hS)⟩

theorem Sim.drawn (h : Sim N S I0 w0 γ I σ a w) (n : Nat) : Sim N S I0 w0 γ I σ a { w with drawn := n } :=
  h.world rfl rfl rfl (Nat.le_refl _) (fun _ _ => rfl)

theorem getD_set {l : Array Value} {d : Nat} (hd : d < l.size) (u : Value) (t : Nat) : (l.setIfInBounds d u).getD t undef = if t = d then u else l.getD t undef := by
  simp only [Array.getD_eq_getD_getElem?, Array.getElem?_setIfInBounds]
  by_cases h : d = t
  · subst h; simp [hd]
  · simp [h, Ne.symm h]

/-- A slot is filled. -/
theorem Sim.slot (h : Sim N S I0 w0 γ I σ a w) {d : Option Nat} (hd : ∀ t, d = some t → N.ok t) {x : AV} {u : Value} (hu : RV σ.L γ w I x u) : Sim N S I0 w0 γ I (σ.slot d x) (a.put d u) w := by
  cases d with
  | none => exact h
  | some d =>
    have hd := hd d rfl
    refine ⟨⟨by simpa [Act.put] using h.size.1, fun t v hk => ?_⟩, h.defers, fun t => ?_, h.root, h.live, h.still, h.sep, h.imm, h.immNew, h.frame⟩
    · have hne : d ≠ t := by
        rintro rfl
        rw [hd.2] at hk; cases hk
      simp only [Act.put]
      rw [Array.getElem?_setIfInBounds_ne hne]
      exact h.size.2 t v hk
    simp only [St.slot, Act.put, setAt]
    rw [getD_set (by rw [h.size.1]; exact hd.1)]
    by_cases e : t = d
    · subst e; simpa using hu
    · rw [if_neg e]
      have : Nat.beq t d = false := beq_ne e
      rw [this]
      exact h.env t
theorem Young.slot (h : Young σ) {d : Option Nat} {x : AV} (hx : ∀ r v, refers x r v → ∃ R, σ.L r = some R ∧ v ≤ R.ver) : Young (σ.slot d x) := by
  cases d with
  | none => exact h
  | some d =>
    intro t r v ht
    simp only [St.slot, setAt] at ht ⊢
    by_cases e : t = d
    · subst e; simp at ht; exact hx r v ht
    · have : Nat.beq t d = false := beq_ne e
      rw [this] at ht
      exact h t r v ht
theorem refers_data {w : World} {I : Nat → Prop} {x : AV} {u : Value} (h : RI w I x u) (r v : Nat) : ¬ refers x r v := by
  cases x <;> first | exact fun k => k.elim | exact h.elim

theorem setAt_self {α : Type} (f : Nat → α) (i : Nat) (x : α) : setAt f i x i = x := by simp [setAt]
theorem setAt_ne {α : Type} (f : Nat → α) {i j : Nat} (h : j ≠ i) (x : α) : setAt f i x j = f j := by
  have : Nat.beq j i = false := beq_ne h
  simp [setAt, this]

/-- A root turns: of a younger version, or as long as it was and where it was. -/
theorem Sim.up (h : Sim N S I0 w0 γ I σ a w) (hy : Young σ) {r : Nat} {R' : Root} {h' : Hdr}
    (hI : ∀ k, I k → I' k) (hIw : ∀ k, I k → w'.heap[k]? = w.heap[k]?)
    (hv : (∀ R, σ.L r = some R → R.ver < R'.ver) ∨ (∃ R, σ.L r = some R ∧ R.ver = R'.ver ∧ (R'.st ≠ .gone → R.st ≠ .gone ∧ R.xs.length = R'.xs.length ∧ R.sz = R'.sz ∧ h' = γ r)))
    (hother : ∀ q Q b o c, q ≠ r → σ.L q = some Q → Q.st ≠ .gone → γ q = some (b, o, c) → w'.heap[b]? = w.heap[b]?)
    (hothI : ∀ q Q b o c, q ≠ r → σ.L q = some Q → Q.st = .live → γ q = some (b, o, c) → ¬ I' b)
    (hroot : R'.st ≠ .gone → RootOk w' I' h' R')
    (hlive : ∀ b o c, R'.st = .live → h' = some (b, o, c) → ¬ I' b ∧ (w0.heap.size ≤ b ∨ S b))
    (hstill : ∀ b o c, R'.st = .still → h' = some (b, o, c) → I' b)
    (hsep : ∀ q Q b o c o' c', q ≠ r → σ.L q = some Q → Q.st = .live → R'.st = .live → h' = some (b, o, c) → γ q ≠ some (b, o', c'))
    (himm : ∀ k, I' k → k < w'.heap.size) (hnew : ∀ k, I' k → I0 k ∨ w0.heap.size ≤ k ∨ S k) (hfr : Fr S w0 w') :
    Sim N S I0 w0 (setAt γ r h') I' { σ with L := setAt σ.L r (some R') } a w' ∧ Young { σ with L := setAt σ.L r (some R') } := by
  constructor
  · refine ⟨h.size, h.defers, fun t => ?_, fun q Q h1 h2 => ?_, fun q Q b o c h1 h2 h3 => ?_, fun q Q b o c h1 h2 h3 => ?_, fun q q' Q Q' b o c o' c' hne h1 h2 h3 h4 h5 => ?_, himm, hnew, hfr⟩
    · refine RV_move hI hIw (fun q v Q' h1 h2 h3 h4 => ?_) (h.env t)
      by_cases e : q = r
      · subst e
        simp only [setAt_self] at h2 ⊢
        injection h2 with h2
        subst h2
        obtain ⟨R, k1, k2⟩ := hy t q v h1
        rcases hv with hv | ⟨R1, k3, k4, k5⟩
        · have := hv R k1; omega
        · obtain ⟨k6, k7, k8, k9⟩ := k5 h4
          exact ⟨R1, k3, by omega, k6, k7, k8, k9⟩
      · simp only [setAt_ne _ e] at h2 ⊢
        exact ⟨Q', h2, h3, h4, rfl, rfl, by first | rfl | trivial⟩
    · by_cases e : q = r
      · subst e
        simp only [setAt_self] at h1 ⊢
        injection h1 with h1
        subst h1
        exact hroot h2
      · simp only [setAt_ne _ e] at h1 ⊢
        exact (h.root q Q h1 h2).move hI hIw (fun b o c h3 => hother q Q b o c e h1 h2 h3)
    · by_cases e : q = r
      · subst e
        simp only [setAt_self] at h1 h3
        injection h1 with h1
        subst h1
        exact hlive b o c h2 h3
      · simp only [setAt_ne _ e] at h1 h3
        exact ⟨hothI q Q b o c e h1 h2 h3, (h.live q Q b o c h1 h2 h3).2⟩
    · by_cases e : q = r
      · subst e
        simp only [setAt_self] at h1 h3
        injection h1 with h1
        subst h1
        exact hstill b o c h2 h3
      · simp only [setAt_ne _ e] at h1 h3
        exact hI _ (h.still q Q b o c h1 h2 h3)
    · by_cases e : q = r
      · subst e
        have e' : q' ≠ q := Ne.symm hne
        simp only [setAt_self] at h1 h5
        simp only [setAt_ne _ e'] at h2 ⊢
        injection h1 with h1
        subst h1
        exact hsep q' Q' b o c o' c' e' h2 h4 h3 h5
      · simp only [setAt_ne _ e] at h1 h5
        by_cases e' : q' = r
        · subst e'
          simp only [setAt_self] at h2 ⊢
          injection h2 with h2
          subst h2
          intro h6
          exact hsep q Q b o' c' o c e h1 h3 h4 h6 h5
        · simp only [setAt_ne _ e'] at h2 ⊢
          exact h.sep q q' Q Q' b o c o' c' hne h1 h2 h3 h4 h5
  · intro t q v ht
    obtain ⟨R, k1, k2⟩ := hy t q v ht
    by_cases e : q = r
    · subst e
      refine ⟨R', by simp [setAt_self], ?_⟩
      rcases hv with hv | ⟨R1, k3, k4, _⟩
      · have := hv R k1; omega
      · rw [k1] at k3; injection k3 with k3; subst k3; omega
    · exact ⟨R, by simpa [setAt_ne _ e] using k1, k2⟩
end Go.Ai
