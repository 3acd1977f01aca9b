/- Part of the proofs: the verified interpreter for the program's functions, or lemmas on what they compute; no condition. -/
import Derived.Test.YtoocidelbmbgcaaOctetSealsBiInterp
namespace Go.Ai

/-! ### What stands in memory -/
abbrev Hdr := Option (Nat × Nat × Nat)   -- block, offset, capacity
def offOf (p : Option (Nat × Nat)) : Nat := (p.map (·.1)).getD 0

/-- Block b is a row of cells that may be written. -/
def Free (w : World) (b n : Nat) : Prop := ∃ arr ty lo hi, w.heap[b]? = some (.cells arr ty (lo, hi)) ∧ n ≤ arr.size ∧ ∀ j, j < arr.size → ¬ (lo ≤ j ∧ j < hi)

def RefOk (h : Hdr) (R : Root) (p : Option (Nat × Nat)) (u : Value) : Prop :=
  match h with
  | none => ∃ a, u = .slice a 0 0
  | some (b, o, cap) => ∃ a c, u = .slice a (partOf R.xs p).length c ∧ (partOf R.xs p).length ≤ c ∧ offOf p + c ≤ cap ∧ (c = 0 ∨ a = some ⟨b, o + offOf p * R.sz, none⟩)

/-- Value u is what a cell with x in it holds. -/
def RVc (L : Nat → Option Root) (γ : Nat → Hdr) (w : World) (I : Nat → Prop) : AV → Value → Prop
  | .ref r v p part, u => (∃ a n c, u = .slice a n c) ∧ ∀ R, L r = some R → R.ver = v → R.st ≠ .gone → p = [] → RefOk (γ r) R part u
  | .loc r v p i off, u => (∃ ad, u = .pointer (some ad)) ∧ ∀ R, L r = some R → R.ver = v → R.st ≠ .gone → p = [] →
      i < R.xs.length ∧ ∃ b o cap, γ r = some (b, o, cap) ∧ u = .pointer (some ⟨b, o + i * R.sz + off, none⟩)
  | .elm x off, u => ∃ b o v, u = .pointer (some ⟨b, o + off, none⟩) ∧ I b ∧ RI w I x v ∧ cellsAt w b o v.cells
  | .dead, u => u.oneCell' = true
  | x, u => x.leaf = true ∧ RI w I x u
/-- .. a cell's, or a struct's. -/
def RV1 (L : Nat → Option Root) (γ : Nat → Hdr) (w : World) (I : Nat → Prop) : AV → Value → Prop
  | .agg cs, u => ∃ us : List Value, u = .agg us.toArray ∧ All2 (RVc L γ w I) cs us
  | x, u => RVc L γ w I x u
/-- .. a slot's. -/
def RV (L : Nat → Option Root) (γ : Nat → Hdr) (w : World) (I : Nat → Prop) : AV → Value → Prop
  | .dead, _ => True
  | .tup cs, u => ∃ us : List Value, u = .tuple us.toArray ∧ All2 (RV1 L γ w I) cs us
  | .fn f l m, u => ∃ us vs : List Value, u = .func (.func f) us.toArray vs.toArray ∧ All2 (RV1 L γ w I) l us ∧ All2 (RV1 L γ w I) m vs
  | x, u => RV1 L γ w I x u

def RowOk (L : Nat → Option Root) (γ : Nat → Hdr) (w : World) (I : Nat → Prop) (bx : Bool) (xs : List AV) (b o sz : Nat) : Prop :=
  match bx with
  | false => RIs w I xs b o sz
  | true => ∃ x u, xs = [x] ∧ RV1 L γ w I x u ∧ x.width = sz ∧ cellsAt w b o u.cells
theorem RowOk.mkBox {L : Nat → Option Root} {γ : Nat → Hdr} {w : World} {I : Nat → Prop} {bx : Bool} {xs : List AV} {b o sz : Nat} (hb : bx = true) (h : ∃ x u, xs = [x] ∧ RV1 L γ w I x u ∧ x.width = sz ∧ cellsAt w b o u.cells) : RowOk L γ w I bx xs b o sz := by
  subst hb; exact h
theorem RowOk.mkRow {L : Nat → Option Root} {γ : Nat → Hdr} {w : World} {I : Nat → Prop} {bx : Bool} {xs : List AV} {b o sz : Nat} (hb : bx = false) (h : RIs w I xs b o sz) : RowOk L γ w I bx xs b o sz := by
  subst hb; exact h
theorem RowOk.box {L : Nat → Option Root} {γ : Nat → Hdr} {w : World} {I : Nat → Prop} {bx : Bool} {xs : List AV} {b o sz : Nat} (h : RowOk L γ w I bx xs b o sz) (hb : bx = true) : ∃ x u, xs = [x] ∧ RV1 L γ w I x u ∧ x.width = sz ∧ cellsAt w b o u.cells := by
  subst hb; exact h
theorem RowOk.row {L : Nat → Option Root} {γ : Nat → Hdr} {w : World} {I : Nat → Prop} {bx : Bool} {xs : List AV} {b o sz : Nat} (h : RowOk L γ w I bx xs b o sz) (hb : bx = false) : RIs w I xs b o sz := by
  subst hb; exact h
def RootOk (L : Nat → Option Root) (γ : Nat → Hdr) (w : World) (I : Nat → Prop) (h : Hdr) (R : Root) : Prop :=
  match h with
  | none => R.xs = [] ∧ R.bx = false
  | some (b, o, cap) => R.xs.length ≤ cap ∧ RowOk L γ w I R.bx R.xs b o R.sz ∧ Free w b (o + cap * R.sz) ∧ (R.bx = true → o = 0 ∧ cap = 1)

/-- What was there at the beginning is as it was, but for the blocks of S. -/
structure Fr (S : Nat → Prop) (w0 w : World) : Prop where
  os : w.os = w0.os
  tape : w.tape = w0.tape
  output : w.output = w0.output
  size : w0.heap.size ≤ w.heap.size
  block : ∀ k, k < w0.heap.size → ¬ S k → w.heap[k]? = w0.heap[k]?
  kind : ∀ (k : Nat) (arr : Array Value) (ty : TypeId) (fr : Nat × Nat), w0.heap[k]? = some (Obj.cells arr ty fr) → ∃ (arr' : Array Value) (fr' : Nat × Nat), w.heap[k]? = some (Obj.cells arr' ty fr') ∧ arr'.size = arr.size

/-- How many slots there are; which of them stay as they are. -/
structure Lim where
  n : Nat
  keep : Nat → Option Value
  pin : Nat → Option (Hdr × Nat)
def Lim.ok (N : Lim) (t : Nat) : Prop := t < N.n ∧ N.keep t = none ∧ N.pin t = none

structure Sim (N : Lim) (S I0 : Nat → Prop) (w0 : World) (γ : Nat → Hdr) (I : Nat → Prop) (σ : St) (a : Act) (w : World) : Prop where
  size : a.tmps.size = N.n ∧ ∀ t v, N.keep t = some v → a.tmps[t]? = some v
  defers : a.defers = []
  env : ∀ t, RV σ.L γ w I (σ.env t) (a.tmps.getD t undef)
  root : ∀ r R, σ.L r = some R → R.st ≠ .gone → RootOk σ.L γ w I (γ r) R
  live : ∀ r R b o c, σ.L r = some R → R.st = .live → γ r = some (b, o, c) → ¬ I b ∧ (w0.heap.size ≤ b ∨ S b)
  still : ∀ r R b o c, σ.L r = some R → R.st = .still → γ r = some (b, o, c) → I b
  sep : ∀ r r' R R' b o c o' c', r ≠ r' → σ.L r = some R → σ.L r' = some R' → R.st = .live → R'.st = .live → γ r = some (b, o, c) → γ r' ≠ some (b, o', c')
  imm : ∀ k, I k → k < w.heap.size
  immNew : ∀ k, I k → I0 k ∨ w0.heap.size ≤ k ∨ S k
  frame : Fr S w0 w
  pin : ∀ t h, N.pin t = some h → σ.env t ≠ .nils ∧ ∀ q v part R, σ.env t = .ref q v [] part → σ.L q = some R → R.ver = v → R.st ≠ .gone → γ q = h.1 ∧ R.xs.length = h.2

/-! ### Trees: what goes into a call and comes out of it -/
abbrev Hd := Nat × Nat × Nat
mutual
/-- Value v is the tree x; the blocks hs (with offset and capacity) are the tree's own. -/
def RO (w : World) (I : Nat → Prop) : AV → Value → List Hd → Prop
  | .own sz xs part, v, hs => (xs = [] ∧ hs = [] ∧ ∃ a, v = .slice a 0 0) ∨
      ∃ b o cap, hs = [(b, o, cap)] ∧ xs.length ≤ cap ∧ RefOk (some (b, o, cap)) ⟨0, 0, sz, false, .live, xs⟩ part v ∧ RIs w I xs b o sz ∧ Free w b (o + cap * sz)
  | .box xs, v, hs => ∃ b hs' us, v = .pointer (some ⟨b, 0, none⟩) ∧ hs = (b, 0, 1) :: hs' ∧ Free w b (AV.widths xs) ∧ ROl w I xs us hs' ∧ us.length = 1 ∧ (∀ u ∈ us, cellsAt w b 0 u.cells) ∧ xs.all AV.oneT = true
  | .agg cs, v, hs => ∃ us : List Value, v = .agg us.toArray ∧ ROl w I cs us hs ∧ cs.all AV.treeB = true
  | .tup cs, v, hs => ∃ us : List Value, v = .tuple us.toArray ∧ ROl w I cs us hs ∧ cs.all AV.oneT = true
  | .fn f l m, v, hs => ∃ (us vs : List Value) (b1 b2 : List Hd), hs = b1 ++ b2 ∧ v = .func (.func f) us.toArray vs.toArray ∧ ROl w I l us b1 ∧ ROl w I m vs b2 ∧ l.all AV.oneT = true ∧ m.all AV.oneT = true
  | .dead, v, hs => hs = [] ∧ v.oneCell' = true
  | x, v, hs => hs = [] ∧ x.leaf = true ∧ RI w I x v
def ROl (w : World) (I : Nat → Prop) : List AV → List Value → List Hd → Prop
  | [], us, hs => us = [] ∧ hs = []
  | c :: cs, us, hs => ∃ u us' b1 b2, us = u :: us' ∧ hs = b1 ++ b2 ∧ RO w I c u b1 ∧ ROl w I cs us' b2
end
/-- Arguments, and what comes back of them: a row that was lent comes back where it was, or not at all. -/
def ArgsOk (w : World) (I : Nat → Prop) : List AV → List Value → List (List Hd) → Prop
  | [], us, hss => us = [] ∧ hss = []
  | c :: cs, us, hss => ∃ u us' b hss', us = u :: us' ∧ hss = b :: hss' ∧ RO w I c u b ∧ ArgsOk w I cs us' hss'
def rowLen : AV → Nat
  | .own _ xs _ => xs.length
  | _ => 0
def OutsOk (w : World) (I : Nat → Prop) : List Sh → List AV → List Value → List (List Hd) → List AV → List Hd → Prop
  | [], _, _, _, outs, hs => outs = [] ∧ hs = []
  | s :: ls, xs, vs, hss, outs, hs => ∃ x xs' v vs' l hss', xs = x :: xs' ∧ vs = v :: vs' ∧ hss = l :: hss' ∧
      ((s.owns = false ∧ OutsOk w I ls xs' vs' hss' outs hs) ∨ (s.owns = true ∧ ∃ o outs' b1 b2, outs = o :: outs' ∧ hs = b1 ++ b2 ∧ RO w I o v b1 ∧ (s.row = true → (b1 = l ∧ rowLen o = rowLen x) ∨ o = .dead) ∧ OutsOk w I ls xs' vs' hss' outs' b2))

def Fires (P : Program) (f : FuncId) (args : Array Value) (w : World) (R : Value → World → Prop) : Prop :=
  (∃ v w', (callFunc f args).run P w = .ok (.value v) w' ∧ R v w') ∨
  ((callFunc f args).run P w = .ok (.enter f args) w ∧ Calls P f args w fun | .returned v, w' => R v w' | _, _ => False)

def hblocks (hss : List (List Hd)) : List Nat := hss.flatten.map (·.1)
/-- F tells what the program's function f does, its arguments being of these shapes. -/
def Sound (P : Program) (f : FuncId) (pars : List Sh) (F : List AV → Option (AV × List AV)) : Prop :=
  ∀ args res outs, F args = some (res, outs) → ∀ (w : World) (vs : List Value) (hss : List (List Hd)) (I : Nat → Prop), ArgsOk w I args vs hss →
    (∀ k, I k → k < w.heap.size) → (hblocks hss).Nodup → (∀ b ∈ hblocks hss, ¬ I b ∧ b < w.heap.size) →
    Fires P f vs.toArray w fun u w' => ∃ (I' : Nat → Prop) (b1 b2 : List Hd), RO w' I' res u b1 ∧ OutsOk w' I' pars args vs hss outs b2 ∧ Fr (· ∈ hblocks hss) w w' ∧
      (∀ k, I' k → (I k ∨ w.heap.size ≤ k ∨ k ∈ hblocks hss) ∧ k < w'.heap.size) ∧ ((b1 ++ b2).map (·.1)).Nodup ∧ (∀ b ∈ (b1 ++ b2).map (·.1), ¬ I' b ∧ (w.heap.size ≤ b ∨ b ∈ hblocks hss))

/-- A type of the program, as the context tells it. -/
def zeroIs : AV → Value → Prop := fun x v => ∀ w I, RI w I x v
def tkIs (P : Program) (t : TypeId) : TK → Prop
  | .int k => P.underlying t = some (.int k)
  | .bool => P.underlying t = some .bool
  | .str => P.underlying t = some .string
  | .slice e => P.underlying t = some (.slice e)
  | .ptr e => P.underlying t = some (.pointer e)
  | .struct fs => ∃ fields : Array Field, P.underlying t = some (.struct fields) ∧ fields.toList.map (fun f => (f.offset, f.type)) = fs
  | .array n e => P.underlying t = some (.array n e)
  | .tuple => ∃ es, P.underlying t = some (.tuple es)
structure TyOk (P : Program) (t : TypeId) (i : TI) : Prop where
  tk : tkIs P t i.tk
  info : ∃ j, P.info? t = some j ∧ j.size = i.size ∧ j.bytes = i.bytes ∧ ∃ z, j.zero = some z ∧ zeroIs i.zero z
  zw : i.zero.width = i.size
  parts : ∀ fs, i.tk = .struct fs → ∀ q ∈ fs, ∃ j, P.info? q.2 = some j
structure CtxOk (Γ : Ctx) : Prop where
  ty : ∀ t i, Γ.ty t = some i → TyOk Γ.P t i
  fn : ∀ f c, Γ.fn f = some c → Sound Γ.P f c.pars c.G
  ar : Γ.ar = real
  mixed : Γ.P.follows .mixedOrders = true

/-! ### Movers -/
theorem Fr.refl (S : Nat → Prop) (w : World) : Fr S w w := ⟨rfl, rfl, rfl, Nat.le_refl _, fun _ _ _ => rfl, fun _ arr _ fr h => ⟨arr, fr, h, rfl⟩⟩
theorem Fr.trans {S : Nat → Prop} {a b c : World} (h : Fr S a b) (k : Fr (fun k => a.heap.size ≤ k ∨ S k) b c) : Fr S a c :=
  ⟨k.os.trans h.os, k.tape.trans h.tape, k.output.trans h.output, Nat.le_trans h.size k.size, fun i hi hs =>
    (k.block i (Nat.lt_of_lt_of_le hi h.size) (by rintro (h1 | h1); omega; exact hs h1)).trans (h.block i hi hs), fun i arr ty fr hi => by
    obtain ⟨arr1, fr1, h1, h2⟩ := h.kind i arr ty fr hi
    obtain ⟨arr2, fr2, h3, h4⟩ := k.kind i arr1 ty fr1 h1
    exact ⟨arr2, fr2, h3, h4.trans h2⟩⟩
theorem Fr.weaken {S S' : Nat → Prop} {w1 w' : World} (h : Fr S w1 w') (hS : ∀ k, S k → S' k) : Fr S' w1 w' := ⟨h.os, h.tape, h.output, h.size, fun k hk hn => h.block k hk (fun hs => hn (hS k hs)), h.kind⟩
/-- Still free, where nothing of it was frozen. -/
theorem Fr.free {S : Nat → Prop} {w w' : World} (h : Fr S w w') {b n m : Nat} (hf : Free w b n) (hf' : Free w' b m) : Free w' b n := by
  obtain ⟨arr, ty, lo, hi, h1, h2, h3⟩ := hf
  obtain ⟨arr', fr', k1, k2⟩ := h.kind b arr ty _ h1
  obtain ⟨arr2, ty2, lo2, hi2, j1, j2, j3⟩ := hf'
  rw [k1] at j1
  injection j1 with j1
  injection j1 with e1 e2 e3
  subst e1; subst e2; subst e3
  exact ⟨_, _, lo2, hi2, k1, by omega, j3⟩

theorem RI.leaf {w : World} {I : Nat → Prop} {x : AV} {u : Value} (h : RI w I x u) (hx : ∀ cs, x ≠ .agg cs) : x.leaf = true := by
  cases x <;> first | rfl | exact h.elim | exact absurd rfl (hx _)
theorem RVc_data {L : Nat → Option Root} {γ : Nat → Hdr} {w : World} {I : Nat → Prop} {x : AV} {u : Value} (h : RI w I x u) (hx : x.leaf = true) : RVc L γ w I x u := by
  cases x <;> first | exact ⟨hx, h⟩ | exact h.elim
theorem RV1_cell {L : Nat → Option Root} {γ : Nat → Hdr} {w : World} {I : Nat → Prop} {x : AV} {u : Value} (hx : ∀ cs, x ≠ .agg cs) : RV1 L γ w I x u = RVc L γ w I x u := by
  cases x <;> first | rfl | exact absurd rfl (hx _)
theorem RV_1 {L : Nat → Option Root} {γ : Nat → Hdr} {w : World} {I : Nat → Prop} {x : AV} {u : Value} (h1 : x ≠ .dead) (h2 : ∀ cs, x ≠ .tup cs) (h3 : ∀ f l m, x ≠ .fn f l m) : RV L γ w I x u = RV1 L γ w I x u := by
  cases x <;> first | rfl | exact absurd rfl h1 | exact absurd rfl (h2 _) | exact absurd rfl (h3 _ _ _)
theorem RV1_data {L : Nat → Option Root} {γ : Nat → Hdr} {w : World} {I : Nat → Prop} {x : AV} {u : Value} (h : RI w I x u) : RV1 L γ w I x u := by
  by_cases hx : ∃ cs, x = .agg cs
  · obtain ⟨cs, rfl⟩ := hx
    obtain ⟨us, rfl, hl, h⟩ := h
    exact ⟨us, rfl, (RIl_all.1 h).imp (fun c hc u hu => RVc_data hu (List.all_eq_true.1 hl c hc))⟩
  · rw [RV1_cell (fun cs e => hx ⟨cs, e⟩)]
    exact RVc_data h (h.leaf (fun cs e => hx ⟨cs, e⟩))
theorem RV_of1 {L : Nat → Option Root} {γ : Nat → Hdr} {w : World} {I : Nat → Prop} {x : AV} {u : Value} (h : RV1 L γ w I x u) : RV L γ w I x u := by
  cases x <;> first | exact h | trivial | exact absurd h.1 (by simp [AV.leaf])
theorem RV_data {L : Nat → Option Root} {γ : Nat → Hdr} {w : World} {I : Nat → Prop} {x : AV} {u : Value} (h : RI w I x u) : RV L γ w I x u := RV_of1 (RV1_data h)

theorem beq_ne {t d : Nat} (h : t ≠ d) : Nat.beq t d = false := by
  cases k : Nat.beq t d with
  | false => rfl
  | true => exact absurd (Nat.eq_of_beq_eq_true k) h

def refc : AV → Nat → Nat → Prop
  | .ref r v _ _, r', v' => r = r' ∧ v = v'
  | .loc r v _ _ _, r', v' => r = r' ∧ v = v'
  | _, _, _ => False
def ref1 : AV → Nat → Nat → Prop
  | .agg cs, r, v => ∃ c ∈ cs, refc c r v
  | x, r, v => refc x r v
def refers : AV → Nat → Nat → Prop
  | .tup cs, r, v => ∃ c ∈ cs, ref1 c r v
  | .fn _ l m, r, v => ∃ c ∈ l ++ m, ref1 c r v
  | x, r, v => ref1 x r v
theorem ref1_cell {x : AV} {r v : Nat} (hx : ∀ cs, x ≠ .agg cs) : ref1 x r v = refc x r v := by
  cases x <;> first | rfl | exact absurd rfl (hx _)
theorem refers_1 {x : AV} {r v : Nat} (h2 : ∀ cs, x ≠ .tup cs) (h3 : ∀ f l m, x ≠ .fn f l m) : refers x r v = ref1 x r v := by
  cases x <;> first | rfl | exact absurd rfl (h2 _) | exact absurd rfl (h3 _ _ _)

theorem partOf_length {xs ys : List AV} (h : xs.length = ys.length) (p : Option (Nat × Nat)) : (partOf xs p).length = (partOf ys p).length := by
  cases p with
  | none => exact h
  | some q => obtain ⟨o, n⟩ := q; simp [partOf, h]

theorem RefOk.same {h : Hdr} {R R' : Root} {p : Option (Nat × Nat)} {u : Value} (hl : R.xs.length = R'.xs.length) (hs : R.sz = R'.sz) (k : RefOk h R p u) : RefOk h R' p u := by
  cases h with
  | none => exact k
  | some q =>
    obtain ⟨b, o, cap⟩ := q
    simp only [RefOk] at k ⊢
    rwa [← partOf_length hl p, ← hs]

section
variable {L L' : Nat → Option Root} {γ γ' : Nat → Hdr} {w w' : World} {I I' : Nat → Prop}
/-- What a reference leads to has not turned. -/
def Keeps (L L' : Nat → Option Root) (γ γ' : Nat → Hdr) (r v : Nat) : Prop :=
  ∀ R', L' r = some R' → R'.ver = v → R'.st ≠ .gone → ∃ R, L r = some R ∧ R.ver = v ∧ R.st ≠ .gone ∧ R.xs.length = R'.xs.length ∧ R.sz = R'.sz ∧ γ' r = γ r
/-- Another world, other roots: a value stands where what it refers to has not turned. -/
theorem RVc_move (hI : ∀ k, I k → I' k) (hw : ∀ k, I k → w'.heap[k]? = w.heap[k]?) {x : AV} {u : Value} (hL : ∀ r v, refc x r v → Keeps L L' γ γ' r v) (h : RVc L γ w I x u) : RVc L' γ' w' I' x u := by
  cases x with
  | ref r v p part =>
    refine ⟨h.1, fun R' h1 h2 h3 h4 => ?_⟩
    obtain ⟨R, k1, k2, k3, k4, k5, k6⟩ := hL r v ⟨rfl, rfl⟩ R' h1 h2 h3
    rw [k6]
    exact (h.2 R k1 k2 k3 h4).same k4 k5
  | loc r v p i off =>
    refine ⟨h.1, fun R' h1 h2 h3 h4 => ?_⟩
    obtain ⟨R, k1, k2, k3, k4, k5, k6⟩ := hL r v ⟨rfl, rfl⟩ R' h1 h2 h3
    rw [k6, ← k4, ← k5]
    exact h.2 R k1 k2 k3 h4
  | elm x off =>
    obtain ⟨b, o, v, h1, h2, h3, h4⟩ := h
    exact ⟨b, o, v, h1, hI _ h2, RI_mono hI hw _ _ h3, h4.of_heap (hw _ h2)⟩
  | dead => exact h
  | _ => exact ⟨h.1, RI_mono hI hw _ _ h.2⟩
theorem RV1_move (hI : ∀ k, I k → I' k) (hw : ∀ k, I k → w'.heap[k]? = w.heap[k]?) {x : AV} {u : Value} (hL : ∀ r v, ref1 x r v → Keeps L L' γ γ' r v) (h : RV1 L γ w I x u) : RV1 L' γ' w' I' x u := by
  by_cases hx : ∃ cs, x = .agg cs
  · obtain ⟨cs, rfl⟩ := hx
    obtain ⟨us, hu, h⟩ := h
    exact ⟨us, hu, h.imp (fun c hc u hcu => RVc_move hI hw (fun r v hr => hL r v ⟨c, hc, hr⟩) hcu)⟩
  · have hx : ∀ cs, x ≠ .agg cs := fun cs e => hx ⟨cs, e⟩
    rw [RV1_cell hx] at h ⊢
    exact RVc_move hI hw (fun r v hr => hL r v (by rw [ref1_cell hx]; exact hr)) h
theorem RV_move (hI : ∀ k, I k → I' k) (hw : ∀ k, I k → w'.heap[k]? = w.heap[k]?) {x : AV} {u : Value} (hL : ∀ r v, refers x r v → Keeps L L' γ γ' r v) (h : RV L γ w I x u) : RV L' γ' w' I' x u := by
  by_cases h1 : x = .dead
  · subst h1; trivial
  by_cases h2 : ∃ cs, x = .tup cs
  · obtain ⟨cs, rfl⟩ := h2
    obtain ⟨us, hu, h⟩ := h
    exact ⟨us, hu, h.imp (fun c hc u hcu => RV1_move hI hw (fun r v hr => hL r v ⟨c, hc, hr⟩) hcu)⟩
  by_cases h3 : ∃ f l m, x = .fn f l m
  · obtain ⟨f, l, m, rfl⟩ := h3
    obtain ⟨us, vs, hu, h1, h2⟩ := h
    exact ⟨us, vs, hu, h1.imp (fun c hc u hcu => RV1_move hI hw (fun r v hr => hL r v ⟨c, by simp [hc], hr⟩) hcu), h2.imp (fun c hc u hcu => RV1_move hI hw (fun r v hr => hL r v ⟨c, by simp [hc], hr⟩) hcu)⟩
  have h2 : ∀ cs, x ≠ .tup cs := fun cs e => h2 ⟨cs, e⟩
  have h3 : ∀ f l m, x ≠ .fn f l m := fun f l m e => h3 ⟨f, l, m, e⟩
  rw [RV_1 h1 h2 h3] at h ⊢
  exact RV1_move hI hw (fun r v hr => hL r v (by rw [refers_1 h2 h3]; exact hr)) h

theorem Free.of_heap {b n : Nat} (h : Free w b n) (hb : w'.heap[b]? = w.heap[b]?) : Free w' b n := by
  obtain ⟨arr, ty, lo, hi, h1, h2⟩ := h
  exact ⟨arr, ty, lo, hi, hb.trans h1, h2⟩
theorem Free.lt {b n : Nat} (h : Free w b n) : b < w.heap.size := by
  obtain ⟨arr, ty, lo, hi, h1, h2⟩ := h
  exact (Array.getElem?_eq_some_iff.1 h1).1

theorem RootOk.move {h : Hdr} {R : Root} (hI : ∀ k, I k → I' k) (hw : ∀ k, I k → w'.heap[k]? = w.heap[k]?) (hb : ∀ b o c, h = some (b, o, c) → w'.heap[b]? = w.heap[b]?)
    (hL : R.bx = true → ∀ x ∈ R.xs, ∀ r v, ref1 x r v → Keeps L L' γ γ' r v) (k : RootOk L γ w I h R) : RootOk L' γ' w' I' h R := by
  cases h with
  | none => exact k
  | some q =>
    obtain ⟨b, o, cap⟩ := q
    obtain ⟨k1, k2, k3, k4⟩ := k
    have e := hb b o cap rfl
    refine ⟨k1, ?_, k3.of_heap e, k4⟩
    unfold RowOk at k2 ⊢
    cases hbx : R.bx with
    | false => rw [hbx] at k2; exact RIs_mono hI hw _ _ _ _ e k2
    | true =>
      rw [hbx] at k2
      obtain ⟨x, u, h1, h2, h3, h4⟩ := k2
      exact ⟨x, u, h1, RV1_move hI hw (hL hbx x (by simp [h1])) h2, h3, h4.of_heap e⟩
/-- A row's root knows nothing of the others. -/
theorem RootOk.row {h : Hdr} {R : Root} (hb : R.bx = false) (k : RootOk L γ w I h R) : RootOk L' γ' w I h R :=
  k.move (fun _ h => h) (fun _ _ => rfl) (fun _ _ _ _ => rfl) (fun h => by rw [hb] at h; cases h)
end

variable {N : Lim} {S I0 I I' : Nat → Prop} {w0 w w' : World} {γ γ' : Nat → Hdr} {σ : St} {a : Act}

/-- References are no younger than what they lead to. -/
structure Young (σ : St) : Prop where
  env : ∀ t r v, refers (σ.env t) r v → ∃ R, σ.L r = some R ∧ v ≤ R.ver
  box : ∀ q Q x r v, σ.L q = some Q → Q.bx = true → x ∈ Q.xs → ref1 x r v → ∃ R, σ.L r = some R ∧ v ≤ R.ver

theorem Sim.root_block (h : Sim N S I0 w0 γ I σ a w) {r : Nat} {R : Root} {b o c : Nat} (h1 : σ.L r = some R) (h2 : R.st ≠ .gone) (h3 : γ r = some (b, o, c)) : b < w.heap.size := by
  have := h.root r R h1 h2
  rw [h3] at this
  exact this.2.2.1.lt

theorem Keeps.refl (L : Nat → Option Root) (γ : Nat → Hdr) (r v : Nat) : Keeps L L γ γ r v := fun R' h1 h2 h3 => ⟨R', h1, h2, h3, rfl, rfl, rfl⟩

/-- The world alone has turned: nothing that was there. -/
theorem Sim.world (h : Sim N S I0 w0 γ I σ a w) (ho : w'.os = w.os) (ht : w'.tape = w.tape) (hp : w'.output = w.output) (hs : w.heap.size ≤ w'.heap.size) (hb : ∀ k, k < w.heap.size → w'.heap[k]? = w.heap[k]?) :
    Sim N S I0 w0 γ I σ a w' := by
  have hI : ∀ k, I k → w'.heap[k]? = w.heap[k]? := fun k hk => hb k (h.imm k hk)
  refine ⟨h.size, h.defers, fun t => ?_, fun r R h1 h2 => ?_, h.live, h.still, h.sep, fun k hk => Nat.lt_of_lt_of_le (h.imm k hk) hs, h.immNew, ?_, h.pin⟩
  · exact RV_move (fun _ hk => hk) hI (fun r v _ => Keeps.refl _ _ _ _) (h.env t)
  · exact (h.root r R h1 h2).move (fun _ hk => hk) hI (fun b o c h3 => hb b (h.root_block h1 h2 h3)) (fun _ _ _ _ _ _ => Keeps.refl _ _ _ _)
  · refine h.frame.trans ⟨ho, ht, hp, hs, fun k hk _ => hb k hk, fun k arr ty fr hk => ⟨arr, fr, ?_, rfl⟩⟩
    rw [hb k (Array.getElem?_eq_some_iff.1 hk).1]; exact hk

theorem Sim.drawn (h : Sim N S I0 w0 γ I σ a w) (n : Nat) : Sim N S I0 w0 γ I σ a { w with drawn := n } :=
  h.world rfl rfl rfl (Nat.le_refl _) (fun _ _ => rfl)

theorem getD_set {l : Array Value} {d : Nat} (hd : d < l.size) (u : Value) (t : Nat) : (l.setIfInBounds d u).getD t undef = if t = d then u else l.getD t undef := by
  simp only [Array.getD_eq_getD_getElem?, Array.getElem?_setIfInBounds]
  by_cases h : d = t
  · subst h; simp [hd]
  · simp [h, Ne.symm h]

/-- A slot is filled. -/
theorem Sim.slot (h : Sim N S I0 w0 γ I σ a w) {d : Option Nat} (hd : ∀ t, d = some t → N.ok t) {x : AV} {u : Value} (hu : RV σ.L γ w I x u) : Sim N S I0 w0 γ I (σ.slot d x) (a.put d u) w := by
  cases d with
  | none => exact h
  | some d =>
    have hd := hd d rfl
    refine ⟨⟨by simpa [Act.put] using h.size.1, fun t v hk => ?_⟩, h.defers, fun t => ?_, h.root, h.live, h.still, h.sep, h.imm, h.immNew, h.frame, fun t hh hp => ?_⟩
    · have hne : d ≠ t := by
        rintro rfl
        rw [hd.2.1] at hk; cases hk
      simp only [Act.put]
      rw [Array.getElem?_setIfInBounds_ne hne]
      exact h.size.2 t v hk
    · simp only [St.slot, Act.put, setAt]
      rw [getD_set (by rw [h.size.1]; exact hd.1)]
      by_cases e : t = d
      · subst e; simpa using hu
      · rw [if_neg e]
        have : Nat.beq t d = false := beq_ne e
        rw [this]
        exact h.env t
    · have hne : t ≠ d := by
        rintro rfl
        rw [hd.2.2] at hp; cases hp
      have : Nat.beq t d = false := beq_ne hne
      simp only [St.slot, setAt, this, cond_false]
      exact h.pin t hh hp
theorem Young.slot (h : Young σ) {d : Option Nat} {x : AV} (hx : ∀ r v, refers x r v → ∃ R, σ.L r = some R ∧ v ≤ R.ver) : Young (σ.slot d x) := by
  cases d with
  | none => exact h
  | some d =>
    refine ⟨fun t r v ht => ?_, h.box⟩
    simp only [St.slot, setAt] at ht ⊢
    by_cases e : t = d
    · subst e; simp at ht; exact hx r v ht
    · have : Nat.beq t d = false := beq_ne e
      rw [this] at ht
      exact h.env t r v ht
theorem refc_leaf {x : AV} (h : x.leaf = true) (r v : Nat) : ¬ refc x r v := by
  cases x <;> first | exact fun k => k.elim | (simp [AV.leaf] at h)
theorem ref1_data {x : AV} {u : Value} (h : RI w I x u) (r v : Nat) : ¬ ref1 x r v := by
  by_cases hx : ∃ cs, x = .agg cs
  · obtain ⟨cs, rfl⟩ := hx
    obtain ⟨us, _, hl, _⟩ := h
    rintro ⟨c, hc, hr⟩
    exact refc_leaf (List.all_eq_true.1 hl c hc) r v hr
  · rw [ref1_cell (fun cs e => hx ⟨cs, e⟩)]
    exact refc_leaf (h.leaf (fun cs e => hx ⟨cs, e⟩)) r v
theorem refers_data {x : AV} {u : Value} (h : RI w I x u) (r v : Nat) : ¬ refers x r v := by
  rw [refers_1 (fun cs e => by subst e; exact h.elim) (fun f l m e => by subst e; exact h.elim)]
  exact ref1_data h r v

theorem setAt_self {α : Type} (f : Nat → α) (i : Nat) (x : α) : setAt f i x i = x := by simp [setAt]
theorem setAt_ne {α : Type} (f : Nat → α) {i j : Nat} (h : j ≠ i) (x : α) : setAt f i x j = f j := by
  have : Nat.beq j i = false := beq_ne h
  simp [setAt, this]
theorem setAt_id {α : Type} (f : Nat → α) (i : Nat) : setAt f i (f i) = f := by
  funext j
  by_cases h : j = i
  · subst h; exact setAt_self _ _ _
  · exact setAt_ne _ h _

theorem ups_append (l m : List (Nat × Root)) : ∀ σ : St, σ.ups (l ++ m) = (σ.ups l).ups m := by
  induction l with
  | nil => intro σ; rfl
  | cons x l ih => intro σ; obtain ⟨q, R⟩ := x; exact ih _
theorem ups_env (l : List (Nat × Root)) : ∀ σ : St, (σ.ups l).env = σ.env := by
  induction l with
  | nil => intro σ; rfl
  | cons x l ih => intro σ; obtain ⟨q, R⟩ := x; exact (ih _).trans rfl
theorem ups_ne (l : List (Nat × Root)) {q : Nat} : ∀ σ : St, (∀ x ∈ l, x.1 ≠ q) → (σ.ups l).L q = σ.L q := by
  induction l with
  | nil => intro σ _; rfl
  | cons x l ih =>
    intro σ h
    obtain ⟨p, R⟩ := x
    refine (ih _ (fun y hy => h y (by simp [hy]))).trans ?_
    exact setAt_ne _ (fun e => h (p, R) (by simp) e.symm) _
theorem ups_get : ∀ (ups : List (Nat × Root)) (σ : St), (ups.map (·.1)).Nodup → ∀ z ∈ ups, (σ.ups ups).L z.1 = some z.2
  | [], _, _, _, h => by cases h
  | (q, R') :: ups, σ, hn, z, hz => by
    simp only [List.map_cons, List.nodup_cons] at hn
    simp only [St.ups]
    rcases List.mem_cons.1 hz with rfl | hz
    · rw [ups_ne]
      · exact setAt_self _ _ _
      · intro x hx e
        exact hn.1 (List.mem_map.2 ⟨x, hx, e⟩)
    · exact ups_get ups _ hn.2 z hz

/-- Several roots turn at once: of younger versions, or as long as they were and where they were. -/
structure Turn (S I0 : Nat → Prop) (w0 : World) (γ : Nat → Hdr) (I : Nat → Prop) (σ : St) (w : World) (l : List (Nat × Root)) (γ' : Nat → Hdr) (I' : Nat → Prop) (w' : World) (B : Nat → Prop) : Prop where
  nd : (l.map (·.1)).Nodup
  hdr : ∀ q, q ∉ l.map (·.1) → γ' q = γ q
  fr : Fr B w w'
  mono : ∀ k, I k → I' k
  imm : ∀ k, I' k → k < w'.heap.size ∧ (I k ∨ I0 k ∨ w0.heap.size ≤ k ∨ S k)
  bI : ∀ b, B b → ¬ I b ∧ (w0.heap.size ≤ b ∨ S b)
  bO : ∀ q R b o c, q ∉ l.map (·.1) → σ.L q = some R → R.st ≠ .gone → γ q = some (b, o, c) → ¬ B b
  iO : ∀ q R b o c, q ∉ l.map (·.1) → σ.L q = some R → R.st = .live → γ q = some (b, o, c) → ¬ I' b
  ver : ∀ q R, (q, R) ∈ l → ∀ R0, σ.L q = some R0 → R0.ver < R.ver ∨ (R0.ver = R.ver ∧ (R.st ≠ .gone → R0.st ≠ .gone ∧ R0.xs.length = R.xs.length ∧ R0.sz = R.sz ∧ γ' q = γ q))
  root : ∀ q R, (q, R) ∈ l → R.st ≠ .gone → RootOk (σ.ups l).L γ' w' I' (γ' q) R
  live : ∀ q R b o c, (q, R) ∈ l → R.st = .live → γ' q = some (b, o, c) → ¬ I' b ∧ (w0.heap.size ≤ b ∨ S b)
  still : ∀ q R b o c, (q, R) ∈ l → R.st = .still → γ' q = some (b, o, c) → I' b
  sep1 : ∀ q R q' R' b o c o' c', (q, R) ∈ l → (q', R') ∈ l → q ≠ q' → R.st = .live → R'.st = .live → γ' q = some (b, o, c) → γ' q' ≠ some (b, o', c')
  sep2 : ∀ q R q' R' b o c o' c', (q, R) ∈ l → q' ∉ l.map (·.1) → σ.L q' = some R' → R.st = .live → R'.st = .live → γ' q = some (b, o, c) → γ q' ≠ some (b, o', c')
  yg : ∀ q R x r v, (q, R) ∈ l → R.bx = true → x ∈ R.xs → ref1 x r v → ∃ R', (σ.ups l).L r = some R' ∧ v ≤ R'.ver

theorem Sim.many (h : Sim N S I0 w0 γ I σ a w) (hy : Young σ) {l : List (Nat × Root)} {B : Nat → Prop} (T : Turn S I0 w0 γ I σ w l γ' I' w' B) :
    Sim N S I0 w0 γ' I' (σ.ups l) a w' ∧ Young (σ.ups l) := by
  have key : ∀ q, (∃ R', (q, R') ∈ l ∧ (σ.ups l).L q = some R') ∨ (q ∉ l.map (·.1) ∧ (σ.ups l).L q = σ.L q) := by
    intro q
    by_cases hq : ∃ x ∈ l, x.1 = q
    · obtain ⟨x, hx, rfl⟩ := hq
      exact .inl ⟨x.2, hx, ups_get l σ T.nd x hx⟩
    · have : ∀ x ∈ l, x.1 ≠ q := fun x hx e => hq ⟨x, hx, e⟩
      exact .inr ⟨fun hm => by obtain ⟨x, hx, e⟩ := List.mem_map.1 hm; exact this x hx e, ups_ne l σ this⟩
  have blk : ∀ k, k < w.heap.size → ¬ B k → w'.heap[k]? = w.heap[k]? := T.fr.block
  have hIw : ∀ k, I k → w'.heap[k]? = w.heap[k]? := fun k hk => blk k (h.imm k hk) (fun hb => (T.bI k hb).1 hk)
  have keeps : ∀ r v, (∃ R, σ.L r = some R ∧ v ≤ R.ver) → Keeps σ.L (σ.ups l).L γ γ' r v := by
    rintro r v ⟨R0, k1, k2⟩ R' j1 j2 j3
    rcases key r with ⟨R1, hz, hL⟩ | ⟨hne, hL⟩
    · rw [hL] at j1; injection j1 with j1; subst j1
      rcases T.ver r R1 hz R0 k1 with hlt | ⟨he, hk⟩
      · omega
      · obtain ⟨g1, g2, g3, g4⟩ := hk j3
        exact ⟨R0, k1, by omega, g1, g2, g3, g4⟩
    · rw [hL] at j1
      exact ⟨R', j1, j2, j3, rfl, rfl, T.hdr r hne⟩
  constructor
  · refine ⟨h.size, h.defers, fun t => ?_, fun q Q h1 h2 => ?_, fun q Q b o c h1 h2 h3 => ?_, fun q Q b o c h1 h2 h3 => ?_, fun q q' Q Q' b o c o' c' hne h1 h2 h3 h4 h5 => ?_, fun k hk => (T.imm k hk).1, fun k hk => ?_, ?_, fun t hh hp => ⟨by rw [ups_env]; exact (h.pin t hh hp).1, fun q v part R he hR hv hst => ?_⟩⟩
    · rw [ups_env]
      exact RV_move T.mono hIw (fun r v hr => keeps r v (hy.env t r v hr)) (h.env t)
    · rcases key q with ⟨R', hz, hL⟩ | ⟨hne, hL⟩
      · rw [hL] at h1; injection h1 with h1; subst h1
        exact T.root q R' hz h2
      · rw [hL] at h1
        rw [T.hdr q hne]
        exact (h.root q Q h1 h2).move T.mono hIw (fun b o c h3 => blk b (h.root_block h1 h2 h3) (T.bO q Q b o c hne h1 h2 h3)) (fun hbx x hx r v hr => keeps r v (hy.box q Q x r v h1 hbx hx hr))
    · rcases key q with ⟨R', hz, hL⟩ | ⟨hne, hL⟩
      · rw [hL] at h1; injection h1 with h1; subst h1
        exact T.live q R' b o c hz h2 h3
      · rw [hL] at h1
        rw [T.hdr q hne] at h3
        exact ⟨T.iO q Q b o c hne h1 h2 h3, (h.live q Q b o c h1 h2 h3).2⟩
    · rcases key q with ⟨R', hz, hL⟩ | ⟨hne, hL⟩
      · rw [hL] at h1; injection h1 with h1; subst h1
        exact T.still q R' b o c hz h2 h3
      · rw [hL] at h1
        rw [T.hdr q hne] at h3
        exact T.mono _ (h.still q Q b o c h1 h2 h3)
    · rcases key q with ⟨R1, hz, hL⟩ | ⟨hn, hL⟩ <;> rcases key q' with ⟨R2, hz', hL'⟩ | ⟨hn', hL'⟩ <;> rw [hL] at h1 <;> rw [hL'] at h2
      · injection h1 with h1; subst h1; injection h2 with h2; subst h2
        exact T.sep1 q R1 q' R2 b o c o' c' hz hz' hne h3 h4 h5
      · injection h1 with h1; subst h1
        rw [T.hdr q' hn']
        exact T.sep2 q R1 q' Q' b o c o' c' hz hn' h2 h3 h4 h5
      · injection h2 with h2; subst h2
        rw [T.hdr q hn] at h5
        intro h6
        exact T.sep2 q' R2 q Q b o' c' o c hz' hn h1 h4 h3 h6 h5
      · rw [T.hdr q hn] at h5
        rw [T.hdr q' hn']
        exact h.sep q q' Q Q' b o c o' c' hne h1 h2 h3 h4 h5
    · rcases (T.imm k hk).2 with hk | hk
      · exact h.immNew k hk
      · exact hk
    · exact h.frame.trans (T.fr.weaken fun k hk => (T.bI k hk).2)
    · rw [ups_env] at he
      have hrf : refers (σ.env t) q v := by rw [he]; exact ⟨rfl, rfl⟩
      obtain ⟨R0, j1, j2, j3, j4, j5, j6⟩ := keeps q v (hy.env t q v hrf) R hR hv hst
      rw [j6, ← j4]
      exact (h.pin t hh hp).2 q v part R0 he j1 j2 j3
  · have yg : ∀ r v, (∃ R, σ.L r = some R ∧ v ≤ R.ver) → ∃ R, (σ.ups l).L r = some R ∧ v ≤ R.ver := by
      rintro r v ⟨R0, k1, k2⟩
      rcases key r with ⟨R1, hz, hL⟩ | ⟨hne, hL⟩
      · refine ⟨R1, hL, ?_⟩
        rcases T.ver r R1 hz R0 k1 with hlt | ⟨he, _⟩ <;> omega
      · exact ⟨R0, by rw [hL]; exact k1, k2⟩
    refine ⟨fun t r v ht => ?_, fun q Q x r v h1 h2 h3 h4 => ?_⟩
    · rw [ups_env] at ht
      exact yg r v (hy.env t r v ht)
    · rcases key q with ⟨R1, hz, hL⟩ | ⟨hne, hL⟩
      · rw [hL] at h1; injection h1 with h1; subst h1
        exact T.yg q R1 x r v hz h2 h3 h4
      · rw [hL] at h1
        exact yg r v (hy.box q Q x r v h1 h2 h3 h4)

/-- One root turns. -/
theorem Sim.up (h : Sim N S I0 w0 γ I σ a w) (hy : Young σ) {r : Nat} {R' : Root} {h' : Hdr} {B : Nat → Prop}
    (hI : ∀ k, I k → I' k) (hfr : Fr B w w') (hB : ∀ b, B b → ¬ I b ∧ (w0.heap.size ≤ b ∨ S b))
    (hv : (∀ R, σ.L r = some R → R.ver < R'.ver) ∨ (∃ R, σ.L r = some R ∧ R.ver = R'.ver ∧ (R'.st ≠ .gone → R.st ≠ .gone ∧ R.xs.length = R'.xs.length ∧ R.sz = R'.sz ∧ h' = γ r)))
    (hother : ∀ q Q b o c, q ≠ r → σ.L q = some Q → Q.st ≠ .gone → γ q = some (b, o, c) → ¬ B b)
    (hothI : ∀ q Q b o c, q ≠ r → σ.L q = some Q → Q.st = .live → γ q = some (b, o, c) → ¬ I' b)
    (hroot : R'.st ≠ .gone → RootOk (setAt σ.L r (some R')) (setAt γ r h') w' I' h' R')
    (hlive : ∀ b o c, R'.st = .live → h' = some (b, o, c) → ¬ I' b ∧ (w0.heap.size ≤ b ∨ S b))
    (hstill : ∀ b o c, R'.st = .still → h' = some (b, o, c) → I' b)
    (hsep : ∀ q Q b o c o' c', q ≠ r → σ.L q = some Q → Q.st = .live → R'.st = .live → h' = some (b, o, c) → γ q ≠ some (b, o', c'))
    (himm : ∀ k, I' k → k < w'.heap.size ∧ (I k ∨ I0 k ∨ w0.heap.size ≤ k ∨ S k))
    (hyg : ∀ x q v, R'.bx = true → x ∈ R'.xs → ref1 x q v → ∃ R, (setAt σ.L r (some R')) q = some R ∧ v ≤ R.ver) :
    Sim N S I0 w0 (setAt γ r h') I' { σ with L := setAt σ.L r (some R') } a w' ∧ Young { σ with L := setAt σ.L r (some R') } := by
  have one : ∀ {q : Nat} {R : Root}, (q, R) ∈ [(r, R')] → q = r ∧ R = R' := fun h => by
    simp only [List.mem_singleton, Prod.mk.injEq] at h; exact h
  have not : ∀ {q : Nat}, q ∉ [(r, R')].map (·.1) → q ≠ r := fun h => by simpa using h
  refine h.many hy (l := [(r, R')]) (γ' := setAt γ r h') (B := B) ⟨by simp, fun q hq => setAt_ne _ (not hq) _, hfr, hI, himm, hB,
    fun q R b o c hq => hother q R b o c (not hq), fun q R b o c hq => hothI q R b o c (not hq), fun q R hq R0 hR0 => ?_, fun q R hq hst => ?_, fun q R b o c hq hst hg => ?_, fun q R b o c hq hst hg => ?_,
    fun q R q' R' b o c o' c' hq hq' hne => ?_, fun q R q' R2 b o c o' c' hq hq' hL hst hst' hg => ?_, fun q R x r' v hq hb hx hr => ?_⟩
  · obtain ⟨rfl, rfl⟩ := one hq
    rw [setAt_self]
    rcases hv with hv | ⟨R1, k1, k2, k3⟩
    · exact .inl (hv R0 hR0)
    · rw [hR0] at k1; injection k1 with k1; subst k1
      exact .inr ⟨k2, k3⟩
  · obtain ⟨rfl, rfl⟩ := one hq
    rw [setAt_self]
    exact hroot hst
  · obtain ⟨rfl, rfl⟩ := one hq
    rw [setAt_self] at hg
    exact hlive b o c hst hg
  · obtain ⟨rfl, rfl⟩ := one hq
    rw [setAt_self] at hg
    exact hstill b o c hst hg
  · exact absurd ((one hq).1.trans (one hq').1.symm) hne
  · obtain ⟨rfl, rfl⟩ := one hq
    rw [setAt_self] at hg
    exact hsep q' R2 b o c o' c' (not hq') hL hst' hst hg
  · obtain ⟨rfl, rfl⟩ := one hq
    exact hyg x r' v hb hx hr
end Go.Ai
