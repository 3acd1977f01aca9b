/- Part of the proofs: the verified interpreter for the program's functions, or lemmas on what they compute; no condition. -/
import Derived.Calls
import Derived.Orders
import Derived.Laws.Sem
import Derived.Laws.World
import Derived.Laws.Cells
import Derived.Below
namespace Go.Ai

/-- What a slot or a cell holds, as a plain tree. -/
inductive AV where
  | int (k : IntKind) (n : Int)
  | bool (b : Bool)
  | str (s : ByteArray)
  | nilp
  | nils
  | sl (sz : Nat) (xs : List AV)
  | own (sz : Nat) (xs : List AV) (part : Option (Nat × Nat))
  | box (xs : List AV)
  | fn (f : Nat) (l m : List AV)
  | agg (cs : List AV)
  | tup (vs : List AV)
  | ref (r v : Nat) (p : List (Nat × Nat)) (part : Option (Nat × Nat))
  | loc (r v : Nat) (p : List (Nat × Nat)) (i off : Nat)
  | elm (x : AV) (off : Nat)
  | dead
  deriving Inhabited

def AV.width : AV → Nat | .agg cs => cs.length | _ => 1
def AV.cells : AV → List AV | .agg cs => cs | x => [x]
/-- One cell of plain data. -/
def AV.leaf : AV → Bool
  | .int _ _ | .bool _ | .str _ | .nilp | .nils | .sl _ _ => true
  | _ => false

/-- The cells from o on in block b are these. -/
def cellsAt (w : World) (b o : Nat) (cs : Array Value) : Prop := ∀ i c, cs[i]? = some c → w.cell? ⟨b, o + i, none⟩ = some c

mutual
/-- Value v is tree x; all that it leads to lies in blocks of I. -/
def RI (w : World) (I : Nat → Prop) : AV → Value → Prop
  | .int k n, v => v = .int k n
  | .bool b, v => v = .bool b
  | .str s, v => v = .string s
  | .nilp, v => v = .pointer none
  | .nils, v => v = .slice none 0 0
  | .sl sz xs, v => ∃ a cap, v = .slice a xs.length cap ∧ xs.length ≤ cap ∧ (xs = [] ∨ ∃ b o, a = some ⟨b, o, none⟩ ∧ I b ∧ RIs w I xs b o sz)
  | .agg cs, v => ∃ us : List Value, v = .agg us.toArray ∧ cs.all AV.leaf = true ∧ RIl w I cs us
  | _, _ => False
def RIs (w : World) (I : Nat → Prop) : List AV → Nat → Nat → Nat → Prop
  | [], _, _, _ => True
  | x :: xs, b, o, sz => (∃ u, RI w I x u ∧ x.width = sz ∧ cellsAt w b o u.cells) ∧ RIs w I xs b (o + sz) sz
def RIl (w : World) (I : Nat → Prop) : List AV → List Value → Prop
  | [], us => us = []
  | c :: cs, us => ∃ u us', us = u :: us' ∧ RI w I c u ∧ RIl w I cs us'
end

theorem cellsAt.of_heap {w w' : World} {b o : Nat} {cs : Array Value} (h : cellsAt w b o cs) (hb : w'.heap[b]? = w.heap[b]?) : cellsAt w' b o cs := by
  intro i c hc
  rw [World.cell?_of_block (w := w) (a := ⟨b, o + i, none⟩) hb]
  exact h i c hc

mutual
theorem RI_mono {w w' : World} {I I' : Nat → Prop} (hI : ∀ k, I k → I' k) (hw : ∀ k, I k → w'.heap[k]? = w.heap[k]?) : ∀ (x : AV) (v : Value), RI w I x v → RI w' I' x v
  | .int k n, v, h => h
  | .bool b, v, h => h
  | .str s, v, h => h
  | .nilp, v, h => h
  | .nils, v, h => h
  | .sl sz xs, v, h => by
    obtain ⟨a, cap, hv, hl, h⟩ := h
    refine ⟨a, cap, hv, hl, ?_⟩
    rcases h with h | ⟨b, o, ha, hb, hs⟩
    · exact .inl h
    · exact .inr ⟨b, o, ha, hI _ hb, RIs_mono hI hw xs b o sz (hw b hb) hs⟩
  | .agg cs, v, h => by
    obtain ⟨us, hv, hl, h⟩ := h
    exact ⟨us, hv, hl, RIl_mono hI hw cs us h⟩
  | .tup _, _, h => h.elim
  | .own _ _ _, _, h => h.elim
  | .fn _ _ _, _, h => h.elim
  | .box _, _, h => h.elim
  | .ref _ _ _ _, _, h => h.elim
  | .loc _ _ _ _ _, _, h => h.elim
  | .elm _ _, _, h => h.elim
  | .dead, _, h => h.elim
theorem RIs_mono {w w' : World} {I I' : Nat → Prop} (hI : ∀ k, I k → I' k) (hw : ∀ k, I k → w'.heap[k]? = w.heap[k]?) : ∀ (xs : List AV) (b o sz : Nat), w'.heap[b]? = w.heap[b]? → RIs w I xs b o sz → RIs w' I' xs b o sz
  | [], _, _, _, _, _ => trivial
  | x :: xs, b, o, sz, hb, h => by
    obtain ⟨⟨u, hu, hs, hc⟩, h⟩ := h
    exact ⟨⟨u, RI_mono hI hw x u hu, hs, hc.of_heap hb⟩, RIs_mono hI hw xs b (o + sz) sz hb h⟩
theorem RIl_mono {w w' : World} {I I' : Nat → Prop} (hI : ∀ k, I k → I' k) (hw : ∀ k, I k → w'.heap[k]? = w.heap[k]?) : ∀ (cs : List AV) (us : List Value), RIl w I cs us → RIl w' I' cs us
  | [], _, h => h
  | c :: cs, us, h => by
    obtain ⟨u, us', hu, h1, h2⟩ := h
    exact ⟨u, us', hu, RI_mono hI hw c u h1, RIl_mono hI hw cs us' h2⟩
end

/-- The same, or a tuple. -/
def RT (w : World) (I : Nat → Prop) : AV → Value → Prop
  | .tup cs, v => ∃ us : List Value, v = .tuple us.toArray ∧ RIl w I cs us
  | x, v => RI w I x v
theorem RT.of {w : World} {I : Nat → Prop} {x : AV} {v : Value} (h : RI w I x v) : RT w I x v := by
  cases x <;> first | exact h | exact h.elim
theorem RT_mono {w w' : World} {I I' : Nat → Prop} (hI : ∀ k, I k → I' k) (hw : ∀ k, I k → w'.heap[k]? = w.heap[k]?) {x : AV} {v : Value} (h : RT w I x v) : RT w' I' x v := by
  cases x with
  | tup cs => obtain ⟨us, hv, h⟩ := h; exact ⟨us, hv, RIl_mono hI hw cs us h⟩
  | _ => exact RI_mono hI hw _ _ h

/-- Pair by pair. -/
def All2 (R : AV → Value → Prop) : List AV → List Value → Prop
  | [], us => us = []
  | c :: cs, us => ∃ u us', us = u :: us' ∧ R c u ∧ All2 R cs us'
theorem All2_iff {R : AV → Value → Prop} (cs : List AV) : ∀ us : List Value, All2 R cs us ↔ us.length = cs.length ∧ ∀ (i : Nat) (c : AV) (u : Value), cs[i]? = some c → us[i]? = some u → R c u := by
  induction cs with
  | nil =>
    intro us
    simp only [All2]
    constructor
    · rintro rfl; simp
    · intro h; simpa using h.1
  | cons y ys ih =>
    intro us
    simp only [All2]
    constructor
    · rintro ⟨u, us', rfl, h1, h2⟩
      obtain ⟨hl, h2⟩ := (ih us').1 h2
      refine ⟨by simp [hl], fun i c v hc hv => ?_⟩
      cases i with
      | zero => simp at hc hv; subst hc; subst hv; exact h1
      | succ i => exact h2 i c v (by simpa using hc) (by simpa using hv)
    · rintro ⟨hl, h⟩
      cases us with
      | nil => simp at hl
      | cons u us' => exact ⟨u, us', rfl, h 0 y u rfl rfl, (ih us').2 ⟨by simpa using hl, fun i c v hc hv => h (i + 1) c v (by simpa using hc) (by simpa using hv)⟩⟩
theorem All2.imp {R R' : AV → Value → Prop} : ∀ {cs : List AV} {us : List Value}, All2 R cs us → (∀ c ∈ cs, ∀ u, R c u → R' c u) → All2 R' cs us
  | [], _, h, _ => h
  | c :: cs, us, h, hi => by
    obtain ⟨u, us', rfl, h1, h2⟩ := h
    exact ⟨u, us', rfl, hi c (by simp) u h1, h2.imp (fun c' hc => hi c' (by simp [hc]))⟩
theorem RIl_all {w : World} {I : Nat → Prop} : ∀ {cs : List AV} {us : List Value}, RIl w I cs us ↔ All2 (RI w I) cs us
  | [], _ => Iff.rfl
  | c :: cs, us => by
    simp only [RIl, All2]
    constructor
    · rintro ⟨u, us', h0, h1, h2⟩; exact ⟨u, us', h0, h1, RIl_all.1 h2⟩
    · rintro ⟨u, us', h0, h1, h2⟩; exact ⟨u, us', h0, h1, RIl_all.2 h2⟩

/-- Element by element. -/
theorem RIs_iff {w : World} {I : Nat → Prop} (xs : List AV) : ∀ (b o sz : Nat), RIs w I xs b o sz ↔ ∀ i x, xs[i]? = some x → ∃ u, RI w I x u ∧ x.width = sz ∧ cellsAt w b (o + i * sz) u.cells := by
  induction xs with
  | nil => intro b o sz; simp [RIs]
  | cons y ys ih =>
    intro b o sz
    simp only [RIs, ih]
    constructor
    · rintro ⟨h0, h⟩ i x hx
      cases i with
      | zero =>
        simp only [List.getElem?_cons_zero, Option.some.injEq] at hx
        subst hx
        simpa using h0
      | succ i =>
        simp only [List.getElem?_cons_succ] at hx
        have := h i x hx
        rwa [show o + sz + i * sz = o + (i + 1) * sz by rw [Nat.add_mul]; omega] at this
    · intro h
      refine ⟨by simpa using h 0 y rfl, fun i x hx => ?_⟩
      have := h (i + 1) x (by simpa using hx)
      rwa [show o + (i + 1) * sz = o + sz + i * sz by rw [Nat.add_mul]; omega] at this

theorem RIl_iff {w : World} {I : Nat → Prop} (cs : List AV) : ∀ us : List Value, RIl w I cs us ↔ us.length = cs.length ∧ ∀ (i : Nat) (c : AV) (u : Value), cs[i]? = some c → us[i]? = some u → RI w I c u := by
  induction cs with
  | nil =>
    intro us
    simp only [RIl]
    constructor
    · rintro rfl; simp
    · intro h; simpa using h.1
  | cons y ys ih =>
    intro us
    simp only [RIl]
    constructor
    · rintro ⟨u, us', rfl, h1, h2⟩
      obtain ⟨hl, h2⟩ := (ih us').1 h2
      refine ⟨by simp [hl], fun i c v hc hv => ?_⟩
      cases i with
      | zero => simp at hc hv; subst hc; subst hv; exact h1
      | succ i => exact h2 i c v (by simpa using hc) (by simpa using hv)
    · rintro ⟨hl, h⟩
      cases us with
      | nil => simp at hl
      | cons u us' => exact ⟨u, us', rfl, h 0 y u rfl rfl, (ih us').2 ⟨by simpa using hl, fun i c v hc hv => h (i + 1) c v (by simpa using hc) (by simpa using hv)⟩⟩

theorem RI.width {w : World} {I : Nat → Prop} {x : AV} {v : Value} (h : RI w I x v) : v.cells.size = x.width := by
  cases x <;> simp only [RI] at h <;> try (subst h; rfl)
  · obtain ⟨a, cap, rfl, _⟩ := h; rfl
  · obtain ⟨us, rfl, _, h⟩ := h
    simpa [Value.cells, AV.width] using ((RIl_iff _ _).1 h).1

/-- A value of one cell. -/
theorem RI.one {w : World} {I : Nat → Prop} {x : AV} {v : Value} (h : RI w I x v) (hx : x.leaf = true) : v.cells = #[v] ∧ (∀ cs, v ≠ .agg cs) ∧ (∀ vs, v ≠ .tuple vs) := by
  cases x <;> simp only [RI, AV.leaf, Bool.false_eq_true] at h hx <;> try (subst h; simp [Value.cells])
  obtain ⟨a, cap, rfl, _⟩ := h
  simp [Value.cells]

end Go.Ai
