/- Part of the proofs: the verified interpreter for the program's functions, or lemmas on what they compute; no condition. -/
import Derived.Test.YtoocidelbmbgcaaOctetSealsBiOps2
namespace Go.Ai
variable {N : Lim} {S I0 I I' : Nat → Prop} {w0 w w' : World} {γ γ' : Nat → Hdr} {σ σ' : St} {a : Act} {Γ : Ctx} {o : Oper} {e : Eff} {P : Program} {β : Type} {r : β}

theorem freezeUps_keys (rs : List Nat) : ∀ x ∈ freezeUps σ rs, x.1 ∈ rs := by
  induction rs with
  | nil => intro x hx; cases hx
  | cons q rs ih =>
    intro x hx
    unfold freezeUps at hx
    split at hx
    · rcases List.mem_cons.1 hx with h | h
      · rw [h]; simp
      · exact List.mem_cons_of_mem _ (ih x h)
    · exact List.mem_cons_of_mem _ (ih x hx)
theorem freeze_other {rs : List Nat} {q : Nat} (h : q ∉ rs) : (σ.ups (freezeUps σ rs)).L q = σ.L q :=
  ups_ne _ _ (fun x hx e => h (e ▸ freezeUps_keys rs x hx))

/-! ### Stores -/
/-- From w to w' cells us have been written from o on in block b, and nothing else. -/
structure Wrote (w w' : World) (b o : Nat) (us : List Value) : Prop where
  os : w'.os = w.os
  tape : w'.tape = w.tape
  output : w'.output = w.output
  size : w'.heap.size = w.heap.size
  other : ∀ k, k ≠ b → w'.heap[k]? = w.heap[k]?
  block : ∃ arr arr' ty fr, w.heap[b]? = some (.cells arr ty fr) ∧ w'.heap[b]? = some (.cells arr' ty fr) ∧ arr'.size = arr.size ∧
    (∀ (j : Nat) (u : Value), us[j]? = some u → arr'[o + j]? = some u) ∧ (∀ j, (j < o ∨ o + us.length ≤ j) → arr'[j]? = arr[j]?)

theorem cell_eq {b j : Nat} {arr : Array Value} {ty : TypeId} {fr : Nat × Nat} (h : w.heap[b]? = some (.cells arr ty fr)) : w.cell? ⟨b, j, none⟩ = arr[j]? := by
  simp [World.cell?, h]

theorem run_storeCells {b o : Nat} {ty : TypeId} {lo hi : Nat} : ∀ (us : List Value) (i : Nat) (w : World) (arr : Array Value), w.heap[b]? = some (.cells arr ty (lo, hi)) → (∀ j, j < arr.size → ¬ (lo ≤ j ∧ j < hi)) →
    (∀ u ∈ us, u.oneCell' = true) → o + i + us.length ≤ arr.size → ∃ w', (storeCells ⟨b, o, none⟩ us i).run P w = .ok () w' ∧ Wrote w w' b (o + i) us
  | [], i, w, arr, hb, _, _, _ => ⟨w, rfl, rfl, rfl, rfl, rfl, fun _ _ => rfl, arr, arr, ty, (lo, hi), hb, hb, rfl, fun j u h => by simp at h, fun _ _ => rfl⟩
  | u :: us, i, w, arr, hb, hf, h1, hl => by
    simp only [List.length_cons] at hl
    have hlt : o + i < arr.size := by omega
    have hc : w.cell? ⟨b, o + i, none⟩ = some arr[o + i] := by rw [cell_eq hb]; exact Array.getElem?_eq_getElem hlt
    have hz : w.frozen? ⟨b, o + i, none⟩ = false := by
      simp only [World.frozen?, hb]
      have := hf _ hlt
      simp only [Bool.and_eq_false_iff, decide_eq_false_iff_not]
      omega
    have hst : (store ((⟨b, o, none⟩ : Addr).add i) u).run P w = .ok () (w.setCell ⟨b, o + i, none⟩ u) := by
      rw [run_store P w _ _ _ (h1 u (by simp)), addr_add]
      simp [hc, hz]
    have hb' : (w.setCell ⟨b, o + i, none⟩ u).heap[b]? = some (.cells (arr.setIfInBounds (o + i) u) ty (lo, hi)) := by
      simp [World.setCell, Array.getElem?_modify, hb]
    obtain ⟨w', hr, hw⟩ := run_storeCells (b := b) (o := o) us (i + 1) (w.setCell ⟨b, o + i, none⟩ u) _ hb' (by simpa using hf) (fun x hx => h1 x (by simp [hx])) (by simp; omega)
    refine ⟨w', by simp only [storeCells, Sem.run_bind, hst, Result.andThen_ok, hr], ?_⟩
    obtain ⟨arr1, arr', ty', fr', k1, k2, k3, k4, k5⟩ := hw.block
    rw [hb'] at k1
    injection k1 with k1
    injection k1 with e1 e2 e3
    subst e1; subst e2; subst e3
    refine ⟨hw.os, hw.tape, hw.output, by rw [hw.size, World.size_setCell], fun k hk => ?_, arr, arr', ty, (lo, hi), hb, k2, by rw [k3]; simp, fun j v hv => ?_, fun j hj => ?_⟩
    · rw [hw.other k hk]
      exact Go.RowKit.Below.heap_setCell w ⟨b, o + i, none⟩ u k hk
    · cases j with
      | zero =>
        simp only [List.getElem?_cons_zero, Option.some.injEq] at hv
        subst hv
        rw [k5 (o + i + 0) (by omega)]
        simp [hlt]
      | succ j =>
        have := k4 j v (by simpa using hv)
        rwa [show o + (i + 1) + j = o + i + (j + 1) by omega] at this
    · simp only [List.length_cons] at hj
      rw [k5 j (by omega)]
      have : o + i ≠ j := by omega
      simp [this]

theorem Wrote.kind {b o : Nat} {us : List Value} (h : Wrote w w' b o us) : ∀ (k : Nat) (arr : Array Value) (ty : TypeId) (fr : Nat × Nat), w.heap[k]? = some (Obj.cells arr ty fr) → ∃ (arr' : Array Value) (fr' : Nat × Nat), w'.heap[k]? = some (Obj.cells arr' ty fr') ∧ arr'.size = arr.size := by
  intro k arr ty fr hk
  by_cases e : k = b
  · subst e
    obtain ⟨arr1, arr', ty1, fr1, k1, k2, k3, _, _⟩ := h.block
    rw [k1] at hk
    injection hk with hk
    injection hk with e1 e2 e3
    subst e1; subst e2; subst e3
    exact ⟨arr', _, k2, k3⟩
  · exact ⟨arr, fr, by rw [h.other k e]; exact hk, rfl⟩
theorem Wrote.toFr {b o : Nat} {us : List Value} (h : Wrote w w' b o us) : Fr (· = b) w w' :=
  ⟨h.os, h.tape, h.output, by rw [h.size]; exact Nat.le_refl _, fun k _ hk => h.other k hk, h.kind⟩
theorem Wrote.cell {b o : Nat} {us : List Value} (h : Wrote w w' b o us) {j : Nat} (hj : j < o ∨ o + us.length ≤ j) : w'.cell? ⟨b, j, none⟩ = w.cell? ⟨b, j, none⟩ := by
  obtain ⟨arr, arr', ty, fr, k1, k2, k3, k4, k5⟩ := h.block
  rw [cell_eq k1, cell_eq k2, k5 j hj]
theorem Wrote.new {b o : Nat} {us : List Value} (h : Wrote w w' b o us) {j : Nat} {u : Value} (hj : us[j]? = some u) : w'.cell? ⟨b, o + j, none⟩ = some u := by
  obtain ⟨arr, arr', ty, fr, k1, k2, k3, k4, k5⟩ := h.block
  rw [cell_eq k2, k4 j u hj]
theorem Wrote.free {b o n : Nat} {us : List Value} (h : Wrote w w' b o us) (hf : Free w b n) : Free w' b n := by
  obtain ⟨arr, arr', ty, fr, k1, k2, k3, k4, k5⟩ := h.block
  obtain ⟨arr0, ty0, lo, hi, j1, j2, j3⟩ := hf
  rw [k1] at j1
  injection j1 with j1
  injection j1 with e1 e2 e3
  subst e1; subst e2; subst e3
  exact ⟨arr', ty, lo, hi, k2, by omega, by rw [k3]; exact j3⟩

theorem one_of_leaf {x : AV} {v : Value} (h : RI w I x v) (hx : x.leaf = true) : v.oneCell' = true := by
  obtain ⟨_, h1, h2⟩ := h.one hx
  cases v <;> first | rfl | exact absurd rfl (h1 _) | exact absurd rfl (h2 _)
theorem ones_of_leafs {cs : List AV} {us : List Value} (h : RIl w I cs us) (hl : cs.all AV.leaf = true) : ∀ u ∈ us, u.oneCell' = true := by
  obtain ⟨hlen, h⟩ := (RIl_iff _ _).1 h
  intro u hu
  obtain ⟨i, hi, rfl⟩ := List.getElem_of_mem hu
  have hc := List.getElem?_eq_getElem (l := cs) (i := i) (by omega)
  exact one_of_leaf (h i _ _ hc (List.getElem?_eq_getElem hi)) (List.all_eq_true.1 hl _ (List.mem_of_getElem? hc))
theorem data_leafs {x : AV} {v : Value} (h : RI w I x v) (hx : isData x = true) : x.cells.all AV.leaf = true := by
  cases x <;> simp only [isData, Bool.false_eq_true] at hx <;> first | rfl | skip
  obtain ⟨us, _, hl, _⟩ := h
  exact hl

theorem cells_one {x : AV} {v : Value} (h : RI w I x v) : ∀ c ∈ v.cells.toList, c.oneCell' = true := by
  have leaf : x.leaf = true → ∀ c ∈ v.cells.toList, c.oneCell' = true := by
    intro hx c hc
    rw [(h.one hx).1] at hc
    simp only [List.mem_singleton] at hc
    subst hc
    exact one_of_leaf h hx
  cases x with
  | agg cs =>
    obtain ⟨us, rfl, hl, h⟩ := h
    exact fun c hc => ones_of_leafs h hl c (by simpa [Value.cells] using hc)
  | own _ _ _ => exact h.elim
  | fn _ _ _ => exact h.elim
  | box xs => exact h.elim
  | tup xs => exact h.elim
  | ref _ _ _ _ => exact h.elim
  | loc _ _ _ _ _ => exact h.elim
  | elm _ _ => exact h.elim
  | dead => exact h.elim
  | _ => exact leaf rfl

/-- One element of a row written anew. -/
theorem RIs_set {xs : List AV} {b o sz i off : Nat} {us : List Value} {e' : AV} {v' : Value} (h : RIs w I xs b o sz) (hb : ¬ I b) (hi : i < xs.length) (hw : Wrote w w' b (o + i * sz + off) us) (hle : off + us.length ≤ sz)
    (he : RI w I e' v') (hwd : e'.width = sz) (hcells : ∀ (j : Nat) (u : Value), v'.cells[j]? = some u → (off ≤ j ∧ us[j - off]? = some u) ∨ ((j < off ∨ off + us.length ≤ j) ∧ j < sz ∧ w.cell? ⟨b, o + i * sz + j, none⟩ = some u)) :
    RIs w' I (xs.set i e') b o sz := by
  have hIw : ∀ k, I k → w'.heap[k]? = w.heap[k]? := fun k hk => hw.other k (fun e => hb (e ▸ hk))
  refine (RIs_iff _ _ _ _).2 fun j x hx => ?_
  by_cases e : j = i
  · subst e
    rw [List.getElem?_set_self hi] at hx
    injection hx with hx
    subst hx
    refine ⟨v', RI_mono (fun _ hk => hk) hIw _ _ he, hwd, fun p u hp => ?_⟩
    rcases hcells p u hp with ⟨h1, h2⟩ | ⟨h1, h2, h3⟩
    · have := hw.new h2
      rwa [show o + j * sz + off + (p - off) = o + j * sz + p by omega] at this
    · rw [hw.cell (by omega)]; exact h3
  · rw [List.getElem?_set_ne (Ne.symm e)] at hx
    obtain ⟨u, k1, k2, k3⟩ := (RIs_iff _ _ _ _).1 h j x hx
    refine ⟨u, RI_mono (fun _ hk => hk) hIw _ _ k1, k2, fun p c hp => ?_⟩
    rw [hw.cell ?_]
    · exact k3 p c hp
    · have hp' : p < sz := by
        have h1 := k1.width
        have h2 := (Array.getElem?_eq_some_iff.1 hp).1
        omega
      rcases Nat.lt_or_ge j i with hlt | hge
      · left
        have : (j + 1) * sz ≤ i * sz := Nat.mul_le_mul_right _ hlt
        rw [Nat.add_mul] at this
        omega
      · right
        have : (i + 1) * sz ≤ j * sz := Nat.mul_le_mul_right _ (by omega)
        rw [Nat.add_mul] at this
        omega
end Go.Ai
