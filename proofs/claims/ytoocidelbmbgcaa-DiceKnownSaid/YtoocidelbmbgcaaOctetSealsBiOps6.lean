/- Part of the proofs: the verified interpreter for the program's functions, or lemmas on what they compute; no condition. -/
import Derived.Test.YtoocidelbmbgcaaOctetSealsBiOps5
namespace Go.Ai
variable {N : Lim} {S I0 I I' : Nat → Prop} {w0 w w' : World} {γ γ' : Nat → Hdr} {σ σ' : St} {a : Act} {Γ : Ctx} {o : Oper} {e : Eff} {P : Program} {β : Type} {r : β}

theorem blt_of {a b : Nat} (h : Nat.blt a b = true) : a < b := by
  simp only [Nat.blt] at h
  exact Nat.le_of_ble_eq_true h

/-- Zero elements one behind the other. -/
def zeros (z : Array Value) (n : Nat) : Array Value := (Array.range n).map (z[· % z.size]!)
theorem zeros_size (z : Array Value) (n : Nat) : (zeros z n).size = n := by simp [zeros]
theorem zeros_get {z : Array Value} {sz n j p : Nat} {c : Value} (hz : z.size = sz) (hp : z[p]? = some c) (hj : j * sz + p < n) : (zeros z n)[j * sz + p]? = some c := by
  have hlt := (Array.getElem?_eq_some_iff.1 hp).1
  have hm : (j * sz + p) % sz = p := by
    rw [Nat.add_comm, Nat.add_mul_mod_self_right]; exact Nat.mod_eq_of_lt (by omega)
  simp only [zeros, Array.getElem?_map]
  rw [Array.getElem?_eq_getElem (by simpa using hj)]
  simp only [Array.getElem_range, Option.map_some, hz, hm]
  have := (Array.getElem?_eq_some_iff.1 hp).2
  rw [getElem!_pos z p (by omega), this]
theorem zeros_holds {z : AV} {v : Value} {sz m n : Nat} (h : RI w I z v) (hw : z.width = sz) (hmn : m * sz ≤ n) : Holds w I (zeros v.cells n) sz (List.replicate m z) := by
  intro j x hx
  have hj : j < m := by
    have := (List.getElem?_eq_some_iff.1 hx).1; simpa using this
  rw [List.getElem?_replicate, if_pos hj] at hx
  injection hx with hx; subst hx
  refine ⟨v, h, hw, fun p c hp => zeros_get (by rw [h.width, hw]) hp ?_⟩
  have hlt := (Array.getElem?_eq_some_iff.1 hp).1
  rw [h.width, hw] at hlt
  have := Nat.mul_le_mul_right sz (show j + 1 ≤ m by omega)
  rw [Nat.add_mul, Nat.one_mul] at this
  omega

theorem TyOk.slice {t : TypeId} {i : TI} {el : TypeId} (h : TyOk P t i) (hk : i.tk = .slice el) : P.underlying t = some (.slice el) := by
  have := h.tk
  rwa [hk] at this
theorem TyOk.struct {t : TypeId} {i : TI} {fs : List (Nat × TypeId)} (h : TyOk P t i) (hk : i.tk = .struct fs) : ∃ fields : Array Field, P.underlying t = some (.struct fields) ∧ fields.toList.map (fun f => (f.offset, f.type)) = fs := by
  have := h.tk
  rwa [hk] at this

theorem op_buildSlice (hΓ : CtxOk Γ) (hs : Sim N S I0 w0 γ I σ a w) (hy : Young σ) (hd : ∀ t, o.dst = some t → N.ok t) {t : TypeId} {n : Nat} {ps : Array (Nat × Operand)} (ho : o.op = .buildSlice t n ps) (h : opK Γ o σ some = some e) :
    Goes Γ.P N S I0 w0 (σ.eff o.dst e) o a w := by
  simp only [opK, ho] at h
  obtain ⟨d, hdst, h⟩ := dstK_some h
  obtain ⟨i, ht, h⟩ := tyK_some h
  split at h
  case h_2 => cases h
  rename_i el hk
  obtain ⟨ei, hte, h⟩ := tyK_some h
  have hty := hΓ.ty t i ht
  have hel := hΓ.ty el ei hte
  obtain ⟨z, hz, hzi⟩ := hel.zero
  obtain ⟨j, hj1, hj2, hj3⟩ := hel.bytes (w := w)
  have hzw := (hzi w (Ix γ I [])).width
  obtain ⟨xs, rs, arr, h, hfill, hst, hh, hsz, hlen⟩ := fillK_some hs (n := n) ps.toList (List.replicate n ei.zero) [] (zeros z.cells (n * ei.size)) h (fun q hq => by cases hq)
    (zeros_holds (hzi w _) hel.zw (Nat.le_refl _)) (zeros_size _ _) (by simp)
  obtain ⟨hc, h⟩ := cond_some h
  simp only [Bool.and_eq_true] at hc
  have h1 : n * ei.size ≤ 16777216 := Nat.le_of_ble_eq_true hc.1.1
  have h2 := blt_of hc.1.2
  have hnot := mem_contains hc.2
  injection h with h; subst h
  refine goes_value (u := .slice (some ⟨w.heap.size, 0, none⟩) n n) (w' := w.alloc (.cells arr el)) ?_
    (ok_newRow hs hy hst hnot hd (cap := n) (xs := xs) el hh (by omega) (by omega) (fun L => RV_newRef (R := ⟨σ.next d, el, ei.size, false, .live, xs⟩) (by simp [hlen]) (Nat.le_refl _)) (fun q v hq => ⟨hq.1.symm, hq.2.symm⟩))
  simp only [execOp, ho]
  refine exec_value ?_
  have hps : (ps.map fun (p : Nat × Operand) => (p.1, a.eval p.2)).toList = ps.toList.map fun p => (p.1, a.eval p.2) := by simp
  simp only [Instr.buildSlice, Sem.run_bind, run_underlying (hty.slice hk), Result.andThen_ok, hel.size]
  rw [if_neg (by omega)]
  by_cases h0 : n * ei.size = 0
  · have harr : ((Array.range (n * ei.size)).map fun x => (#[] : Array Value)[x % (#[] : Array Value).size]!) = zeros z.cells (n * ei.size) := by simp [h0, zeros]
    rw [if_pos h0]
    simp only [Sem.run_bind, Sem.run_pure, Result.andThen_ok, harr, hps, hfill]
    simp [newRow]
  · have harr : ((Array.range (n * ei.size)).map fun x => z.cells[x % z.cells.size]!) = zeros z.cells (n * ei.size) := rfl
    rw [if_neg h0]
    simp only [Sem.run_bind, Sem.run_pure, hz, Result.andThen_ok, harr, hps, hfill]
    simp [newRow]

theorem wrap64_of {n : Int} (h0 : 0 ≤ n) (h1 : n ≤ 9223372036854775807) : IntKind.i64.wrap n = n := by
  unfold IntKind.wrap
  simp only [show IntKind.i64.bits = 64 from rfl, show IntKind.i64.signed = true from rfl, Bool.true_and, decide_eq_true_eq]
  split <;> omega

theorem op_makeSlice (hΓ : CtxOk Γ) (hs : Sim N S I0 w0 γ I σ a w) (hy : Young σ) (hd : ∀ t, o.dst = some t → N.ok t) {t : TypeId} {l c : Operand} (ho : o.op = .makeSlice t l c) (h : opK Γ o σ some = some e) :
    Goes Γ.P N S I0 w0 (σ.eff o.dst e) o a w := by
  simp only [opK, ho] at h
  obtain ⟨d, hdst, h⟩ := dstK_some h
  obtain ⟨i, ht, h⟩ := tyK_some h
  split at h
  case h_2 => cases h
  rename_i el k1 n k2 m hk hl hc
  have hl' := RV_opd hs l
  have hc' := RV_opd hs c
  rw [hl] at hl'
  rw [hc] at hc'
  have hl' := RV_int hl'
  have hc' := RV_int hc'
  obtain ⟨ei, hte, h⟩ := tyK_some h
  obtain ⟨⟨c1, c2, c3, c4, c5⟩, h⟩ := okK_some h
  have hty := hΓ.ty t i ht
  have hel := hΓ.ty el ei hte
  obtain ⟨z, hz, hzi⟩ := hel.zero
  obtain ⟨j, hj1, hj2, hj3⟩ := hel.bytes (w := w)
  injection h with h; subst h
  have hbm : m ≤ m * (ei.bytes : Int) := by
    have : m * 1 ≤ m * (ei.bytes : Int) := Int.mul_le_mul_of_nonneg_left (by omega) (by omega)
    omega
  have hbn : n * (ei.bytes : Int) ≤ m * (ei.bytes : Int) := Int.mul_le_mul_of_nonneg_right c2 (by omega)
  have hmn : n.toNat ≤ m.toNat := by omega
  refine goes_value (u := .slice (some ⟨w.heap.size, 0, none⟩) n.toNat m.toNat) (w' := w.alloc (.cells (zeros z.cells (m.toNat * ei.size)) el)) ?_
    (ok_newRow (rs := []) hs hy (fun q hq => by cases hq) (by simp) hd (cap := m.toNat) (xs := List.replicate n.toNat ei.zero) el
      (zeros_holds (hzi w _) hel.zw (Nat.mul_le_mul_right _ hmn)) (by rw [zeros_size]; exact Nat.le_refl _) (by simpa using hmn) (fun L => RV_newRef (R := ⟨σ.next d, el, ei.size, false, .live, List.replicate n.toNat ei.zero⟩) (by simp) hmn) (fun q v hq => ⟨hq.1.symm, hq.2.symm⟩))
  simp only [execOp, ho]
  refine exec_value ?_
  have e1 : (typeInfo el).run Γ.P w = .ok j w := hj1
  have hmw : IntKind.i64.wrap m = m := wrap64_of (by omega) (by omega)
  have hnw : IntKind.i64.wrap n = n := wrap64_of (by omega) (by omega)
  have t1 : (m < 0 || decide ((j.bytes : Int) * m > 2 ^ 48)) = false := by
    simp only [Bool.or_eq_false_iff, decide_eq_false_iff_not, hj2]
    rw [Int.mul_comm]
    omega
  simp only [Instr.makeSlice, Sem.run_bind, run_underlying (hty.slice hk), Result.andThen_ok, hl', hc', asInt, asIntOf, Sem.run_pure, e1, hmw, hnw, t1, Bool.false_or]
  rw [if_neg (by simp only [Bool.or_eq_true, decide_eq_true_eq]; omega)]
  simp only [Sem.run_bind, run_askRoom, Result.andThen_ok, hel.size]
  by_cases h0 : m.toNat * ei.size = 0
  · have harr : ((Array.range (m.toNat * ei.size)).map fun x => (#[] : Array Value)[x % (#[] : Array Value).size]!) = zeros z.cells (m.toNat * ei.size) := by simp [h0, zeros]
    rw [if_pos h0]
    simp only [Sem.run_bind, Sem.run_pure, Result.andThen_ok, harr, newRow, run_newObj]
    rfl
  · have harr : ((Array.range (m.toNat * ei.size)).map fun x => z.cells[x % z.cells.size]!) = zeros z.cells (m.toNat * ei.size) := rfl
    rw [if_neg h0]
    simp only [Sem.run_bind, Sem.run_pure, hz, Result.andThen_ok, harr, newRow, run_newObj]
    rfl
end Go.Ai
