/- Part of the proofs: the verified interpreter for the program's functions, or lemmas on what they compute; no condition. -/
import Derived.Test.YtoocidelbmbgcaaOctetSealsBiOps4
namespace Go.Ai
variable {N : Lim} {S I0 I I' : Nat → Prop} {w0 w w' : World} {γ γ' : Nat → Hdr} {σ σ' : St} {a : Act} {Γ : Ctx} {o : Oper} {e : Eff} {P : Program} {β : Type} {r : β}

/-- Nothing that was there has turned. -/
structure Ext (w w' : World) : Prop where
  os : w'.os = w.os
  tape : w'.tape = w.tape
  output : w'.output = w.output
  size : w.heap.size ≤ w'.heap.size
  block : ∀ k, k < w.heap.size → w'.heap[k]? = w.heap[k]?
theorem Ext.refl (w : World) : Ext w w := ⟨rfl, rfl, rfl, Nat.le_refl _, fun _ _ => rfl⟩
theorem Ext.trans {a b c : World} (h : Ext a b) (k : Ext b c) : Ext a c :=
  ⟨k.os.trans h.os, k.tape.trans h.tape, k.output.trans h.output, Nat.le_trans h.size k.size, fun i hi => (k.block i (Nat.lt_of_lt_of_le hi h.size)).trans (h.block i hi)⟩
theorem Ext.alloc (w : World) (ob : Obj) : Ext w (w.alloc ob) := ⟨rfl, rfl, rfl, by simp, fun k hk => Go.RowKit.Below.heap_alloc w ob k hk⟩
theorem Ext.toFr (h : Ext w w') (B : Nat → Prop) : Fr B w w' :=
  ⟨h.os, h.tape, h.output, h.size, fun k hk _ => h.block k hk, fun k arr ty fr hk => ⟨arr, fr, by rw [h.block k (Array.getElem?_eq_some_iff.1 hk).1]; exact hk, rfl⟩⟩
theorem Sim.ext (h : Sim N S I0 w0 γ I σ a w) (k : Ext w w') : Sim N S I0 w0 γ I σ a w' := h.world k.os k.tape k.output k.size k.block

theorem next_lt {d : Nat} (R : Root) (h : σ.L d = some R) : R.ver < σ.next d := by
  simp [St.next, h]

/-- References that are older than a new root. -/
theorem keeps_new {L : Nat → Option Root} {d : Nat} {R' : Root} {h' : Hdr} (hv : ∀ R, L d = some R → R.ver < R'.ver) {r v : Nat} (hr : ∃ R, L r = some R ∧ v ≤ R.ver) : Keeps L (setAt L d (some R')) γ (setAt γ d h') r v := by
  intro R1 j1 j2 j3
  obtain ⟨R, k1, k2⟩ := hr
  by_cases e : r = d
  · subst e
    rw [setAt_self] at j1; injection j1 with j1; subst j1
    have := hv R k1
    omega
  · rw [setAt_ne _ e] at j1
    exact ⟨R1, j1, j2, j3, rfl, rfl, setAt_ne _ e _⟩
theorem young_new {L : Nat → Option Root} {d : Nat} {R' : Root} (hv : ∀ R, L d = some R → R.ver < R'.ver) {r v : Nat} (hr : ∃ R, L r = some R ∧ v ≤ R.ver) : ∃ R, (setAt L d (some R')) r = some R ∧ v ≤ R.ver := by
  obtain ⟨R, k1, k2⟩ := hr
  by_cases e : r = d
  · subst e
    have := hv R k1
    exact ⟨R', setAt_self _ _ _, by omega⟩
  · exact ⟨R, by rw [setAt_ne _ e]; exact k1, k2⟩

/-- A new root. -/
theorem Sim.fresh (h : Sim N S I0 w0 γ I σ a w) (hy : Young σ) {d : Nat} {R' : Root} {h' : Hdr} (hv : R'.ver = σ.next d) (hl : R'.st = .live) (hx : Ext w w') (hb : ∀ b of cap, h' = some (b, of, cap) → w.heap.size ≤ b)
    (hr : RootOk (setAt σ.L d (some R')) (setAt γ d h') w' I h' R') (hyg : ∀ x q v, R'.bx = true → x ∈ R'.xs → ref1 x q v → ∃ R, (setAt σ.L d (some R')) q = some R ∧ v ≤ R.ver) :
    Sim N S I0 w0 (setAt γ d h') I { σ with L := setAt σ.L d (some R') } a w' ∧ Young { σ with L := setAt σ.L d (some R') } := by
  have hs' := h.frame.size
  refine h.up (I' := I) (w' := w') hy (r := d) (R' := R') (h' := h') (B := fun _ => False) (fun _ hk => hk) (hx.toFr _) (fun _ k => k.elim)
    (.inl fun R hR => by rw [hv]; exact next_lt R hR)
    (fun q' Q b' o' c' _ hQ hst hg' k => k)
    (fun q' Q b' o' c' hne hQ hl' hg' => (h.live q' Q b' o' c' hQ hl' hg').1)
    (fun _ => hr)
    (fun b' o' c' _ hg' => by
      have := hb b' o' c' hg'
      exact ⟨fun hk => by have := h.imm b' hk; omega, .inl (by omega)⟩)
    (fun b' o' c' hst _ => by simp [hl] at hst)
    (fun q' Q b' o' c' o'' c'' hne hQ hlQ _ hg' hgq => by
      have h1 := hb b' o' c' hg'
      have h2 := h.root_block hQ (by rw [hlQ]; simp) hgq
      omega)
    (fun k hk => ⟨Nat.lt_of_lt_of_le (h.imm k hk) hx.size, .inl hk⟩) hyg

theorem heap_alloc_self (w : World) (ob : Obj) : (w.alloc ob).heap[w.heap.size]? = some ob := by
  show (w.heap.push ob)[w.heap.size]? = _
  simp

/-- An array that holds these elements one behind the other. -/
def Holds (w : World) (I : Nat → Prop) (arr : Array Value) (sz : Nat) (xs : List AV) : Prop :=
  ∀ (j : Nat) (x : AV), xs[j]? = some x → ∃ u, RI w I x u ∧ x.width = sz ∧ ∀ (p : Nat) (c : Value), u.cells[p]? = some c → arr[j * sz + p]? = some c

theorem Holds.row {arr : Array Value} {sz : Nat} {xs : List AV} (h : Holds w I arr sz xs) (hI : ∀ k, I k → k < w.heap.size) (t : TypeId) : RIs (w.alloc (.cells arr t)) I xs w.heap.size 0 sz := by
  refine (RIs_iff _ _ _ _).2 fun j x hx => ?_
  obtain ⟨u, h1, h2, h3⟩ := h j x hx
  refine ⟨u, RI_mono (fun _ hk => hk) (fun k hk => (Ext.alloc w _).block k (hI k hk)) _ _ h1, h2, fun p c hp => ?_⟩
  rw [Nat.zero_add, World.cell?_alloc_new]
  exact h3 p c hp

/-- A new row in a new block. -/
theorem Sim.newRow (h : Sim N S I0 w0 γ I σ a w) (hy : Young σ) {d ty sz cap : Nat} {xs : List AV} {arr : Array Value} (t : TypeId) (hh : Holds w I arr sz xs) (hcap : cap * sz ≤ arr.size) (hl : xs.length ≤ cap) :
    Sim N S I0 w0 (setAt γ d (some (w.heap.size, 0, cap))) I { σ with L := setAt σ.L d (some ⟨σ.next d, ty, sz, false, .live, xs⟩) } a (w.alloc (.cells arr t)) ∧ Young { σ with L := setAt σ.L d (some ⟨σ.next d, ty, sz, false, .live, xs⟩) } :=
  h.fresh hy rfl rfl (Ext.alloc w _) (fun b of cap he => by injection he with he; injection he with e1 _; omega)
    ⟨hl, hh.row h.imm t, ⟨arr, t, 0, 0, heap_alloc_self w _, (by rw [Nat.zero_add]; exact hcap), fun j _ => by omega⟩, fun hbx => by cases hbx⟩ (fun _ _ _ hb => by cases hb)
/-- A new box. -/
theorem Sim.newBox (h : Sim N S I0 w0 γ I σ a w) (hy : Young σ) {d ty sz : Nat} {x : AV} {v : Value} (t : TypeId) (hx : RV1 σ.L γ w I x v) (hz : x.width = sz) (hyg : ∀ q v, ref1 x q v → ∃ R, σ.L q = some R ∧ v ≤ R.ver) :
    Sim N S I0 w0 (setAt γ d (some (w.heap.size, 0, 1))) I { σ with L := setAt σ.L d (some ⟨σ.next d, ty, sz, true, .live, [x]⟩) } a (w.alloc (.cells v.cells t)) ∧ Young { σ with L := setAt σ.L d (some ⟨σ.next d, ty, sz, true, .live, [x]⟩) } := by
  have hnew : ∀ R, σ.L d = some R → R.ver < (⟨σ.next d, ty, sz, true, .live, [x]⟩ : Root).ver := fun R hR => next_lt R hR
  have hext : Ext w (w.alloc (.cells v.cells t)) := Ext.alloc w _
  refine h.fresh hy rfl rfl hext (fun b of cap he => by injection he with he; injection he with e1 _; omega)
    ⟨by simp, ⟨x, v, rfl, RV1_move (fun _ hk => hk) (fun k hk => hext.block k (h.imm k hk)) (fun r v' hr => keeps_new hnew (hyg r v' hr)) hx, hz, fun p c hp => ?_⟩,
      ⟨v.cells, t, 0, 0, heap_alloc_self w _, (by rw [hx.width, hz]; simp), fun j _ => by omega⟩, fun _ => ⟨rfl, rfl⟩⟩ (fun x' q v' _ hx' hr => ?_)
  · rw [Nat.zero_add, World.cell?_alloc_new]
    exact hp
  · simp only [List.mem_singleton] at hx'
    subst hx'
    exact young_new hnew (hyg q v' hr)

theorem freeze_st (hs : Sim N S I0 w0 γ I σ a w) (hy : Young σ) {rs : List Nat} (hst : Stand σ rs) :
    Sim N S I0 w0 γ (Ix γ I rs) (σ.ups (freezeUps σ rs)) a w ∧ Young (σ.ups (freezeUps σ rs)) :=
  freeze_ok (σ := σ) rs hs hy (fun q hq => by
    obtain ⟨R, k1, k2, k3⟩ := hst q hq
    exact ⟨R, k1, k2, k3, .inl k1⟩)
theorem freeze_next {rs : List Nat} {d : Nat} (h : d ∉ rs) : (σ.ups (freezeUps σ rs)).next d = σ.next d := by
  simp [St.next, freeze_other h]

/-- The slot's value that goes with a new root. -/
theorem RV_newLoc {L : Nat → Option Root} {d : Nat} {R : Root} {b : Nat} {cap : Nat} (hl : 0 < R.xs.length) : RV (setAt L d (some R)) (setAt γ d (some (b, 0, cap))) w I (.loc d R.ver [] 0 0) (.pointer (some ⟨b, 0, none⟩)) := by
  refine ⟨⟨_, rfl⟩, fun R' h1 _ _ _ => ?_⟩
  rw [setAt_self] at h1
  injection h1 with h1; subst h1
  exact ⟨hl, b, 0, cap, by rw [setAt_self], by simp⟩
theorem RV_newRef {L : Nat → Option Root} {d : Nat} {R : Root} {b c : Nat} {n : Nat} (hn : n = R.xs.length) (hc : n ≤ c) : RV (setAt L d (some R)) (setAt γ d (some (b, 0, c))) w I (.ref d R.ver [] none) (.slice (some ⟨b, 0, none⟩) n c) := by
  refine ⟨⟨_, _, _, rfl⟩, fun R' h1 _ _ _ => ?_⟩
  rw [setAt_self] at h1
  injection h1 with h1; subst h1
  rw [setAt_self]
  subst hn
  exact ⟨_, c, rfl, hc, by simp [offOf], .inr (by simp [offOf])⟩
theorem refers_new {L : Nat → Option Root} {d : Nat} {R : Root} {x : AV} (hx : ∀ q v, refers x q v → q = d ∧ v = R.ver) : ∀ q v, refers x q v → ∃ R', (setAt L d (some R)) q = some R' ∧ v ≤ R'.ver := by
  intro q v h
  obtain ⟨rfl, rfl⟩ := hx q v h
  exact ⟨R, setAt_self _ _ _, Nat.le_refl _⟩

theorem one_holds {y : AV} {v : Value} (h : RI w I y v) {sz : Nat} (hz : y.width = sz) : Holds w I v.cells sz [y] := by
  intro j x hx
  cases j with
  | zero => simp at hx; subst hx; exact ⟨v, h, hz, fun p c hp => by simpa using hp⟩
  | succ j => simp at hx

theorem op_alloc (hΓ : CtxOk Γ) (hs : Sim N S I0 w0 γ I σ a w) (hy : Young σ) (hd : ∀ t, o.dst = some t → N.ok t) {t : TypeId} (ho : o.op = .alloc t) (h : opK Γ o σ some = some e) :
    Goes Γ.P N S I0 w0 (σ.eff o.dst e) o a w := by
  simp only [opK, ho] at h
  obtain ⟨d, hdst, h⟩ := dstK_some h
  obtain ⟨i, ht, h⟩ := tyK_some h
  injection h with h; subst h
  have hty := hΓ.ty t i ht
  obtain ⟨z, hz, hzi⟩ := hty.zero
  obtain ⟨g1, g2⟩ := hs.newBox hy (d := d) (ty := t) (sz := i.size) (x := i.zero) (v := z) t (RV1_data (hzi w I)) hty.zw (fun q v hr => absurd hr (ref1_data (hzi w I) q v))
  refine goes_value (u := .pointer (some ⟨w.heap.size, 0, none⟩)) (w' := w.alloc (.cells z.cells t)) ?_ ⟨_, I, g1.slot hd (RV_newLoc (by simp)), g2.slot (refers_new (fun q v hq => ?_))⟩
  · simp only [execOp, ho]
    refine exec_value ?_
    simp [Instr.alloc, hz, newVar, newRow]
  · exact ⟨hq.1.symm, hq.2.symm⟩

/-- A new root, behind what was frozen. -/
theorem ok_new (hs : Sim N S I0 w0 γ I σ a w) (hy : Young σ) {rs : List Nat} (hst : Stand σ rs) {d : Nat} (hnot : d ∉ rs) {q : Option Nat} (hd : ∀ t, q = some t → N.ok t) {R : Root} (hver : R.ver = σ.next d) (hl : R.st = .live)
    {h' : Hdr} (hx : Ext w w') (hb : ∀ b of cap, h' = some (b, of, cap) → w.heap.size ≤ b) (hbx : R.bx = false) (hr : ∀ L γ1, RootOk L γ1 w' (Ix γ I rs) h' R) {x : AV} {u : Value} {rr : List Nat}
    (hv : ∀ L : Nat → Option Root, RV (setAt L d (some R)) (setAt γ d h') w' (Ix γ I rs) x u) (hrf : ∀ q v, refers x q v → q = d ∧ v = R.ver) :
    Ok N S I0 w0 (σ.eff q ⟨x, freezeUps σ rs ++ [(d, R)], rr⟩) (a.put q u) w' := by
  obtain ⟨f1, f2⟩ := freeze_st hs hy hst
  obtain ⟨g1, g2⟩ := f1.fresh f2 (d := d) (R' := R) (h' := h') (by rw [freeze_next hnot]; exact hver) hl hx hb (hr _ _) (fun _ _ _ k => by rw [hbx] at k; cases k)
  refine ⟨setAt γ d h', Ix γ I rs, ?_⟩
  simp only [St.eff, ups_append]
  exact ⟨g1.slot (d := q) hd (hv _), g2.slot (d := q) (refers_new hrf)⟩
theorem Ix_lt (hs : Sim N S I0 w0 γ I σ a w) {rs : List Nat} (hst : Stand σ rs) : ∀ k, Ix γ I rs k → k < w.heap.size := by
  rintro k (hk | ⟨q, hq, o, c, hg⟩)
  · exact hs.imm k hk
  · obtain ⟨R, h1, h2, _⟩ := hst q hq
    exact hs.root_block h1 h2 hg
/-- .. in a block of its own. -/
theorem ok_newRow (hs : Sim N S I0 w0 γ I σ a w) (hy : Young σ) {rs : List Nat} (hst : Stand σ rs) {d : Nat} (hnot : d ∉ rs) {q : Option Nat} (hd : ∀ t, q = some t → N.ok t) {ty sz cap : Nat} {xs : List AV} {arr : Array Value} (t : TypeId)
    (hh : Holds w (Ix γ I rs) arr sz xs) (hcap : cap * sz ≤ arr.size) (hl : xs.length ≤ cap) {x : AV} {u : Value} {rr : List Nat}
    (hv : ∀ L : Nat → Option Root, RV (setAt L d (some ⟨σ.next d, ty, sz, false, .live, xs⟩)) (setAt γ d (some (w.heap.size, 0, cap))) (w.alloc (.cells arr t)) (Ix γ I rs) x u) (hrf : ∀ q v, refers x q v → q = d ∧ v = σ.next d) :
    Ok N S I0 w0 (σ.eff q ⟨x, freezeUps σ rs ++ [(d, ⟨σ.next d, ty, sz, false, .live, xs⟩)], rr⟩) (a.put q u) (w.alloc (.cells arr t)) :=
  ok_new (h' := some (w.heap.size, 0, cap)) (R := ⟨σ.next d, ty, sz, false, .live, xs⟩) hs hy hst hnot hd rfl rfl (Ext.alloc w _) (fun b of cap he => by injection he with he; injection he with e1 _; omega) rfl
    (fun _ _ => ⟨hl, RowOk.mkRow rfl (hh.row (Ix_lt hs hst) t), ⟨arr, t, 0, 0, heap_alloc_self w _, (by rw [Nat.zero_add]; exact hcap), fun j _ => by omega⟩, fun hbx => by cases hbx⟩) hv hrf

theorem op_box (hs : Sim N S I0 w0 γ I σ a w) (hy : Young σ) (hd : ∀ t, o.dst = some t → N.ok t) {t : TypeId} {x : Operand} (ho : o.op = .box t x) (h : opK Γ o σ some = some e) :
    Goes Γ.P N S I0 w0 (σ.eff o.dst e) o a w := by
  simp only [opK, ho] at h
  obtain ⟨d, hdst, h⟩ := dstK_some h
  obtain ⟨i, ht, h⟩ := tyK_some h
  obtain ⟨ys, h, hys, hx1, hcb, hrf, _⟩ := cellsK_some (RV_opd hs x) h
  obtain ⟨hc, h⟩ := cond_some h
  have hw1 : ys.length = i.size := Nat.eq_of_beq_eq_true hc
  injection h with h; subst h
  obtain ⟨g1, g2⟩ := hs.newBox hy (d := d) (ty := t) (sz := i.size) (x := opd σ x) (v := a.eval x) t hx1 (by rw [← AV.width_cells, ← hys]; exact hw1) (fun q v hr => by
    obtain ⟨c, hc1, hc2⟩ := cells_ref1 hr
    rw [← hys] at hc1
    exact refers_opd hy x q v (hrf c hc1 q v hc2))
  refine goes_value (u := .pointer (some ⟨w.heap.size, 0, none⟩)) (w' := w.alloc (.cells (a.eval x).cells t)) ?_ ⟨_, I, g1.slot hd (RV_newLoc (by simp)), g2.slot (refers_new (fun q v hq => ⟨hq.1.symm, hq.2.symm⟩))⟩
  simp only [execOp, ho]
  refine exec_value ?_
  simp [Instr.box, newVar, newRow]

/-! ### Rows that are made -/
theorem foldl_set (off : Nat) : ∀ (us : List Value) (k : Nat) (cs : Array Value), off + k + us.length ≤ cs.size →
    ((us.zipIdx k).foldl (fun cs (p : Value × Nat) => cs.setIfInBounds (off + p.2) p.1) cs).size = cs.size ∧
    ∀ j, ((us.zipIdx k).foldl (fun cs (p : Value × Nat) => cs.setIfInBounds (off + p.2) p.1) cs)[j]? = if off + k ≤ j ∧ j < off + k + us.length then us[j - (off + k)]? else cs[j]?
  | [], k, cs, _ => ⟨rfl, fun j => by rw [if_neg (by simp only [List.length_nil]; omega)]; rfl⟩
  | u :: us, k, cs, h => by
    simp only [List.length_cons] at h
    obtain ⟨h1, h2⟩ := foldl_set off us (k + 1) (cs.setIfInBounds (off + k) u) (by simp; omega)
    simp only [List.zipIdx_cons, List.foldl_cons]
    refine ⟨by rw [h1]; simp, fun j => ?_⟩
    rw [h2 j]
    simp only [List.length_cons]
    by_cases e : j = off + k
    · subst e
      rw [if_neg (by omega), if_pos (by omega)]
      have : off + k < cs.size := by omega
      simp [this]
    · by_cases e2 : off + (k + 1) ≤ j ∧ j < off + (k + 1) + us.length
      · rw [if_pos e2, if_pos (by omega), show j - (off + k) = (j - (off + (k + 1))) + 1 by omega, List.getElem?_cons_succ]
      · rw [if_neg e2, if_neg (by omega)]
        have : off + k ≠ j := fun h => e h.symm
        simp [this]
theorem foldl_set' (off : Nat) (us : Array Value) (cs : Array Value) (h : off + us.size ≤ cs.size) :
    (us.zipIdx.foldl (fun cs (p : Value × Nat) => cs.setIfInBounds (off + p.2) p.1) cs).size = cs.size ∧
    ∀ j, (us.zipIdx.foldl (fun cs (p : Value × Nat) => cs.setIfInBounds (off + p.2) p.1) cs)[j]? = if off ≤ j ∧ j < off + us.size then us[j - off]? else cs[j]? := by
  have := foldl_set off us.toList 0 cs (by simpa using h)
  rw [← Array.foldl_toList, Array.toList_zipIdx]
  simpa using this

/-- A slice's elements, laid one by one. -/
theorem fillK_some (hs : Sim N S I0 w0 γ I σ a w) {sz n : Nat} : ∀ (ps : List (Nat × Operand)) (xs : List AV) (rs : List Nat) (arr : Array Value) {K : List AV → List Nat → Option β}, fillK σ sz ps xs rs K = some r →
    Stand σ rs → Holds w (Ix γ I rs) arr sz xs → arr.size = n * sz → xs.length = n →
    ∃ xs' rs' arr', K xs' rs' = some r ∧ Instr.fill (fun i => some (i * sz, sz)) arr (ps.map fun p => (p.1, a.eval p.2)) = some arr' ∧ Stand σ rs' ∧ Holds w (Ix γ I rs') arr' sz xs' ∧ arr'.size = n * sz ∧ xs'.length = n
  | [], xs, rs, arr, K, h, hst, hh, hsz, hl => ⟨xs, rs, arr, h, rfl, hst, hh, hsz, hl⟩
  | (i, x) :: ps, xs, rs, arr, K, h, hst, hh, hsz, hl => by
    simp only [fillK] at h
    obtain ⟨y, rs1, h, hyx, hst1, hdat⟩ := dataK_some hs (RV_opd hs x) h
    obtain ⟨hc, h⟩ := cond_some h
    simp only [Bool.and_eq_true] at hc
    have hw1 : y.width = sz := Nat.eq_of_beq_eq_true hc.1
    have hi : i < xs.length := by
      have := hc.2
      simp only [Nat.blt] at this
      exact Nat.le_of_ble_eq_true this
    have hvs := hyx.width
    have hin : i * sz + sz ≤ n * sz := by
      have := Nat.mul_le_mul_right sz (show i + 1 ≤ n by omega)
      rwa [Nat.add_mul, Nat.one_mul] at this
    obtain ⟨s1, s2⟩ := foldl_set' (i * sz) (a.eval x).cells arr (by omega)
    have mono : ∀ k, Ix γ I rs k → Ix γ I (rs ++ rs1) k := by
      rintro k (hk | ⟨q, hq, o, c, hg⟩)
      · exact .inl hk
      · exact .inr ⟨q, by simp [hq], o, c, hg⟩
    have mono1 : ∀ k, Ix γ I rs1 k → Ix γ I (rs ++ rs1) k := by
      rintro k (hk | ⟨q, hq, o, c, hg⟩)
      · exact .inl hk
      · exact .inr ⟨q, by simp [hq], o, c, hg⟩
    obtain ⟨xs', rs', arr', k1, k2, k3, k4, k5, k6⟩ := fillK_some hs ps (xs.set i y) (rs ++ rs1)
      ((a.eval x).cells.zipIdx.foldl (fun cs (p : Value × Nat) => cs.setIfInBounds (i * sz + p.2) p.1) arr) h (fun q hq => by
        rcases List.mem_append.1 hq with hq | hq
        · exact hst q hq
        · exact hst1 q hq)
      (fun j z hz => by
        by_cases e : j = i
        · subst e
          rw [List.getElem?_set_self hi] at hz
          injection hz with hz; subst hz
          refine ⟨a.eval x, RI_mono mono1 (fun _ _ => rfl) _ _ hyx, hw1, fun p c hp => ?_⟩
          have hlt := (Array.getElem?_eq_some_iff.1 hp).1
          rw [s2, if_pos (by omega)]
          simpa using hp
        · rw [List.getElem?_set_ne (Ne.symm e)] at hz
          obtain ⟨u, j1, j2, j3⟩ := hh j z hz
          refine ⟨u, RI_mono mono (fun _ _ => rfl) _ _ j1, j2, fun p c hp => ?_⟩
          have hlt := (Array.getElem?_eq_some_iff.1 hp).1
          have hw2 := j1.width
          rw [s2, if_neg ?_]
          · exact j3 p c hp
          · rcases Nat.lt_or_ge j i with hji | hji
            · have : (j + 1) * sz ≤ i * sz := Nat.mul_le_mul_right _ hji
              rw [Nat.add_mul] at this
              omega
            · have : (i + 1) * sz ≤ j * sz := Nat.mul_le_mul_right _ (by omega)
              rw [Nat.add_mul] at this
              omega)
      (by rw [s1]; exact hsz) (by simpa using hl)
    refine ⟨xs', rs', arr', k1, ?_, k3, k4, k5, k6⟩
    simp only [List.map_cons, Instr.fill]
    rw [if_neg (by simp only [Bool.or_eq_true, decide_eq_true_eq, ne_eq]; omega)]
    exact k2
end Go.Ai
