/- Part of the proofs: the verified interpreter for the program's functions, or lemmas on what they compute; no condition. -/
import Derived.Test.YtoocidelbmbgcaaOctetSealsBiOps12
import Derived.Laws.Tables
namespace Go.Ai
variable {N : Lim} {S I0 I I' : Nat → Prop} {w0 w w' : World} {γ γ' : Nat → Hdr} {σ σ' : St} {a : Act} {Γ : Ctx} {o : Oper} {e : Eff} {P : Program} {β : Type} {r : β}

/-! ### Structs and arrays -/
theorem RI.leafs {x : AV} {v : Value} (h : RI w I x v) : x.cells.all AV.leaf = true := by
  cases x <;> first | rfl | exact h.elim | skip
  obtain ⟨us, _, hl, _⟩ := h
  exact hl

theorem all_splice {cs ys : List AV} {off : Nat} (h1 : cs.all AV.leaf = true) (h2 : ys.all AV.leaf = true) : (splice cs ys off).all AV.leaf = true := by
  rw [List.all_eq_true] at h1 h2 ⊢
  intro x hx
  unfold splice at hx
  rcases List.mem_append.1 hx with hx | hx
  · rcases List.mem_append.1 hx with hx | hx
    · exact h1 x (List.mem_of_mem_take hx)
    · exact h2 x hx
  · exact h1 x (List.mem_of_mem_drop hx)

theorem RIl_mono' (hI : ∀ k, I k → I' k) {cs : List AV} {us : List Value} (h : RIl w I cs us) : RIl w I' cs us := RIl_mono hI (fun _ _ => rfl) _ _ h

theorem buildK_some (hs : Sim N S I0 w0 γ I σ a w) (hy : Young σ) {fs : List (Nat × TypeId)} {place : Nat → Option (Nat × Nat)} (hp : ∀ f o t ti, fs[f]? = some (o, t) → Γ.ty t = some ti → place f = some (o, ti.size)) :
    ∀ (ps : List (Nat × Operand)) (cs : List AV) (arr : Array Value) {K : List AV → Option β}, buildK Γ σ fs ps cs K = some r →
    All2 (RVc σ.L γ w I) cs arr.toList → (∀ c ∈ cs, ∀ q v, refc c q v → ∃ R, σ.L q = some R ∧ v ≤ R.ver) →
    ∃ cs' arr', K cs' = some r ∧ Instr.fill place arr (ps.map fun p => (p.1, a.eval p.2)) = some arr' ∧ All2 (RVc σ.L γ w I) cs' arr'.toList ∧ (∀ c ∈ cs', ∀ q v, refc c q v → ∃ R, σ.L q = some R ∧ v ≤ R.ver)
  | [], cs, arr, K, h, hh, hl => ⟨cs, arr, h, rfl, hh, hl⟩
  | (f, x) :: ps, cs, arr, K, h, hh, hl => by
    simp only [buildK] at h
    obtain ⟨off, t, hf, h⟩ := offK_some h
    obtain ⟨ti, hti, h⟩ := tyK_some h
    obtain ⟨ys, h, hys, hx1, hcb, hrf, _⟩ := cellsK_some (RV_opd hs x) h
    obtain ⟨hc, h⟩ := cond_some h
    simp only [Bool.and_eq_true] at hc
    have hw1 : ys.length = ti.size := Nat.eq_of_beq_eq_true hc.1
    have hle : off + ti.size ≤ cs.length := Nat.le_of_ble_eq_true hc.2
    have hcx := hx1.cells
    rw [← hys] at hcx
    have hvs := hcx.length
    simp only [Array.length_toList] at hvs
    obtain ⟨hlen, hget⟩ := (All2_iff _ _).1 hh
    simp only [Array.length_toList] at hlen
    have hin : off + (a.eval x).cells.size ≤ arr.size := by omega
    obtain ⟨s1, s2⟩ := foldl_set' off (a.eval x).cells arr hin
    obtain ⟨hylen, hyget⟩ := (All2_iff _ _).1 hcx
    simp only [Array.length_toList] at hylen
    obtain ⟨cs', arr', k1, k2, k3, k4⟩ := buildK_some hs hy hp ps (splice cs ys off)
      ((a.eval x).cells.zipIdx.foldl (fun cs (p : Value × Nat) => cs.setIfInBounds (off + p.2) p.1) arr) h
      (by
        refine (All2_iff _ _).2 ⟨?_, fun i c u hc hu => ?_⟩
        · simp only [Array.length_toList, s1, splice, List.length_append, List.length_take, List.length_drop]; omega
        · unfold splice at hc
          rw [splice_get (by omega)] at hc
          rw [Array.getElem?_toList, s2] at hu
          rw [← hylen] at hc
          by_cases e : off ≤ i ∧ i < off + (a.eval x).cells.size
          · rw [if_pos e] at hc hu
            exact hyget _ c u hc (by simpa using hu)
          · rw [if_neg e] at hc hu
            exact hget i c u hc (by simpa using hu))
      (fun c hc q v hr => by
        unfold splice at hc
        rcases List.mem_append.1 hc with hc | hc
        · rcases List.mem_append.1 hc with hc | hc
          · exact hl c (List.mem_of_mem_take hc) q v hr
          · exact refers_opd hy x q v (hrf c hc q v hr)
        · exact hl c (List.mem_of_mem_drop hc) q v hr)
    refine ⟨cs', arr', k1, ?_, k3, k4⟩
    simp only [List.map_cons, Instr.fill, hp f off t ti hf hti]
    rw [if_neg (by simp only [Bool.or_eq_true, decide_eq_true_eq, ne_eq]; omega)]
    exact k2

theorem mapM_places {P : Program} : ∀ (fields : List Field), (∀ q ∈ fields.map (fun f => (f.offset, f.type)), ∃ j, P.info? q.2 = some j) →
    ∃ places, fields.mapM (fun f => (P.info? f.type).map fun i => (f.offset, i.size)) = some places ∧ ∀ (f o : Nat) (t : TypeId) (j : _), (fields.map fun f => (f.offset, f.type))[f]? = some (o, t) → P.info? t = some j → places[f]? = some (o, j.size)
  | [], _ => ⟨[], rfl, fun f o t j h => by simp at h⟩
  | fd :: fields, h => by
    obtain ⟨j, hj⟩ := h (fd.offset, fd.type) (by simp)
    obtain ⟨places, h1, h2⟩ := mapM_places fields (fun q hq => h q (by simp only [List.map_cons, List.mem_cons]; exact .inr hq))
    refine ⟨(fd.offset, j.size) :: places, by simp [List.mapM_cons, hj, h1], fun f o t j' hf hj' => ?_⟩
    cases f with
    | zero =>
      simp only [List.map_cons, List.getElem?_cons_zero, Option.some.injEq, Prod.mk.injEq] at hf
      obtain ⟨rfl, rfl⟩ := hf
      rw [hj] at hj'; injection hj' with hj'; subst hj'
      rfl
    | succ f => exact h2 f o t j' (by simpa using hf) hj'

theorem op_build (hΓ : CtxOk Γ) (hs : Sim N S I0 w0 γ I σ a w) (hy : Young σ) (hd : ∀ t, o.dst = some t → N.ok t) {t : TypeId} {ps : Array (Nat × Operand)} (ho : o.op = .build t ps) (h : opK Γ o σ some = some e) :
    Goes Γ.P N S I0 w0 (σ.eff o.dst e) o a w := by
  simp only [opK, ho] at h
  obtain ⟨i, ht, h⟩ := tyK_some h
  have hty := hΓ.ty t i ht
  obtain ⟨j, hj1, hj2, hj3, z, hj4, hzi⟩ := hty.info
  have fin : ∀ (fs : List (Nat × TypeId)) (place : Nat → Option (Nat × Nat)), (∀ f o t ti, fs[f]? = some (o, t) → Γ.ty t = some ti → place f = some (o, ti.size)) →
      (∀ parts, Γ.P.built t parts = Instr.fill place z.cells parts) → (buildK Γ σ fs ps.toList i.zero.cells fun cs => some ⟨.agg cs, [], []⟩) = some e → Goes Γ.P N S I0 w0 (σ.eff o.dst e) o a w := by
    intro fs place hp hbuilt h
    have hzero := hzi w I
    obtain ⟨cs, arr, h, hfill, hh, hl⟩ := buildK_some hs hy hp ps.toList i.zero.cells z.cells h (RV1.cells (RV1_data hzero)) (fun c hc q v hr => absurd (ref1_cells hc hr) (ref1_data hzero q v))
    injection h with h; subst h
    refine goes_value (u := .agg arr) (w' := w) ?_ (ok_value hs hy hd (x := .agg cs) ⟨arr.toList, by simp, hh⟩ (fun q v hr => by
      obtain ⟨c, hc1, hc2⟩ := hr
      exact hl c hc1 q v hc2))
    simp only [execOp, ho]
    refine exec_value ?_
    refine run_build w t _ arr ?_
    rw [hbuilt]
    simpa using hfill
  split at h
  · rename_i fs hk
    obtain ⟨fields, hu, hm⟩ := hty.struct hk
    obtain ⟨places, h1, h2⟩ := mapM_places (P := Γ.P) fields.toList (fun q hq => hty.parts fs hk q (by rw [← hm]; exact hq))
    refine fin fs (fun f => places.toArray[f]?) (fun f o t ti hf hti => ?_) (fun parts => ?_) h
    · obtain ⟨j', hj', hjs, _⟩ := (hΓ.ty t ti hti).info
      rw [← hm] at hf
      have := h2 f o t j' hf hj'
      rw [hjs] at this
      simpa using this
    · unfold Program.built
      simp [hj1, hu, hj4, h1]
  · rename_i n el hk
    obtain ⟨ei, hte, h⟩ := tyK_some h
    obtain ⟨j', hj', hjs, _⟩ := (hΓ.ty el ei hte).info
    have hu : Γ.P.underlying t = some (.array n el) := by
      have := hty.tk
      rwa [hk] at this
    refine fin _ (fun i => some (i * ei.size, ei.size)) (fun f o t ti hf hti => ?_) (fun parts => ?_) h
    · simp only [List.getElem?_map, Option.map_eq_some_iff, Prod.mk.injEq] at hf
      obtain ⟨k, hk, rfl, rfl⟩ := hf
      rw [hte] at hti; injection hti with hti; subst hti
      have := List.getElem?_eq_some_iff.1 hk
      obtain ⟨_, hk⟩ := this
      simp at hk
      subst hk
      rfl
    · unfold Program.built
      simp [hj1, hu, hj4, hj', hjs]
  · cases h
end Go.Ai
