/- Part of the proofs: the verified interpreter for the program's functions, or lemmas on what they compute; no condition. -/
import Derived.Test.YtoocidelbmbgcaaOctetSealsBiOps10
namespace Go.Ai
variable {N : Lim} {S I0 I I' : Nat → Prop} {w0 w w' : World} {γ γ' : Nat → Hdr} {σ σ' : St} {a : Act} {Γ : Ctx} {o : Oper} {e : Eff} {P : Program} {β : Type} {r : β}

/-! ### Append -/
/-- The cells of elements one behind the other. -/
def flat (us : List Value) : List Value := us.flatMap fun u => u.cells.toList
theorem flat_length {us : List Value} {sz : Nat} (h : ∀ u ∈ us, u.cells.size = sz) : (flat us).length = us.length * sz := by
  induction us with
  | nil => simp [flat]
  | cons u us ih =>
    have h1 := h u (by simp)
    have h2 := ih (fun v hv => h v (by simp [hv]))
    simp only [flat, List.flatMap_cons, List.length_append, Array.length_toList, List.length_cons] at h2 ⊢
    rw [h1, h2, Nat.add_mul]; omega
theorem flat_get {us : List Value} {sz : Nat} (h : ∀ u ∈ us, u.cells.size = sz) : ∀ {j p : Nat} {u : Value} {c : Value}, us[j]? = some u → u.cells[p]? = some c → (flat us)[j * sz + p]? = some c := by
  induction us with
  | nil => intro j p u c hj; simp at hj
  | cons v us ih =>
    intro j p u c hj hp
    have h1 := h v (by simp)
    simp only [flat, List.flatMap_cons]
    cases j with
    | zero =>
      simp only [List.getElem?_cons_zero, Option.some.injEq] at hj
      subst hj
      have hlt := (Array.getElem?_eq_some_iff.1 hp).1
      rw [List.getElem?_append_left (by simp; omega), Nat.zero_mul, Nat.zero_add]
      simpa using hp
    | succ j =>
      have := ih (fun v hv => h v (by simp [hv])) (by simpa using hj) hp
      rw [List.getElem?_append_right (by simp [h1, Nat.add_mul]; omega)]
      simp only [Array.length_toList, h1]
      rwa [show (j + 1) * sz + p - sz = j * sz + p by rw [Nat.add_mul]; omega]
theorem flat_get' {us : List Value} {sz : Nat} (h : ∀ u ∈ us, u.cells.size = sz) (hs : 0 < sz) {i : Nat} {c : Value} (hi : (flat us)[i]? = some c) : ∃ u, us[i / sz]? = some u ∧ u.cells[i % sz]? = some c := by
  have hlt := (List.getElem?_eq_some_iff.1 hi).1
  rw [flat_length h] at hlt
  have hj : i / sz < us.length := (Nat.div_lt_iff_lt_mul hs).2 hlt
  have hu := List.getElem?_eq_getElem hj
  have hz := h _ (List.mem_of_getElem? hu)
  have hp : i % sz < us[i / sz].cells.size := by rw [hz]; exact Nat.mod_lt _ hs
  refine ⟨_, hu, ?_⟩
  have := flat_get h hu (Array.getElem?_eq_getElem hp)
  rw [show i / sz * sz + i % sz = i by rw [Nat.mul_comm]; exact Nat.div_add_mod i sz, hi] at this
  injection this with this
  rw [this]; exact Array.getElem?_eq_getElem hp

/-- Elements as values, one by one. -/
def Els (w : World) (I : Nat → Prop) (sz : Nat) (xs : List AV) (us : List Value) : Prop := us.length = xs.length ∧ ∀ (i : Nat) (x : AV) (u : Value), xs[i]? = some x → us[i]? = some u → RI w I x u ∧ x.width = sz
theorem Els.sizes {sz : Nat} {xs : List AV} {us : List Value} (h : Els w I sz xs us) : ∀ u ∈ us, u.cells.size = sz := by
  intro u hu
  obtain ⟨i, hi, rfl⟩ := List.getElem_of_mem hu
  obtain ⟨h1, h2⟩ := h.2 i _ _ (List.getElem?_eq_getElem (by rw [← h.1]; exact hi)) (List.getElem?_eq_getElem hi)
  rw [h1.width, h2]
theorem Els.flat_one {sz : Nat} {xs : List AV} {us : List Value} (h : Els w I sz xs us) : ∀ u ∈ flat us, u.oneCell' = true := by
  intro c hc
  obtain ⟨u, hu, hcu⟩ := List.mem_flatMap.1 hc
  obtain ⟨i, hi, rfl⟩ := List.getElem_of_mem hu
  obtain ⟨h1, _⟩ := h.2 i _ _ (List.getElem?_eq_getElem (by rw [← h.1]; exact hi)) (List.getElem?_eq_getElem hi)
  exact cells_one h1 c (by simpa using hcu)
theorem Els.holds {sz : Nat} {xs : List AV} {us : List Value} (h : Els w I sz xs us) {arr : Array Value} (ha : ∀ (i : Nat) (c : Value), (flat us)[i]? = some c → arr[i]? = some c) : Holds w I arr sz xs := by
  intro j x hx
  have hlt := (List.getElem?_eq_some_iff.1 hx).1
  have hu := List.getElem?_eq_getElem (l := us) (i := j) (by rw [h.1]; exact hlt)
  obtain ⟨h1, h2⟩ := h.2 j x _ hx hu
  exact ⟨_, h1, h2, fun p c hp => ha _ _ (flat_get h.sizes hu hp)⟩
theorem Els.append {sz : Nat} {xs ys : List AV} {us vs : List Value} (h : Els w I sz xs us) (k : Els w I sz ys vs) : Els w I sz (xs ++ ys) (us ++ vs) := by
  refine ⟨by simp [h.1, k.1], fun i x u hx hu => ?_⟩
  rcases Nat.lt_or_ge i xs.length with hi | hi
  · rw [List.getElem?_append_left hi] at hx
    rw [List.getElem?_append_left (by rw [h.1]; exact hi)] at hu
    exact h.2 i x u hx hu
  · rw [List.getElem?_append_right hi] at hx
    rw [List.getElem?_append_right (by rw [h.1]; exact hi), h.1] at hu
    exact k.2 _ x u hx hu
theorem flat_append (us vs : List Value) : flat (us ++ vs) = flat us ++ flat vs := by simp [flat]
theorem Els.mono {w' : World} {sz : Nat} {xs : List AV} {us : List Value} (h : Els w I sz xs us) (hI : ∀ k, I k → I' k) (hw : ∀ k, I k → w'.heap[k]? = w.heap[k]?) : Els w' I' sz xs us :=
  ⟨h.1, fun i x u hx hu => ⟨RI_mono hI hw _ _ (h.2 i x u hx hu).1, (h.2 i x u hx hu).2⟩⟩

/-- The values of a row that is in memory. -/
theorem els_of_row {xs : List AV} {b of sz : Nat} (h : RIs w I xs b of sz) : ∃ us, Els w I sz xs us ∧ ∀ (i : Nat) (c : Value), 0 < sz → (flat us)[i]? = some c → w.cell? ⟨b, of + i, none⟩ = some c := by
  have hx := (RIs_iff _ _ _ _).1 h
  have : ∃ us : List Value, us.length = xs.length ∧ ∀ (i : Nat) (x : AV) (u : Value), xs[i]? = some x → us[i]? = some u → RI w I x u ∧ x.width = sz ∧ cellsAt w b (of + i * sz) u.cells := by
    clear h
    induction xs generalizing of with
    | nil => exact ⟨[], rfl, fun i x u h => by simp at h⟩
    | cons x xs ih =>
      obtain ⟨u, h1, h2, h3⟩ := hx 0 x rfl
      obtain ⟨us, k1, k2⟩ := ih (of := of + sz) (fun i y hy => by
        have := hx (i + 1) y (by simpa using hy)
        rwa [show of + (i + 1) * sz = of + sz + i * sz by rw [Nat.add_mul]; omega] at this)
      refine ⟨u :: us, by simp [k1], fun i y v hy hv => ?_⟩
      cases i with
      | zero => simp at hy hv; subst hy; subst hv; exact ⟨h1, h2, h3⟩
      | succ i =>
        have := k2 i y v (by simpa using hy) (by simpa using hv)
        rwa [show of + (i + 1) * sz = of + sz + i * sz by rw [Nat.add_mul]; omega]
  obtain ⟨us, h1, h2⟩ := this
  have hE : Els w I sz xs us := ⟨h1, fun i x u hx hu => ⟨(h2 i x u hx hu).1, (h2 i x u hx hu).2.1⟩⟩
  refine ⟨us, hE, fun i c hsz hc => ?_⟩
  obtain ⟨u, hu, hp⟩ := flat_get' hE.sizes hsz hc
  have hlt := (List.getElem?_eq_some_iff.1 hu).1
  have := (h2 _ _ u (List.getElem?_eq_getElem (by rw [← h1]; exact hlt)) hu).2.2 _ _ hp
  rwa [Nat.add_assoc, show i / sz * sz + i % sz = i by rw [Nat.mul_comm]; exact Nat.div_add_mod i sz] at this
theorem Els.part {sz : Nat} {xs : List AV} {us : List Value} (h : Els w I sz xs us) (p : Option (Nat × Nat)) : Els w I sz (partOf xs p) (match p with | none => us | some (o, n) => (us.drop o).take n) := by
  cases p with
  | none => exact h
  | some q =>
    obtain ⟨o, n⟩ := q
    refine ⟨by simp [partOf, h.1], fun i x u hx hu => ?_⟩
    simp only [partOf, List.getElem?_take, List.getElem?_drop] at hx hu
    split at hx
    · rename_i hi; rw [if_pos hi] at hu; exact h.2 _ x u hx hu
    · cases hx

/-- What append gives. -/
def appRes (P : Program) (w : World) (el : TypeId) (sz : Nat) (z : Value) (base : Option Addr) (sLen sCap n : Nat) (olds news : List Value) : Result Value :=
  if sLen + n ≤ sCap then (match base with
    | none => .ok (.slice none (sLen + n) sCap) w
    | some ad => ((storeCells (ad.add (sLen * sz)) news).run P w).andThen fun _ w' => .ok (.slice (some ad) (sLen + n) sCap) w')
  else .ok (.slice (some ⟨w.heap.size, 0, none⟩) (sLen + n) (grownCap w (sLen + n) sCap el)) (w.drew.alloc (.cells (olds.toArray ++ news.toArray ++ Builtin.zeroCells z.cells (grownCap w (sLen + n) sCap el - (sLen + n))) el))

theorem run_append_gen {t u el ty : TypeId} {du : TypeDesc} {ei : TI} (ht : P.underlying t = some (.slice el)) (hu : P.underlying u = some du) (hdu : ∀ k, du ≠ .int k) (he : TyOk P el ei) {z : Value} (hz : ∀ w, (zeroValue el).run P w = .ok z w)
    {base : Option Addr} {sLen sCap n : Nat} {xv : Value} {olds news : List Value} (hlen : ∀ w, (Builtin.lenOf xv).run P w = .ok n w)
    (hf : (Builtin.firstCells ei.size n xv).run P w = .ok news.toArray w) (hfd : (Builtin.firstCells ei.size n xv).run P w.drew = .ok news.toArray w.drew)
    (hold : (Builtin.firstCells ei.size sLen (.slice base sLen sCap)).run P w.drew = .ok olds.toArray w.drew) (hb0 : 0 < ei.bytes) (hb : (sLen + n) * ei.bytes ≤ 140737488355328) :
    (Builtin.append_ #[t, u] ty #[.slice base sLen sCap, xv]).run P w =
      appRes P w el ei.size z base sLen sCap n olds news := by
  unfold appRes
  obtain ⟨j, hj1, hj2, hj3⟩ := he.bytes (w := w)
  obtain ⟨i, hi, hi1, hi2, _⟩ := he.info
  have hnb : sLen + n ≤ (sLen + n) * ei.bytes := Nat.le_mul_of_pos_right _ hb0
  by_cases hroom : sLen + n ≤ sCap
  · rw [if_pos hroom]
    cases base with
    | none =>
      simp [Builtin.append_, run_underlying ht, run_underlying hu, he.size, hlen, hroom, hf]
    | some ad =>
      simp [Builtin.append_, run_underlying ht, run_underlying hu, he.size, hlen, hroom, hf]
  · rw [if_neg hroom]
    have h63' : ¬ (9223372036854775807 < ((sLen : Int) + (n : Int))) := by omega
    have hfit := growslice_fits (need := sLen + n) (old := sCap) (bytes := i.bytes) (by omega) (by rw [hi2]; exact hb)
    have h48' : ¬ (281474976710656 < Builtin.nextslicecap (sLen + n) sCap * i.bytes) := by omega
    have hbz : i.bytes ≠ 0 := by omega
    simp [Builtin.append_, run_underlying ht, run_underlying hu, he.size, hlen, hroom, typeInfo, hi, h63', h48', hbz, Question.forced, hold, hfd, hz, newRow, grownCap]
    congr 2
    apply Array.ext'
    simp [List.append_assoc]

theorem part_row {xs : List AV} {b o sz : Nat} (h : RIs w I xs b o sz) (p : Option (Nat × Nat)) : RIs w I (partOf xs p) b (o + offOf p * sz) sz := by
  refine (RIs_iff _ _ _ _).2 fun i x hi => ?_
  obtain ⟨v', k1, k2, k3⟩ := (RIs_iff _ _ _ _).1 h _ x (partOf_get hi)
  refine ⟨v', k1, k2, ?_⟩
  rwa [Nat.add_mul, ← Nat.add_assoc] at k3

theorem rootK_eq {q v : Nat} {R : Root} (h1 : σ.L q = some R) (h2 : R.ver = v) (h3 : R.st ≠ .gone) {β : Type} (K : Root → Option β) : rootK σ q v K = K R := by
  have hb : (R.st == .gone) = false := by simpa using h3
  simp [rootK, h1, h2, hb]
theorem data1K_nat {x : AV} (K : AV → List Nat → Option β) (h : data1K σ x K = some r) : ∃ y rs, K y rs = some r ∧ ∀ {β' : Type} (K' : AV → List Nat → Option β'), data1K σ x K' = K' y rs := by
  unfold data1K at h
  split at h
  · obtain ⟨R, h1, h2, h3, h⟩ := rootK_some h
    cases hb : R.bx with
    | true => rw [hb] at h; cases h
    | false =>
      rw [hb, cond_false] at h
      exact ⟨_, _, h, fun K' => by simp only [data1K]; rw [rootK_eq h1 h2 h3, hb, cond_false]⟩
  all_goals first
    | exact ⟨_, _, h, fun _ => rfl⟩
    | cases h
theorem dataCK_nat : ∀ {cs : List AV} (K : List AV → List Nat → Option β), dataCK σ cs K = some r → ∃ ys rs, K ys rs = some r ∧ ∀ {β' : Type} (K' : List AV → List Nat → Option β'), dataCK σ cs K' = K' ys rs
  | [], K, h => ⟨[], [], h, fun _ => rfl⟩
  | c :: cs, K, h => by
    simp only [dataCK] at h
    obtain ⟨y, rs, h2, h1⟩ := data1K_nat _ h
    obtain ⟨ys, rs', k2, k3⟩ := dataCK_nat _ h2
    exact ⟨_, _, k2, fun K' => by simp only [dataCK]; rw [h1, k3]⟩
theorem dataK_nat' {x : AV} (K : AV → List Nat → Option β) (h : dataK σ x K = some r) : ∃ y rs, K y rs = some r ∧ ∀ {β' : Type} (K' : AV → List Nat → Option β'), dataK σ x K' = K' y rs := by
  unfold dataK at h
  split at h
  · obtain ⟨ys, rs, h1, h2⟩ := dataCK_nat _ h
    exact ⟨_, _, h1, fun K' => by simp only [dataK]; exact h2 _⟩
  · rename_i hne
    obtain ⟨y, rs, h1, h2⟩ := data1K_nat _ h
    refine ⟨y, rs, h1, fun K' => ?_⟩
    cases x <;> first | exact h2 K' | exact absurd rfl (hne _)
theorem dataK_nat {x : AV} (K : AV → List Nat → Option β) (h : dataK σ x K = some r) : ∃ y rs, dataK σ x (fun y rs => some (y, rs)) = some (y, rs) ∧ K y rs = some r := by
  obtain ⟨y, rs, h1, h2⟩ := dataK_nat' _ h
  exact ⟨y, rs, h2 _, h1⟩

/-- A slice's elements, whether they are plain data or a root's; and how the machine reads them. -/
theorem row_read (hs : Sim N S I0 w0 γ I σ a w) {x y : AV} {u : Value} {rs : List Nat} {sz : Nat} {xs : List AV} (hx : RV σ.L γ w I x u) (hd : dataK σ x (fun y rs => some (y, rs)) = some (y, rs)) (hy : y = .sl sz xs ∨ (y = .nils ∧ xs = [])) (hsz : 0 < sz) :
    ∃ us ad cap, Els w I sz xs us ∧ u = .slice ad xs.length cap ∧ xs.length ≤ cap ∧ (xs = [] ∨ ∃ b of, ad = some ⟨b, of, none⟩ ∧ ∀ (i : Nat) (c : Value), (flat us)[i]? = some c → w.cell? ⟨b, of + i, none⟩ = some c) := by
  have empty : ∀ (ad : Option Addr) (cap : Nat), xs = [] → u = .slice ad xs.length cap → ∃ us ad cap, Els w I sz xs us ∧ u = .slice ad xs.length cap ∧ xs.length ≤ cap ∧ (xs = [] ∨ ∃ b of, ad = some ⟨b, of, none⟩ ∧ ∀ (i : Nat) (c : Value), (flat us)[i]? = some c → w.cell? ⟨b, of + i, none⟩ = some c) := by
    rintro ad cap rfl hu
    exact ⟨[], ad, cap, ⟨rfl, fun i x u hx => by simp at hx⟩, hu, by simp, .inl rfl⟩
  cases x with
  | ref q v p part =>
    cases p with
    | cons _ _ => simp [dataK, data1K] at hd
    | nil =>
      simp only [dataK, data1K] at hd
      obtain ⟨R, r1, r2, r3, r4⟩ := rootK_some hd
      cases hbx : R.bx with
      | true => rw [hbx] at r4; cases r4
      | false =>
      rw [hbx, cond_false] at r4
      injection r4 with r4
      injection r4 with r4 r5
      rcases hy with rfl | ⟨rfl, _⟩
      case inr => cases r4
      injection r4 with r4 r6
      subst r4; subst r6
      have hro := hs.root q R r1 r3
      have hr := hx.2 R r1 r2 r3 rfl
      cases hg : γ q with
      | none =>
        rw [hg] at hro hr
        have he : partOf R.xs part = [] := by rw [hro.1]; cases part <;> simp [partOf]
        obtain ⟨ad, hr⟩ := hr
        exact empty ad 0 he (by rw [he]; exact hr)
      | some zz =>
        obtain ⟨b, of, cap⟩ := zz
        rw [hg] at hro hr
        obtain ⟨ad, c, hu, hl, hc, hz⟩ := hr
        obtain ⟨us, hE, hcell⟩ := els_of_row (part_row (hro.2.1.row hbx) part)
        refine ⟨us, ad, c, hE, hu, hl, ?_⟩
        rcases hz with hz | rfl
        · left
          have : (partOf R.xs part).length = 0 := by omega
          exact List.eq_nil_of_length_eq_zero this
        · exact .inr ⟨b, of + offOf part * R.sz, rfl, fun i c => hcell i c hsz⟩
  | sl sz' xs' =>
    simp only [dataK, data1K, Option.some.injEq, Prod.mk.injEq] at hd
    obtain ⟨rfl, rfl⟩ := hd
    rcases hy with hy | ⟨hy, _⟩
    case inr => cases hy
    injection hy with e1 e2
    subst e1; subst e2
    obtain ⟨_, ad, cap, hu, hl, hrow⟩ := hx
    rcases hrow with he | ⟨b, of, rfl, hb, hrow⟩
    · exact empty ad cap he hu
    · obtain ⟨us, hE, hcell⟩ := els_of_row hrow
      exact ⟨us, _, cap, hE, hu, hl, .inr ⟨b, of, rfl, fun i c => hcell i c hsz⟩⟩
  | nils =>
    simp only [dataK, data1K, Option.some.injEq, Prod.mk.injEq] at hd
    obtain ⟨rfl, rfl⟩ := hd
    rcases hy with hy | ⟨_, he⟩
    case inl => cases hy
    have hx : u = .slice none 0 0 := hx.2
    exact empty none 0 he (by rw [he]; exact hx)
  | int _ _ => simp only [dataK, data1K, Option.some.injEq, Prod.mk.injEq] at hd; obtain ⟨rfl, _⟩ := hd; rcases hy with hy | ⟨hy, _⟩ <;> cases hy
  | bool _ => simp only [dataK, data1K, Option.some.injEq, Prod.mk.injEq] at hd; obtain ⟨rfl, _⟩ := hd; rcases hy with hy | ⟨hy, _⟩ <;> cases hy
  | str _ => simp only [dataK, data1K, Option.some.injEq, Prod.mk.injEq] at hd; obtain ⟨rfl, _⟩ := hd; rcases hy with hy | ⟨hy, _⟩ <;> cases hy
  | nilp => simp only [dataK, data1K, Option.some.injEq, Prod.mk.injEq] at hd; obtain ⟨rfl, _⟩ := hd; rcases hy with hy | ⟨hy, _⟩ <;> cases hy
  | agg cs =>
    simp only [dataK] at hd
    obtain ⟨ys, rs', h1, _⟩ := dataCK_nat _ hd
    injection h1 with h1; injection h1 with e1 e2
    subst e1
    rcases hy with hy | ⟨hy, _⟩ <;> cases hy
  | own _ _ _ => simp [dataK, data1K] at hd
  | fn _ _ _ => simp [dataK, data1K] at hd
  | box _ => simp [dataK, data1K] at hd
  | tup _ => simp [dataK, data1K] at hd
  | loc _ _ _ _ _ => simp [dataK, data1K] at hd
  | elm _ _ => simp [dataK, data1K] at hd
  | dead => simp [dataK, data1K] at hd

theorem strAVs_els (s : ByteArray) : Els w I 1 (strAVs s) (s.data.toList.map fun b : UInt8 => Value.int .u8 b.toNat) := by
  refine ⟨by simp [strAVs], fun i x u hx hu => ?_⟩
  simp only [strAVs, List.getElem?_map] at hx hu
  cases hb : s.data.toList[i]? with
  | none => rw [hb] at hx; cases hx
  | some b =>
    rw [hb] at hx hu
    simp only [Option.map_some, Option.some.injEq] at hx hu
    subst hx; subst hu
    exact ⟨rfl, rfl⟩
theorem flat_ints (l : List UInt8) : flat (l.map fun b : UInt8 => Value.int .u8 b.toNat) = l.map fun b : UInt8 => Value.int .u8 b.toNat := by
  induction l with
  | nil => rfl
  | cons b l ih => simp only [flat, List.map_cons, List.flatMap_cons] at ih ⊢; rw [ih]; rfl
theorem extract_all (s : ByteArray) : (s.extract 0 s.size).data = s.data := by
  rw [ByteArray.data_extract, show s.size = s.data.size from rfl, Array.extract_size]

/-- What srcK finds: the elements, as the machine's append reads them. -/
theorem srcK_some (hs : Sim N S I0 w0 γ I σ a w) {sz : Nat} {x : AV} {u : Value} (hx : RV σ.L γ w I x u) (hsz : 0 < sz) {K : List AV → List Nat → Option β} (h : srcK σ sz x K = some r) :
    ∃ ys rs us, K ys rs = some r ∧ Els w I sz ys us ∧ (∀ w, (Builtin.lenOf u).run P w = .ok ys.length w) ∧
      ∀ w', (∀ b j c, w.cell? ⟨b, j, none⟩ = some c → w'.cell? ⟨b, j, none⟩ = some c) → (Builtin.firstCells sz ys.length u).run P w' = .ok (flat us).toArray w' := by
  unfold srcK at h
  split at h
  · rename_i s
    have hx := RV_str hx
    subst hx
    obtain ⟨h1, h2⟩ := cond_some h
    have h1 := Nat.eq_of_beq_eq_true h1
    subst h1
    have hl : (strAVs s).length = s.size := by simp only [strAVs, List.length_map, Array.length_toList]; rfl
    refine ⟨strAVs s, [], _, h2, strAVs_els s, fun w => by rw [hl]; rfl, fun w' _ => ?_⟩
    rw [hl, flat_ints]
    simp only [Builtin.firstCells, Sem.run_pure, extract_all]
    congr 1
    apply Array.ext'
    simp
  · obtain ⟨y, rs, hd, h⟩ := dataK_nat _ h
    obtain ⟨ys, hy, h2⟩ := fitS_some h
    obtain ⟨us, ad, cap, hE, rfl, hl, hc⟩ := row_read hs hx hd hy hsz
    refine ⟨ys, rs, us, h2, hE, fun w => rfl, fun w' hw' => ?_⟩
    rcases hc with rfl | ⟨b, of, rfl, hcell⟩
    · have : us = [] := List.eq_nil_of_length_eq_zero hE.1
      subst this
      cases ad <;> simp [Builtin.firstCells, flat, loadCells, loadCellsFrom]
    · refine run_firstCells_some (P := P) w' sz ys.length ⟨b, of, none⟩ ys.length cap (flat us) (by rw [flat_length hE.sizes, hE.1]) (fun j v hj => ?_)
      rw [addr_add]
      exact hw' _ _ _ (hcell j v hj)
end Go.Ai
