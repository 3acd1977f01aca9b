/- Part of the proofs: the verified interpreter for the program's functions, or lemmas on what they compute; no condition. -/
import Derived.Test.YtoocidelbmbgcaaOctetSealsBiFun2
import Derived.ChangeSame
import Derived.RowKit3
import Derived.KernelRfl
namespace Go.Ai

/-! ### Tables of types, checked by running -/
def avB1 : AV → Value → Bool
  | .int k n, .int k' n' => decide (k = k') && decide (n = n')
  | .bool b, .bool b' => b == b'
  | .str s, .string s' => decide (s = s')
  | .nilp, .pointer none => true
  | .nils, .slice none 0 0 => true
  | _, _ => false
def avBl : List AV → List Value → Bool
  | [], [] => true
  | c :: cs, u :: us => avB1 c u && avBl cs us
  | _, _ => false
def avB : AV → Value → Bool
  | .agg cs, .agg us => cs.all AV.leaf && avBl cs us.toList
  | x, v => avB1 x v
theorem avB1_ok {x : AV} {v : Value} (h : avB1 x v = true) : zeroIs x v := by
  intro w I
  unfold avB1 at h
  split at h
  · simp only [Bool.and_eq_true, decide_eq_true_eq] at h
    rw [h.1, h.2]; rfl
  · simp only [beq_iff_eq] at h
    rw [h]; rfl
  · simp only [decide_eq_true_eq] at h
    rw [h]; rfl
  · rfl
  · rfl
  · cases h
theorem avBl_ok {w : World} {I : Nat → Prop} : ∀ {cs : List AV} {us : List Value}, avBl cs us = true → RIl w I cs us
  | [], [], _ => rfl
  | c :: cs, u :: us, h => by
    simp only [avBl, Bool.and_eq_true] at h
    exact ⟨u, us, rfl, avB1_ok h.1 w I, avBl_ok h.2⟩
  | [], _ :: _, h => by cases h
  | _ :: _, [], h => by cases h
theorem avB_ok {x : AV} {v : Value} (h : avB x v = true) : zeroIs x v := by
  unfold avB at h
  split at h
  · simp only [Bool.and_eq_true] at h
    exact fun w I => ⟨_, by simp, h.1, avBl_ok h.2⟩
  · exact avB1_ok h

def tkB (P : Program) (t : TypeId) : TK → Bool
  | .int k => match P.underlying t with | some (.int k') => decide (k' = k) | _ => false
  | .bool => match P.underlying t with | some .bool => true | _ => false
  | .str => match P.underlying t with | some .string => true | _ => false
  | .slice e => match P.underlying t with | some (.slice e') => Nat.beq e' e | _ => false
  | .ptr e => match P.underlying t with | some (.pointer e') => Nat.beq e' e | _ => false
  | .struct fs => match P.underlying t with | some (.struct fields) => decide (fields.toList.map (fun f => (f.offset, f.type)) = fs) && fs.all (fun q => (P.info? q.2).isSome) | _ => false
  | .array n e => match P.underlying t with | some (.array n' e') => Nat.beq n' n && Nat.beq e' e | _ => false
  | .tuple => match P.underlying t with | some (.tuple _) => true | _ => false
def tyB (P : Program) (t : TypeId) (i : TI) : Bool :=
  tkB P t i.tk && Nat.beq i.zero.width i.size && match P.info? t with
    | some j => Nat.beq j.size i.size && Nat.beq j.bytes i.bytes && (match j.zero with | some z => avB i.zero z | none => false)
    | none => false
theorem tkB_ok {P : Program} {t : TypeId} {k : TK} (h : tkB P t k = true) : tkIs P t k ∧ ∀ fs, k = .struct fs → ∀ q ∈ fs, ∃ j, P.info? q.2 = some j := by
  unfold tkB at h
  cases k <;> simp only [] at h <;> split at h <;> first | (cases h; done) | skip
  · rename_i hu; simp only [decide_eq_true_eq] at h; subst h; exact ⟨hu, fun _ h => by cases h⟩
  · rename_i hu; exact ⟨hu, fun _ h => by cases h⟩
  · rename_i hu; exact ⟨hu, fun _ h => by cases h⟩
  · rename_i hu; have h := Nat.eq_of_beq_eq_true h; subst h; exact ⟨hu, fun _ h => by cases h⟩
  · rename_i hu; have h := Nat.eq_of_beq_eq_true h; subst h; exact ⟨hu, fun _ h => by cases h⟩
  · rename_i fs _ fields hu
    simp only [Bool.and_eq_true, decide_eq_true_eq] at h
    refine ⟨⟨fields, hu, h.1⟩, fun fs' e q hq => ?_⟩
    injection e with e; subst e
    exact Option.isSome_iff_exists.1 (List.all_eq_true.1 h.2 q hq)
  · rename_i hu; simp only [Bool.and_eq_true] at h; have h1 := Nat.eq_of_beq_eq_true h.1; have h2 := Nat.eq_of_beq_eq_true h.2; subst h1; subst h2; exact ⟨hu, fun _ h => by cases h⟩
  · rename_i hu; exact ⟨⟨_, hu⟩, fun _ h => by cases h⟩
theorem tyB_ok {P : Program} {t : TypeId} {i : TI} (h : tyB P t i = true) : TyOk P t i := by
  unfold tyB at h
  simp only [Bool.and_eq_true] at h
  obtain ⟨⟨h1, h2⟩, h3⟩ := h
  obtain ⟨k1, k2⟩ := tkB_ok h1
  split at h3
  · rename_i j hj
    simp only [Bool.and_eq_true] at h3
    obtain ⟨⟨h4, h5⟩, h6⟩ := h3
    split at h6
    · rename_i z hz
      exact ⟨k1, ⟨j, hj, Nat.eq_of_beq_eq_true h4, Nat.eq_of_beq_eq_true h5, z, hz, avB_ok h6⟩, Nat.eq_of_beq_eq_true h2, k2⟩
    · cases h6
  · cases h3
def tyTab : List (TypeId × TI) → TypeId → Option TI
  | [], _ => none
  | (u, i) :: l, t => bif Nat.beq u t then some i else tyTab l t
theorem tyTab_ok {P : Program} : ∀ {l : List (TypeId × TI)}, (l.all fun q => tyB P q.1 q.2) = true → ∀ t i, tyTab l t = some i → TyOk P t i
  | [], _, t, i, h => by cases h
  | (u, i) :: l, ha, t, i', h => by
    simp only [List.all_cons, Bool.and_eq_true] at ha
    simp only [tyTab] at h
    cases hb : Nat.beq u t with
    | true =>
      rw [cond_t hb] at h
      injection h with h; subst h
      have hb := Nat.eq_of_beq_eq_true hb
      subst hb
      exact tyB_ok ha.1
    | false =>
      rw [cond_f hb] at h
      exact tyTab_ok ha.2 t i' h
/-- Callees, by their numbers. -/
def fnTab : List (FuncId × Con) → FuncId → Option Con
  | [], _ => none
  | (g, c) :: l, f => bif Nat.beq g f then some c else fnTab l f
theorem fnTab_ok {P : Program} : ∀ {l : List (FuncId × Con)}, (∀ q ∈ l, Sound P q.1 q.2.pars q.2.G) → ∀ f c, fnTab l f = some c → Sound P f c.pars c.G
  | [], _, f, c, h => by cases h
  | (g, c) :: l, ha, f, c', h => by
    simp only [fnTab] at h
    cases hb : Nat.beq g f with
    | true =>
      rw [cond_t hb] at h
      injection h with h; subst h
      have hb := Nat.eq_of_beq_eq_true hb
      subst hb
      exact ha (g, c) (by simp)
    | false =>
      rw [cond_f hb] at h
      exact fnTab_ok (fun q hq => ha q (by simp [hq])) f c' h

/-- F's facts, checked by running. -/
def codeOf (fn : Func) : Code := match fn.body with | some c => c | none => .skip
def Fun.of (f : FuncId) (fn : Func) (pars : List Sh) (res : Sh) (an : An) : Fun := ⟨f, fn.results.toList, codeOf fn, pars, res, an⟩
def funB (fn : Func) (pars : List Sh) : Bool :=
  !(fn.name == "runtime.NumGoroutine") && fn.body.isSome && Nat.ble pars.length fn.ntmps && codeB fn.ntmps ((ownSlots pars 0).map (·.1)) (codeOf fn)
theorem funB_ok {P : Program} {f : FuncId} {fn : Func} {pars : List Sh} {res : Sh} {an : An} (hf : P.funcs[f]? = some fn) (h : funB fn pars = true) : FunOk P (Fun.of f fn pars res an) := by
  unfold funB at h
  simp only [Bool.and_eq_true, Bool.not_eq_true'] at h
  obtain ⟨⟨⟨h1, h2⟩, h3⟩, h4⟩ := h
  obtain ⟨c, hc⟩ := Option.isSome_iff_exists.1 h2
  have hcode : codeOf fn = c := by simp [codeOf, hc]
  exact ⟨⟨fn, hf, h1, by rw [hc]; simp [Fun.of, hcode], rfl, Nat.le_of_ble_eq_true h3, h4⟩⟩

/-! ### The way out: what a statement asks -/
def Grew (w w' : World) : Prop := Fr (fun _ => False) w w'
theorem Grew.frame {W w' : World} (h : Grew W w') (may : MemPlace → Prop) : W.keptBut w' may := by
  refine ⟨h.os, h.output, fun i hi => ?_⟩
  have e := h.block i hi (fun f => f)
  have hb := Array.getElem?_eq_getElem hi
  rw [e, hb]
  cases W.heap[i] with
  | cells c t fr => exact ⟨rfl, rfl, rfl, fun _ _ => rfl⟩
  | map es clock => exact .inr ⟨rfl, rfl⟩
  | _ => rfl
theorem Grew.frozen {W w' : World} (h : Grew W w') (a : Addr) (ha : a.block < W.heap.size) : w'.frozen? a = W.frozen? a := by
  simp only [World.frozen?, h.block _ ha (fun f => f)]

open Go.ChangeShapes Go.WideShapes in
theorem post_grew {H : Type} {enc : TypeId × Value → H} {P : Program} {f : Func} {s : ChangeSpec} {apart fresh handsOn again : Bool} {W W' : World} {args : Array Value} {v : Value} {ds gs : List (DataW H)} {before pa pv : List MemPlace}
    (hW : DataW.Whole enc P f.params.toList s.vars apart W args.toList ds gs before)
    (hres : ∀ (b : Nat) (sp : Nat → Bool) (hd : Bool), DataW.TrodAll enc P W' b sp hd f.resultTypes.toList (v.resultList f.resultTypes.size) (s.fn H (ds ++ gs)).results [])
    (hargs : ∀ sp : Nat → Bool, (∀ p ∈ before, sp p.block = true) → DataW.TrodAll enc P W' 0 sp true f.params.toList args.toList (s.fn H (ds ++ gs)).args pa)
    (hvars : ∀ sp : Nat → Bool, (∀ p ∈ before, sp p.block = true) → DataW.TrodVars enc P W' sp s.vars (s.fn H (ds ++ gs)).vars pv)
    (hps : before = pa ++ pv) (hg : Grew W W')
    (hok : ∀ (j : Nat) (t : TypeId) (r : Value), f.resultTypes[j]? = some t → (v.resultList f.resultTypes.size)[j]? = some r → Value.okWide P W' .any 0 t r) :
    s.post enc P f apart fresh handsOn again W args v W' := by
  have hlt : ∀ p ∈ before, p.block < W.heap.size := fun p hp => hW.lt p hp
  have hold : ∀ p ∈ before, (fun b => decide (b < W.heap.size)) p.block = true := fun p hp => by simpa using hW.lt p hp
  refine ⟨ds, gs, before, [], pa, pv, hW, hres _ _ _, hargs _ hold, hvars _ hold, World.keptBut_mono (fun p hp => ⟨hp, ?_⟩) (hg.frame (· ∈ before)), fun _ => ?_⟩
  · rw [hps, List.mem_append] at hp
    exact Or.inr hp
  · obtain ⟨_, _, _, _, _, hz, hn⟩ := hW
    refine ⟨hok, _, _, ([] ++ pa) ++ pv, ⟨[] ++ pa, pv, trodAll_append (hargs _ (fun _ _ => rfl)) (hres _ _ _), hvars _ (fun _ _ => rfl), rfl, ?_, ?_⟩, ?_⟩
    · intro b off hp
      have hp' : MemPlace.cell b off ∈ before := by rw [hps]; simpa using hp
      rw [hg.frozen _ (hlt _ hp')]
      exact hz b off hp'
    · intro ha
      have := hn ha
      rw [hps] at this
      simpa using this
    · intro p hp _
      rw [hps]
      simpa using hp

theorem calls_true {P : Program} {f : FuncId} {pars : List Sh} {F : List AV → Option (AV × List AV)} (hS : Sound P f pars F) {args : List AV} (hF : F args = some (.bool true, [])) {w : World} {vs : List Value} {hss : List (List Hd)} {I : Nat → Prop}
    (ha : ArgsOk w I args vs hss) (hn0 : hss.flatten = []) (hI : ∀ k, I k → k < w.heap.size) {fn : Func} (hf : P.funcs[f]? = some fn) (hn : (fn.name == "runtime.NumGoroutine") = false) (hb : fn.body.isSome = true) : Calls P f vs.toArray w fun e w' => e = .returned (.bool true) ∧ Grew w w' := by
  have hn' : fn.name ≠ "runtime.NumGoroutine" := by simpa using hn
  obtain ⟨c, hc⟩ := Option.isSome_iff_exists.1 hb
  have hen : (callFunc f vs.toArray).run P w = .ok (.enter f vs.toArray) w := by simp [callFunc, hf, hn', hc]
  have hbl : hblocks hss = [] := by simp [hblocks, hn0]
  rcases hS args _ _ hF w vs hss I ha hI (by rw [hbl]; exact List.nodup_nil) (fun b hb => by rw [hbl] at hb; cases hb) with ⟨v, w', h1, _⟩ | ⟨_, h⟩
  · rw [hen] at h1; cases h1
  · refine Calls.mono h (fun e w' he => ?_)
    cases e with
    | returned v =>
      obtain ⟨I', b1, b2, hr, _, hfr, _⟩ := he
      have hr : v = .bool true := hr.2.2
      subst hr
      exact ⟨rfl, hfr.weaken (fun k hk => by rw [hbl] at hk; cases hk)⟩
    | panicked _ => exact he.elim
    | outgrown => exact he.elim
/-- A plainer telling of the same. -/
theorem Sound.spec {P : Program} {f : FuncId} {F : List AV → Option (AV × List AV)} {c : Con} (h : Sound P f c.pars F) (hc : ∀ args res outs, c.G args = some (res, outs) → F args = some (res, outs)) : Sound P f c.pars c.G :=
  fun args res outs ha => h args res outs (hc args res outs ha)
end Go.Ai
