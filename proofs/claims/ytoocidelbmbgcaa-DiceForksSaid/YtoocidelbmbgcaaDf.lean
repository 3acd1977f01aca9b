/- Part of the proofs: the verified interpreter for the program's functions, or lemmas on what they compute; no condition. -/
import Derived.Test.YtoocidelbmbgcaaRows
import Derived.Test.YtoocidelbmbgcaaAiTab
namespace Go.Proofs.Ytoocidelbmbgcaa.Ai
open Go.Ai

def tab : List (TypeId × TI) := [
  (3, ⟨.int .i64, 1, 8, .int .i64 (0), .int .i64⟩),
  (4, ⟨.bool, 1, 1, .bool false, .bool⟩),
  (5, ⟨.int .u8, 1, 1, .int .u8 (0), .int .u8⟩),
  (9, ⟨.str, 1, 16, .str ⟨#[]⟩, .str⟩),
  (22, ⟨.int .u64, 1, 8, .int .u64 (0), .int .u64⟩),
  (23, ⟨.ptr 98, 1, 8, .nilp, .agg []⟩),
  (29, ⟨.slice 5, 1, 24, .nils, .sl 1⟩),
  (98, ⟨.struct [(0, 22)], 1, 8, .agg [.int .u64 (0)], .agg [.int .u64]⟩)
]
theorem tab_ok : (tab.all fun q => tyB Try.prog q.1 q.2) = true := by kernel_rfl
theorem mixed : Try.prog.follows .mixedOrders = true := by kernel_rfl
theorem ctx_ok {A : Ar} (hA : A = real) {l : List (FuncId × Con)} (h : ∀ q ∈ l, Sound Try.prog q.1 q.2.G) : CtxOk ⟨A, Try.prog, tyTab tab, fnTab l⟩ := ⟨tyTab_ok tab_ok, fnTab_ok h, hA, mixed⟩
/-- Fuel enough for any loop. -/
def big : Nat := 1180591620717411303424
noncomputable def cx (l : List (FuncId × Con)) : Ctx := ⟨veiled, Try.prog, tyTab tab, fnTab l⟩
noncomputable def cxr (l : List (FuncId × Con)) : Ctx := ⟨real, Try.prog, tyTab tab, fnTab l⟩
theorem cx_sound {l : List (FuncId × Con)} (h : ∀ q ∈ l, Sound Try.prog q.1 q.2.G) {F : Fun} (hF : FunOk Try.prog F) (n : Nat) : Sound Try.prog F.f (funK (cx l) n F) := fun_sound (ctx_ok veiled_real h) hF n
theorem cxr_sound {l : List (FuncId × Con)} (h : ∀ q ∈ l, Sound Try.prog q.1 q.2.G) {F : Fun} (hF : FunOk Try.prog F) (n : Nat) : Sound Try.prog F.f (funK (cxr l) n F) := fun_sound (ctx_ok rfl h) hF n
theorem sl_nil : ∀ q ∈ ([] : List (FuncId × Con)), Sound Try.prog q.1 q.2.G := fun q hq => by cases hq
theorem sl_cons {f : FuncId} {c : Con} {l : List (FuncId × Con)} (h : Sound Try.prog f c.G) (k : ∀ q ∈ l, Sound Try.prog q.1 q.2.G) : ∀ q ∈ (f, c) :: l, Sound Try.prog q.1 q.2.G := fun q hq => by
  rcases List.mem_cons.1 hq with rfl | hq
  · exact h
  · exact k q hq

noncomputable def F12 : Fun := .of 12 Try.f12 [.data (.int .u64)] (.seq .leaf (.seq .leaf .leaf))
noncomputable def F15 : Fun := .of 15 Try.f15 [.box 98 1 (.agg [.int .u64])] (.seq .leaf (.seq .leaf (.seq .leaf (.seq .leaf (.seq .leaf (.seq .leaf .leaf))))))
noncomputable def F16 : Fun := .of 16 Try.f16 [.box 98 1 (.agg [.int .u64])] (.seq .leaf (.seq .leaf .leaf))
def A17 : An := (.seq .leaf (.seq .leaf (.seq (.seq .leaf (.block (.loop ⟨[(3, .data (.int .u64)), (6, .data (.sl 1)), (7, .data (.int .i64)), (8, .data (.int .i64))]⟩ [(2, ⟨[(3, .data (.int .u64))]⟩)] (.seq .leaf (.seq (.cond .leaf .leaf) (.seq (.block (.seq .leaf .leaf)) .leaf)))))) (.seq .leaf .leaf))))
noncomputable def F17 : Fun := .of 17 Try.f17 [.data (.sl 1)] A17
noncomputable def F14 : Fun := .of 14 Try.f14 [.box 98 1 (.agg [.int .u64]), .data (.str)] (.seq .leaf (.seq .leaf .leaf))
noncomputable def F13 : Fun := .of 13 Try.f13 [] (.seq .leaf (.seq .leaf (.seq .leaf .leaf)))
noncomputable def F3 : Fun := .of 3 Try.f3 [.data (.int .u64), .data (.str), .data (.str)] (.seq .leaf (.seq .leaf (.seq .leaf (.seq .leaf (.seq (.seq .leaf (.cond (.seq .leaf .leaf) .leaf)) (.seq .leaf (.seq .leaf (.seq .leaf (.seq (.seq .leaf (.cond (.seq .leaf .leaf) .leaf)) (.seq .leaf .leaf))))))))))
theorem ok12 : FunOk Try.prog F12 := funB_ok Try.func12 (by kernel_rfl)
theorem ok15 : FunOk Try.prog F15 := funB_ok Try.func15 (by kernel_rfl)
theorem ok16 : FunOk Try.prog F16 := funB_ok Try.func16 (by kernel_rfl)
theorem ok17 : FunOk Try.prog F17 := funB_ok Try.func17 (by kernel_rfl)
theorem ok14 : FunOk Try.prog F14 := funB_ok Try.func14 (by kernel_rfl)
theorem ok13 : FunOk Try.prog F13 := funB_ok Try.func13 (by kernel_rfl)
theorem ok3 : FunOk Try.prog F3 := funB_ok Try.func3 (by kernel_rfl)
/-! ### What they compute -/
noncomputable def wU (n : Int) : Int := veiled.wrap .u64 n
noncomputable def xU (a b : Int) : Int := veiled.xor .u64 a b
noncomputable def turn (s : Int) : Int := wU (s + 11400714819323198485)
noncomputable def mix1 (s : Int) : Int := wU (xU s (veiled.shr .u64 s 30) * 13787848793156543929)
noncomputable def mix2 (s : Int) : Int := wU (xU s (veiled.shr .u64 s 27) * 10723151780598845931)
noncomputable def mix3 (s : Int) : Int := xU s (veiled.shr .u64 s 31)
noncomputable def nx (s : Int) : Int := mix3 (mix2 (mix1 (turn s)))
def isU8 : AV → Bool | .int .u8 _ => true | _ => false
def valI : AV → Int | .int _ n => n | _ => 0
noncomputable def sumStep (h : Int) (x : AV) : Int := wU (xU h (wU (valI x)) * 1099511628211)
noncomputable def sumAV (xs : List AV) : Int := xs.foldl sumStep 14695981039346656037

/-- Bytes, no more than there may be. -/
def okBytes (xs : List AV) : Bool := xs.all isU8 && Nat.ble xs.length 9223372036854775807
noncomputable def k12 : Con := { F := fun | [.int .u64 s] => some (.box [.agg [.int .u64 s]], []) | _ => none, res := .box (.agg [.int .u64]) }
noncomputable def k15 : Con := { F := fun | [.box [.agg [.int .u64 s]]] => some (.int .u64 (nx (s)), [.agg [.int .u64 (turn s)]]) | _ => none, res := .data (.int .u64) }
noncomputable def k16 : Con := { F := fun | [.box [.agg [.int .u64 s]]] => some (.int .u64 s, [.agg [.int .u64 s]]) | _ => none, res := .data (.int .u64) }
noncomputable def k17 : Con := { F := fun | [.sl 1 xs] => some (.int .u64 (sumAV xs), []) | _ => none, res := .data (.int .u64), pre := fun | [.sl 1 xs] => okBytes xs | _ => false }

theorem e12 (s : Int) : funK (cx []) big F12 [.int .u64 s] = some (.box [.agg [.int .u64 s]], []) := by kernel_rfl
theorem e15 (s : Int) : funK (cx []) big F15 [.box [.agg [.int .u64 s]]] = some (.int .u64 (nx s), [.agg [.int .u64 (turn s)]]) := by kernel_rfl
theorem e16 (s : Int) : funK (cx []) big F16 [.box [.agg [.int .u64 s]]] = some (.int .u64 s, [.agg [.int .u64 s]]) := by kernel_rfl
noncomputable def body17 (again : List AV → Option (Nat × List AV)) (vs : List AV) : Option (Nat × List AV) :=
  hdK vs fun v vs => fitI IntKind.u64 v fun n => hdK vs fun v vs => fitS 1 v fun xs => hdK vs fun v vs => fitI IntKind.i64 v fun n_1 => hdK vs fun v vs => fitI IntKind.i64 v fun n_2 => nlK vs
    (br (decide (n_2 < n_1)) (idxK n_2 xs.length fun j => nthK xs j fun y => fitI IntKind.u8 y fun n_3 =>
      again [.int .u64 (wU (xU n (wU n_3) * 1099511628211)), .sl 1 xs, .int .i64 n_1, .int .i64 (veiled.wrap .i64 (n_2 + 1))])
    (some (0, [.int .u64 n])))
theorem e17 (xs : List AV) : funK (cx []) big F17 [.sl 1 xs] = sel (loopN body17 big [.int .u64 14695981039346656037, .sl 1 xs, .int .i64 xs.length, .int .i64 0]) [fun ws => hdK ws fun v vs => fitI .u64 v fun n => nlK vs (some (.int .u64 n, []))] := by kernel_rfl
theorem loopN_succ {α β : Type} (S : (α → Option β) → α → Option β) (n : Nat) (a : α) : loopN S (n + 1) a = S (loopN S n) a := rfl
theorem wrap64_id {n : Int} (h1 : -9223372036854775808 ≤ n) (h2 : n ≤ 9223372036854775807) : IntKind.i64.wrap n = n := by
  unfold IntKind.wrap; simp [IntKind.bits, IntKind.signed]; omega
theorem isU8_iff {x : AV} (h : isU8 x = true) : ∃ n, x = .int .u8 n := by
  cases x <;> simp [isU8] at h
  rename_i k n
  cases k <;> simp at h
  exact ⟨n, rfl⟩
theorem loop17 (xs : List AV) (hx : ∀ x ∈ xs, isU8 x = true) (hl : xs.length ≤ 9223372036854775807) : ∀ (k i fuel : Nat) (n : Int), i + k = xs.length → k < fuel →
    loopN body17 fuel [.int .u64 n, .sl 1 xs, .int .i64 xs.length, .int .i64 i] = some (0, [.int .u64 ((xs.drop i).foldl sumStep n)]) := by
  intro k
  induction k with
  | zero =>
    intro i fuel n hi hf
    obtain ⟨f, rfl⟩ : ∃ f, fuel = f + 1 := ⟨fuel - 1, by omega⟩
    rw [loopN_succ, List.drop_of_length_le (by omega)]
    have : decide ((i : Int) < (xs.length : Int)) = false := by simp; omega
    simp only [body17, hdK, fitI, fitS, nlK, br, this, if_true, Nat.beq_refl, cond_true, List.foldl_nil]
  | succ k ih =>
    intro i fuel n hi hf
    obtain ⟨f, rfl⟩ : ∃ f, fuel = f + 1 := ⟨fuel - 1, by omega⟩
    have hlt : i < xs.length := by omega
    obtain ⟨c, hc⟩ := isU8_iff (hx xs[i] (List.getElem_mem hlt))
    have h1 : decide ((i : Int) < (xs.length : Int)) = true := by simp; omega
    have h2 : decide (0 ≤ (i : Int) ∧ (i : Int) < (xs.length : Int)) = true := by simp; omega
    have h3 : xs[i]? = some (.int .u8 c) := by rw [List.getElem?_eq_getElem hlt, hc]
    rw [loopN_succ, List.drop_eq_getElem_cons hlt, hc, List.foldl_cons, ← ih (i + 1) f _ (by omega) (by omega)]
    simp only [body17, hdK, fitI, fitS, nlK, br, h1, if_true, Nat.beq_refl, cond_true, idxK, h2, nthK, Int.toNat_natCast, h3]
    rw [show veiled.wrap .i64 ((i : Int) + 1) = ((i + 1 : Nat) : Int) by rw [veiled_real]; exact wrap64_id (by omega) (by omega)]
    rfl
theorem g12 : ∀ args res outs, k12.G args = some (res, outs) → funK (cx []) big F12 args = some (res, outs) := by
  intro args res outs h
  simp only [Con.G, k12, preK] at h
  split at h
  · rw [e12]; exact h
  · cases h
theorem g15 : ∀ args res outs, k15.G args = some (res, outs) → funK (cx []) big F15 args = some (res, outs) := by
  intro args res outs h
  simp only [Con.G, k15, preK] at h
  split at h
  · rw [e15]; exact h
  · cases h
theorem g16 : ∀ args res outs, k16.G args = some (res, outs) → funK (cx []) big F16 args = some (res, outs) := by
  intro args res outs h
  simp only [Con.G, k16, preK] at h
  split at h
  · rw [e16]; exact h
  · cases h
theorem preK_some {b : Bool} {β : Type} {K : Option β} {r : β} (h : preK b K = some r) : b = true ∧ K = some r := by
  cases b with
  | true => exact ⟨rfl, h⟩
  | false => cases h
theorem g17 : ∀ args res outs, k17.G args = some (res, outs) → funK (cx []) big F17 args = some (res, outs) := by
  intro args res outs h
  obtain ⟨hp, h⟩ := preK_some h
  simp only [k17] at h hp
  split at h
  · simp only [okBytes, Bool.and_eq_true] at hp
    rw [e17, show (0 : Int) = ((0 : Nat) : Int) from rfl, loop17 _ (fun x hx => List.all_eq_true.1 hp.1 x hx) (Nat.le_of_ble_eq_true hp.2) _ 0 big _ (Nat.zero_add _) (Nat.lt_of_le_of_lt (Nat.le_of_ble_eq_true hp.2) (by decide))]
    exact h
  · cases h
noncomputable def l1 : List (FuncId × Con) := [(12, k12), (15, k15), (16, k16), (17, k17)]
theorem l1_ok : ∀ q ∈ l1, Sound Try.prog q.1 q.2.G := sl_cons ((cx_sound sl_nil ok12 big).spec g12) (sl_cons ((cx_sound sl_nil ok15 big).spec g15) (sl_cons ((cx_sound sl_nil ok16 big).spec g16) (sl_cons ((cx_sound sl_nil ok17 big).spec g17) sl_nil)))
noncomputable def k14 : Con := { F := fun | [.box [.agg [.int .u64 s]], .str t] => some (.box [.agg [.int .u64 (xU (nx s) (sumAV (strAVs t)))]], [.agg [.int .u64 (turn s)]]) | _ => none, res := .box (.agg [.int .u64]), pre := fun | [_, .str t] => okBytes (strAVs t) | _ => false }
theorem e14 (s : Int) (t : ByteArray) : funK (cx l1) big F14 [.box [.agg [.int .u64 s]], .str t] = preK (okBytes (strAVs t)) (some (.box [.agg [.int .u64 (xU (nx s) (sumAV (strAVs t)))]], [.agg [.int .u64 (turn s)]])) := by kernel_rfl
theorem g14 : ∀ args res outs, k14.G args = some (res, outs) → funK (cx l1) big F14 args = some (res, outs) := by
  intro args res outs h
  obtain ⟨hp, h⟩ := preK_some h
  simp only [k14] at h hp
  split at h
  · simp only at hp
    rw [e14, hp]; exact h
  · cases h
noncomputable def l0 : List (FuncId × Con) := [(12, { F := funK (cxr []) big F12, res := .box (.agg [.int .u64]) }), (15, { F := funK (cxr []) big F15, res := .data (.int .u64) }), (16, { F := funK (cxr []) big F16, res := .data (.int .u64) })]
theorem l0_ok : ∀ q ∈ l0, Sound Try.prog q.1 q.2.G := sl_cons (cxr_sound sl_nil ok12 big) (sl_cons (cxr_sound sl_nil ok15 big) (sl_cons (cxr_sound sl_nil ok16 big) sl_nil))
theorem e13 : funK (cxr l0) big F13 [] = some (.bool true, []) := by kernel_rfl
noncomputable def k13 : Con := { F := fun | [] => some (.bool true, []) | _ => none, res := .data .bool }
theorem g13 : ∀ args res outs, k13.G args = some (res, outs) → funK (cxr l0) big F13 args = some (res, outs) := by
  intro args res outs h
  simp only [Con.G, k13, preK] at h
  split at h
  · rw [e13]; exact h
  · cases h
noncomputable def l2 : List (FuncId × Con) := (13, k13) :: (14, k14) :: l1
theorem l2_ok : ∀ q ∈ l2, Sound Try.prog q.1 q.2.G := sl_cons ((cxr_sound l0_ok ok13 big).spec g13) (sl_cons ((cx_sound l1_ok ok14 big).spec g14) l1_ok)
end Go.Proofs.Ytoocidelbmbgcaa.Ai
