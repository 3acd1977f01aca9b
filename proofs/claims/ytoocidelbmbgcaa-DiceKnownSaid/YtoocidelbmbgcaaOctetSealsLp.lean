/- Part of the proofs: the verified interpreter for the program's functions, or lemmas on what they compute; no condition. -/
import Derived.Test.YtoocidelbmbgcaaOctetSealsBiTab
namespace Go.Ai
/-! ### Small laws for equations of normal forms -/
theorem loopN_succ {α β : Type} (step : (α → Option β) → α → Option β) (n : Nat) (a : α) : loopN step (n + 1) a = step (loopN step n) a := rfl
theorem preK_t {β : Type} {b : Bool} (h : b = true) (K : Option β) : preK b K = K := by rw [h]; rfl
theorem br_t {β : Type} {b : Bool} (h : b = true) (x y : Option β) : br b x y = x := by rw [h]; rfl
theorem br_f {β : Type} {b : Bool} (h : b = false) (x y : Option β) : br b x y = y := by rw [h]; rfl
theorem okK_y {β : Type} {p : Prop} [Decidable p] (h : p) (K : Option β) : okK p K = K := by rw [okK, decide_eq_true h]
theorem idxK_i {β : Type} {n : Int} {m : Nat} (i : Nat) (e : n = i) (h : i < m) (K : Nat → Option β) : idxK n m K = K i := by
  subst e
  have : decide (0 ≤ (i : Int) ∧ (i : Int) < (m : Int)) = true := decide_eq_true ⟨by omega, by omega⟩
  rw [idxK, this]; rfl
theorem nthK_i {β : Type} {l : List AV} {i : Nat} {x : AV} (h : l[i]? = some x) (K : AV → Option β) : nthK l i K = K x := by rw [nthK, h]
theorem fitI_i {β : Type} (k : IntKind) (n : Int) (K : Int → Option β) : fitI k (.int k n) K = K n := by simp [fitI]
theorem wrap_i64 {n : Int} (h : -9223372036854775808 ≤ n) (h' : n < 9223372036854775808) : veiled.wrap .i64 n = n := by
  rw [veiled_real]; show IntKind.i64.wrap n = n
  unfold IntKind.wrap; simp [IntKind.bits, IntKind.signed]; omega
theorem wrap_u64 (n : Int) : veiled.wrap .u64 n = n % 18446744073709551616 := by
  rw [veiled_real]; show IntKind.u64.wrap n = _
  simp [IntKind.wrap, IntKind.bits, IntKind.signed]
theorem wrap_i64_succ {n : Nat} (h : n < 9223372036854775807) : veiled.wrap .i64 ((n : Int) + 1) = ((n + 1 : Nat) : Int) := by
  rw [wrap_i64 (by omega) (by omega)]; rfl
end Go.Ai
namespace Go.Ai
theorem args_nil {w : World} {I : Nat → Prop} : ArgsOk w I [] [] [] := ⟨rfl, rfl⟩
theorem args_leaf {w : World} {I : Nat → Prop} {c : AV} {cs : List AV} {u : Value} {us : List Value} {hss : List (List Hd)} (h : RO w I c u []) (k : ArgsOk w I cs us hss) : ArgsOk w I (c :: cs) (u :: us) ([] :: hss) :=
  ⟨u, us, [], hss, rfl, rfl, h, k⟩
theorem ro_int {w : World} {I : Nat → Prop} (k : IntKind) (n : Int) : RO w I (.int k n) (.int k n) [] := ⟨rfl, rfl, rfl⟩
theorem ro_bool {w : World} {I : Nat → Prop} (b : Bool) : RO w I (.bool b) (.bool b) [] := ⟨rfl, rfl, rfl⟩
theorem ro_str {w : World} {I : Nat → Prop} (s : ByteArray) : RO w I (.str s) (.string s) [] := ⟨rfl, rfl, rfl⟩
theorem i64_of_wf {n : Int} (h : (Lit.int .i64 n).wf = true) : -9223372036854775808 ≤ n ∧ n ≤ 9223372036854775807 := by
  simp only [Lit.wf, Bool.and_eq_true, decide_eq_true_eq] at h
  exact h
theorem u8_of_wf {n : Int} (h : (Lit.int .u8 n).wf = true) : 0 ≤ n ∧ n ≤ 255 := by
  simp only [Lit.wf, Bool.and_eq_true, decide_eq_true_eq] at h
  exact h
theorem u64_of_wf {n : Int} (h : (Lit.int .u64 n).wf = true) : 0 ≤ n ∧ n ≤ 18446744073709551615 := by
  simp only [Lit.wf, Bool.and_eq_true, decide_eq_true_eq] at h
  exact h
end Go.Ai
