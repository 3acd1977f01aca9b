/- Part of the proofs: the verified interpreter for the program's functions, or lemmas on what they compute; no condition. -/
import Derived.Test.YtoocidelbmbgcaaOctetSealsLp
import Derived.Laws.Externs
namespace Go.Ai
/-! ### math/bits.Add64 and Sub64 -/
def sub64Entry : Array Value → Sem Value := fun args => do
  let (x, y, b) ← Extern.MathBitsCarry.three "Sub64" args
  pure (Extern.MathBitsCarry.pair ((x + Extern.MathBitsCarry.m64 - y - b) % Extern.MathBitsCarry.m64) (if x < y + b then 1 else 0))
theorem run_sub64 {P : Program} (x y c : Int) (hx : 0 ≤ x) (hx' : x < 18446744073709551616) (hy : 0 ≤ y) (hy' : y < 18446744073709551616) (hc0 : 0 ≤ c) (hc : c ≤ 1) (w : World) :
    (sub64Entry #[.int .u64 x, .int .u64 y, .int .u64 c]).run P w =
      .ok (.tuple #[.int .u64 ((x - y - c) % 18446744073709551616), .int .u64 (if x < y + c then 1 else 0)]) w := by
  have key : ∀ k : Nat, k ≤ 1 → (sub64Entry #[.int .u64 x, .int .u64 y, .int .u64 (k : Int)]).run P w =
      .ok (Extern.MathBitsCarry.pair ((x.toNat + Extern.MathBitsCarry.m64 - y.toNat - k) % Extern.MathBitsCarry.m64) (if x.toNat < y.toNat + k then 1 else 0)) w := by
    intro k hk
    have : k = 0 ∨ k = 1 := by omega
    rcases this with rfl | rfl <;> rfl
  obtain ⟨k, rfl⟩ := Int.eq_ofNat_of_zero_le hc0
  rw [key k (by omega)]
  obtain ⟨X, rfl⟩ := Int.eq_ofNat_of_zero_le hx
  obtain ⟨Y, rfl⟩ := Int.eq_ofNat_of_zero_le hy
  have e1 : ((X + 18446744073709551616 - Y - k) % 18446744073709551616 : Nat) = (((X : Int) - Y - k) % 18446744073709551616) := by omega
  have e2 : ((if X < Y + k then 1 else 0 : Nat) : Int) = if (X : Int) < (Y : Int) + (k : Int) then 1 else 0 := by split <;> split <;> omega
  simp only [Extern.MathBitsCarry.pair, Extern.MathBitsCarry.m64, Int.toNat_natCast]
  rw [← e1, ← e2]
  rfl
def pre3 : List AV → Bool
  | [.int .u64 x, .int .u64 y, .int .u64 c] => decide (0 ≤ x) && (decide (x < 18446744073709551616) && (decide (0 ≤ y) && (decide (y < 18446744073709551616) && (decide (0 ≤ c) && decide (c ≤ 1)))))
  | _ => false
def p3 : List Sh := [.int .u64, .int .u64, .int .u64]
def r2 : Sh := .tup [.int .u64, .int .u64]
def kAdd : Con := { F := fun | [.int .u64 x, .int .u64 y, .int .u64 c] => some (.tup [.int .u64 ((x + y + c) % 18446744073709551616), .int .u64 ((x + y + c) / 18446744073709551616)], []) | _ => none, pars := p3, res := r2, pre := pre3 }
def kSub : Con := { F := fun | [.int .u64 x, .int .u64 y, .int .u64 c] => some (.tup [.int .u64 ((x - y - c) % 18446744073709551616), .int .u64 (if x < y + c then 1 else 0)], []) | _ => none, pars := p3, res := r2, pre := pre3 }
theorem args3 {w : World} {I : Nat → Prop} {x y c : Int} {vs : List Value} {hss : List (List Hd)} (h : ArgsOk w I [.int .u64 x, .int .u64 y, .int .u64 c] vs hss) : vs = [.int .u64 x, .int .u64 y, .int .u64 c] ∧ hss = [[], [], []] := by
  obtain ⟨u1, us1, b1, h1, rfl, rfl, k1, h⟩ := h
  obtain ⟨u2, us2, b2, h2, rfl, rfl, k2, h⟩ := h
  obtain ⟨u3, us3, b3, h3, rfl, rfl, k3, h⟩ := h
  obtain ⟨rfl, rfl⟩ := h
  obtain ⟨rfl, _, k1⟩ := k1
  obtain ⟨rfl, _, k2⟩ := k2
  obtain ⟨rfl, _, k3⟩ := k3
  have k1 : u1 = .int .u64 x := k1
  have k2 : u2 = .int .u64 y := k2
  have k3 : u3 = .int .u64 c := k3
  subst k1 k2 k3
  exact ⟨rfl, rfl⟩
theorem pair_out {P : Program} {f : FuncId} {w : World} {I : Nat → Prop} {x y c a b : Int} (hI : ∀ k, I k → k < w.heap.size)
    (hr : (callFunc f #[.int .u64 x, .int .u64 y, .int .u64 c]).run P w = .ok (.value (.tuple #[.int .u64 a, .int .u64 b])) w) :
    Fires P f #[.int .u64 x, .int .u64 y, .int .u64 c] w fun u w' => ∃ (I' : Nat → Prop) (b1 b2 : List Hd), RO w' I' (.tup [.int .u64 a, .int .u64 b]) u b1 ∧ OutsOk w' I' p3 [.int .u64 x, .int .u64 y, .int .u64 c] [.int .u64 x, .int .u64 y, .int .u64 c] [[], [], []] [] b2 ∧ Fr (· ∈ hblocks [[], [], []]) w w' ∧
      (∀ k, I' k → (I k ∨ w.heap.size ≤ k ∨ k ∈ hblocks [[], [], []]) ∧ k < w'.heap.size) ∧ ((b1 ++ b2).map (·.1)).Nodup ∧ (∀ b ∈ (b1 ++ b2).map (·.1), ¬ I' b ∧ (w.heap.size ≤ b ∨ b ∈ hblocks [[], [], []])) := by
  refine .inl ⟨_, _, hr, I, [], [], ⟨[.int .u64 a, .int .u64 b], rfl, ⟨_, _, [], [], rfl, rfl, ro_int _ _, _, _, [], [], rfl, rfl, ro_int _ _, rfl, rfl⟩, rfl⟩, ?_, ?_, fun k hk => ⟨.inl hk, hI k hk⟩, List.nodup_nil, fun b hb => by cases hb⟩
  · exact ⟨_, _, _, _, _, _, rfl, rfl, rfl, .inl ⟨rfl, _, _, _, _, _, _, rfl, rfl, rfl, .inl ⟨rfl, _, _, _, _, _, _, rfl, rfl, rfl, .inl ⟨rfl, rfl, rfl⟩⟩⟩⟩
  · exact ⟨rfl, rfl, rfl, Nat.le_refl _, fun _ _ _ => rfl, fun k arr ty fr h => ⟨arr, fr, h, rfl⟩⟩
theorem sound_add {P : Program} {f : FuncId} {fn : Func} (hf : P.funcs[f]? = some fn) (hname : (fn.name == "runtime.NumGoroutine") = false) (hb : fn.body.isNone = true) (hn : Extern.findNext fn = none) (he : Extern.find fn = some add64Entry) : Sound P f kAdd.pars kAdd.G := by
  intro args res outs h0 w vs hss I ha hI _ _
  obtain ⟨hp, h⟩ := preK_some h0; clear h0
  simp only [kAdd] at h hp
  split at h
  · rename_i x y c
    simp only [pre3, Bool.and_eq_true, decide_eq_true_eq] at hp
    injection h with h
    injection h with h1 h2
    subst h1 h2
    obtain ⟨rfl, rfl⟩ := args3 ha
    exact pair_out hI (by rw [run_callFunc_extern hf hname hb hn he, run_add64 x y c hp.1 hp.2.2.1 hp.2.2.2.2.1 hp.2.2.2.2.2]; rfl)
  · cases h
theorem sound_sub {P : Program} {f : FuncId} {fn : Func} (hf : P.funcs[f]? = some fn) (hname : (fn.name == "runtime.NumGoroutine") = false) (hb : fn.body.isNone = true) (hn : Extern.findNext fn = none) (he : Extern.find fn = some sub64Entry) : Sound P f kSub.pars kSub.G := by
  intro args res outs h0 w vs hss I ha hI _ _
  obtain ⟨hp, h⟩ := preK_some h0; clear h0
  simp only [kSub] at h hp
  split at h
  · rename_i x y c
    simp only [pre3, Bool.and_eq_true, decide_eq_true_eq] at hp
    injection h with h
    injection h with h1 h2
    subst h1 h2
    obtain ⟨rfl, rfl⟩ := args3 ha
    exact pair_out hI (by rw [run_callFunc_extern hf hname hb hn he, run_sub64 x y c hp.1 hp.2.1 hp.2.2.1 hp.2.2.2.1 hp.2.2.2.2.1 hp.2.2.2.2.2]; rfl)
  · cases h
end Go.Ai
