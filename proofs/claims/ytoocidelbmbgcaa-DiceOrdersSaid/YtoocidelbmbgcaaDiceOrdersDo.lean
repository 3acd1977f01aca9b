/- Part of the proofs: the verified interpreter for the program's functions, or lemmas on what they compute; no condition. -/
import Derived.Test.YtoocidelbmbgcaaRows
import Derived.Test.YtoocidelbmbgcaaDiceOrdersBiTab
namespace Go.Proofs.Ytoocidelbmbgcaa.Bi
open Go.Ai

def tab : List (TypeId × TI) := [
  (3, ⟨.int .i64, 1, 8, .int .i64 (0), .int .i64⟩),
  (4, ⟨.bool, 1, 1, .bool false, .bool⟩),
  (22, ⟨.int .u64, 1, 8, .int .u64 (0), .int .u64⟩),
  (23, ⟨.ptr 98, 1, 8, .nilp, .agg []⟩),
  (32, ⟨.slice 3, 1, 24, .nils, .sl 1⟩),
  (98, ⟨.struct [(0, 22)], 1, 8, .agg [.int .u64 (0)], .agg [.int .u64]⟩)
]
theorem tab_ok : (tab.all fun q => tyB Try.prog q.1 q.2) = true := by kernel_rfl
theorem mixed : Try.prog.follows .mixedOrders = true := by kernel_rfl
def OkL (l : List (FuncId × Con)) : Prop := ∀ q ∈ l, Sound Try.prog q.1 q.2.pars q.2.G
theorem ctx_ok {A : Ar} (hA : A = real) {l : List (FuncId × Con)} (h : OkL l) : CtxOk ⟨A, Try.prog, tyTab tab, fnTab l⟩ := ⟨tyTab_ok tab_ok, fnTab_ok h, hA, mixed⟩
/-- Fuel enough for any loop. -/
def big : Nat := 1180591620717411303424
noncomputable def cx (l : List (FuncId × Con)) : Ctx := ⟨veiled, Try.prog, tyTab tab, fnTab l⟩
noncomputable def cxr (l : List (FuncId × Con)) : Ctx := ⟨real, Try.prog, tyTab tab, fnTab l⟩
theorem cx_sound {l : List (FuncId × Con)} (h : OkL l) {F : Fun} (hF : FunOk Try.prog F) (n : Nat) : Sound Try.prog F.f F.pars (funK (cx l) n F) := fun_sound (ctx_ok veiled_real h) hF n
theorem cxr_sound {l : List (FuncId × Con)} (h : OkL l) {F : Fun} (hF : FunOk Try.prog F) (n : Nat) : Sound Try.prog F.f F.pars (funK (cxr l) n F) := fun_sound (ctx_ok rfl h) hF n
theorem sl_nil : OkL [] := fun q hq => by cases hq
theorem sl_cons {f : FuncId} {c : Con} {l : List (FuncId × Con)} (h : Sound Try.prog f c.pars c.G) (k : OkL l) : OkL ((f, c) :: l) := fun q hq => by
  rcases List.mem_cons.1 hq with rfl | hq
  · exact h
  · exact k q hq

def A15 : An := (.seq .leaf (.seq .leaf (.seq .leaf (.seq .leaf (.seq .leaf (.seq .leaf .leaf))))))
noncomputable def F15 : Fun := .of 15 Try.f15 [.box 98 1 (.agg [.int .u64])] (.int .u64) A15
theorem ok15 : FunOk Try.prog F15 := funB_ok Try.func15 (by kernel_rfl)
def A16 : An := (.seq .leaf (.seq .leaf .leaf))
noncomputable def F16 : Fun := .of 16 Try.f16 [.box 98 1 (.agg [.int .u64])] (.int .u64) A16
theorem ok16 : FunOk Try.prog F16 := funB_ok Try.func16 (by kernel_rfl)
def A12 : An := (.seq .leaf (.seq .leaf .leaf))
noncomputable def F12 : Fun := .of 12 Try.f12 [.int .u64] (.box 98 1 (.agg [.int .u64])) A12
theorem ok12 : FunOk Try.prog F12 := funB_ok Try.func12 (by kernel_rfl)
def A13 : An := (.seq .leaf (.seq .leaf (.seq .leaf .leaf)))
noncomputable def F13 : Fun := .of 13 Try.f13 [] (.bool) A13
theorem ok13 : FunOk Try.prog F13 := funB_ok Try.func13 (by kernel_rfl)
def A57 : An := (.seq .leaf (.seq (.seq .leaf (.cond (.seq .leaf .leaf) .leaf)) (.seq .leaf (.block (.loop ⟨[(0, .box 98 1 (.agg [.int .u64])), (1, .int .i64), (5, .int .u64)]⟩ [(1, ⟨[(0, .box 98 1 (.agg [.int .u64])), (4, .int .i64)]⟩)] (.block (.seq .leaf (.seq .leaf (.cond (.seq .leaf .leaf) .leaf)))))))))
noncomputable def F57 : Fun := .of 57 Try.f57 [.box 98 1 (.agg [.int .u64]), .int .i64] (.int .i64) A57
theorem ok57 : FunOk Try.prog F57 := funB_ok Try.func57 (by kernel_rfl)
def A58 : An := (.seq .leaf (.seq .leaf (.seq (.seq .leaf (.block (.loop ⟨[(0, .fn 57 [.box 98 1 (.agg [.int .u64])] []), (1, .int .i64), (7, .own 3 1 false), (12, .int .i64), (13, .int .i64)]⟩ [(2, ⟨[(0, .fn 57 [.box 98 1 (.agg [.int .u64])] []), (7, .own 3 1 false)]⟩)] (.seq .leaf (.seq (.cond .leaf .leaf) (.seq (.block (.seq .leaf .leaf)) .leaf)))))) (.seq .leaf .leaf))))
noncomputable def F58 : Fun := .of 58 Try.f58 [.fn 57 [.box 98 1 (.agg [.int .u64])] [], .int .i64, .int .i64] (.own 3 1 false) A58
theorem ok58 : FunOk Try.prog F58 := funB_ok Try.func58 (by kernel_rfl)
def A21 : An := (.seq .leaf (.seq (.seq .leaf (.cond (.seq .leaf .leaf) .leaf)) (.seq .leaf .leaf)))
noncomputable def F21 : Fun := .of 21 Try.f21 [.box 98 1 (.agg [.int .u64]), .int .i64, .int .i64] (.sl 1) A21
theorem ok21 : FunOk Try.prog F21 := funB_ok Try.func21 (by kernel_rfl)
def A18 : An := (.seq .leaf (.seq .leaf (.seq (.seq .leaf (.cond .leaf .leaf)) (.seq .leaf .leaf))))
noncomputable def F18 : Fun := .of 18 Try.f18 [.int .i64, .int .i64] (.int .i64) A18
theorem ok18 : FunOk Try.prog F18 := funB_ok Try.func18 (by kernel_rfl)
def A20 : An := (.seq .leaf (.seq (.seq .leaf (.cond (.seq .leaf .leaf) .leaf)) (.seq (.seq .leaf (.block (.loop ⟨[(0, .sl 1), (1, .sl 1), (5, .int .i64)]⟩ [(1, ⟨[(4, .bool)]⟩), (2, ⟨[]⟩)] (.seq (.seq .leaf (.cond .leaf .leaf)) (.seq (.block (.seq .leaf (.cond (.seq .leaf .leaf) .leaf))) .leaf))))) (.seq .leaf .leaf))))
noncomputable def F20 : Fun := .of 20 Try.f20 [.sl 1, .sl 1] (.bool) A20
theorem ok20 : FunOk Try.prog F20 := funB_ok Try.func20 (by kernel_rfl)
def A19 : An := (.seq .leaf (.seq (.seq .leaf (.cond (.seq .leaf .leaf) .leaf)) (.seq .leaf (.seq (.seq .leaf (.block (.loop ⟨[(0, .box 98 1 (.agg [.int .u64])), (1, .int .i64), (5, .own 3 1 false), (18, .int .i64), (19, .int .i64)]⟩ [(2, ⟨[(0, .box 98 1 (.agg [.int .u64])), (1, .int .i64), (5, .own 3 1 false)]⟩)] (.seq .leaf (.seq (.cond .leaf .leaf) (.seq (.block (.seq .leaf .leaf)) .leaf)))))) (.seq (.seq .leaf (.block (.loop ⟨[(0, .box 98 1 (.agg [.int .u64])), (5, .own 3 1 false), (7, .int .i64)]⟩ [(4, ⟨[(0, .box 98 1 (.agg [.int .u64])), (5, .own 3 1 false)]⟩)] (.seq (.seq .leaf (.cond .leaf .leaf)) (.seq (.block (.seq .leaf .leaf)) .leaf))))) (.seq .leaf .leaf))))))
noncomputable def F19 : Fun := .of 19 Try.f19 [.box 98 1 (.agg [.int .u64]), .int .i64] (.own 3 1 false) A19
theorem ok19 : FunOk Try.prog F19 := funB_ok Try.func19 (by kernel_rfl)
def A4 : An := (.seq .leaf (.seq .leaf (.seq .leaf (.seq (.seq .leaf (.cond (.seq .leaf .leaf) .leaf)) (.seq .leaf (.seq .leaf (.seq .leaf (.seq (.seq .leaf (.cond (.seq .leaf .leaf) .leaf)) (.seq .leaf (.seq (.seq .leaf (.block (.loop ⟨[(1, .int .i64), (2, .int .i64), (7, .box 98 1 (.agg [.int .u64])), (9, .sl 1), (10, .own 3 1 false), (11, .int .i64)]⟩ [(1, ⟨[(6, .bool)]⟩), (2, ⟨[(1, .int .i64), (2, .int .i64), (7, .box 98 1 (.agg [.int .u64]))]⟩)] (.seq (.seq .leaf (.cond .leaf .leaf)) (.seq (.block (.seq (.seq .leaf (.cond (.seq .leaf .leaf) .leaf)) .leaf)) .leaf))))) (.seq .leaf (.seq .leaf (.seq (.seq .leaf (.cond (.seq .leaf .leaf) .leaf)) (.seq (.seq .leaf (.block (.loop ⟨[(1, .int .i64), (2, .int .i64), (7, .box 98 1 (.agg [.int .u64])), (12, .box 98 1 (.agg [.int .u64])), (13, .sl 1), (14, .int .i64)]⟩ [(1, ⟨[(6, .bool)]⟩), (4, ⟨[(7, .box 98 1 (.agg [.int .u64])), (12, .box 98 1 (.agg [.int .u64]))]⟩)] (.seq (.seq .leaf (.cond .leaf .leaf)) (.seq (.block (.seq .leaf (.cond (.seq .leaf .leaf) .leaf))) .leaf))))) (.seq .leaf .leaf)))))))))))))))
noncomputable def F4 : Fun := .of 4 Try.f4 [.int .u64, .int .i64, .int .i64] (.bool) A4
theorem ok4 : FunOk Try.prog F4 := funB_ok Try.func4 (by kernel_rfl)
/-! ### What they compute -/
noncomputable def wU (n : Int) : Int := veiled.wrap .u64 n
noncomputable def xU (a b : Int) : Int := veiled.xor .u64 a b
noncomputable def turn (s : Int) : Int := wU (s + 11400714819323198485)
noncomputable def mix1 (s : Int) : Int := wU (xU s (veiled.shr .u64 s 30) * 13787848793156543929)
noncomputable def mix2 (s : Int) : Int := wU (xU s (veiled.shr .u64 s 27) * 10723151780598845931)
noncomputable def mix3 (s : Int) : Int := xU s (veiled.shr .u64 s 31)
noncomputable def nx (s : Int) : Int := mix3 (mix2 (mix1 (turn s)))

def bD : Sh := .box 98 1 (.agg [.int .u64])
noncomputable def k12 : Con := { F := fun | [.int .u64 s] => some (.box [.agg [.int .u64 s]], []) | _ => none, pars := [.int .u64], res := bD }
noncomputable def k15 : Con := { F := fun | [.box [.agg [.int .u64 s]]] => some (.int .u64 (nx s), [.box [.agg [.int .u64 (turn s)]]]) | _ => none, pars := [bD], res := .int .u64 }
noncomputable def k16 : Con := { F := fun | [.box [.agg [.int .u64 s]]] => some (.int .u64 s, [.box [.agg [.int .u64 s]]]) | _ => none, pars := [bD], res := .int .u64 }
theorem e12 (s : Int) : funK (cx []) big F12 [.int .u64 s] = some (.box [.agg [.int .u64 s]], []) := by kernel_rfl
theorem e15 (s : Int) : funK (cx []) big F15 [.box [.agg [.int .u64 s]]] = some (.int .u64 (nx s), [.box [.agg [.int .u64 (turn s)]]]) := by kernel_rfl
theorem e16 (s : Int) : funK (cx []) big F16 [.box [.agg [.int .u64 s]]] = some (.int .u64 s, [.box [.agg [.int .u64 s]]]) := by kernel_rfl
theorem g12 : ∀ args res outs, k12.G args = some (res, outs) → funK (cx []) big F12 args = some (res, outs) := by
  intro args res outs h
  simp only [Con.G, k12, preK] at h
  split at h
  · rw [e12]; exact h
  · cases h
theorem g15 : ∀ args res outs, k15.G args = some (res, outs) → funK (cx []) big F15 args = some (res, outs) := by
  intro args res outs h
  simp only [Con.G, k15, preK] at h
  split at h
  · rw [e15]; exact h
  · cases h
theorem g16 : ∀ args res outs, k16.G args = some (res, outs) → funK (cx []) big F16 args = some (res, outs) := by
  intro args res outs h
  simp only [Con.G, k16, preK] at h
  split at h
  · rw [e16]; exact h
  · cases h
theorem s12 : Sound Try.prog 12 k12.pars k12.G := (cx_sound sl_nil ok12 big).spec g12
theorem s15 : Sound Try.prog 15 k15.pars k15.G := (cx_sound sl_nil ok15 big).spec g15
theorem s16 : Sound Try.prog 16 k16.pars k16.G := (cx_sound sl_nil ok16 big).spec g16
noncomputable def l0 : List (FuncId × Con) := [(12, { F := funK (cxr []) big F12, pars := F12.pars, res := bD }), (15, { F := funK (cxr []) big F15, pars := F15.pars, res := .int .u64 }), (16, { F := funK (cxr []) big F16, pars := F16.pars, res := .int .u64 })]
theorem l0_ok : OkL l0 := sl_cons (cxr_sound sl_nil ok12 big) (sl_cons (cxr_sound sl_nil ok15 big) (sl_cons (cxr_sound sl_nil ok16 big) sl_nil))
theorem e13 : funK (cxr l0) big F13 [] = some (.bool true, []) := by kernel_rfl
noncomputable def k13 : Con := { F := fun | [] => some (.bool true, []) | _ => none, pars := [], res := .bool }
theorem g13 : ∀ args res outs, k13.G args = some (res, outs) → funK (cxr l0) big F13 args = some (res, outs) := by
  intro args res outs h
  simp only [Con.G, k13, preK] at h
  split at h
  · rw [e13]; exact h
  · cases h
theorem s13 : Sound Try.prog 13 k13.pars k13.G := (cxr_sound l0_ok ok13 big).spec g13
end Go.Proofs.Ytoocidelbmbgcaa.Bi
