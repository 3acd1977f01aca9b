/- Part of the proofs: the verified interpreter for the program's functions, or lemmas on what they compute; no condition. -/
import Derived.Test.YtoocidelbmbgcaaRows
import Derived.Test.YtoocidelbmbgcaaOctetSealsLp
namespace Go.Proofs.Ytoocidelbmbgcaa.Oc
open Go.Ai

def tab : List (TypeId × TI) := [
  (2, ⟨.int .i64, 1, 8, .int .i64 (0), .int .i64⟩),
  (3, ⟨.int .i64, 1, 8, .int .i64 (0), .int .i64⟩),
  (4, ⟨.bool, 1, 1, .bool false, .bool⟩),
  (5, ⟨.int .u8, 1, 1, .int .u8 (0), .int .u8⟩),
  (9, ⟨.str, 1, 16, .str ⟨#[]⟩, .str⟩),
  (22, ⟨.int .u64, 1, 8, .int .u64 (0), .int .u64⟩),
  (29, ⟨.slice 5, 1, 24, .nils, .sl 1⟩),
  (37, ⟨.int .i64, 1, 8, .int .i64 (0), .int .i64⟩),
  (50, ⟨.slice 22, 1, 24, .nils, .sl 1⟩),
  (52, ⟨.struct [(0, 50)], 1, 24, .agg [.nils], .agg [.sl 1]⟩),
  (54, ⟨.struct [(0, 4), (1, 52)], 2, 32, .agg [.bool false, .nils], .agg [.bool, .sl 1]⟩),
  (60, ⟨.ptr 112, 1, 8, .nilp, .agg []⟩),
  (99, ⟨.int .u64, 1, 8, .int .u64 (0), .int .u64⟩),
  (112, ⟨.struct [(0, 29)], 1, 24, .agg [.nils], .agg [.sl 1]⟩)
]
theorem tab_ok : (tab.all fun q => tyB Try.prog q.1 q.2) = true := by kernel_rfl
theorem mixed : Try.prog.follows .mixedOrders = true := by kernel_rfl
def OkL (l : List (FuncId × Con)) : Prop := ∀ q ∈ l, Sound Try.prog q.1 q.2.pars q.2.G
theorem ctx_ok {A : Ar} (hA : A = real) {l : List (FuncId × Con)} (h : OkL l) : CtxOk ⟨A, Try.prog, tyTab tab, fnTab l⟩ := ⟨tyTab_ok tab_ok, fnTab_ok h, hA, mixed⟩
/-- Fuel enough for any loop. -/
def big : Nat := 1180591620717411303424
noncomputable def cx (l : List (FuncId × Con)) : Ctx := ⟨veiled, Try.prog, tyTab tab, fnTab l⟩
noncomputable def cxr (l : List (FuncId × Con)) : Ctx := ⟨real, Try.prog, tyTab tab, fnTab l⟩
theorem cx_sound {l : List (FuncId × Con)} (h : OkL l) {F : Fun} (hF : FunOk Try.prog F) (n : Nat) : Sound Try.prog F.f F.pars (funK (cx l) n F) := fun_sound (ctx_ok veiled_real h) hF n
theorem cxr_sound {l : List (FuncId × Con)} (h : OkL l) {F : Fun} (hF : FunOk Try.prog F) (n : Nat) : Sound Try.prog F.f F.pars (funK (cxr l) n F) := fun_sound (ctx_ok rfl h) hF n
theorem sl_nil : OkL [] := fun q hq => by cases hq
theorem sl_cons {f : FuncId} {c : Con} {l : List (FuncId × Con)} (h : Sound Try.prog f c.pars c.G) (k : OkL l) : OkL ((f, c) :: l) := fun q hq => by
  rcases List.mem_cons.1 hq with rfl | hq
  · exact h
  · exact k q hq
def A26 : An := (.seq .leaf (.seq .leaf (.seq (.seq .leaf (.block (.loop ⟨[(0, .sl 1), (3, .int .u64), (4, .int .i64)]⟩ [(2, ⟨[(3, .int .u64)]⟩)] (.seq (.seq .leaf (.cond .leaf .leaf)) (.seq (.block .leaf) .leaf))))) (.seq .leaf .leaf))))
noncomputable def F26 : Fun := .of 26 Try.f26 [.sl 1] (.int .u64) A26
theorem ok26 : FunOk Try.prog F26 := funB_ok Try.func26 (by kernel_rfl)
def A28 : An := (.seq .leaf (.seq (.seq .leaf (.cond (.seq .leaf .leaf) .leaf)) (.seq (.seq .leaf (.cond (.seq .leaf .leaf) .leaf)) (.seq .leaf (.seq .leaf (.seq (.cut [(0, ⟨[(0, .sl 1), (6, .int .u64), (7, .int .i64)]⟩), (1, ⟨[(2, .int .i64), (3, .own 5 1 false), (4, .int .i64), (5, .int .i64)]⟩)] (.block (.loop ⟨[(0, .sl 1), (6, .int .u64), (7, .int .i64)]⟩ [(2, ⟨[(0, .sl 1), (6, .int .u64), (7, .int .i64)]⟩), (1, ⟨[(2, .int .i64), (3, .own 5 1 false), (4, .int .i64), (5, .int .i64)]⟩)] (.block (.seq (.seq .leaf (.cond (.seq .leaf .leaf) .leaf)) (.seq .leaf (.seq (.seq .leaf (.cond .leaf .leaf)) (.seq .leaf (.seq .leaf (.cond (.seq (.seq .leaf (.cond (.seq .leaf .leaf) .leaf)) .leaf) .leaf)))))))))) (.seq (.seq .leaf (.cond (.seq .leaf .leaf) .leaf)) (.seq .leaf (.seq (.seq .leaf (.cond (.seq .leaf .leaf) .leaf)) (.seq .leaf (.seq (.seq .leaf (.block (.loop ⟨[(0, .sl 1), (6, .int .u64), (7, .int .i64), (9, .int .i64), (10, .int .u64), (11, .int .i64)]⟩ [(4, ⟨[(0, .sl 1), (6, .int .u64), (7, .int .i64), (9, .int .i64), (10, .int .u64)]⟩)] (.seq (.seq .leaf (.cond .leaf .leaf)) (.seq (.block .leaf) .leaf))))) (.seq (.seq .leaf (.cond (.seq .leaf .leaf) .leaf)) (.seq .leaf .leaf)))))))))))))
noncomputable def F28 : Fun := .of 28 Try.f28 [.sl 1] (.tup [.int .i64, .own 5 1 false, .int .i64, .int .i64]) A28
theorem ok28 : FunOk Try.prog F28 := funB_ok Try.func28 (by kernel_rfl)
def A17 : An := (.seq .leaf (.seq .leaf (.seq (.seq .leaf (.block (.loop ⟨[(3, .int .u64), (6, .sl 1), (7, .int .i64), (8, .int .i64)]⟩ [(2, ⟨[(3, .int .u64)]⟩)] (.seq .leaf (.seq (.cond .leaf .leaf) (.seq (.block (.seq .leaf .leaf)) .leaf)))))) (.seq .leaf .leaf))))
noncomputable def F17 : Fun := .of 17 Try.f17 [.sl 1] (.int .u64) A17
theorem ok17 : FunOk Try.prog F17 := funB_ok Try.func17 (by kernel_rfl)
def A59 : An := (.seq .leaf (.seq .leaf (.seq (.seq .leaf (.block (.loop ⟨[(0, .own 5 1 false), (3, .int .u64), (4, .int .i64)]⟩ [(2, ⟨[(0, .own 5 1 false)]⟩)] (.seq (.seq .leaf (.cond .leaf .leaf)) (.seq (.block .leaf) .leaf))))) (.seq .leaf .leaf))))
noncomputable def F59 : Fun := .of 59 Try.f59 [.own 5 1 false] (.own 5 1 false) A59
theorem ok59 : FunOk Try.prog F59 := funB_ok Try.func59 (by kernel_rfl)
def A65 : An := (.seq .leaf (.seq .leaf (.seq (.seq .leaf (.block (.loop ⟨[(1, .int .i64), (7, .int .u64), (8, .bool), (12, .sl 1), (13, .int .i64), (14, .int .i64)]⟩ [(2, ⟨[]⟩), (1, ⟨[(4, .int .i64), (5, .int .i64), (6, .int .i64)]⟩)] (.seq .leaf (.seq (.cond .leaf .leaf) (.seq (.block (.seq .leaf (.seq .leaf (.seq (.seq .leaf (.cond .leaf (.seq .leaf .leaf))) (.seq (.seq .leaf (.cond .leaf .leaf)) (.seq (.cut [(1, ⟨[(4, .int .i64), (5, .int .i64), (6, .int .i64)]⟩), (0, ⟨[(7, .int .u64), (9, .int .i64)]⟩)] (.block (.seq .leaf (.cond (.seq .leaf .leaf) (.seq .leaf (.cond (.seq .leaf .leaf) .leaf)))))) (.seq .leaf .leaf))))))) .leaf)))))) (.seq .leaf .leaf))))
noncomputable def F65 : Fun := .of 65 Try.f65 [.sl 1, .int .i64] (.tup [.int .i64, .int .i64, .int .i64]) A65
theorem ok65 : FunOk Try.prog F65 := funB_ok Try.func65 (by kernel_rfl)
def A27 : An := (.seq .leaf (.seq (.cut [(1, ⟨[(2, .int .i64), (3, .sl 1), (4, .int .i64), (5, .int .i64)]⟩), (0, ⟨[(0, .sl 1)]⟩)] (.block (.seq .leaf (.cond (.seq .leaf .leaf) (.seq .leaf (.cond (.seq .leaf .leaf) .leaf)))))) (.seq .leaf (.seq (.seq .leaf (.cond (.seq .leaf .leaf) .leaf)) (.seq .leaf (.seq .leaf (.seq (.seq .leaf (.cond (.seq .leaf .leaf) .leaf)) (.seq .leaf (.seq (.seq .leaf (.cond (.seq .leaf .leaf) .leaf)) (.seq .leaf .leaf))))))))))
noncomputable def F27 : Fun := .of 27 Try.f27 [.sl 1] (.tup [.int .i64, .sl 1, .int .i64, .int .i64]) A27
theorem ok27 : FunOk Try.prog F27 := funB_ok Try.func27 (by kernel_rfl)
def A64 : An := (.seq .leaf (.seq .leaf (.seq (.block (.loop ⟨[(0, .own 5 1 false), (5, .int .u64)]⟩ [(2, ⟨[(0, .own 5 1 false), (5, .int .u64)]⟩)] (.seq (.seq .leaf (.cond .leaf .leaf)) (.block (.seq .leaf .leaf))))) (.seq .leaf .leaf))))
noncomputable def F64 : Fun := .of 64 Try.f64 [.own 5 1 false, .int .i64] (.own 5 1 false) A64
theorem ok64 : FunOk Try.prog F64 := funB_ok Try.func64 (by kernel_rfl)
def A25 : An := (.seq .leaf (.seq .leaf (.seq .leaf (.seq (.seq .leaf (.block (.loop ⟨[(5, .own 5 1 false), (6, .int .u64), (7, .int .i64)]⟩ [(2, ⟨[(5, .own 5 1 false)]⟩)] (.seq (.seq .leaf (.cond .leaf .leaf)) (.seq (.block .leaf) .leaf))))) (.seq .leaf .leaf)))))
noncomputable def F25 : Fun := .of 25 Try.f25 [.int .i64, .sl 1] (.own 5 1 false) A25
theorem ok25 : FunOk Try.prog F25 := funB_ok Try.func25 (by kernel_rfl)
def A41 : An := (.seq .leaf (.seq .leaf .leaf))
noncomputable def F41 : Fun := .of 41 Try.f41 [.box 112 1 (.agg [.own 5 1 false])] (.sl 1) A41
theorem ok41 : FunOk Try.prog F41 := funB_ok Try.func41 (by kernel_rfl)
def A60 : An := (.seq .leaf (.seq .leaf (.seq (.block (.loop ⟨[(0, .own 5 1 false), (5, .int .u64)]⟩ [(2, ⟨[(0, .own 5 1 false), (5, .int .u64)]⟩)] (.seq (.seq .leaf (.cond .leaf .leaf)) (.block (.seq .leaf .leaf))))) (.seq .leaf .leaf))))
noncomputable def F60 : Fun := .of 60 Try.f60 [.own 5 1 false, .int .i64] (.own 5 1 false) A60
theorem ok60 : FunOk Try.prog F60 := funB_ok Try.func60 (by kernel_rfl)
def A61 : An := .leaf
noncomputable def F61 : Fun := .of 61 Try.f61 [.box 112 1 (.agg [.own 5 1 false]), .int .i64] (.tup []) A61
theorem ok61 : FunOk Try.prog F61 := funB_ok Try.func61 (by kernel_rfl)
def A107 : An := (.seq .leaf (.seq (.seq .leaf (.cond (.seq .leaf .leaf) .leaf)) (.seq (.seq .leaf (.cond (.seq .leaf .leaf) .leaf)) (.seq (.seq .leaf (.cond (.seq .leaf .leaf) .leaf)) (.seq .leaf .leaf)))))
noncomputable def F107 : Fun := .of 107 Try.f107 [.int .u64] (.int .i64) A107
theorem ok107 : FunOk Try.prog F107 := funB_ok Try.func107 (by kernel_rfl)
def A70 : An := (.seq .leaf (.seq (.seq .leaf (.cond (.seq .leaf .leaf) .leaf)) (.seq .leaf .leaf)))
noncomputable def F70 : Fun := .of 70 Try.f70 [.agg [.sl 1]] (.int .i64) A70
theorem ok70 : FunOk Try.prog F70 := funB_ok Try.func70 (by kernel_rfl)
def A31 : An := (.seq .leaf (.seq (.block (.seq .leaf (.cond (.seq .leaf .leaf) (.seq .leaf (.cond (.seq .leaf .leaf) .leaf))))) (.seq .leaf .leaf)))
noncomputable def F31 : Fun := .of 31 Try.f31 [.agg [.bool, .sl 1]] (.int .i64) A31
theorem ok31 : FunOk Try.prog F31 := funB_ok Try.func31 (by kernel_rfl)
def A105 : An := (.seq .leaf (.seq .leaf (.seq (.seq .leaf (.block (.loop ⟨[(1, .box 52 1 (.agg [.sl 1])), (3, .own 5 1 false), (11, .int .i64), (12, .int .i64)]⟩ [(2, ⟨[(3, .own 5 1 false)]⟩)] (.seq .leaf (.seq (.cond .leaf .leaf) (.seq (.block (.seq .leaf .leaf)) .leaf)))))) (.seq .leaf .leaf))))
noncomputable def F105 : Fun := .of 105 Try.f105 [.agg [.sl 1]] (.own 5 1 false) A105
theorem ok105 : FunOk Try.prog F105 := funB_ok Try.func105 (by kernel_rfl)
def A104 : An := (.seq .leaf (.seq .leaf .leaf))
noncomputable def F104 : Fun := .of 104 Try.f104 [.agg [.bool, .sl 1]] (.agg [.sl 1]) A104
theorem ok104 : FunOk Try.prog F104 := funB_ok Try.func104 (by kernel_rfl)
def A62 : An := (.seq .leaf (.seq .leaf (.seq .leaf (.seq (.seq .leaf (.cond .leaf .leaf)) (.seq .leaf .leaf)))))
noncomputable def F62 : Fun := .of 62 Try.f62 [.box 112 1 (.agg [.own 5 1 false]), .agg [.bool, .sl 1]] (.tup []) A62
theorem ok62 : FunOk Try.prog F62 := funB_ok Try.func62 (by kernel_rfl)
def A69 : An := (.seq .leaf (.seq .leaf .leaf))
noncomputable def F69 : Fun := .of 69 Try.f69 [.bool, .agg [.sl 1]] (.agg [.bool, .sl 1]) A69
theorem ok69 : FunOk Try.prog F69 := funB_ok Try.func69 (by kernel_rfl)
def A95 : An := (.seq .leaf (.seq (.block (.loop ⟨[(0, .sl 1), (2, .box 52 1 (.agg [.sl 1]))]⟩ [(2, ⟨[(0, .sl 1), (2, .box 52 1 (.agg [.sl 1]))]⟩)] (.seq (.seq .leaf (.cond .leaf .leaf)) (.block .leaf)))) (.seq .leaf .leaf)))
noncomputable def F95 : Fun := .of 95 Try.f95 [.sl 1] (.agg [.sl 1]) A95
theorem ok95 : FunOk Try.prog F95 := funB_ok Try.func95 (by kernel_rfl)
def A44 : An := (.seq .leaf (.seq .leaf .leaf))
noncomputable def F44 : Fun := .of 44 Try.f44 [.int .u64] (.agg [.sl 1]) A44
theorem ok44 : FunOk Try.prog F44 := funB_ok Try.func44 (by kernel_rfl)
def A63 : An := (.seq .leaf (.seq (.seq .leaf (.cond (.seq .leaf .leaf) .leaf)) (.seq .leaf .leaf)))
noncomputable def F63 : Fun := .of 63 Try.f63 [.int .i64] (.agg [.bool, .sl 1]) A63
theorem ok63 : FunOk Try.prog F63 := funB_ok Try.func63 (by kernel_rfl)
def A36 : An := (.seq .leaf (.seq .leaf .leaf))
noncomputable def F36 : Fun := .of 36 Try.f36 [] (.box 112 1 (.agg [.own 5 1 false])) A36
theorem ok36 : FunOk Try.prog F36 := funB_ok Try.func36 (by kernel_rfl)
def A24 : An := (.seq .leaf (.seq .leaf (.seq (.seq .leaf (.cond (.seq .leaf .leaf) .leaf)) (.seq .leaf (.seq .leaf (.seq .leaf .leaf))))))
noncomputable def F24 : Fun := .of 24 Try.f24 [] (.bool) A24
theorem ok24 : FunOk Try.prog F24 := funB_ok Try.func24 (by kernel_rfl)
def A22 : An := (.seq .leaf (.seq (.cut [(1, ⟨[(4, .own 5 1 false), (5, .int .i64)]⟩), (0, ⟨[(0, .int .i64), (1, .sl 1)]⟩)] (.block (.seq .leaf (.cond (.seq .leaf .leaf) (.seq .leaf (.cond (.seq .leaf .leaf) .leaf)))))) (.seq .leaf .leaf)))
noncomputable def F22 : Fun := .of 22 Try.f22 [.int .i64, .sl 1] (.tup [.own 5 1 false, .int .i64]) A22
theorem ok22 : FunOk Try.prog F22 := funB_ok Try.func22 (by kernel_rfl)
def A23 : An := (.seq .leaf (.seq .leaf .leaf))
noncomputable def F23 : Fun := .of 23 Try.f23 [.sl 1, .int .i64] (.own 5 1 false) A23
theorem ok23 : FunOk Try.prog F23 := funB_ok Try.func23 (by kernel_rfl)
def A18 : An := (.seq .leaf (.seq .leaf (.seq (.seq .leaf (.cond .leaf .leaf)) (.seq .leaf .leaf))))
noncomputable def F18 : Fun := .of 18 Try.f18 [.int .i64, .int .i64] (.int .i64) A18
theorem ok18 : FunOk Try.prog F18 := funB_ok Try.func18 (by kernel_rfl)
def A5 : An := (.seq .leaf (.seq .leaf (.seq .leaf (.seq (.seq .leaf (.cond (.seq .leaf .leaf) .leaf)) (.seq .leaf (.seq (.seq .leaf (.cond (.seq .leaf .leaf) .leaf)) (.seq (.seq .leaf (.block (.seq .leaf (.cond .leaf (.seq .leaf (.cond .leaf (.seq .leaf (.cond .leaf (.seq .leaf (.cond .leaf .leaf)))))))))) (.seq .leaf (.seq .leaf (.seq .leaf .leaf))))))))))
noncomputable def F5 : Fun := .of 5 Try.f5 [.int .i64, .sl 1, .sl 1, .sl 1, .int .i64, .int .i64, .int .u8] (.bool) A5
theorem ok5 : FunOk Try.prog F5 := funB_ok Try.func5 (by kernel_rfl)
def A6 : An := (.seq .leaf (.seq .leaf (.seq (.seq .leaf (.cond (.seq .leaf .leaf) .leaf)) (.seq (.seq .leaf (.cond (.seq .leaf .leaf) .leaf)) (.seq .leaf (.seq .leaf (.seq .leaf (.seq .leaf .leaf))))))))
noncomputable def F6 : Fun := .of 6 Try.f6 [.int .i64, .sl 1, .int .i64, .int .u8] (.bool) A6
theorem ok6 : FunOk Try.prog F6 := funB_ok Try.func6 (by kernel_rfl)
end Go.Proofs.Ytoocidelbmbgcaa.Oc
