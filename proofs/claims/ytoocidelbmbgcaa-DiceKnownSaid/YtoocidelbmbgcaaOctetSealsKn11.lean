/- Part of the proofs: the verified interpreter for the program's functions, or lemmas on what they compute; no condition. -/
import Derived.Test.YtoocidelbmbgcaaRows
import Derived.Test.YtoocidelbmbgcaaOctetSealsExt
namespace Go.Proofs.Ytoocidelbmbgcaa.Kn
open Go.Ai

def tab : List (TypeId × TI) := [
  (2, ⟨.int .i64, 1, 8, .int .i64 (0), .int .i64⟩),
  (3, ⟨.int .i64, 1, 8, .int .i64 (0), .int .i64⟩),
  (4, ⟨.bool, 1, 1, .bool false, .bool⟩),
  (5, ⟨.int .u8, 1, 1, .int .u8 (0), .int .u8⟩),
  (9, ⟨.str, 1, 16, .str ⟨#[]⟩, .str⟩),
  (22, ⟨.int .u64, 1, 8, .int .u64 (0), .int .u64⟩),
  (23, ⟨.ptr 98, 1, 8, .nilp, .agg []⟩),
  (29, ⟨.slice 5, 1, 24, .nils, .sl 1⟩),
  (32, ⟨.slice 3, 1, 24, .nils, .sl 1⟩),
  (50, ⟨.slice 22, 1, 24, .nils, .sl 1⟩),
  (52, ⟨.struct [(0, 50)], 1, 24, .agg [.nils], .agg [.sl 1]⟩),
  (54, ⟨.struct [(0, 4), (1, 52)], 2, 32, .agg [.bool false, .nils], .agg [.bool, .sl 1]⟩),
  (74, ⟨.slice 76, 1, 24, .nils, .sl 3⟩),
  (76, ⟨.struct [(0, 54), (2, 52)], 3, 56, .agg [.bool false, .nils, .nils], .agg [.bool, .sl 1, .sl 1]⟩),
  (98, ⟨.struct [(0, 22)], 1, 8, .agg [.int .u64 (0)], .agg [.int .u64]⟩),
  (99, ⟨.int .u64, 1, 8, .int .u64 (0), .int .u64⟩),
  (188, ⟨.array 4 2, 4, 32, .agg [.int .i64 (0), .int .i64 (0), .int .i64 (0), .int .i64 (0)], .agg [.int .i64, .int .i64, .int .i64, .int .i64]⟩)
]
theorem tab_ok : (tab.all fun q => tyB Try.prog q.1 q.2) = true := by kernel_rfl
theorem mixed : Try.prog.follows .mixedOrders = true := by kernel_rfl
def OkQ (q : FuncId × Con) : Prop := Sound Try.prog q.1 q.2.pars q.2.G
def OkL (l : List (FuncId × Con)) : Prop := ∀ q ∈ l, OkQ q
theorem ol_nil : OkL [] := fun q hq => by cases hq
theorem ol_cons {q : FuncId × Con} {l : List (FuncId × Con)} (h : OkQ q) (k : OkL l) : OkL (q :: l) := fun p hp => by
  rcases List.mem_cons.1 hp with rfl | hp
  · exact h
  · exact k p hp
/-- Fuel enough for any loop. -/
def big : Nat := 1180591620717411303424
noncomputable def cxr (l : List (FuncId × Con)) : Ctx := ⟨real, Try.prog, tyTab tab, fnTab l⟩
theorem cxr_sound {l : List (FuncId × Con)} (h : OkL l) {F : Fun} (hF : FunOk Try.prog F) (n : Nat) : Sound Try.prog F.f F.pars (funK (cxr l) n F) := fun_sound ⟨tyTab_ok tab_ok, fnTab_ok h, rfl, mixed⟩ hF n
noncomputable def conR (l : List (FuncId × Con)) (F : Fun) : FuncId × Con := (F.f, { F := funK (cxr l) big F, pars := F.pars, res := F.res })
theorem oq {l : List (FuncId × Con)} (hl : OkL l) {F : Fun} (hF : FunOk Try.prog F) : OkQ (conR l F) := cxr_sound hl hF big
noncomputable def q97 : FuncId × Con := (97, kAdd)
theorem w97 : OkQ q97 := sound_add Try.func97 (by kernel_rfl) (by kernel_rfl) (by kernel_rfl) (by kernel_rfl)
noncomputable def q147 : FuncId × Con := (147, kSub)
theorem w147 : OkQ q147 := sound_sub Try.func147 (by kernel_rfl) (by kernel_rfl) (by kernel_rfl) (by kernel_rfl)
-- abaculus/dice.New callees []
def A12 : An := (.seq .leaf (.seq .leaf .leaf))
noncomputable def F12 : Fun := .of 12 Try.f12 [.int .u64] (.box 98 1 (.agg [.int .u64])) A12
theorem ok12 : FunOk Try.prog F12 := funB_ok Try.func12 (by kernel_rfl)
noncomputable def q12 : FuncId × Con := conR [] F12
theorem w12 : OkQ q12 := oq ol_nil ok12
-- abaculus/octet.Sum callees []
def A17 : An := (.seq .leaf (.seq .leaf (.seq (.seq .leaf (.block (.loop ⟨[(3, .int .u64), (6, .sl 1), (7, .int .i64), (8, .int .i64)]⟩ [(2, ⟨[(3, .int .u64)]⟩)] (.seq .leaf (.seq (.cond .leaf .leaf) (.seq (.block (.seq .leaf .leaf)) .leaf)))))) (.seq .leaf .leaf))))
noncomputable def F17 : Fun := .of 17 Try.f17 [.sl 1] (.int .u64) A17
theorem ok17 : FunOk Try.prog F17 := funB_ok Try.func17 (by kernel_rfl)
noncomputable def q17 : FuncId × Con := conR [] F17
theorem w17 : OkQ q17 := oq ol_nil ok17
-- (*abaculus/dice.Dice).Next callees []
def A15 : An := (.seq .leaf (.seq .leaf (.seq .leaf (.seq .leaf (.seq .leaf (.seq .leaf .leaf))))))
noncomputable def F15 : Fun := .of 15 Try.f15 [.box 98 1 (.agg [.int .u64])] (.int .u64) A15
theorem ok15 : FunOk Try.prog F15 := funB_ok Try.func15 (by kernel_rfl)
noncomputable def q15 : FuncId × Con := conR [] F15
theorem w15 : OkQ q15 := oq ol_nil ok15
-- (*abaculus/dice.Dice).Fork callees [12, 17, 15]
def A14 : An := (.seq .leaf (.seq .leaf .leaf))
noncomputable def F14 : Fun := .of 14 Try.f14 [.box 98 1 (.agg [.int .u64]), .str] (.box 98 1 (.agg [.int .u64])) A14
theorem ok14 : FunOk Try.prog F14 := funB_ok Try.func14 (by kernel_rfl)
noncomputable def q14 : FuncId × Con := conR [q12, q17, q15] F14
theorem w14 : OkQ q14 := oq (ol_cons w12 (ol_cons w17 (ol_cons w15 ol_nil))) ok14
-- (abaculus/nat.Nat).Cmp callees []
def A134 : An := (.seq .leaf (.seq (.seq .leaf (.cond (.seq (.seq .leaf (.cond (.seq .leaf .leaf) .leaf)) (.seq .leaf .leaf)) .leaf)) (.seq (.seq .leaf (.block (.loop ⟨[(2, .box 52 1 (.agg [.sl 1])), (3, .box 52 1 (.agg [.sl 1])), (5, .int .i64)]⟩ [(1, ⟨[(4, .int .i64)]⟩), (2, ⟨[]⟩)] (.seq (.seq .leaf (.cond .leaf .leaf)) (.seq (.block (.seq (.seq .leaf (.cond (.seq .leaf .leaf) .leaf)) (.seq .leaf (.cond (.seq .leaf .leaf) .leaf)))) .leaf))))) (.seq .leaf .leaf))))
noncomputable def F134 : Fun := .of 134 Try.f134 [.agg [.sl 1], .agg [.sl 1]] (.int .i64) A134
theorem ok134 : FunOk Try.prog F134 := funB_ok Try.func134 (by kernel_rfl)
noncomputable def q134 : FuncId × Con := conR [] F134
theorem w134 : OkQ q134 := oq ol_nil ok134
-- abaculus/nat.trim callees []
def A95 : An := (.seq .leaf (.seq (.block (.loop ⟨[(0, .sl 1), (2, .box 52 1 (.agg [.sl 1]))]⟩ [(2, ⟨[(0, .sl 1), (2, .box 52 1 (.agg [.sl 1]))]⟩)] (.seq (.seq .leaf (.cond .leaf .leaf)) (.block .leaf)))) (.seq .leaf .leaf)))
noncomputable def F95 : Fun := .of 95 Try.f95 [.sl 1] (.agg [.sl 1]) A95
theorem ok95 : FunOk Try.prog F95 := funB_ok Try.func95 (by kernel_rfl)
noncomputable def q95 : FuncId × Con := conR [] F95
theorem w95 : OkQ q95 := oq ol_nil ok95
-- abaculus/nat.Of callees [95]
def A44 : An := (.seq .leaf (.seq .leaf .leaf))
noncomputable def F44 : Fun := .of 44 Try.f44 [.int .u64] (.agg [.sl 1]) A44
theorem ok44 : FunOk Try.prog F44 := funB_ok Try.func44 (by kernel_rfl)
noncomputable def q44 : FuncId × Con := conR [q95] F44
theorem w44 : OkQ q44 := oq (ol_cons w95 ol_nil) ok44
-- abaculus/frac.low callees [134, 44]
def A119 : An := (.seq .leaf (.seq (.seq .leaf (.cond (.seq .leaf .leaf) .leaf)) (.seq .leaf .leaf)))
noncomputable def F119 : Fun := .of 119 Try.f119 [.agg [.bool, .sl 1], .agg [.sl 1]] (.agg [.bool, .sl 1, .sl 1]) A119
theorem ok119 : FunOk Try.prog F119 := funB_ok Try.func119 (by kernel_rfl)
noncomputable def q119 : FuncId × Con := conR [q134, q44] F119
theorem w119 : OkQ q119 := oq (ol_cons w134 (ol_cons w44 ol_nil)) ok119
-- math/bits.Mul64 callees []
def A96 : An := (.seq .leaf (.seq .leaf (.seq .leaf (.seq .leaf (.seq .leaf (.seq .leaf (.seq .leaf (.seq .leaf (.seq .leaf (.seq .leaf (.seq .leaf (.seq .leaf .leaf))))))))))))
noncomputable def F96 : Fun := .of 96 Try.f96 [.int .u64, .int .u64] (.tup [.int .u64, .int .u64]) A96
theorem ok96 : FunOk Try.prog F96 := funB_ok Try.func96 (by kernel_rfl)
noncomputable def q96 : FuncId × Con := conR [] F96
theorem w96 : OkQ q96 := oq ol_nil ok96
-- (abaculus/nat.Nat).Mul callees [95, 97, 96]
def A45 : An := (.seq .leaf (.seq .leaf (.seq (.seq .leaf (.block (.loop ⟨[(3, .box 52 1 (.agg [.sl 1])), (4, .box 52 1 (.agg [.sl 1])), (5, .own 22 1 false), (23, .sl 1), (24, .int .i64), (25, .int .i64)]⟩ [(2, ⟨[(4, .box 52 1 (.agg [.sl 1])), (5, .own 22 1 false)]⟩)] (.seq .leaf (.seq (.cond .leaf .leaf) (.seq (.block (.seq .leaf (.seq .leaf (.seq (.seq .leaf (.block (.loop ⟨[(3, .box 52 1 (.agg [.sl 1])), (4, .box 52 1 (.agg [.sl 1])), (5, .own 22 1 false), (6, .int .i64), (7, .int .u64), (8, .int .u64), (23, .sl 1), (24, .int .i64), (25, .int .i64), (31, .sl 1), (32, .int .i64), (33, .int .i64)]⟩ [(4, ⟨[(3, .box 52 1 (.agg [.sl 1])), (4, .box 52 1 (.agg [.sl 1])), (5, .own 22 1 false), (6, .int .i64), (8, .int .u64), (23, .sl 1), (24, .int .i64), (25, .int .i64)]⟩)] (.seq .leaf (.seq (.cond .leaf .leaf) (.seq (.block (.seq .leaf (.seq .leaf (.seq .leaf (.seq .leaf (.seq .leaf .leaf)))))) .leaf)))))) .leaf)))) .leaf)))))) (.seq .leaf .leaf))))
noncomputable def F45 : Fun := .of 45 Try.f45 [.agg [.sl 1], .agg [.sl 1]] (.agg [.sl 1]) A45
theorem ok45 : FunOk Try.prog F45 := funB_ok Try.func45 (by kernel_rfl)
noncomputable def q45 : FuncId × Con := conR [q95, q97, q96] F45
theorem w45 : OkQ q45 := oq (ol_cons w95 (ol_cons w97 (ol_cons w96 ol_nil))) ok45
-- math/bits.Len64 callees []
def A107 : An := (.seq .leaf (.seq (.seq .leaf (.cond (.seq .leaf .leaf) .leaf)) (.seq (.seq .leaf (.cond (.seq .leaf .leaf) .leaf)) (.seq (.seq .leaf (.cond (.seq .leaf .leaf) .leaf)) (.seq .leaf .leaf)))))
noncomputable def F107 : Fun := .of 107 Try.f107 [.int .u64] (.int .i64) A107
theorem ok107 : FunOk Try.prog F107 := funB_ok Try.func107 (by kernel_rfl)
noncomputable def q107 : FuncId × Con := conR [] F107
theorem w107 : OkQ q107 := oq ol_nil ok107
-- (abaculus/nat.Nat).Bits callees [107]
def A70 : An := (.seq .leaf (.seq (.seq .leaf (.cond (.seq .leaf .leaf) .leaf)) (.seq .leaf .leaf)))
noncomputable def F70 : Fun := .of 70 Try.f70 [.agg [.sl 1]] (.int .i64) A70
theorem ok70 : FunOk Try.prog F70 := funB_ok Try.func70 (by kernel_rfl)
noncomputable def q70 : FuncId × Con := conR [q107] F70
theorem w70 : OkQ q70 := oq (ol_cons w107 ol_nil) ok70
-- abaculus/whole.From callees [70]
def A69 : An := (.seq .leaf (.seq .leaf .leaf))
noncomputable def F69 : Fun := .of 69 Try.f69 [.bool, .agg [.sl 1]] (.agg [.bool, .sl 1]) A69
theorem ok69 : FunOk Try.prog F69 := funB_ok Try.func69 (by kernel_rfl)
noncomputable def q69 : FuncId × Con := conR [q70] F69
theorem w69 : OkQ q69 := oq (ol_cons w70 ol_nil) ok69
-- (abaculus/nat.Nat).Sub callees [95, 147, 134]
def A141 : An := (.seq .leaf (.seq (.seq .leaf (.cond (.seq .leaf .leaf) .leaf)) (.seq .leaf (.seq .leaf (.seq (.seq .leaf (.block (.loop ⟨[(2, .box 52 1 (.agg [.sl 1])), (3, .box 52 1 (.agg [.sl 1])), (4, .box 52 1 (.agg [.sl 1])), (6, .own 22 1 false), (7, .int .u64), (21, .int .i64), (22, .int .i64)]⟩ [(2, ⟨[(4, .box 52 1 (.agg [.sl 1])), (6, .own 22 1 false)]⟩)] (.seq .leaf (.seq (.cond .leaf .leaf) (.seq (.block (.seq .leaf (.seq .leaf (.seq (.seq .leaf (.cond .leaf .leaf)) .leaf)))) .leaf)))))) (.seq .leaf .leaf))))))
noncomputable def F141 : Fun := .of 141 Try.f141 [.agg [.sl 1], .agg [.sl 1]] (.tup [.agg [.sl 1], .bool]) A141
theorem ok141 : FunOk Try.prog F141 := funB_ok Try.func141 (by kernel_rfl)
noncomputable def q141 : FuncId × Con := conR [q95, q147, q134] F141
theorem w141 : OkQ q141 := oq (ol_cons w95 (ol_cons w147 (ol_cons w134 ol_nil))) ok141
-- (abaculus/nat.Nat).Add callees [95, 97]
def A140 : An := (.seq .leaf (.seq .leaf (.seq (.seq .leaf (.cond .leaf .leaf)) (.seq .leaf (.seq .leaf (.seq (.seq .leaf (.block (.loop ⟨[(4, .box 52 1 (.agg [.sl 1])), (5, .sl 1), (6, .sl 1), (7, .own 22 1 false), (8, .int .u64), (27, .int .i64), (28, .int .i64)]⟩ [(2, ⟨[(4, .box 52 1 (.agg [.sl 1])), (5, .sl 1), (7, .own 22 1 false), (8, .int .u64)]⟩)] (.seq .leaf (.seq (.cond .leaf .leaf) (.seq (.block (.seq .leaf (.seq .leaf (.seq (.seq .leaf (.cond .leaf .leaf)) .leaf)))) .leaf)))))) (.seq .leaf (.seq .leaf .leaf))))))))
noncomputable def F140 : Fun := .of 140 Try.f140 [.agg [.sl 1], .agg [.sl 1]] (.agg [.sl 1]) A140
theorem ok140 : FunOk Try.prog F140 := funB_ok Try.func140 (by kernel_rfl)
noncomputable def q140 : FuncId × Con := conR [q95, q97] F140
theorem w140 : OkQ q140 := oq (ol_cons w95 (ol_cons w97 ol_nil)) ok140
-- abaculus/nat.right callees []
def A99 : An := (.seq .leaf (.seq .leaf (.seq (.seq .leaf (.block (.loop ⟨[(0, .sl 1), (1, .int .i64), (5, .own 22 1 false), (11, .int .i64), (12, .int .i64)]⟩ [(2, ⟨[(5, .own 22 1 false)]⟩)] (.seq .leaf (.seq (.cond .leaf .leaf) (.seq (.block (.seq .leaf (.seq .leaf (.seq .leaf (.cond .leaf .leaf))))) .leaf)))))) (.seq .leaf .leaf))))
noncomputable def F99 : Fun := .of 99 Try.f99 [.sl 1, .int .i64] (.own 22 1 false) A99
theorem ok99 : FunOk Try.prog F99 := funB_ok Try.func99 (by kernel_rfl)
noncomputable def q99 : FuncId × Con := conR [] F99
theorem w99 : OkQ q99 := oq ol_nil ok99
-- abaculus/nat.more callees [97]
def A152 : An := (.seq .leaf (.seq .leaf (.seq (.seq .leaf (.block (.loop ⟨[(0, .own 22 1 true), (1, .sl 1), (5, .int .u64), (8, .sl 1), (9, .int .i64), (10, .int .i64)]⟩ [(2, ⟨[(0, .own 22 1 true), (1, .sl 1), (5, .int .u64)]⟩)] (.seq .leaf (.seq (.cond .leaf .leaf) (.seq (.block (.seq .leaf .leaf)) .leaf)))))) (.seq .leaf (.seq .leaf .leaf)))))
noncomputable def F152 : Fun := .of 152 Try.f152 [.own 22 1 true, .sl 1] (.bool) A152
theorem ok152 : FunOk Try.prog F152 := funB_ok Try.func152 (by kernel_rfl)
noncomputable def q152 : FuncId × Con := conR [q97] F152
theorem w152 : OkQ q152 := oq (ol_cons w97 ol_nil) ok152
-- abaculus/nat.less callees [147, 97, 96]
def A151 : An := (.seq .leaf (.seq .leaf (.seq (.seq .leaf (.block (.loop ⟨[(0, .own 22 1 true), (1, .sl 1), (2, .int .u64), (7, .int .u64), (8, .int .u64), (14, .sl 1), (15, .int .i64), (16, .int .i64)]⟩ [(2, ⟨[(0, .own 22 1 true), (1, .sl 1), (7, .int .u64), (8, .int .u64)]⟩)] (.seq .leaf (.seq (.cond .leaf .leaf) (.seq (.block (.seq .leaf (.seq .leaf (.seq .leaf (.seq .leaf .leaf))))) .leaf)))))) (.seq .leaf (.seq .leaf .leaf)))))
noncomputable def F151 : Fun := .of 151 Try.f151 [.own 22 1 true, .sl 1, .int .u64] (.bool) A151
theorem ok151 : FunOk Try.prog F151 := funB_ok Try.func151 (by kernel_rfl)
noncomputable def q151 : FuncId × Con := conR [q147, q97, q96] F151
theorem w151 : OkQ q151 := oq (ol_cons w147 (ol_cons w97 (ol_cons w96 ol_nil))) ok151
-- math/bits.LeadingZeros64 callees [107]
def A149 : An := (.seq .leaf (.seq .leaf .leaf))
noncomputable def F149 : Fun := .of 149 Try.f149 [.int .u64] (.int .i64) A149
theorem ok149 : FunOk Try.prog F149 := funB_ok Try.func149 (by kernel_rfl)
noncomputable def q149 : FuncId × Con := conR [q107] F149
theorem w149 : OkQ q149 := oq (ol_cons w107 ol_nil) ok149
-- math/bits.Div64 callees [149]
def A148 : An := (.seq .leaf (.seq (.seq .leaf (.cond .leaf .leaf)) (.seq (.seq .leaf (.cond .leaf .leaf)) (.seq (.seq .leaf (.cond (.seq .leaf .leaf) .leaf)) (.seq .leaf (.seq .leaf (.seq .leaf (.seq .leaf (.seq .leaf (.seq .leaf (.seq .leaf (.seq .leaf (.seq .leaf (.seq .leaf (.seq (.cut [(0, ⟨[(2, .int .u64), (8, .int .u64), (9, .int .u64), (10, .int .u64), (11, .int .u64), (13, .int .u64), (14, .int .u64), (15, .int .u64)]⟩)] (.block (.loop ⟨[(2, .int .u64), (8, .int .u64), (9, .int .u64), (10, .int .u64), (11, .int .u64), (13, .int .u64), (14, .int .u64), (15, .int .u64), (16, .int .u64)]⟩ [(2, ⟨[(2, .int .u64), (8, .int .u64), (9, .int .u64), (10, .int .u64), (11, .int .u64), (13, .int .u64), (14, .int .u64), (15, .int .u64)]⟩)] (.seq (.seq .leaf (.cond .leaf .leaf)) (.block (.seq .leaf (.seq .leaf (.seq .leaf (.cond .leaf .leaf))))))))) (.seq .leaf (.seq .leaf (.seq .leaf (.seq (.cut [(0, ⟨[(2, .int .u64), (8, .int .u64), (14, .int .u64), (15, .int .u64), (17, .int .u64), (18, .int .u64)]⟩)] (.block (.loop ⟨[(2, .int .u64), (8, .int .u64), (9, .int .u64), (10, .int .u64), (14, .int .u64), (15, .int .u64), (16, .int .u64), (17, .int .u64), (18, .int .u64)]⟩ [(4, ⟨[(2, .int .u64), (8, .int .u64), (14, .int .u64), (15, .int .u64), (17, .int .u64), (18, .int .u64)]⟩)] (.seq (.seq .leaf (.cond .leaf .leaf)) (.block (.seq .leaf (.seq .leaf (.seq .leaf (.cond .leaf .leaf))))))))) (.seq .leaf .leaf))))))))))))))))))))
noncomputable def F148 : Fun := .of 148 Try.f148 [.int .u64, .int .u64, .int .u64] (.tup [.int .u64, .int .u64]) A148
theorem ok148 : FunOk Try.prog F148 := funB_ok Try.func148 (by kernel_rfl)
noncomputable def q148 : FuncId × Con := conR [q149] F148
theorem w148 : OkQ q148 := oq (ol_cons w149 ol_nil) ok148
-- abaculus/nat.guess callees [97, 96, 148]
def A150 : An := (.seq .leaf (.seq (.seq .leaf (.cond (.seq .leaf .leaf) .leaf)) (.seq .leaf (.block (.loop ⟨[(2, .int .u64), (3, .int .u64), (4, .int .u64), (11, .int .u64), (12, .int .u64)]⟩ [(1, ⟨[(10, .int .u64)]⟩)] (.block (.seq .leaf (.seq (.seq .leaf (.cond (.seq .leaf .leaf) .leaf)) (.seq .leaf (.seq .leaf (.seq .leaf (.seq .leaf (.cond (.seq .leaf .leaf) .leaf)))))))))))))
noncomputable def F150 : Fun := .of 150 Try.f150 [.int .u64, .int .u64, .int .u64, .int .u64, .int .u64] (.int .u64) A150
theorem ok150 : FunOk Try.prog F150 := funB_ok Try.func150 (by kernel_rfl)
noncomputable def q150 : FuncId × Con := conR [q97, q96, q148] F150
theorem w150 : OkQ q150 := oq (ol_cons w97 (ol_cons w96 (ol_cons w148 ol_nil))) ok150
-- abaculus/nat.left callees []
def A98 : An := (.seq .leaf (.seq .leaf (.seq .leaf (.seq (.seq .leaf (.block (.loop ⟨[(0, .sl 1), (1, .int .i64), (7, .own 22 1 false), (8, .int .u64), (14, .int .i64), (15, .int .i64)]⟩ [(2, ⟨[(7, .own 22 1 false)]⟩)] (.seq .leaf (.seq (.cond .leaf .leaf) (.seq (.block (.seq .leaf (.seq .leaf (.seq (.seq .leaf (.cond .leaf .leaf)) (.seq .leaf .leaf))))) .leaf)))))) (.seq .leaf .leaf)))))
noncomputable def F98 : Fun := .of 98 Try.f98 [.sl 1, .int .i64, .int .i64] (.own 22 1 false) A98
theorem ok98 : FunOk Try.prog F98 := funB_ok Try.func98 (by kernel_rfl)
noncomputable def q98 : FuncId × Con := conR [] F98
theorem w98 : OkQ q98 := oq ol_nil ok98
-- abaculus/nat.long callees [99, 152, 151, 150, 98, 149]
def A144 : An := (.seq .leaf (.seq .leaf (.seq .leaf (.seq .leaf (.seq .leaf (.seq (.seq .leaf (.block (.loop ⟨[(6, .int .i64), (7, .int .i64), (8, .sl 1), (9, .sl 1), (10, .own 22 1 false), (11, .int .i64)]⟩ [(2, ⟨[(6, .int .i64), (7, .int .i64), (8, .sl 1), (10, .own 22 1 false)]⟩)] (.seq (.seq .leaf (.cond .leaf .leaf)) (.seq (.block (.seq .leaf (.seq .leaf (.seq (.seq .leaf (.block (.loop ⟨[(6, .int .i64), (7, .int .i64), (8, .sl 1), (9, .sl 1), (10, .own 22 1 false), (11, .int .i64), (12, .int .u64), (13, .sl 1), (14, .bool)]⟩ [(4, ⟨[(6, .int .i64), (7, .int .i64), (8, .sl 1), (9, .sl 1), (10, .own 22 1 false), (11, .int .i64), (12, .int .u64)]⟩)] (.seq (.seq .leaf (.cond .leaf .leaf)) (.seq (.block .leaf) .leaf))))) .leaf)))) .leaf))))) (.seq .leaf .leaf)))))))
noncomputable def F144 : Fun := .of 144 Try.f144 [.sl 1, .sl 1] (.tup [.own 22 1 false, .sl 1]) A144
theorem ok144 : FunOk Try.prog F144 := funB_ok Try.func144 (by kernel_rfl)
noncomputable def q144 : FuncId × Con := conR [q99, q152, q151, q150, q98, q149] F144
theorem w144 : OkQ q144 := oq (ol_cons w99 (ol_cons w152 (ol_cons w151 (ol_cons w150 (ol_cons w98 (ol_cons w149 ol_nil)))))) ok144
-- abaculus/nat.short callees [148]
def A143 : An := (.seq .leaf (.seq .leaf (.seq .leaf (.seq (.seq .leaf (.block (.loop ⟨[(0, .sl 1), (1, .int .u64), (6, .own 22 1 false), (7, .int .u64), (8, .int .i64)]⟩ [(2, ⟨[(6, .own 22 1 false), (7, .int .u64)]⟩)] (.seq (.seq .leaf (.cond .leaf .leaf)) (.seq (.block .leaf) .leaf))))) (.seq .leaf .leaf)))))
noncomputable def F143 : Fun := .of 143 Try.f143 [.sl 1, .int .u64] (.tup [.own 22 1 false, .int .u64]) A143
theorem ok143 : FunOk Try.prog F143 := funB_ok Try.func143 (by kernel_rfl)
noncomputable def q143 : FuncId × Con := conR [q148] F143
theorem w143 : OkQ q143 := oq (ol_cons w148 ol_nil) ok143
-- (abaculus/nat.Nat).Div callees [144, 44, 95, 143, 134]
def A135 : An := (.seq .leaf (.seq (.cut [(1, ⟨[(4, .box 52 1 (.agg [.sl 1])), (5, .box 52 1 (.agg [.sl 1])), (6, .bool)]⟩), (0, ⟨[(2, .box 52 1 (.agg [.sl 1])), (3, .box 52 1 (.agg [.sl 1])), (4, .box 52 1 (.agg [.sl 1])), (5, .box 52 1 (.agg [.sl 1]))]⟩)] (.block (.seq .leaf (.cond (.seq .leaf .leaf) (.seq .leaf (.cond (.seq .leaf .leaf) (.seq .leaf (.cond (.seq .leaf (.seq .leaf .leaf)) .leaf)))))))) (.seq .leaf (.seq .leaf .leaf))))
noncomputable def F135 : Fun := .of 135 Try.f135 [.agg [.sl 1], .agg [.sl 1]] (.tup [.agg [.sl 1], .agg [.sl 1], .bool]) A135
theorem ok135 : FunOk Try.prog F135 := funB_ok Try.func135 (by kernel_rfl)
noncomputable def q135 : FuncId × Con := conR [q144, q44, q95, q143, q134] F135
theorem w135 : OkQ q135 := oq (ol_cons w144 (ol_cons w44 (ol_cons w95 (ol_cons w143 (ol_cons w134 ol_nil))))) ok135
-- (abaculus/whole.Int).Div callees [69, 141, 140, 44, 70, 135]
def A138 : An := (.seq .leaf (.seq .leaf (.seq (.seq .leaf (.cond (.seq .leaf .leaf) .leaf)) (.seq (.seq .leaf (.cond (.seq .leaf .leaf) .leaf)) (.seq .leaf .leaf)))))
noncomputable def F138 : Fun := .of 138 Try.f138 [.agg [.bool, .sl 1], .agg [.bool, .sl 1]] (.tup [.agg [.bool, .sl 1], .agg [.bool, .sl 1], .bool]) A138
theorem ok138 : FunOk Try.prog F138 := funB_ok Try.func138 (by kernel_rfl)
noncomputable def q138 : FuncId × Con := conR [q69, q141, q140, q44, q70, q135] F138
theorem w138 : OkQ q138 := oq (ol_cons w69 (ol_cons w141 (ol_cons w140 (ol_cons w44 (ol_cons w70 (ol_cons w135 ol_nil)))))) ok138
-- abaculus/frac.by callees [138, 69]
def A120 : An := (.seq .leaf (.seq .leaf (.seq .leaf .leaf)))
noncomputable def F120 : Fun := .of 120 Try.f120 [.agg [.bool, .sl 1], .agg [.sl 1]] (.agg [.bool, .sl 1]) A120
theorem ok120 : FunOk Try.prog F120 := funB_ok Try.func120 (by kernel_rfl)
noncomputable def q120 : FuncId × Con := conR [q138, q69] F120
theorem w120 : OkQ q120 := oq (ol_cons w138 (ol_cons w69 ol_nil)) ok120
-- (abaculus/whole.Int).Mul callees [69, 45]
def A122 : An := (.seq .leaf (.seq .leaf .leaf))
noncomputable def F122 : Fun := .of 122 Try.f122 [.agg [.bool, .sl 1], .agg [.bool, .sl 1]] (.agg [.bool, .sl 1]) A122
theorem ok122 : FunOk Try.prog F122 := funB_ok Try.func122 (by kernel_rfl)
noncomputable def q122 : FuncId × Con := conR [q69, q45] F122
theorem w122 : OkQ q122 := oq (ol_cons w69 (ol_cons w45 ol_nil)) ok122
-- abaculus/frac.under callees [135]
def A121 : An := (.seq .leaf (.seq .leaf (.seq .leaf .leaf)))
noncomputable def F121 : Fun := .of 121 Try.f121 [.agg [.sl 1], .agg [.sl 1]] (.agg [.sl 1]) A121
theorem ok121 : FunOk Try.prog F121 := funB_ok Try.func121 (by kernel_rfl)
noncomputable def q121 : FuncId × Con := conR [q135] F121
theorem w121 : OkQ q121 := oq (ol_cons w135 ol_nil) ok121
-- (abaculus/whole.Int).Add callees [141, 69, 140]
def A127 : An := (.seq .leaf (.seq (.seq .leaf (.cond (.seq .leaf .leaf) .leaf)) (.seq (.seq .leaf (.seq .leaf (.cond (.seq .leaf .leaf) .leaf))) (.seq .leaf (.seq .leaf .leaf)))))
noncomputable def F127 : Fun := .of 127 Try.f127 [.agg [.bool, .sl 1], .agg [.bool, .sl 1]] (.agg [.bool, .sl 1]) A127
theorem ok127 : FunOk Try.prog F127 := funB_ok Try.func127 (by kernel_rfl)
noncomputable def q127 : FuncId × Con := conR [q141, q69, q140] F127
theorem w127 : OkQ q127 := oq (ol_cons w141 (ol_cons w69 (ol_cons w140 ol_nil))) ok127
-- abaculus/whole.Of callees [69, 44]
def A63 : An := (.seq .leaf (.seq (.seq .leaf (.cond (.seq .leaf .leaf) .leaf)) (.seq .leaf .leaf)))
noncomputable def F63 : Fun := .of 63 Try.f63 [.int .i64] (.agg [.bool, .sl 1]) A63
theorem ok63 : FunOk Try.prog F63 := funB_ok Try.func63 (by kernel_rfl)
noncomputable def q63 : FuncId × Con := conR [q69, q44] F63
theorem w63 : OkQ q63 := oq (ol_cons w69 (ol_cons w44 ol_nil)) ok63
-- abaculus/whole.mixed callees [127, 122, 69, 63]
def A146 : An := (.seq .leaf (.seq .leaf .leaf))
noncomputable def F146 : Fun := .of 146 Try.f146 [.int .i64, .agg [.sl 1], .int .i64, .agg [.sl 1]] (.agg [.sl 1]) A146
theorem ok146 : FunOk Try.prog F146 := funB_ok Try.func146 (by kernel_rfl)
noncomputable def q146 : FuncId × Con := conR [q127, q122, q69, q63] F146
theorem w146 : OkQ q146 := oq (ol_cons w127 (ol_cons w122 (ol_cons w69 (ol_cons w63 ol_nil)))) ok146
-- (abaculus/nat.Nat).Small callees []
def A47 : An := (.seq .leaf (.seq (.seq .leaf (.block (.seq .leaf (.cond (.seq .leaf .leaf) (.seq .leaf (.cond (.seq .leaf .leaf) .leaf)))))) (.seq .leaf .leaf)))
noncomputable def F47 : Fun := .of 47 Try.f47 [.agg [.sl 1]] (.tup [.int .u64, .bool]) A47
theorem ok47 : FunOk Try.prog F47 := funB_ok Try.func47 (by kernel_rfl)
noncomputable def q47 : FuncId × Con := conR [] F47
theorem w47 : OkQ q47 := oq ol_nil ok47
-- (abaculus/nat.Nat).Shift callees [99, 95, 98]
def A46 : An := (.seq .leaf (.seq .leaf (.seq .leaf (.seq (.seq .leaf (.cond (.seq .leaf .leaf) .leaf)) (.seq (.seq .leaf (.cond (.seq .leaf .leaf) .leaf)) (.seq .leaf .leaf))))))
noncomputable def F46 : Fun := .of 46 Try.f46 [.agg [.sl 1], .int .i64] (.agg [.sl 1]) A46
theorem ok46 : FunOk Try.prog F46 := funB_ok Try.func46 (by kernel_rfl)
noncomputable def q46 : FuncId × Con := conR [q99, q95, q98] F46
theorem w46 : OkQ q46 := oq (ol_cons w99 (ol_cons w95 (ol_cons w98 ol_nil))) ok46
-- abaculus/whole.top callees [47, 46]
def A145 : An := (.seq .leaf (.seq .leaf (.seq .leaf .leaf)))
noncomputable def F145 : Fun := .of 145 Try.f145 [.agg [.sl 1], .int .i64] (.int .i64) A145
theorem ok145 : FunOk Try.prog F145 := funB_ok Try.func145 (by kernel_rfl)
noncomputable def q145 : FuncId × Con := conR [q47, q46] F145
theorem w145 : OkQ q145 := oq (ol_cons w47 (ol_cons w46 ol_nil)) ok145
-- abaculus/whole.nearer callees [146, 135, 145, 70]
def A137 : An := (.seq .leaf (.seq .leaf (.seq .leaf (.seq .leaf (.seq (.cut [(0, ⟨[(2, .box 52 1 (.agg [.sl 1])), (3, .box 52 1 (.agg [.sl 1])), (4, .box 52 1 (.agg [.sl 1])), (5, .box 52 1 (.agg [.sl 1])), (6, .int .i64), (9, .box 188 4 (.agg [.int .i64, .int .i64, .int .i64, .int .i64]))]⟩)] (.block (.loop ⟨[(2, .box 52 1 (.agg [.sl 1])), (3, .box 52 1 (.agg [.sl 1])), (4, .box 52 1 (.agg [.sl 1])), (5, .box 52 1 (.agg [.sl 1])), (6, .int .i64), (7, .int .i64), (8, .int .i64), (9, .box 188 4 (.agg [.int .i64, .int .i64, .int .i64, .int .i64]))]⟩ [(2, ⟨[(2, .box 52 1 (.agg [.sl 1])), (3, .box 52 1 (.agg [.sl 1])), (4, .box 52 1 (.agg [.sl 1])), (5, .box 52 1 (.agg [.sl 1])), (6, .int .i64), (9, .box 188 4 (.agg [.int .i64, .int .i64, .int .i64, .int .i64]))]⟩)] (.seq (.seq .leaf (.cond .leaf .leaf)) (.block (.seq .leaf (.seq (.seq .leaf (.cond .leaf .leaf)) (.seq .leaf .leaf)))))))) (.seq (.seq .leaf (.cond (.seq .leaf (.seq .leaf .leaf)) .leaf)) (.seq .leaf .leaf)))))))
noncomputable def F137 : Fun := .of 137 Try.f137 [.agg [.sl 1], .agg [.sl 1]] (.tup [.agg [.sl 1], .agg [.sl 1]]) A137
theorem ok137 : FunOk Try.prog F137 := funB_ok Try.func137 (by kernel_rfl)
noncomputable def q137 : FuncId × Con := conR [q146, q135, q145, q70] F137
theorem w137 : OkQ q137 := oq (ol_cons w146 (ol_cons w135 (ol_cons w145 (ol_cons w70 ol_nil)))) ok137
-- abaculus/whole.words callees []
def A136 : An := (.seq .leaf (.seq (.block (.loop ⟨[(0, .int .u64), (1, .int .u64)]⟩ [(2, ⟨[(0, .int .u64)]⟩)] (.seq (.seq .leaf (.cond .leaf .leaf)) (.block .leaf)))) (.seq .leaf .leaf)))
noncomputable def F136 : Fun := .of 136 Try.f136 [.int .u64, .int .u64] (.int .u64) A136
theorem ok136 : FunOk Try.prog F136 := funB_ok Try.func136 (by kernel_rfl)
noncomputable def q136 : FuncId × Con := conR [] F136
theorem w136 : OkQ q136 := oq ol_nil ok136
-- abaculus/whole.Gcd callees [137, 44, 136, 135, 47, 134]
def A118 : An := (.seq .leaf (.seq .leaf (.seq (.seq .leaf (.cond .leaf .leaf)) (.block (.loop ⟨[(4, .box 52 1 (.agg [.sl 1])), (5, .box 52 1 (.agg [.sl 1])), (6, .box 52 1 (.agg [.sl 1]))]⟩ [(1, ⟨[(4, .box 52 1 (.agg [.sl 1]))]⟩)] (.block (.seq (.seq .leaf (.seq .leaf (.cond (.seq (.seq .leaf (.cond (.seq .leaf .leaf) .leaf)) (.seq .leaf (.seq .leaf (.seq .leaf .leaf)))) .leaf))) .leaf)))))))
noncomputable def F118 : Fun := .of 118 Try.f118 [.agg [.bool, .sl 1], .agg [.bool, .sl 1]] (.agg [.sl 1]) A118
theorem ok118 : FunOk Try.prog F118 := funB_ok Try.func118 (by kernel_rfl)
noncomputable def q118 : FuncId × Con := conR [q137, q44, q136, q135, q47, q134] F118
theorem w118 : OkQ q118 := oq (ol_cons w137 (ol_cons w44 (ol_cons w136 (ol_cons w135 (ol_cons w47 (ol_cons w134 ol_nil)))))) ok118
-- abaculus/frac.wide callees [69]
def A125 : An := (.seq .leaf (.seq .leaf .leaf))
noncomputable def F125 : Fun := .of 125 Try.f125 [.agg [.sl 1]] (.agg [.bool, .sl 1]) A125
theorem ok125 : FunOk Try.prog F125 := funB_ok Try.func125 (by kernel_rfl)
noncomputable def q125 : FuncId × Con := conR [q69] F125
theorem w125 : OkQ q125 := oq (ol_cons w69 ol_nil) ok125
-- (abaculus/frac.Q).Den callees [44, 70]
def A112 : An := (.seq .leaf (.seq (.seq .leaf (.cond (.seq .leaf .leaf) .leaf)) (.seq .leaf .leaf)))
noncomputable def F112 : Fun := .of 112 Try.f112 [.agg [.bool, .sl 1, .sl 1]] (.agg [.sl 1]) A112
theorem ok112 : FunOk Try.prog F112 := funB_ok Try.func112 (by kernel_rfl)
noncomputable def q112 : FuncId × Con := conR [q44, q70] F112
theorem w112 : OkQ q112 := oq (ol_cons w44 (ol_cons w70 ol_nil)) ok112
-- abaculus/frac.quick callees [119, 44, 63]
def A124 : An := (.seq .leaf (.seq .leaf (.seq (.cut [(0, ⟨[(0, .int .i64), (1, .int .i64), (4, .box 76 3 (.agg [.bool, .sl 1, .sl 1])), (5, .int .i64)]⟩)] (.block (.loop ⟨[(0, .int .i64), (1, .int .i64), (4, .box 76 3 (.agg [.bool, .sl 1, .sl 1])), (5, .int .i64), (6, .int .i64)]⟩ [(2, ⟨[(0, .int .i64), (1, .int .i64), (4, .box 76 3 (.agg [.bool, .sl 1, .sl 1])), (5, .int .i64)]⟩)] (.seq (.seq .leaf (.cond .leaf .leaf)) (.block .leaf))))) (.seq .leaf .leaf))))
noncomputable def F124 : Fun := .of 124 Try.f124 [.int .i64, .int .i64] (.agg [.bool, .sl 1, .sl 1]) A124
theorem ok124 : FunOk Try.prog F124 := funB_ok Try.func124 (by kernel_rfl)
noncomputable def q124 : FuncId × Con := conR [q119, q44, q63] F124
theorem w124 : OkQ q124 := oq (ol_cons w119 (ol_cons w44 (ol_cons w63 ol_nil))) ok124
-- (abaculus/whole.Int).Small callees [47]
def A139 : An := (.seq .leaf (.seq .leaf (.seq (.block (.seq .leaf (.cond (.seq .leaf .leaf) (.seq .leaf (.cond (.seq .leaf .leaf) .leaf))))) (.seq .leaf .leaf))))
noncomputable def F139 : Fun := .of 139 Try.f139 [.agg [.bool, .sl 1]] (.tup [.int .i64, .bool]) A139
theorem ok139 : FunOk Try.prog F139 := funB_ok Try.func139 (by kernel_rfl)
noncomputable def q139 : FuncId × Con := conR [q47] F139
theorem w139 : OkQ q139 := oq (ol_cons w47 ol_nil) ok139
-- (abaculus/frac.Q).short callees [47, 139]
def A123 : An := (.seq .leaf (.seq .leaf (.seq .leaf (.seq .leaf .leaf))))
noncomputable def F123 : Fun := .of 123 Try.f123 [.agg [.bool, .sl 1, .sl 1]] (.tup [.int .i64, .int .i64, .bool]) A123
theorem ok123 : FunOk Try.prog F123 := funB_ok Try.func123 (by kernel_rfl)
noncomputable def q123 : FuncId × Con := conR [q47, q139] F123
theorem w123 : OkQ q123 := oq (ol_cons w47 (ol_cons w139 ol_nil)) ok123
-- (abaculus/frac.Q).Add callees [119, 45, 120, 122, 121, 118, 125, 112, 124, 123, 127, 70]
def A94 : An := (.seq .leaf (.seq (.seq .leaf (.cond (.seq .leaf .leaf) .leaf)) (.seq (.seq .leaf (.seq .leaf (.cond (.seq .leaf (.seq .leaf (.cond (.seq .leaf .leaf) .leaf))) .leaf))) (.seq .leaf (.seq .leaf (.seq .leaf (.seq .leaf (.seq .leaf (.seq .leaf .leaf)))))))))
noncomputable def F94 : Fun := .of 94 Try.f94 [.agg [.bool, .sl 1, .sl 1], .agg [.bool, .sl 1, .sl 1]] (.agg [.bool, .sl 1, .sl 1]) A94
theorem ok94 : FunOk Try.prog F94 := funB_ok Try.func94 (by kernel_rfl)
noncomputable def q94 : FuncId × Con := conR [q119, q45, q120, q122, q121, q118, q125, q112, q124, q123, q127, q70] F94
theorem w94 : OkQ q94 := oq (ol_cons w119 (ol_cons w45 (ol_cons w120 (ol_cons w122 (ol_cons w121 (ol_cons w118 (ol_cons w125 (ol_cons w112 (ol_cons w124 (ol_cons w123 (ol_cons w127 (ol_cons w70 ol_nil)))))))))))) ok94
-- (abaculus/whole.Int).Cmp callees [134]
def A126 : An := (.seq .leaf (.seq (.block (.seq .leaf (.cond (.seq .leaf .leaf) (.seq .leaf (.cond (.seq .leaf .leaf) (.seq .leaf (.cond (.seq .leaf .leaf) .leaf))))))) (.seq .leaf .leaf)))
noncomputable def F126 : Fun := .of 126 Try.f126 [.agg [.bool, .sl 1], .agg [.bool, .sl 1]] (.int .i64) A126
theorem ok126 : FunOk Try.prog F126 := funB_ok Try.func126 (by kernel_rfl)
noncomputable def q126 : FuncId × Con := conR [q134] F126
theorem w126 : OkQ q126 := oq (ol_cons w134 ol_nil) ok126
-- (abaculus/whole.Int).Sign callees [70]
def A31 : An := (.seq .leaf (.seq (.block (.seq .leaf (.cond (.seq .leaf .leaf) (.seq .leaf (.cond (.seq .leaf .leaf) .leaf))))) (.seq .leaf .leaf)))
noncomputable def F31 : Fun := .of 31 Try.f31 [.agg [.bool, .sl 1]] (.int .i64) A31
theorem ok31 : FunOk Try.prog F31 := funB_ok Try.func31 (by kernel_rfl)
noncomputable def q31 : FuncId × Con := conR [q70] F31
theorem w31 : OkQ q31 := oq (ol_cons w70 ol_nil) ok31
-- (abaculus/frac.Q).Sign callees [31]
def A89 : An := (.seq .leaf (.seq .leaf .leaf))
noncomputable def F89 : Fun := .of 89 Try.f89 [.agg [.bool, .sl 1, .sl 1]] (.int .i64) A89
theorem ok89 : FunOk Try.prog F89 := funB_ok Try.func89 (by kernel_rfl)
noncomputable def q89 : FuncId × Con := conR [q31] F89
theorem w89 : OkQ q89 := oq (ol_cons w31 ol_nil) ok89
-- (abaculus/frac.Q).Cmp callees [122, 125, 112, 126, 70, 89]
def A93 : An := (.seq .leaf (.seq (.seq .leaf (.cond (.seq .leaf .leaf) .leaf)) (.seq .leaf .leaf)))
noncomputable def F93 : Fun := .of 93 Try.f93 [.agg [.bool, .sl 1, .sl 1], .agg [.bool, .sl 1, .sl 1]] (.int .i64) A93
theorem ok93 : FunOk Try.prog F93 := funB_ok Try.func93 (by kernel_rfl)
noncomputable def q93 : FuncId × Con := conR [q122, q125, q112, q126, q70, q89] F93
theorem w93 : OkQ q93 := oq (ol_cons w122 (ol_cons w125 (ol_cons w112 (ol_cons w126 (ol_cons w70 (ol_cons w89 ol_nil)))))) ok93
-- (abaculus/frac.Q).Mul callees [119, 45, 121, 120, 118, 125, 112, 124, 123, 122, 70]
def A92 : An := (.seq .leaf (.seq (.seq .leaf (.cond (.seq .leaf .leaf) .leaf)) (.seq (.seq .leaf (.seq .leaf (.cond (.seq .leaf (.seq .leaf (.cond (.seq .leaf .leaf) .leaf))) .leaf))) (.seq .leaf (.seq .leaf (.seq .leaf .leaf))))))
noncomputable def F92 : Fun := .of 92 Try.f92 [.agg [.bool, .sl 1, .sl 1], .agg [.bool, .sl 1, .sl 1]] (.agg [.bool, .sl 1, .sl 1]) A92
theorem ok92 : FunOk Try.prog F92 := funB_ok Try.func92 (by kernel_rfl)
noncomputable def q92 : FuncId × Con := conR [q119, q45, q121, q120, q118, q125, q112, q124, q123, q122, q70] F92
theorem w92 : OkQ q92 := oq (ol_cons w119 (ol_cons w45 (ol_cons w121 (ol_cons w120 (ol_cons w118 (ol_cons w125 (ol_cons w112 (ol_cons w124 (ol_cons w123 (ol_cons w122 (ol_cons w70 ol_nil))))))))))) ok92
-- (abaculus/whole.Int).Abs callees []
def A104 : An := (.seq .leaf (.seq .leaf .leaf))
noncomputable def F104 : Fun := .of 104 Try.f104 [.agg [.bool, .sl 1]] (.agg [.sl 1]) A104
theorem ok104 : FunOk Try.prog F104 := funB_ok Try.func104 (by kernel_rfl)
noncomputable def q104 : FuncId × Con := conR [] F104
theorem w104 : OkQ q104 := oq ol_nil ok104
-- (abaculus/whole.Int).Neg callees [69]
def A117 : An := (.seq .leaf (.seq .leaf .leaf))
noncomputable def F117 : Fun := .of 117 Try.f117 [.agg [.bool, .sl 1]] (.agg [.bool, .sl 1]) A117
theorem ok117 : FunOk Try.prog F117 := funB_ok Try.func117 (by kernel_rfl)
noncomputable def q117 : FuncId × Con := conR [q69] F117
theorem w117 : OkQ q117 := oq (ol_cons w69 ol_nil) ok117
-- abaculus/frac.Make callees [119, 121, 104, 120, 118, 117, 31]
def A91 : An := (.seq .leaf (.seq (.seq .leaf (.block (.seq .leaf (.cond (.seq .leaf .leaf) (.seq .leaf (.cond .leaf .leaf)))))) (.seq .leaf (.seq .leaf .leaf))))
noncomputable def F91 : Fun := .of 91 Try.f91 [.agg [.bool, .sl 1], .agg [.bool, .sl 1]] (.tup [.agg [.bool, .sl 1, .sl 1], .bool]) A91
theorem ok91 : FunOk Try.prog F91 := funB_ok Try.func91 (by kernel_rfl)
noncomputable def q91 : FuncId × Con := conR [q119, q121, q104, q120, q118, q117, q31] F91
theorem w91 : OkQ q91 := oq (ol_cons w119 (ol_cons w121 (ol_cons w104 (ol_cons w120 (ol_cons w118 (ol_cons w117 (ol_cons w31 ol_nil))))))) ok91
-- abaculus/frac.Sum callees [94]
def A90 : An := (.seq .leaf (.seq .leaf (.seq (.seq .leaf (.block (.loop ⟨[(2, .box 76 3 (.agg [.bool, .sl 1, .sl 1])), (3, .box 76 3 (.agg [.bool, .sl 1, .sl 1])), (6, .sl 3), (7, .int .i64), (8, .int .i64)]⟩ [(2, ⟨[(2, .box 76 3 (.agg [.bool, .sl 1, .sl 1])), (3, .box 76 3 (.agg [.bool, .sl 1, .sl 1]))]⟩)] (.seq .leaf (.seq (.cond .leaf .leaf) (.seq (.block (.seq .leaf .leaf)) .leaf)))))) (.seq .leaf .leaf))))
noncomputable def F90 : Fun := .of 90 Try.f90 [.sl 3] (.agg [.bool, .sl 1, .sl 1]) A90
theorem ok90 : FunOk Try.prog F90 := funB_ok Try.func90 (by kernel_rfl)
noncomputable def q90 : FuncId × Con := conR [q94] F90
theorem w90 : OkQ q90 := oq (ol_cons w94 ol_nil) ok90
-- (*abaculus/dice.Dice).Pick callees [94, 93, 92, 91, 46, 69, 44, 15, 90, 89]
def A43 : An := (.seq .leaf (.seq (.seq .leaf (.block (.loop ⟨[(0, .box 98 1 (.agg [.int .u64])), (1, .sl 3), (14, .sl 3), (15, .int .i64), (16, .int .i64)]⟩ [(2, ⟨[(0, .box 98 1 (.agg [.int .u64])), (1, .sl 3)]⟩), (1, ⟨[(0, .box 98 1 (.agg [.int .u64])), (4, .int .i64), (5, .bool)]⟩)] (.seq .leaf (.seq (.cond .leaf .leaf) (.seq (.block (.seq .leaf (.seq .leaf (.cond (.seq .leaf .leaf) .leaf)))) .leaf)))))) (.seq .leaf (.seq (.seq .leaf (.cond (.seq .leaf .leaf) .leaf)) (.seq .leaf (.seq .leaf (.seq (.block (.loop ⟨[(0, .box 98 1 (.agg [.int .u64])), (1, .sl 3), (11, .box 76 3 (.agg [.bool, .sl 1, .sl 1])), (12, .box 76 3 (.agg [.bool, .sl 1, .sl 1])), (13, .int .i64)]⟩ [(4, ⟨[(0, .box 98 1 (.agg [.int .u64])), (13, .int .i64)]⟩)] (.seq (.seq .leaf (.cond .leaf .leaf)) (.block (.seq .leaf .leaf))))) (.seq .leaf .leaf))))))))
noncomputable def F43 : Fun := .of 43 Try.f43 [.box 98 1 (.agg [.int .u64]), .sl 3] (.tup [.int .i64, .bool]) A43
theorem ok43 : FunOk Try.prog F43 := funB_ok Try.func43 (by kernel_rfl)
noncomputable def q43 : FuncId × Con := conR [q94, q93, q92, q91, q46, q69, q44, q15, q90, q89] F43
theorem w43 : OkQ q43 := oq (ol_cons w94 (ol_cons w93 (ol_cons w92 (ol_cons w91 (ol_cons w46 (ol_cons w69 (ol_cons w44 (ol_cons w15 (ol_cons w90 (ol_cons w89 ol_nil)))))))))) ok43
-- abaculus/frac.Of callees [63]
def A42 : An := (.seq .leaf (.seq .leaf .leaf))
noncomputable def F42 : Fun := .of 42 Try.f42 [.int .i64] (.agg [.bool, .sl 1, .sl 1]) A42
theorem ok42 : FunOk Try.prog F42 := funB_ok Try.func42 (by kernel_rfl)
noncomputable def q42 : FuncId × Con := conR [q63] F42
theorem w42 : OkQ q42 := oq (ol_cons w63 ol_nil) ok42
-- abaculus/dice.asked callees []
def A58 : An := (.seq .leaf (.seq .leaf (.seq (.seq .leaf (.block (.loop ⟨[(0, .fn 57 [.box 98 1 (.agg [.int .u64])] []), (1, .int .i64), (7, .own 3 1 false), (12, .int .i64), (13, .int .i64)]⟩ [(2, ⟨[(0, .fn 57 [.box 98 1 (.agg [.int .u64])] []), (7, .own 3 1 false)]⟩)] (.seq .leaf (.seq (.cond .leaf .leaf) (.seq (.block (.seq .leaf .leaf)) .leaf)))))) (.seq .leaf .leaf))))
noncomputable def F58 : Fun := .of 58 Try.f58 [.fn 57 [.box 98 1 (.agg [.int .u64])] [], .int .i64, .int .i64] (.own 3 1 false) A58
theorem ok58 : FunOk Try.prog F58 := funB_ok Try.func58 (by kernel_rfl)
noncomputable def q58 : FuncId × Con := conR [] F58
theorem w58 : OkQ q58 := oq ol_nil ok58
-- (*abaculus/dice.Dice).Below callees [15]
def A57 : An := (.seq .leaf (.seq (.seq .leaf (.cond (.seq .leaf .leaf) .leaf)) (.seq .leaf (.block (.loop ⟨[(0, .box 98 1 (.agg [.int .u64])), (1, .int .i64), (5, .int .u64)]⟩ [(1, ⟨[(0, .box 98 1 (.agg [.int .u64])), (4, .int .i64)]⟩)] (.block (.seq .leaf (.seq .leaf (.cond (.seq .leaf .leaf) .leaf)))))))))
noncomputable def F57 : Fun := .of 57 Try.f57 [.box 98 1 (.agg [.int .u64]), .int .i64] (.int .i64) A57
theorem ok57 : FunOk Try.prog F57 := funB_ok Try.func57 (by kernel_rfl)
noncomputable def q57 : FuncId × Con := conR [q15] F57
theorem w57 : OkQ q57 := oq (ol_cons w15 ol_nil) ok57
-- (*abaculus/dice.Dice).Draw callees [58, 57]
def A21 : An := (.seq .leaf (.seq (.seq .leaf (.cond (.seq .leaf .leaf) .leaf)) (.seq .leaf .leaf)))
noncomputable def F21 : Fun := .of 21 Try.f21 [.box 98 1 (.agg [.int .u64]), .int .i64, .int .i64] (.sl 1) A21
theorem ok21 : FunOk Try.prog F21 := funB_ok Try.func21 (by kernel_rfl)
noncomputable def q21 : FuncId × Con := conR [q58, q57] F21
theorem w21 : OkQ q21 := oq (ol_cons w58 (ol_cons w57 ol_nil)) ok21
-- (*abaculus/dice.Dice).Order callees [57]
def A19 : An := (.seq .leaf (.seq (.seq .leaf (.cond (.seq .leaf .leaf) .leaf)) (.seq .leaf (.seq (.seq .leaf (.block (.loop ⟨[(0, .box 98 1 (.agg [.int .u64])), (1, .int .i64), (5, .own 3 1 false), (18, .int .i64), (19, .int .i64)]⟩ [(2, ⟨[(0, .box 98 1 (.agg [.int .u64])), (1, .int .i64), (5, .own 3 1 false)]⟩)] (.seq .leaf (.seq (.cond .leaf .leaf) (.seq (.block (.seq .leaf .leaf)) .leaf)))))) (.seq (.seq .leaf (.block (.loop ⟨[(0, .box 98 1 (.agg [.int .u64])), (5, .own 3 1 false), (7, .int .i64)]⟩ [(4, ⟨[(0, .box 98 1 (.agg [.int .u64])), (5, .own 3 1 false)]⟩)] (.seq (.seq .leaf (.cond .leaf .leaf)) (.seq (.block (.seq .leaf .leaf)) .leaf))))) (.seq .leaf .leaf))))))
noncomputable def F19 : Fun := .of 19 Try.f19 [.box 98 1 (.agg [.int .u64]), .int .i64] (.own 3 1 false) A19
theorem ok19 : FunOk Try.prog F19 := funB_ok Try.func19 (by kernel_rfl)
noncomputable def q19 : FuncId × Con := conR [q57] F19
theorem w19 : OkQ q19 := oq (ol_cons w57 ol_nil) ok19
-- (*abaculus/dice.Dice).State callees []
def A16 : An := (.seq .leaf (.seq .leaf .leaf))
noncomputable def F16 : Fun := .of 16 Try.f16 [.box 98 1 (.agg [.int .u64])] (.int .u64) A16
theorem ok16 : FunOk Try.prog F16 := funB_ok Try.func16 (by kernel_rfl)
noncomputable def q16 : FuncId × Con := conR [] F16
theorem w16 : OkQ q16 := oq ol_nil ok16
-- abaculus/abaculuslaw5.known callees [16, 15, 12]
def A13 : An := (.seq .leaf (.seq .leaf (.seq .leaf .leaf)))
noncomputable def F13 : Fun := .of 13 Try.f13 [] (.bool) A13
theorem ok13 : FunOk Try.prog F13 := funB_ok Try.func13 (by kernel_rfl)
noncomputable def q13 : FuncId × Con := conR [q16, q15, q12] F13
theorem w13 : OkQ q13 := oq (ol_cons w16 (ol_cons w15 (ol_cons w12 ol_nil))) ok13
-- abaculus/abaculuslaw5.DiceKnown callees [14, 43, 42, 21, 19, 16, 57, 13, 12]
def A11 : An := (.seq .leaf (.seq .leaf (.seq (.seq .leaf (.cond (.seq .leaf .leaf) .leaf)) (.seq .leaf (.seq .leaf (.seq .leaf (.seq .leaf (.seq .leaf (.seq .leaf (.seq .leaf (.seq .leaf (.seq .leaf (.seq .leaf .leaf)))))))))))))
noncomputable def F11 : Fun := .of 11 Try.f11 [] (.bool) A11
theorem ok11 : FunOk Try.prog F11 := funB_ok Try.func11 (by kernel_rfl)
noncomputable def q11 : FuncId × Con := conR [q14, q43, q42, q21, q19, q16, q57, q13, q12] F11
theorem w11 : OkQ q11 := oq (ol_cons w14 (ol_cons w43 (ol_cons w42 (ol_cons w21 (ol_cons w19 (ol_cons w16 (ol_cons w57 (ol_cons w13 (ol_cons w12 ol_nil))))))))) ok11
end Go.Proofs.Ytoocidelbmbgcaa.Kn
