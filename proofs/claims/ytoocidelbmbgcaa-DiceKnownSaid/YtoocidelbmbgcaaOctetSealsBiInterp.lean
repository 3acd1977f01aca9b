/- Part of the proofs: the verified interpreter for the program's functions, or lemmas on what they compute; no condition. -/
import Derived.Test.YtoocidelbmbgcaaOctetSealsBiBase
namespace Go.Ai

def AV.widths : List AV → Nat | [x] => x.width | _ => 0

/-! ### Shapes -/
inductive Sh where
  | int (k : IntKind)
  | bool
  | str
  | sl (sz : Nat)
  | agg (ls : List Sh)
  | tup (ls : List Sh)
  | own (ty sz : Nat) (lent : Bool)
  | box (ty sz : Nat) (s : Sh)
  | fn (f : Nat) (l m : List Sh)
  deriving Inhabited

section
variable {β : Type}
def fitI (k : IntKind) (x : AV) (K : Int → Option β) : Option β := match x with | .int k' n => if k' = k then K n else none | _ => none
def fitB (x : AV) (K : Bool → Option β) : Option β := match x with | .bool b => K b | _ => none
def fitStr (x : AV) (K : ByteArray → Option β) : Option β := match x with | .str s => K s | _ => none
def fitS (sz : Nat) (x : AV) (K : List AV → Option β) : Option β := match x with | .sl sz' xs => bif Nat.beq sz' sz then K xs else none | .nils => K [] | _ => none
def lenK (x : AV) (K : Nat → Option β) : Option β := match x with | .sl _ xs => K xs.length | .nils => K 0 | _ => none
def fitA (x : AV) (K : List AV → Option β) : Option β := match x with | .agg cs => K cs | _ => none
def fitT (x : AV) (K : List AV → Option β) : Option β := match x with | .tup cs => K cs | _ => none
def fitX (x : AV) (K : List AV → Option β) : Option β := match x with | .box cs => K cs | _ => none
def fitO (sz : Nat) (x : AV) (K : List AV → Option (Nat × Nat) → Option β) : Option β := match x with | .own sz' xs p => bif Nat.beq sz' sz then K xs p else none | _ => none
def fitF (f : Nat) (x : AV) (K : List AV → List AV → Option β) : Option β := match x with | .fn g l m => bif Nat.beq g f then K l m else none | _ => none
def hdK (l : List AV) (K : AV → List AV → Option β) : Option β := match l with | x :: xs => K x xs | [] => none
def nlK (l : List AV) (r : Option β) : Option β := match l with | [] => r | _ :: _ => none
def nthK (l : List AV) (i : Nat) (K : AV → Option β) : Option β := match l[i]? with | some x => K x | none => none
def br (b : Bool) (x y : Option β) : Option β := match b with | true => x | false => y
def idxK (n : Int) (len : Nat) (K : Nat → Option β) : Option β := match decide (0 ≤ n ∧ n < (len : Int)) with | true => K n.toNat | false => none
def okK (p : Prop) [Decidable p] (K : Option β) : Option β := match decide p with | true => K | false => none
mutual
def fitK : Sh → AV → (AV → Option β) → Option β
  | .int k, x, K => fitI k x fun n => K (.int k n)
  | .bool, x, K => fitB x fun b => K (.bool b)
  | .str, x, K => fitStr x fun s => K (.str s)
  | .sl sz, x, K => fitS sz x fun xs => K (.sl sz xs)
  | .agg ls, x, K => fitA x fun cs => fitL ls cs fun cs' => K (.agg cs')
  | .tup ls, x, K => fitT x fun cs => fitL ls cs fun cs' => K (.tup cs')
  | .own _ sz _, x, K => fitO sz x fun xs p => K (.own sz xs p)
  | .box _ sz s, x, K => fitX x fun cs => hdK cs fun c cs => nlK cs (fitK s c fun c' => bif Nat.beq c'.width sz then K (.box [c']) else none)
  | .fn f ls ms, x, K => fitF f x fun l m => fitL ls l fun l' => fitL ms m fun m' => K (.fn f l' m')
def fitL : List Sh → List AV → (List AV → Option β) → Option β
  | [], cs, K => nlK cs (K [])
  | s :: ss, cs, K => hdK cs fun c cs => fitK s c fun c' => fitL ss cs fun cs' => K (c' :: cs')
end
/-- Goes on by the number of what came. -/
def sel {α : Type} (r : Option (Nat × α)) (l : List (α → Option β)) : Option β := match r with | some (j, a) => (match l[j]? with | some f => f a | none => none) | none => none
end

/-! ### Types and callees -/
inductive TK where
  | int (k : IntKind)
  | bool
  | str
  | slice (e : TypeId)
  | ptr (e : TypeId)
  | struct (fs : List (Nat × TypeId))
  | array (n : Nat) (e : TypeId)
  | tuple
  deriving Inhabited
structure TI where
  tk : TK
  size : Nat
  bytes : Nat
  zero : AV
  sh : Sh
  deriving Inhabited
/-- A callee: what it makes of its arguments (and what those of them that are the call's own are afterwards), and the arguments' and the result's shapes. -/
structure Con where
  F : List AV → Option (AV × List AV)
  pars : List Sh
  res : Sh
  pre : List AV → Bool := fun _ => true
def preK {β : Type} (b : Bool) (K : Option β) : Option β := match b with | true => K | false => none
/-- What it answers, where it may be asked. -/
def Con.G (c : Con) (args : List AV) : Option (AV × List AV) := preK (c.pre args) (c.F args)
/-- The arithmetic: the real one, or hidden. -/
structure Ar where
  wrap : IntKind → Int → Int
  quo : Int → Int → Int
  rem : Int → Int → Int
  and : IntKind → Int → Int → Int
  or : IntKind → Int → Int → Int
  xor : IntKind → Int → Int → Int
  andNot : IntKind → Int → Int → Int
  shl : IntKind → Int → Int → Int
  shr : IntKind → Int → Int → Int
def real : Ar where
  wrap k n := k.wrap n
  quo := Int.tdiv
  rem := Int.tmod
  and k x y := k.wrap (BitVec.ofInt k.bits x &&& BitVec.ofInt k.bits y).toNat
  or k x y := k.wrap (BitVec.ofInt k.bits x ||| BitVec.ofInt k.bits y).toNat
  xor k x y := k.wrap (BitVec.ofInt k.bits x ^^^ BitVec.ofInt k.bits y).toNat
  andNot k x y := k.wrap (BitVec.ofInt k.bits x &&& ~~~ BitVec.ofInt k.bits y).toNat
  shl k a b := k.wrap (a * 2 ^ (min b.toNat k.bits))
  shr k a b := a.fdiv (2 ^ (min b.toNat k.bits))
theorem hidden {α : Type} (x : α) : ∃ y : α, y = x := ⟨x, rfl⟩
/-- The same, but nothing computes it. -/
noncomputable def hide {α : Type} (x : α) : α := Classical.choose (hidden x)
theorem hide_eq {α : Type} (x : α) : hide x = x := Classical.choose_spec (hidden x)
noncomputable def veiled : Ar := ⟨hide real.wrap, hide real.quo, hide real.rem, hide real.and, hide real.or, hide real.xor, hide real.andNot, hide real.shl, hide real.shr⟩
theorem veiled_real : veiled = real := by simp only [veiled, hide_eq]

structure Ctx where
  ar : Ar
  P : Program
  ty : TypeId → Option TI
  fn : FuncId → Option Con

/-! ### States -/
inductive RSt where
  | live | still | gone
  deriving DecidableEq, Inhabited
structure Root where
  ver : Nat
  ty : TypeId
  sz : Nat
  bx : Bool
  st : RSt
  xs : List AV
  deriving Inhabited
structure St where
  env : Nat → AV
  L : Nat → Option Root
structure Eff where
  v : AV
  ups : List (Nat × Root)
  rr : List Nat

def setAt {α : Type} (f : Nat → α) (i : Nat) (x : α) : Nat → α := fun j => bif Nat.beq j i then x else f j
def St.slot (σ : St) (d : Option Nat) (v : AV) : St := match d with | some d => { σ with env := setAt σ.env d v } | none => σ
def St.ups (σ : St) : List (Nat × Root) → St
  | [] => σ
  | (r, R) :: l => St.ups { σ with L := setAt σ.L r (some R) } l
def St.eff (σ : St) (d : Option Nat) (e : Eff) : St := (σ.ups e.ups).slot d e.v
def St.next (σ : St) (r : Nat) : Nat := match σ.L r with | some R => R.ver + 1 | none => 0

def ofConst1 : Value → AV
  | .int k n => .int k n
  | .bool b => .bool b
  | .string s => .str s
  | .pointer none => .nilp
  | .slice none 0 0 => .nils
  | _ => .dead
def ofConst : Value → AV
  | .agg cs => bif (cs.toList.map ofConst1).all AV.leaf then .agg (cs.toList.map ofConst1) else .dead
  | v => ofConst1 v
def opd (σ : St) : Operand → AV
  | .tmp t => σ.env t
  | .const v => ofConst v
  | .func f => .fn f [] []
  | _ => .dead

/-- The root a reference leads to, while it stands. -/
def rootK {β : Type} (σ : St) (r v : Nat) (K : Root → Option β) : Option β :=
  match σ.L r with
  | some R => bif Nat.beq R.ver v && !(R.st == .gone) then K R else none
  | none => none
def liveK {β : Type} (σ : St) (r v : Nat) (K : Root → Option β) : Option β :=
  match σ.L r with
  | some R => bif Nat.beq R.ver v && (R.st == .live) then K R else none
  | none => none
def partOf (xs : List AV) : Option (Nat × Nat) → List AV
  | none => xs
  | some (o, n) => (xs.drop o).take n
/-- As plain data; the roots that are read for it. -/
def data1K {β : Type} (σ : St) (x : AV) (K : AV → List Nat → Option β) : Option β :=
  match x with
  | .ref r v [] p => rootK σ r v fun R => bif R.bx then none else K (.sl R.sz (partOf R.xs p)) [r]
  | .int _ _ | .bool _ | .str _ | .nilp | .nils | .sl _ _ => K x []
  | _ => none
def dataCK {β : Type} (σ : St) (l : List AV) (K : List AV → List Nat → Option β) : Option β :=
  match l with
  | [] => K [] []
  | x :: xs => data1K σ x fun y rs => dataCK σ xs fun ys rs' => K (y :: ys) (rs ++ rs')
def dataK {β : Type} (σ : St) (x : AV) (K : AV → List Nat → Option β) : Option β :=
  match x with
  | .agg cs => dataCK σ cs fun ys rs => K (.agg ys) rs
  | x => data1K σ x K
def freezeUps (σ : St) : List Nat → List (Nat × Root)
  | [] => []
  | r :: rs => match σ.L r with
    | some R => (r, { R with st := .still }) :: freezeUps σ rs
    | none => freezeUps σ rs

def tyK {β : Type} (Γ : Ctx) (t : TypeId) (K : TI → Option β) : Option β := match Γ.ty t with | some i => K i | none => none
def isAggT : TK → Bool | .struct _ | .array _ _ => true | _ => false
/-- The part of type i from cell off on. -/
def partK {β : Type} (i : TI) (cs : List AV) (off : Nat) (K : AV → Option β) : Option β :=
  bif isAggT i.tk then (bif Nat.ble (off + i.size) cs.length && ((cs.drop off).take i.size).all AV.leaf then K (.agg ((cs.drop off).take i.size)) else none)
  else match cs[off]? with | some c => bif c.leaf then K c else none | none => none
/-- What may lie in a cell of a box of the call's own. -/
def AV.cellB : AV → Bool
  | .ref _ _ _ _ | .loc _ _ _ _ _ => true
  | x => x.leaf
def partC {β : Type} (i : TI) (cs : List AV) (off : Nat) (K : AV → Option β) : Option β :=
  bif isAggT i.tk then (bif Nat.ble (off + i.size) cs.length && ((cs.drop off).take i.size).all AV.cellB then K (.agg ((cs.drop off).take i.size)) else none)
  else match cs[off]? with | some c => bif c.cellB then K c else none | none => none
/-- A value of one cell, or of a struct's. -/
def cellsK {β : Type} (x : AV) (K : List AV → Option β) : Option β := match x with
  | .agg cs => bif cs.all AV.cellB then K cs else none
  | x => bif x.cellB then K [x] else none
/-- One cell of data, written out. -/
def AV.leafN : AV → Bool
  | .nils => false
  | x => x.leaf
/-- What may lie in a cell, as a tree. -/
def AV.treeB : AV → Bool
  | .own _ _ _ | .box _ | .dead => true
  | x => x.leaf
/-- A cell's, or a struct's, as a tree. -/
def AV.oneT : AV → Bool
  | .agg _ => true
  | x => x.treeB
def remake (e : AV) (cs : List AV) : AV := match e with
  | .agg _ => .agg cs
  | _ => match cs with | [c] => c | _ => .dead
def splice (cs new : List AV) (off : Nat) : List AV := cs.take off ++ new ++ cs.drop (off + new.length)
def offK {β : Type} (fs : List (Nat × TypeId)) (f : Nat) (K : Nat → TypeId → Option β) : Option β := match fs[f]? with | some (o, t) => K o t | none => none
def repackA (cs : List AV) : AV := .agg cs

def binI (A : Ar) (op : BinOp) (k : IntKind) (x y : Int) : Option AV :=
  match op with
  | .add => some (.int k (A.wrap k (x + y)))
  | .sub => some (.int k (A.wrap k (x - y)))
  | .mul => some (.int k (A.wrap k (x * y)))
  | .quo => okK (y ≠ 0) (some (.int k (A.wrap k (A.quo x y))))
  | .rem => okK (y ≠ 0) (some (.int k (A.rem x y)))
  | .and => some (.int k (A.and k x y))
  | .or => some (.int k (A.or k x y))
  | .xor => some (.int k (A.xor k x y))
  | .andNot => some (.int k (A.andNot k x y))
  | .eql => some (.bool (x == y))
  | .neq => some (.bool (x != y))
  | .lss => some (.bool (decide (x < y)))
  | .leq => some (.bool (decide (x ≤ y)))
  | .gtr => some (.bool (decide (x > y)))
  | .geq => some (.bool (decide (x ≥ y)))
  | _ => none
def binS (op : BinOp) (x y : ByteArray) : Option AV :=
  match op with
  | .add => okK (((x.size + y.size : Nat) : Int) ≤ IntKind.i64.max) (some (.str (x ++ y)))
  | .eql => some (.bool (x.toList == y.toList))
  | .neq => some (.bool (!(x.toList == y.toList)))
  | _ => none
def isPtr : AV → Bool | .loc _ _ _ _ _ | .elm _ _ => true | _ => false
def isBoolT : Option TK → Bool | some .bool => true | _ => false
def isPtrT : Option TK → Bool | some (.ptr _) => true | _ => false
def bin (A : Ar) (tk : Option TK) (op : BinOp) (x y : AV) : Option AV :=
  match x, y with
  | .int k a, .int k' b => match op with
    | .shl => okK (0 ≤ b) (some (.int k (A.shl k a b)))
    | .shr => okK (0 ≤ b) (some (.int k (A.shr k a b)))
    | op => if k = k' then binI A op k a b else none
  | .bool a, .bool b => bif isBoolT tk then (match op with
    | .eql => some (.bool (a == b))
    | .neq => some (.bool (!(a == b)))
    | _ => none) else none
  | .str a, .str b => binS op a b
  | x, y => bif isPtrT tk then (match op, x, y with
    | .eql, .nilp, .nilp => some (.bool true)
    | .neq, .nilp, .nilp => some (.bool false)
    | .eql, .nilp, y => bif isPtr y then some (.bool false) else none
    | .neq, .nilp, y => bif isPtr y then some (.bool true) else none
    | .eql, x, .nilp => bif isPtr x then some (.bool false) else none
    | .neq, x, .nilp => bif isPtr x then some (.bool true) else none
    | _, _, _ => none) else none
/-- What must hold of the operands. -/
def binPre (op : BinOp) (x y : AV) : Bool := match x, y with
  | .int _ _, .int _ b => (match op with
    | .quo => decide (b ≠ 0)
    | .rem => decide (b ≠ 0)
    | .shl => decide (0 ≤ b)
    | .shr => decide (0 ≤ b)
    | _ => true)
  | .str a, .str b => (match op with
    | .add => decide (((a.size + b.size : Nat) : Int) ≤ IntKind.i64.max)
    | _ => true)
  | _, _ => true
/-- .. and what comes out then. -/
def binU (A : Ar) (tk : Option TK) (op : BinOp) (x y : AV) : Option AV :=
  match x, y with
  | .int k a, .int k' b => match op with
    | .shl => some (.int k (A.shl k a b))
    | .shr => some (.int k (A.shr k a b))
    | .quo => if k = k' then some (.int k (A.wrap k (A.quo a b))) else none
    | .rem => if k = k' then some (.int k (A.rem a b)) else none
    | op => if k = k' then binI A op k a b else none
  | .str a, .str b => match op with
    | .add => some (.str (a ++ b))
    | op => binS op a b
  | x, y => bin A tk op x y
def un (A : Ar) (op : UnOp) (x : AV) : Option AV :=
  match op, x with
  | .neg, .int k n => some (.int k (A.wrap k (0 - n)))
  | .xor, .int k n => binI A .xor k (if k.signed then -1 else k.max) n
  | .not, .bool b => some (.bool !b)
  | _, _ => none
def valK {β : Type} (v : Option AV) (K : AV → Option β) : Option β := match v with | some v => K v | none => none
def dstK {β : Type} (o : Oper) (K : Nat → Option β) : Option β := match o.dst with | some d => K d | none => none
def strAVs (s : ByteArray) : List AV := s.data.toList.map fun b => .int .u8 b.toNat
def byteOf? : AV → Option UInt8
  | .int .u8 n => some (UInt8.ofNat n.toNat)
  | _ => none
def bytesK {β : Type} (xs : List AV) (K : ByteArray → Option β) : Option β := match xs.mapM byteOf? with | some l => K ⟨l.toArray⟩ | none => none
def byteK {β : Type} (s : ByteArray) (i : Nat) (K : UInt8 → Option β) : Option β := match s.data[i]? with | some b => K b | none => none
def mkElem (agg : Bool) (cells : List AV) : AV := bif agg then .agg cells else match cells with | [c] => c | _ => .dead
def disj (l : List Nat) (m : List Nat) : Bool := l.all fun x => !m.contains x
def distinct : List Nat → Bool | [] => true | x :: xs => !xs.contains x && distinct xs

/-- A struct's cells, part by part. -/
def buildK {β : Type} (Γ : Ctx) (σ : St) (fs : List (Nat × TypeId)) : List (Nat × Operand) → List AV → (List AV → Option β) → Option β
  | [], cs, K => K cs
  | (f, x) :: ps, cs, K => offK fs f fun o t => tyK Γ t fun ti => cellsK (opd σ x) fun ys =>
      bif Nat.beq ys.length ti.size && Nat.ble (o + ti.size) cs.length then buildK Γ σ fs ps (splice cs ys o) K else none
def fillK {β : Type} (σ : St) (sz : Nat) : List (Nat × Operand) → List AV → List Nat → (List AV → List Nat → Option β) → Option β
  | [], xs, rs, K => K xs rs
  | (i, x) :: ps, xs, rs, K => dataK σ (opd σ x) fun y rs' =>
      bif Nat.beq y.width sz && Nat.blt i xs.length then fillK σ sz ps (xs.set i y) (rs ++ rs') K else none
/-- Names of what lies in other things. -/
def nm (n j : Nat) : Nat := 4096 + (n * 64 + j)
mutual
/-- Is there a part that is the call's own? -/
def Sh.owns : Sh → Bool
  | .own _ _ lent => lent
  | .box _ _ _ => true
  | .agg ls => Sh.ownsL ls
  | .tup ls => Sh.ownsL ls
  | .fn _ l m => Sh.ownsL l || Sh.ownsL m
  | _ => false
def Sh.ownsL : List Sh → Bool
  | [] => false
  | s :: l => s.owns || Sh.ownsL l
end
def Sh.row : Sh → Bool
  | .own _ _ lent => lent
  | _ => false
def Sh.isOwn : Sh → Bool
  | .own _ _ _ => true
  | _ => false
mutual
/-- A value as a tree of this shape; the roots that are read, and those that are the tree's own. -/
def closeK {β : Type} (σ : St) (tol : Bool) : Sh → AV → (AV → List Nat → List Nat → Option β) → Option β
  | .own ty sz _, x, K => match x with
    | .ref q v [] part => match σ.L q with
      | some R => bif Nat.beq R.ver v && (R.st == .live) then
            (bif !R.bx && Nat.beq R.ty ty && Nat.beq R.sz sz then K (.own sz R.xs part) [] [q] else none)
          else bif tol then K .dead [] [] else none
      | none => none
    | .nils => K (.own sz [] none) [] []
    | _ => none
  | .box ty sz s, x, K => match x with
    | .loc q v [] 0 0 => liveK σ q v fun R => bif R.bx && Nat.beq R.ty ty && Nat.beq R.sz sz then
        nthK R.xs 0 fun y => closeK σ false s y fun y' rs us => K (.box [y']) rs (q :: us) else none
    | _ => none
  | .agg ls, x, K => fitA x fun cs => closeL σ tol ls cs fun ys rs us => bif ys.all AV.treeB then K (.agg ys) rs us else none
  | .tup ls, x, K => fitT x fun cs => closeL σ tol ls cs fun ys rs us => K (.tup ys) rs us
  | .fn f ls ms, x, K => fitF f x fun l m => closeL σ tol ls l fun l' rs us => closeL σ tol ms m fun m' rs' us' => K (.fn f l' m') (rs ++ rs') (us ++ us')
  | s, x, K => dataK σ x fun y rs => fitK s y fun y' => K y' rs []
def closeL {β : Type} (σ : St) (tol : Bool) : List Sh → List AV → (List AV → List Nat → List Nat → Option β) → Option β
  | [], xs, K => nlK xs (K [] [] [])
  | s :: ls, xs, K => hdK xs fun x xs => closeK σ tol s x fun y rs us => closeL σ tol ls xs fun ys rs' us' => K (y :: ys) (rs ++ rs') (us ++ us')
end
mutual
/-- A tree of this shape as a value; the roots that it needs. -/
def openK {β : Type} (nx : Nat → Nat) : Sh → Nat → AV → (AV → List (Nat × Root) → Option β) → Option β
  | .own ty sz _, n, x, K => fitO sz x fun xs p => K (.ref n (nx n) [] p) [(n, ⟨nx n, ty, sz, false, .live, xs⟩)]
  | .box ty sz s, n, x, K => fitX x fun cs => hdK cs fun c cs => nlK cs (bif Nat.beq c.width sz then openK nx s (nm n 0) c fun y l => K (.loc n (nx n) [] 0 0) ((n, ⟨nx n, ty, sz, true, .live, [y]⟩) :: l) else none)
  | .agg ls, n, x, K => fitA x fun cs => openL nx ls n 0 cs fun ys l => K (.agg ys) l
  | .tup ls, n, x, K => fitT x fun cs => openL nx ls n 0 cs fun ys l => K (.tup ys) l
  | .fn f ls ms, n, x, K => fitF f x fun a b => openL nx ls n 0 a fun a' l => openL nx ms n 16 b fun b' l' => K (.fn f a' b') (l ++ l')
  | _, _, x, K => bif x.leafN then K x [] else none
def openL {β : Type} (nx : Nat → Nat) : List Sh → Nat → Nat → List AV → (List AV → List (Nat × Root) → Option β) → Option β
  | [], _, _, xs, K => nlK xs (K [] [])
  | s :: ls, n, j, xs, K => hdK xs fun x xs => openK nx s (nm n j) x fun y l => openL nx ls n (j + 1) xs fun ys l' => K (y :: ys) (l ++ l')
end
def deadK {β : Type} (x : AV) (A B : Option β) : Option β := match x with | .dead => A | _ => B
mutual
/-- What was lent, when it comes back. -/
def reopenK {β : Type} (σ : St) : Sh → AV → AV → (List (Nat × Root) → Option β) → Option β
  | .own _ sz lent, x, o, K => bif lent then (match x with
    | .ref q _ _ _ => match σ.L q with
      | some R => deadK o (K [(q, { R with st := .gone, xs := [] })]) (fitO sz o fun ys _ => K [(q, { R with xs := ys })])
      | none => none
    | _ => K []) else K []
  | .box _ sz s, x, o, K => match x with
    | .loc q _ _ _ _ => match σ.L q with
      | some R => fitX o fun cs => hdK cs fun c cs => nlK cs (fitK s c fun c' => bif Nat.beq c'.width sz then openK σ.next s (nm q 0) c' fun y l => K ((q, { R with xs := [y] }) :: l) else none)
      | none => none
    | _ => none
  | .agg ls, _, _, K => bif Sh.ownsL ls then none else K []
  | .fn f ls ms, x, o, K => bif (ls ++ ms).any Sh.row then none else bif Sh.ownsL ls || Sh.ownsL ms then fitF f x fun l m => fitF f o fun l' m' => reopenL σ ls l l' fun u => reopenL σ ms m m' fun u' => K (u ++ u') else K []
  | .tup ls, _, _, K => bif Sh.ownsL ls then none else K []
  | _, _, _, K => K []
def reopenL {β : Type} (σ : St) : List Sh → List AV → List AV → (List (Nat × Root) → Option β) → Option β
  | [], _, _, K => K []
  | s :: ls, xs, os, K => hdK xs fun x xs => hdK os fun o os => reopenK σ s x o fun u => reopenL σ ls xs os fun u' => K (u ++ u')
end
/-- The same for arguments: only those that have parts of the call's own come back. -/
def outsK {β : Type} (σ : St) : List Sh → List AV → List AV → (List (Nat × Root) → Option β) → Option β
  | [], _, outs, K => nlK outs (K [])
  | s :: ls, xs, outs, K => hdK xs fun x xs => bif s.owns then hdK outs fun o outs => reopenK σ s x o fun u => outsK σ ls xs outs fun u' => K (u ++ u') else outsK σ ls xs outs K
def goneUps (σ : St) : List Nat → List (Nat × Root)
  | [] => []
  | r :: rs => match σ.L r with
    | some R => (r, { R with st := .gone, xs := [] }) :: goneUps σ rs
    | none => goneUps σ rs
def without (l : List Nat) (m : List Nat) : List Nat := l.filter fun q => !m.contains q
def conK {β : Type} (r : Option (AV × List AV)) (K : AV → List AV → Option β) : Option β := match r with | some (x, o) => K x o | none => none
def conG {β : Type} (c : Con) (args : List AV) (K : AV → List AV → Option β) : Option β := preK (c.pre args) (conK (c.F args) K)
def boundK {β : Type} (σ : St) (x : Option Operand) (d : Nat) (K : Int → Option β) : Option β := match x with
  | none => K d
  | some x => match opd σ x with | .int _ n => K n | _ => none

/-- What is appended: a slice's elements, or a string's bytes. -/
def srcK {β : Type} (σ : St) (sz : Nat) (x : AV) (K : List AV → List Nat → Option β) : Option β :=
  match x with
  | .str s => bif Nat.beq sz 1 then K (strAVs s) [] else none
  | x => dataK σ x fun y rs => fitS sz y fun ys => K ys rs
def isRowT : TK → Bool | .slice _ | .str => true | _ => false
mutual
def flatAV : AV → Bool
  | .int _ _ | .bool _ | .str _ | .nilp => true
  | .agg cs => flatL cs
  | .tup cs => flatL cs
  | .box cs => flatL cs
  | .dead => true
  | _ => false
def flatL : List AV → Bool
  | [] => true
  | c :: cs => flatAV c && flatL cs
end

/-- Of one cell, or a struct. -/
def AV.oneB : AV → Bool
  | .agg cs => cs.all AV.cellB
  | x => x.cellB
/-- What a call leaves of the roots. -/
def callEnd {β : Type} (σ : St) (rs us : List Nat) (ups : List (Nat × Root)) (K : List (Nat × Root) → Option β) : Option β :=
  bif distinct (ups.map (·.1)) && disj rs (ups.map (·.1)) then K (freezeUps σ rs ++ (goneUps σ (without us (ups.map (·.1))) ++ ups)) else none
def opK {β : Type} (Γ : Ctx) (o : Oper) (σ : St) (K : Eff → Option β) : Option β :=
  match o.op with
  | .move x | .assign x => K ⟨opd σ x, [], []⟩
  | .pick c a b => match opd σ c with
    | .bool cb => br cb (K ⟨opd σ a, [], []⟩) (K ⟨opd σ b, [], []⟩)
    | _ => none
  | .alloc t => dstK o fun d => tyK Γ t fun i => K ⟨.loc d (σ.next d) [] 0 0, [(d, ⟨σ.next d, t, i.size, true, .live, [i.zero]⟩)], [d]⟩
  | .box t x => dstK o fun d => tyK Γ t fun i => cellsK (opd σ x) fun ys =>
      bif Nat.beq ys.length i.size then K ⟨.loc d (σ.next d) [] 0 0, [(d, ⟨σ.next d, t, i.size, true, .live, [opd σ x]⟩)], [d]⟩ else none
  | .build t ps => tyK Γ t fun i => match i.tk with
    | .struct fs => buildK Γ σ fs ps.toList i.zero.cells fun cs => K ⟨.agg cs, [], []⟩
    | .array n e => tyK Γ e fun ei => buildK Γ σ ((List.range n).map fun j => (j * ei.size, e)) ps.toList i.zero.cells fun cs => K ⟨.agg cs, [], []⟩
    | _ => none
  | .buildSlice t n ps => dstK o fun d => tyK Γ t fun i => match i.tk with
    | .slice e => tyK Γ e fun ei => fillK σ ei.size ps.toList (List.replicate n ei.zero) [] fun xs rs =>
        bif Nat.ble (n * ei.size) 16777216 && Nat.blt 0 ei.size && !rs.contains d then
          K ⟨.ref d (σ.next d) [] none, freezeUps σ rs ++ [(d, ⟨σ.next d, e, ei.size, false, .live, xs⟩)], d :: rs⟩ else none
    | _ => none
  | .load t a => match opd σ a with
    | .loc r v [] i off => rootK σ r v fun R => tyK Γ t fun ti => nthK R.xs i fun x =>
        bif R.bx then partC ti x.cells off fun y => K ⟨y, [], [r]⟩
        else tyK Γ R.ty fun re => fitK re.sh x fun x' => partK ti x'.cells off fun y => K ⟨y, [], [r]⟩
    | .elm x off => tyK Γ t fun ti => partK ti x.cells off fun y => K ⟨y, [], []⟩
    | _ => none
  | .store t a x => match opd σ a with
    | .loc r v [] i off => liveK σ r v fun R => tyK Γ t fun ti => bif R.bx then
          cellsK (opd σ x) fun ys => nthK R.xs i fun e => bif Nat.beq ys.length ti.size && Nat.ble (off + ys.length) e.cells.length then
            K ⟨.dead, [(r, { R with xs := [remake e (splice e.cells ys off)] })], [r]⟩ else none
        else tyK Γ R.ty fun re => dataK σ (opd σ x) fun y rs =>
        bif Nat.beq y.width ti.size && !rs.contains r then
          bif Nat.beq off 0 && Nat.beq y.width R.sz && (isAggT re.tk || Nat.beq R.sz 1) then K ⟨.dead, freezeUps σ rs ++ [(r, { R with xs := R.xs.set i (mkElem (isAggT re.tk) y.cells) })], r :: rs⟩
          else nthK R.xs i fun e => fitK re.sh e fun e' =>
              bif Nat.ble (off + y.width) e'.cells.length && (splice e'.cells y.cells off).all AV.leaf then K ⟨.dead, freezeUps σ rs ++ [(r, { R with xs := R.xs.set i (.agg (splice e'.cells y.cells off)) })], r :: rs⟩ else none
        else none
    | _ => none
  | .nilCheck x => bif isPtr (opd σ x) then K ⟨opd σ x, [], []⟩ else none
  | .binOp op t x y _ => preK (binPre op (opd σ x) (opd σ y)) (valK (binU Γ.ar ((Γ.ty t).map (·.tk)) op (opd σ x) (opd σ y)) fun v => K ⟨v, [], []⟩)
  | .unOp op _ x => valK (un Γ.ar op (opd σ x)) fun v => K ⟨v, [], []⟩
  | .convert src dst x => tyK Γ src fun si => tyK Γ dst fun di => match di.tk, opd σ x with
    | .int k, .int _ n => K ⟨.int k (Γ.ar.wrap k n), [], []⟩
    | .str, .str s => K ⟨.str s, [], []⟩
    | .slice e, .str s => dstK o fun d => tyK Γ e fun ei => match ei.tk with
      | .int .u8 => bif Nat.beq ei.size 1 then K ⟨.ref d (σ.next d) [] none, [(d, ⟨σ.next d, e, 1, false, .live, strAVs s⟩)], [d]⟩ else none
      | _ => none
    | .str, x => match si.tk with
      | .slice e => tyK Γ e fun ei => match ei.tk with
        | .int .u8 => dataK σ x fun y rs => fitS 1 y fun xs => bytesK xs fun s => K ⟨.str s, [], rs⟩
        | _ => none
      | _ => none
    | _, _ => none
  | .makeSlice t l c => dstK o fun d => tyK Γ t fun i => match i.tk, opd σ l, opd σ c with
    | .slice e, .int _ n, .int _ m => tyK Γ e fun ei => okK (0 ≤ n ∧ n ≤ m ∧ m * ei.bytes ≤ 140737488355328 ∧ 0 < ei.bytes ∧ 0 < ei.size)
        (K ⟨.ref d (σ.next d) [] none, [(d, ⟨σ.next d, e, ei.size, false, .live, List.replicate n.toNat ei.zero⟩)], [d]⟩)
    | _, _, _ => none
  | .slice t x lo hi mx => tyK Γ t fun i => bif !(hi.isNone && mx.isSome) then (match i.tk, opd σ x with
    | .str, .str s => bif mx.isNone then boundK σ lo 0 fun l => boundK σ hi s.size fun h =>
        okK (0 ≤ l ∧ l ≤ h ∧ h ≤ (s.size : Int)) (K ⟨.str (s.extract l.toNat h.toNat), [], []⟩) else none
    | .slice e, .sl sz xs => boundK σ lo 0 fun l => boundK σ hi xs.length fun h => boundK σ mx xs.length fun m => tyK Γ e fun ei =>
        bif Nat.beq ei.size sz then okK (0 ≤ l ∧ l ≤ h ∧ h ≤ m ∧ m ≤ (xs.length : Int)) (K ⟨.sl sz ((xs.take h.toNat).drop l.toNat), [], []⟩) else none
    | .slice e, .ref r v [] p => rootK σ r v fun R => boundK σ lo 0 fun l => boundK σ hi (partOf R.xs p).length fun h => boundK σ mx (partOf R.xs p).length fun m => tyK Γ e fun ei =>
        bif Nat.beq ei.size R.sz then okK (0 ≤ l ∧ l ≤ h ∧ h ≤ m ∧ m ≤ ((partOf R.xs p).length : Int)) (K ⟨.ref r v [] (some ((p.map (·.1)).getD 0 + l.toNat, h.toNat - l.toNat)), [], [r]⟩) else none
    | _, _ => none) else none
  | .fieldAddr s x f => tyK Γ s fun i => match i.tk with
    | .struct fs => offK fs f fun o t => tyK Γ t fun ti => bif Nat.beq ti.size 0 then none else match opd σ x with
      | .loc r v [] i off => K ⟨.loc r v [] i (off + o), [], []⟩
      | .elm x off => K ⟨.elm x (off + o), [], []⟩
      | _ => none
    | _ => none
  | .field s x f => tyK Γ s fun i => match i.tk, opd σ x with
    | .struct fs, .agg cs => offK fs f fun o t => tyK Γ t fun ti => partC ti cs o fun y => K ⟨y, [], []⟩
    | _, _ => none
  | .indexAddr t x ix => tyK Γ t fun i => match i.tk, opd σ x, opd σ ix with
    | .slice e, .sl sz xs, .int _ n => idxK n xs.length fun j => tyK Γ e fun ei => nthK xs j fun y => fitK ei.sh y fun y' =>
        bif Nat.beq sz ei.size then K ⟨.elm y' 0, [], []⟩ else none
    | .slice e, .ref r v [] p, .int _ n => rootK σ r v fun R => idxK n (partOf R.xs p).length fun j => tyK Γ e fun ei =>
        bif Nat.beq R.sz ei.size then K ⟨.loc r v [] ((p.map (·.1)).getD 0 + j) 0, [], [r]⟩ else none
    | .array len e, .loc r v [] i off, .int _ n => idxK n len fun j => tyK Γ e fun ei => K ⟨.loc r v [] i (off + j * ei.size), [], []⟩
    | .array len e, .elm x off, .int _ n => idxK n len fun j => tyK Γ e fun ei => K ⟨.elm x (off + j * ei.size), [], []⟩
    | _, _, _ => none
  | .index t x ix => tyK Γ t fun i => match i.tk, opd σ x, opd σ ix with
    | .str, .str s, .int _ n => idxK n s.size fun j => byteK s j fun b => K ⟨.int .u8 b.toNat, [], []⟩
    | .array len e, .agg cs, .int _ n => idxK n len fun j => tyK Γ e fun ei => bif Nat.beq ei.size 1 && !isAggT ei.tk then nthK cs j fun c => fitK ei.sh c fun c' => K ⟨c', [], []⟩ else none
    | _, _, _ => none
  | .extract x i => match opd σ x with
    | .tup vs => nthK vs i fun v => K ⟨v, [], []⟩
    | _ => none
  | .makeFunc fn first captured => match fn with
    | .func f => bif (first.toList.map (opd σ)).all AV.oneB && (captured.toList.map (opd σ)).all AV.oneB then K ⟨.fn f (first.toList.map (opd σ)) (captured.toList.map (opd σ)), [], []⟩ else none
    | _ => none
  | .call c => match c.callee with
    | .value g => match opd σ g with
      | .fn f l m => match Γ.fn f with
        | some con => closeL σ false con.pars (l ++ c.args.toList.map (opd σ) ++ m) fun args rs us =>
          bif distinct us && disj rs us then
            conG con args fun res outs => fitK con.res res fun res' => outsK σ con.pars (l ++ c.args.toList.map (opd σ) ++ m) outs fun ups =>
              openK σ.next con.res (match o.dst with | some d => d | none => 0) res' fun v ups' =>
                bif con.res.owns && o.dst.isNone then none else
                bif flatAV res' && outs.all flatAV then
                  callEnd σ [] us (ups ++ ups') fun l => K ⟨v, l, rs ++ us ++ ups'.map (·.1) ++ ups.map (·.1)⟩
                else callEnd σ rs us (ups ++ ups') fun l => K ⟨v, l, rs ++ us ++ ups'.map (·.1) ++ ups.map (·.1)⟩
          else none
        | none => none
      | _ => none
    | .builtin b => match b, c.args.toList.map (opd σ) with
      | .len, [x] => match c.argTypes.toList with
        | [t] => tyK Γ t fun i => match i.tk, x with
          | .str, .str s => K ⟨.int .i64 s.size, [], []⟩
          | .slice _, x => dataK σ x fun y rs => lenK y fun n => K ⟨.int .i64 n, [], rs⟩
          | _, _ => none
        | _ => none
      | .max, [.int k x, .int k' y] => if k = k' then K ⟨.int k (if y > x then y else x), [], []⟩ else none
      | .min, [.int k x, .int k' y] => if k = k' then K ⟨.int k (if y < x then y else x), [], []⟩ else none
      | .append, [s, x] => dstK o fun d => match c.argTypes.toList with
        | [t, u] => tyK Γ t fun i => tyK Γ u fun iu => bif isRowT iu.tk then (match i.tk with
          | .slice e => tyK Γ e fun ei => srcK σ ei.size x fun ys rs => bif !rs.contains d && Nat.blt 0 ei.size && Nat.blt 0 ei.bytes then (match s with
            | .nils => okK (ys.length * ei.bytes ≤ 140737488355328) (K ⟨.ref d (σ.next d) [] none, [(d, ⟨σ.next d, e, ei.size, false, .live, ys⟩)], d :: rs⟩)
            | .ref r v [] p => liveK σ r v fun R => bif !rs.contains r && Nat.beq R.sz ei.size && !R.bx then
                okK (((partOf R.xs p).length + ys.length) * ei.bytes ≤ 140737488355328)
                  (K ⟨.ref d (σ.next d) [] none, [(r, { R with st := .gone, xs := [] }), (d, ⟨σ.next d, e, ei.size, false, .live, partOf R.xs p ++ ys⟩)], d :: r :: rs⟩)
                else none
            | _ => none) else none
          | _ => none) else none
        | _ => none
      | _, _ => none
    | _ => none
  | _ => none

/-! ### Regions -/
structure Fp where
  rs : List Nat      -- slots that are read
  ws : Option Nat    -- the slot that is written
  rr : List Nat      -- roots that are looked at
  wr : List Nat      -- roots that are written
def slotsOf : List Operand → List Nat
  | [] => []
  | .tmp t :: l => t :: slotsOf l
  | _ :: l => slotsOf l
def guardSlot (ops : Array Oper) (o : Oper) : List Nat := match o.guard with | some (g, _) => ((ops[g]?).bind (·.dst)).toList | none => []
def fpOf (ops : Array Oper) (o : Oper) (e : Eff) : Fp := ⟨guardSlot ops o ++ slotsOf o.op.operands.toList, o.dst, e.rr, e.ups.map (·.1)⟩
def meets (l m : List Nat) : Bool := l.any fun x => m.contains x
def clash (a b : Fp) : Bool :=
  meets a.ws.toList (b.ws.toList ++ b.rs) || meets b.ws.toList a.rs || meets a.wr (b.wr ++ b.rr) || meets b.wr a.rr
/-- Does j surely come ahead of i? -/
def ahead (ops : Array Oper) : Nat → Nat → Nat → Bool
  | 0, _, _ => false
  | n + 1, j, i => match ops[i]? with
    | some o => (o.after.toList.any fun e => Region.binds .any e && Nat.beq e.on j) || o.after.toList.any fun e => Region.binds .any e && ahead ops n j e.on
    | none => false
/-- i, with footprint f, against all of the text behind it. -/
def apart1 (ops : Array Oper) (i : Nat) (f : Fp) : List (Nat × Fp) → Bool
  | [] => true
  | (j, g) :: l => (!clash f g || ahead ops 4 i j) && apart1 ops i f l
def apartAll (ops : Array Oper) : List (Nat × Fp) → Bool
  | [] => true
  | (i, f) :: l => apart1 ops i f l && apartAll ops l

/-! What was worked out is kept worked out. -/
def forceN {β : Type} : Nat → (Nat → Option β) → Option β
  | 0, K => K 0
  | n + 1, K => forceN n fun m => K (m + 1)
def forceB {β : Type} (b : Bool) (K : Bool → Option β) : Option β := match b with | true => K true | false => K false
def forceSt {β : Type} (s : RSt) (K : RSt → Option β) : Option β := match s with | .live => K .live | .still => K .still | .gone => K .gone
def force0 {β : Type} (v : AV) (K : AV → Option β) : Option β := match v with
  | .int k n => K (.int k n)
  | .bool b => K (.bool b)
  | .str s => K (.str s)
  | .nilp => K .nilp
  | .nils => K .nils
  | .sl sz xs => K (.sl sz xs)
  | .own sz xs p => K (.own sz xs p)
  | .box xs => K (.box xs)
  | .fn f l m => K (.fn f l m)
  | .agg cs => K (.agg cs)
  | .tup vs => K (.tup vs)
  | .ref r v p part => forceN v fun v => K (.ref r v p part)
  | .loc r v p i off => forceN v fun v => K (.loc r v p i off)
  | .elm x off => K (.elm x off)
  | .dead => K .dead
def forceL0 {β : Type} : List AV → (List AV → Option β) → Option β
  | [], K => K []
  | c :: cs, K => force0 c fun c => forceL0 cs fun cs => K (c :: cs)
def force1 {β : Type} (v : AV) (K : AV → Option β) : Option β := match v with
  | .agg cs => forceL0 cs fun cs => K (.agg cs)
  | v => force0 v K
def forceL1 {β : Type} : List AV → (List AV → Option β) → Option β
  | [], K => K []
  | c :: cs, K => force1 c fun c => forceL1 cs fun cs => K (c :: cs)
def forceV {β : Type} (v : AV) (K : AV → Option β) : Option β := match v with
  | .tup cs => forceL1 cs fun cs => K (.tup cs)
  | .fn f l m => forceL1 l fun l => forceL1 m fun m => K (.fn f l m)
  | v => force1 v K
def forceX {β : Type} (bx : Bool) (xs : List AV) (K : List AV → Option β) : Option β := match bx with
  | true => forceL1 xs K
  | false => K xs
def forceU {β : Type} : List (Nat × Root) → (List (Nat × Root) → Option β) → Option β
  | [], K => K []
  | (r, ⟨ver, ty, sz, bx, st, xs⟩) :: l, K => forceN ver fun ver => forceN ty fun ty => forceN sz fun sz => forceB bx fun bx => forceSt st fun st => forceX bx xs fun xs => forceU l fun l => K ((r, ⟨ver, ty, sz, bx, st, xs⟩) :: l)
def forceNs {β : Type} : List Nat → (List Nat → Option β) → Option β
  | [], K => K []
  | n :: l, K => forceNs l fun l => K (n :: l)
def forceE {β : Type} (e : Eff) (K : Eff → Option β) : Option β := forceV e.v fun v => forceU e.ups fun ups => forceNs e.rr fun rr => K ⟨v, ups, rr⟩

def setB (σ : St) (s : Nat) (b : Bool) : St := { σ with env := setAt σ.env s (.bool b) }
def skipEff : Eff := ⟨.dead, [], []⟩
/-- The operations one behind the other; what each touched is noted. -/
def regK {β : Type} (Γ : Ctx) (ops : Array Oper) : List Oper → Nat → St → (St → List (Nat × Fp) → Option β) → Option β
  | [], _, σ, K => K σ []
  | o :: l, i, σ, K =>
    let go (σ : St) : Option β := opK Γ o σ fun e => forceE e fun e => regK Γ ops l (i + 1) (σ.eff o.dst e) fun σ' fs => K σ' ((i, fpOf ops o e) :: fs)
    let no (σ : St) : Option β := regK Γ ops l (i + 1) (σ.eff o.dst skipEff) fun σ' fs => K σ' ((i, fpOf ops o skipEff) :: fs)
    match o.guard with
    | none => go σ
    | some (g, want) => match (ops[g]?).bind (·.dst) with
      | some s => match σ.env s with
        | .bool b => br b (bif want then go (setB σ s true) else no (setB σ s true)) (bif want then no (setB σ s false) else go (setB σ s false))
        | _ => none
      | none => none

/-! ### Code -/
/-- Slots that are kept at a cut, and as what. -/
structure Cut where
  slots : List (Nat × Sh)
/-- 0: goes on; 1: returns; n + 2: leaves block n. -/
abbrev Ex := Nat
inductive An where
  | leaf
  | seq (a b : An)
  | cond (a b : An)
  | block (a : An)
  | loop (head : Cut) (exits : List (Ex × Cut)) (body : An)
  | cut (exits : List (Ex × Cut)) (a : An)

def isData : AV → Bool
  | .int _ _ | .bool _ | .str _ | .nilp | .nils | .sl _ _ | .agg _ => true
  | _ => false
/-- What the slots hold; the roots that become plain data; the roots that are kept. -/
def packSlots {β : Type} (σ : St) : List (Nat × Sh) → (List AV → List Nat → List Nat → Option β) → Option β
  | [], K => K [] [] []
  | (t, s) :: l, K => closeK σ false s (σ.env t) fun y rs us => packSlots σ l fun ys rs' us' => K (y :: ys) (rs ++ rs') (us ++ us')
def packK {β : Type} (c : Cut) (σ : St) (K : List AV → Option β) : Option β :=
  packSlots σ c.slots fun vs rs us => bif distinct us && disj rs us then K vs else none
def St.empty : St := ⟨fun _ => .dead, fun _ => none⟩
def unpackSlots {β : Type} : List (Nat × Sh) → List AV → St → List Nat → (St → Option β) → Option β
  | [], vs, σ, _, K => nlK vs (K σ)
  | (t, s) :: l, vs, σ, ns, K => hdK vs fun v vs => fitK s v fun v' => openK (fun _ => 0) s t v' fun x ups =>
      bif distinct (ups.map (·.1)) && disj (ups.map (·.1)) ns then unpackSlots l vs { env := setAt σ.env t x, L := (σ.ups ups).L } (ups.map (·.1) ++ ns) K else none
def unpackK {β : Type} (c : Cut) (vs : List AV) (K : St → Option β) : Option β := unpackSlots c.slots vs St.empty [] K
/-- Which of the exits this is, and what is kept there. -/
def leave (σ : St) (e : Ex) : List (Ex × Cut) → Nat → Option (Nat × List AV)
  | [], _ => none
  | (x, c) :: l, j => bif Nat.beq x e then packK c σ fun vs => some (j, vs) else leave σ e l (j + 1)
def loopN {α β : Type} (step : (α → Option β) → α → Option β) : Nat → α → Option β
  | 0 => fun _ => none
  | n + 1 => step (loopN step n)

def codeK (Γ : Ctx) (fuel : Nat) : An → Code → {β : Type} → St → (Ex → St → Option β) → Option β
  | .leaf, .skip, _, σ, K => K 0 σ
  | .leaf, .ret, _, σ, K => K 1 σ
  | .leaf, .exit n, _, σ, K => K (n + 2) σ
  | .leaf, .region _ ops draw, _, σ, K => regK Γ ops ops.toList 0 σ fun σ' fs => bif !draw || apartAll ops fs then K 0 σ' else none
  | .seq A B, .seq a b, _, σ, K => codeK Γ fuel A a σ fun e σ' => bif Nat.beq e 0 then codeK Γ fuel B b σ' K else K e σ'
  | .cond A B, .cond c a b, _, σ, K => match opd σ c with
    | .bool x => br x (codeK Γ fuel A a (match c with | .tmp t => setB σ t true | _ => σ) K) (codeK Γ fuel B b (match c with | .tmp t => setB σ t false | _ => σ) K)
    | _ => none
  | .block A, .block n a, _, σ, K => codeK Γ fuel A a σ fun e σ' => bif Nat.beq e (n + 2) then K 0 σ' else K e σ'
  | .cut exits A, a, _, σ, K => sel (codeK Γ fuel A a σ fun e σ' => leave σ' e exits 0) (exits.map fun p => fun ws => unpackK p.2 ws (K p.1))
  | .loop head exits A, .loop a, _, σ, K => packK head σ fun vs =>
      sel (loopN (fun again vs => unpackK head vs fun σ => codeK Γ fuel A a σ fun e σ' => bif Nat.beq e 0 then packK head σ' again else leave σ' e exits 0) fuel vs)
        (exits.map fun p => fun ws => unpackK p.2 ws (K p.1))
  | _, _, _, _, _ => none

/-! ### Functions -/
structure Fun where
  f : FuncId
  results : List ResultVar
  body : Code
  pars : List Sh
  res : Sh
  an : An
def parSlots : List Sh → Nat → List (Nat × Sh)
  | [], _ => []
  | s :: l, t => (t, s) :: parSlots l (t + 1)
def ownSlots : List Sh → Nat → List (Nat × Sh)
  | [], _ => []
  | s :: l, t => bif s.owns then (t, s) :: ownSlots l (t + 1) else ownSlots l (t + 1)
/-- The results, as values. -/
def resK {β : Type} (Γ : Ctx) (σ : St) : List ResultVar → (List AV → Option β) → Option β
  | [], K => K []
  | .tmp t :: l, K => bif (σ.env t).oneB then resK Γ σ l fun ys => K (σ.env t :: ys) else none
  | .cell a t :: l, K => match σ.env a with
    | .loc r v [] 0 0 => rootK σ r v fun R => bif R.bx then nthK R.xs 0 fun x => tyK Γ t fun ti => partC ti x.cells 0 fun y => resK Γ σ l fun ys => K (y :: ys) else none
    | _ => none
def one? (l : List AV) : AV := match l with | [x] => x | l => .tup l
def outSlots {β : Type} (σ : St) : List (Nat × Sh) → (List AV → List Nat → List Nat → Option β) → Option β
  | [], K => K [] [] []
  | (t, s) :: l, K => closeK σ true s (σ.env t) fun y rs us => outSlots σ l fun ys rs' us' => K (y :: ys) (rs ++ rs') (us ++ us')
def funK (Γ : Ctx) (fuel : Nat) (F : Fun) (args : List AV) : Option (AV × List AV) :=
  unpackSlots (parSlots F.pars 0) args St.empty [] fun σ => codeK Γ fuel F.an F.body σ fun e σ' =>
    bif Nat.ble e 1 then
      resK Γ σ' F.results fun ys => closeK σ' false F.res (one? ys) fun res rs us => outSlots σ' (ownSlots F.pars 0) fun outs rs' us' =>
        bif distinct (us ++ us') && disj (rs ++ rs') (us ++ us') then some (res, outs) else none
    else none
end Go.Ai
