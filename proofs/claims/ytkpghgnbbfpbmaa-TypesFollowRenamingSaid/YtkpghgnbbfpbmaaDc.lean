/- The D-logic's operations as they are written in abstract code, the check that they are those of the program, and what each does. -/
import Derived.Test.YtkpghgnbbfpbmaaDb
set_option linter.unusedSimpArgs false
set_option linter.unusedVariables false
namespace Go.Proofs.Ytkpghgnbbfpbmaa

inductive Opd where
  | t (n : Nat)
  | c (x : U)

inductive AO where
  | mv (x : Opd)
  | nc (x : Opd)
  | pk (c a b : Opd)
  | un (op : UnOp) (x : Opd)
  | bi (op : BinOp) (x y : Opd)
  | bb (op : BinOp) (x y : Opd)
  | cv (k : IntKind) (x : Opd)
  | ld (ag : Bool) (n : Nat) (a : Opd)
  | st (n : Nat) (a x : Opd)
  | fa (off : Nat) (x : Opd)
  | fl (ag : Bool) (off n : Nat) (x : Opd)
  | ia (s : Nat) (x i : Opd)
  | sx (x i : Opd)
  | al (zs : List U)
  | bx (x : Opd)
  | bs (s : Nat) (xs : List Opd)
  | bd (zs : List U) (ps : List (Nat × Nat × Opd))
  | mk (s bytes : Nat) (zs : List U) (l c : Opd)
  | sl (s : Nat) (x : Opd) (lo hi : Option Opd)
  | ss (x : Opd) (lo hi : Option Opd)
  | mf (f : FuncId) (fs cs : List Opd)
  | ex (x : Opd) (i : Nat)
  | ln (x : Opd)
  | sn (x : Opd)
  | ap (s bytes : Nat) (x y : Opd)
  | mn (xs : List Opd)
  | mx (xs : List Opd)
  | ca (f : FuncId) (xs : List Opd)
  | cl (x : Opd) (xs : List Opd)

/-! ### The check -/
def leafEq : Value → U → Bool
  | .int k n, .int k' n' => k == k' && n == n'
  | .bool a, .bool b => a == b
  | .string s, .str s' => s.data.toList == s'.data.toList
  | .pointer none, .pnil => true
  | .slice none 0 0, .nil => true
  | .slice none 0 0, .sl [] => true
  | .nilFunc, .fnil => true
  | .map none, .mnil => true
  | .tuple vs, .tup us => vs.isEmpty && us.isEmpty
  | _, _ => false
def leavesEq : List Value → List U → Bool
  | [], [] => true
  | v :: vs, u :: us => leafEq v u && v.oneCell' && leavesEq vs us
  | _, _ => false
def constEq : Value → U → Bool
  | .agg cs, .agg us => leavesEq cs.toList us
  | v, u => leafEq v u

def okOpd : Operand → Opd → Bool
  | .tmp t, .t n => t == n
  | .const v, .c u => constEq v u
  | .func f, .c (.fn g [] []) => f == g
  | _, _ => false
def okOpds : List Operand → List Opd → Bool
  | [], [] => true
  | x :: xs, y :: ys => okOpd x y && okOpds xs ys
  | _, _ => false
def okOpdO : Option Operand → Option Opd → Bool
  | none, none => true
  | some x, some y => okOpd x y
  | _, _ => false

def szIs (P : Program) (t : TypeId) (n : Nat) : Bool := match P.info? t with
  | some i => i.size == n
  | none => false
def bytesIs (P : Program) (t : TypeId) (n : Nat) : Bool := match P.info? t with
  | some i => i.bytes == n
  | none => false
def zeroIs (P : Program) (t : TypeId) (zs : List U) : Bool := match P.info? t with
  | some i => match i.zero with
    | some z => leavesEq z.cells.toList zs && i.size == zs.length
    | none => false
  | none => false
def aggIs (P : Program) (t : TypeId) (ag : Bool) : Bool := match P.underlying t with
  | some (.struct _) => ag
  | some (.array _ _) => ag
  | some _ => !ag
  | none => false
def sliceElem (P : Program) (t : TypeId) : Option TypeId := match P.underlying t with
  | some (.slice e) => some e
  | _ => none
def fieldIs (P : Program) (t : TypeId) (f off : Nat) : Option TypeId := match P.underlying t with
  | some (.struct fs) => match fs[f]? with
    | some x => if x.offset = off then some x.type else none
    | none => none
  | _ => none
def fieldsOk (P : Program) (t : TypeId) : Bool := match P.underlying t with
  | some (.struct fs) => fs.toList.all fun f => (P.info? f.type).isSome
  | _ => false
def partsOk (P : Program) (t : TypeId) : List (Nat × Operand) → List (Nat × Nat × Opd) → Bool
  | [], [] => true
  | (i, x) :: l, (off, n, y) :: m => (match fieldIs P t i off with | some ft => szIs P ft n | none => false) && okOpd x y && partsOk P t l m
  | _, _ => false
def seqOk (k : Nat) : List (Nat × Operand) → List Opd → Bool
  | [], [] => true
  | (i, x) :: l, y :: m => i == k && okOpd x y && seqOk (k + 1) l m
  | _, _ => false

def okBuiltin (P : Program) (ts : Array TypeId) (xs : List Operand) : Builtin → AO → Bool
  | .len, .ln y => okOpds xs [y] && ts.size == 1 && (sliceElem P (ts.getD 0 0)).isSome
  | .len, .sn y => okOpds xs [y] && ts.size == 1 && (match P.underlying (ts.getD 0 0) with | some .string => true | _ => false)
  | .append, .ap s bytes x y => okOpds xs [x, y] && ts.toList == [ts.getD 0 0, ts.getD 0 0] && s != 0 &&
      (match sliceElem P (ts.getD 0 0) with | some e => szIs P e s && bytesIs P e bytes && (match P.info? e with | some i => (i.zero.map (·.cells.size)) == some s | none => false) | none => false)
  | .min, .mn ys => okOpds xs ys
  | .max, .mx ys => okOpds xs ys
  | _, _ => false
def okCallee (xs : List Operand) : Operand → AO → Bool
  | .func f, .ca g ys => f == g && okOpds xs ys
  | .tmp t, .cl (.t n) ys => t == n && okOpds xs ys
  | _, _ => false
def okCall (P : Program) (c : Call) (ao : AO) : Bool := match c.callee with
  | .builtin b => okBuiltin P c.argTypes c.args.toList b ao
  | .value f => okCallee c.args.toList f ao
  | .invoke _ _ => false

def okOp (P : Program) : Op → AO → Bool
  | .move x, .mv y => okOpd x y
  | .assign x, .mv y => okOpd x y
  | .nilCheck x, .nc y => okOpd x y
  | .pick c a b, .pk c' a' b' => okOpd c c' && okOpd a a' && okOpd b b'
  | .unOp op _ x, .un op' y => op == op' && okOpd x y
  | .binOp op _ x y _, .bi op' x' y' => op == op' && okOpd x x' && okOpd y y'
  | .binOp op t x y _, .bb op' x' y' => op == op' && okOpd x x' && okOpd y y' && (match P.underlying t with | some .bool => true | _ => false)
  | .convert s d x, .cv k y => (match P.underlying d with | some (.int k') => k == k' | _ => false) && (P.underlying s).isSome && okOpd x y
  | .load t a, .ld ag n b => aggIs P t ag && szIs P t n && okOpd a b
  | .store t a x, .st n b y => szIs P t n && okOpd a b && okOpd x y
  | .fieldAddr s x f, .fa off y => (match fieldIs P s f off with | some ft => (match P.info? ft with | some i => i.size != 0 | none => false) | none => false) && okOpd x y
  | .field s x f, .fl ag off n y => (match fieldIs P s f off with | some ft => szIs P ft n && aggIs P ft ag | none => false) && okOpd x y
  | .indexAddr t x i, .ia s y j => (match sliceElem P t with | some e => szIs P e s | none => false) && okOpd x y && okOpd i j
  | .index t x i, .sx y j => (match P.underlying t with | some .string => true | _ => false) && okOpd x y && okOpd i j
  | .alloc t, .al zs => zeroIs P t zs
  | .box _ x, .bx y => okOpd x y
  | .buildSlice t len parts, .bs s xs => (match sliceElem P t with | some e => szIs P e s && (match P.info? e with | some i => i.zero.isSome && (i.zero.map (·.cells.size)) == some s | none => false) | none => false) && len == xs.length && len * s ≤ 16777216 && s != 0 && seqOk 0 parts.toList xs
  | .build t parts, .bd zs ps => zeroIs P t zs && partsOk P t parts.toList ps && fieldsOk P t
  | .makeSlice t l c, .mk s bytes zs l' c' => (match sliceElem P t with | some e => szIs P e s && bytesIs P e bytes && zeroIs P e zs | none => false) && s == zs.length && s != 0 && okOpd l l' && okOpd c c'
  | .slice t x lo hi none, .sl s y lo' hi' => (match sliceElem P t with | some e => szIs P e s | none => false) && okOpd x y && okOpdO lo lo' && okOpdO hi hi'
  | .slice t x lo hi none, .ss y lo' hi' => (match P.underlying t with | some .string => true | _ => false) && okOpd x y && okOpdO lo lo' && okOpdO hi hi'
  | .makeFunc (.func f) fs cs, .mf g fs' cs' => f == g && okOpds fs.toList fs' && okOpds cs.toList cs'
  | .extract x i, .ex y j => okOpd x y && i == j
  | .call c, .ln y => okCall P c (.ln y)
  | .call c, .sn y => okCall P c (.sn y)
  | .call c, .ap s bytes x y => okCall P c (.ap s bytes x y)
  | .call c, .mn ys => okCall P c (.mn ys)
  | .call c, .mx ys => okCall P c (.mx ys)
  | .call c, .ca g ys => okCall P c (.ca g ys)
  | .call c, .cl x ys => okCall P c (.cl x ys)
  | _, _ => false

/-! ### What each does -/
def allU : List D → Option (List U)
  | [] => some []
  | .u x :: l => (allU l).map (x :: ·)
  | _ => none
def mkAgg (l : List D) : D := match allU l with
  | some us => .u (.agg us)
  | none => .agg l
def mkTup (l : List D) : D := match allU l with
  | some us => .u (.tup us)
  | none => .tup l
def allUU : List (List D) → Option (List (List U))
  | [] => some []
  | l :: m => match allU l, allUU m with
    | some x, some y => some (x :: y)
    | _, _ => none
def mkRow (s : Nat) (els : List (List D)) : MObj := match allUU els with
  | some uss => .row s uss
  | none => .drow s els
/-- The cells of what is stored. -/
def U.isCell : U → Bool
  | .agg _ => false
  | .tup _ => false
  | _ => true
def D.cells : D → Option (List D)
  | .u (.agg us) => some (us.map .u)
  | .u x => if x.isCell then some [.u x] else none
  | .agg ds => some ds
  | .tup _ => none
  | .any => none
  | d => some [d]
def cellsAll : List D → Option (List (List D))
  | [] => some []
  | d :: l => match d.cells, cellsAll l with
    | some x, some y => some (x :: y)
    | _, _ => none
def splice {α : Type} (l : List α) (off : Nat) (xs : List α) : List α := l.take off ++ xs ++ l.drop (off + xs.length)
def setElem (i off : Nat) (xs : List D) : MObj → Option MObj
  | .row s els => match allU xs with
    | some us => some (.row s (els.set i (splice (els.getD i []) off us)))
    | none => none
  | .drow s els => some (.drow s (els.set i (splice (els.getD i []) off xs)))
  | .map _ => none

mutual
/-- The names that it mentions. -/
def D.ids : D → List Nat
  | .any => []
  | .u _ => []
  | .ref b _ _ _ => [b]
  | .pref b _ _ _ _ _ => [b]
  | .msl b _ => [b]
  | .mp b => [b]
  | .agg l => D.idsL l
  | .tup l => D.idsL l
  | .fn _ l m => D.idsL l ++ D.idsL m
def D.idsL : List D → List Nat
  | [] => []
  | d :: l => D.ids d ++ D.idsL l
end

mutual
/-- As pure data, with the objects as they are. -/
def frz (H : Nat → Option MObj) : Nat → D → Option U
  | 0, _ => none
  | _ + 1, .u x => some x
  | _ + 1, .any => none
  | _ + 1, .pref _ _ _ _ _ _ => none
  | n + 1, .msl b m => match H b with
    | some (.row _ els) => if m ≤ els.length then some (.sl (els.take m)) else none
    | some (.drow _ els) => if m ≤ els.length then (frzLL H n (els.take m)).map .sl else none
    | _ => none
  | n + 1, .ref b s i off => match H b with
    | some (.row s' els) => if s' = s ∧ i < els.length then some (.fp (els.getD i []) off) else none
    | some (.drow s' els) => if s' = s ∧ i < els.length then (frzL H n (els.getD i [])).map (.fp · off) else none
    | _ => none
  | _ + 1, .mp b => match H b with
    | some (.map es) => some (.fm es)
    | _ => none
  | n + 1, .agg l => (frzL H n l).map .agg
  | n + 1, .tup l => (frzL H n l).map .tup
  | n + 1, .fn f l m => match frzL H n l, frzL H n m with
    | some x, some y => some (.fn f x y)
    | _, _ => none
def frzL (H : Nat → Option MObj) : Nat → List D → Option (List U)
  | _, [] => some []
  | 0, _ :: _ => none
  | n + 1, d :: l => match frz H n d, frzL H n l with
    | some x, some y => some (x :: y)
    | _, _ => none
def frzLL (H : Nat → Option MObj) : Nat → List (List D) → Option (List (List U))
  | _, [] => some []
  | 0, _ :: _ => none
  | n + 1, d :: l => match frzL H n d, frzLL H n l with
    | some x, some y => some (x :: y)
    | _, _ => none
end

/-- The arguments of a call as pure data. -/
def frzA (H : Nat → Option MObj) (l : List D) : Option (List U) := match allU l with
  | some us => some us
  | none => frzL H 40 l

/-- Data that leads to no memory. -/
def U.scal : U → Bool
  | .int _ _ => true
  | .bool _ => true
  | .str _ => true
  | .tup l => l.all fun x => match x with
    | .int _ _ => true
    | .bool _ => true
    | .str _ => true
    | _ => false
  | _ => false

def hasBody (P : Program) (g : FuncId) : Bool := match P.funcs[g]? with
  | some fn => fn.name != "runtime.NumGoroutine" && fn.body.isSome
  | none => false

/-- The contract of a function on pure data: whatever blocks F belong to others, nothing in the result leads to them if nothing in the arguments does. -/
def PC (P : Program) (g : FuncId) (args : List U) (r : U) : Prop := hasBody P g = true ∧
  ∀ (F : Nat → Prop) (w : World) (vs : Array Value), (∀ c, F c → c < w.heap.size) → vs.size = args.length → (∀ i, i < args.length → RelU F w (vs.getD i undef) (args.getD i .pnil)) →
    Calls P g vs w fun e w' => ∃ v, e = .returned v ∧ RelU F w' v r ∧ Frame0 w (fun _ => False) w'

def callVC (P : Program) (g : FuncId) (us : List U) (b : Bool) (K : Eff → Prop) : Prop := ∃ r, PC P g us r ∧ (b || r.scal) = true ∧ K { d := .u r }
theorem call_ {P : Program} {g : FuncId} {us : List U} {b : Bool} {K : Eff → Prop} {r : U} (h : PC P g us r) (hb : (b || r.scal) = true) (hk : K { d := .u r }) : callVC P g us b K := ⟨r, h, hb, hk⟩

def bits (op : BinOp) (k : IntKind) (x y : Int) : Int :=
  let a := BitVec.ofInt k.bits x
  let b := BitVec.ofInt k.bits y
  match op with
  | .and => k.wrap (a &&& b).toNat
  | .or => k.wrap (a ||| b).toNat
  | .xor => k.wrap (a ^^^ b).toNat
  | _ => k.wrap (a &&& ~~~b).toNat

def biI (op : BinOp) (k : IntKind) (a : Int) (k' : IntKind) (b : Int) (K : U → Prop) : Prop := match op with
  | .shl => 0 ≤ b ∧ K (.int k (k.wrap (a * 2 ^ min b.toNat k.bits)))
  | .shr => 0 ≤ b ∧ K (.int k (a.fdiv (2 ^ min b.toNat k.bits)))
  | .add => k = k' ∧ K (.int k (k.wrap (a + b)))
  | .sub => k = k' ∧ K (.int k (k.wrap (a - b)))
  | .mul => k = k' ∧ K (.int k (k.wrap (a * b)))
  | .quo => k = k' ∧ b ≠ 0 ∧ K (.int k (k.wrap (a.tdiv b)))
  | .rem => k = k' ∧ b ≠ 0 ∧ K (.int k (a.tmod b))
  | .and => k = k' ∧ K (.int k (bits .and k a b))
  | .or => k = k' ∧ K (.int k (bits .or k a b))
  | .xor => k = k' ∧ K (.int k (bits .xor k a b))
  | .andNot => k = k' ∧ K (.int k (bits .andNot k a b))
  | .eql => k = k' ∧ K (.bool (decide (a = b)))
  | .neq => k = k' ∧ K (.bool (!decide (a = b)))
  | .lss => k = k' ∧ K (.bool (decide (a < b)))
  | .leq => k = k' ∧ K (.bool (decide (a ≤ b)))
  | .gtr => k = k' ∧ K (.bool (decide (b < a)))
  | .geq => k = k' ∧ K (.bool (decide (b ≤ a)))
def biS (op : BinOp) (a b : ByteArray) (K : U → Prop) : Prop := match op with
  | .eql => K (.bool (decide (a = b)))
  | .neq => K (.bool (!decide (a = b)))
  | .add => ((a.size + b.size : Nat) : Int) ≤ 9223372036854775807 ∧ K (.str (a ++ b))
  | _ => False

def natOf : D → Option Nat
  | .u (.int _ n) => if 0 ≤ n then some n.toNat else none
  | _ => none

abbrev Ev := Opd → D
def minI : Int → Int → Int := fun x y => if y < x then y else x
def maxI : Int → Int → Int := fun x y => if y > x then y else x
def foldI (f : Int → Int → Int) : List D → Option (IntKind × Int)
  | [] => none
  | .u (.int k n) :: l => (go k n l).map fun m => (k, m)
  | _ => none
where go (k : IntKind) (acc : Int) : List D → Option Int
  | [] => some acc
  | .u (.int k' m) :: l => if k' = k then go k (f acc m) l else none
  | _ => none

def ldVC (ag : Bool) (n off : Nat) (cells : List D) (K : D → Prop) : Prop :=
  match ag with
  | true => off + n ≤ cells.length ∧ K (mkAgg ((cells.drop off).take n))
  | false => off < cells.length ∧ K (cells.getD off .any)

def opVC (P : Program) (ao : AO) (ev : Ev) (H : Nat → Option MObj) (fr : Nat) (K : Eff → Prop) : Prop :=
  match ao with
  | .mv x => K { d := ev x }
  | .nc x => match ev x with
    | .u (.fp cs off) => K { d := .u (.fp cs off) }
    | .u (.fn f a b) => K { d := .u (.fn f a b) }
    | .ref b s i off => K { d := .ref b s i off }
    | .pref b s i off _ _ => K { d := .ref b s i off }
    | .fn f a b => K { d := .fn f a b }
    | _ => False
  | .pk c a b => match ev c, ev a, ev b with
    | .u (.bool t), .u (.bool x), .u (.bool y) => K { d := .u (.bool (if t then x else y)) }
    | .u (.bool t), x, y => K { d := if t then x else y }
    | _, _, _ => False
  | .un op x => match op, ev x with
    | .neg, .u (.int k n) => K { d := .u (.int k (k.wrap (0 - n))) }
    | .not, .u (.bool b) => K { d := .u (.bool !b) }
    | .xor, .u (.int k n) => K { d := .u (.int k (bits .xor k (if k.signed then -1 else k.max) n)) }
    | _, _ => False
  | .bi op x y => match ev x, ev y with
    | .u (.int k a), .u (.int k' b) => biI op k a k' b fun r => K { d := .u r }
    | .u (.str a), .u (.str b) => biS op a b fun r => K { d := .u r }
    | _, _ => False
  | .bb op x y => match op, ev x, ev y with
    | .eql, .u (.bool a), .u (.bool b) => K { d := .u (.bool (decide (a = b))) }
    | .neq, .u (.bool a), .u (.bool b) => K { d := .u (.bool (!decide (a = b))) }
    | _, _, _ => False
  | .cv k x => match ev x with
    | .u (.int _ n) => K { d := .u (.int k (k.wrap n)) }
    | _ => False
  | .ld ag n a => match ev a with
    | .u (.fp cells off) => match ag with
      | true => off + n ≤ cells.length ∧ K { d := .u (.agg ((cells.drop off).take n)) }
      | false => off < cells.length ∧ K { d := .u (cells.getD off .pnil) }
    | .ref b s i off => match H b with
      | some (.row s' els) => s' = s ∧ i < els.length ∧ (match ag with
        | true => off + n ≤ s ∧ K { d := .u (.agg (((els.getD i []).drop off).take n)) }
        | false => off < s ∧ K { d := .u ((els.getD i []).getD off .pnil) })
      | some (.drow s' els) => s' = s ∧ i < els.length ∧ (match ag with
        | true => off + n ≤ s ∧ K { d := mkAgg (((els.getD i []).drop off).take n) }
        | false => off < s ∧ K { d := (els.getD i []).getD off .any })
      | _ => False
    | _ => False
  | .st n a x => match ev a with
    | .ref b s i off => match (ev x).cells, H b with
      | some xs, some o => o.size = s ∧ i < o.len ∧ off + n ≤ s ∧ xs.length = n ∧ (match setElem i off xs o with
        | some o' => K { d := .any, up := [(b, o')] }
        | none => False)
      | _, _ => False
    | _ => False
  | .fa off x => match ev x with
    | .u (.fp cells o) => K { d := .u (.fp cells (o + off)) }
    | .ref b s i o => K { d := .ref b s i (o + off) }
    | _ => False
  | .fl ag off n x => match ev x with
    | .u (.agg us) => match ag with
      | true => off + n ≤ us.length ∧ K { d := .u (.agg ((us.drop off).take n)) }
      | false => off < us.length ∧ K { d := .u (us.getD off .pnil) }
    | .agg ds => match ag with
      | true => off + n ≤ ds.length ∧ K { d := mkAgg ((ds.drop off).take n) }
      | false => off < ds.length ∧ K { d := ds.getD off .any }
    | _ => False
  | .ia s x i => match ev x, ev i with
    | .u (.sl els), .u (.int _ n) => 0 ≤ n ∧ n < els.length ∧ (els.getD n.toNat []).length = s ∧ K { d := .u (.fp (els.getD n.toNat []) 0) }
    | .msl b m, .u (.int _ n) => match H b with
      | some o => o.size = s ∧ 0 ≤ n ∧ n < m ∧ m ≤ o.len ∧ K { d := .ref b s n.toNat 0 }
      | none => False
    | _, _ => False
  | .sx x i => match ev x, ev i with
    | .u (.str s), .u (.int _ n) => 0 ≤ n ∧ n < s.size ∧ K { d := .u (.int .u8 ((s.data.toList.getD n.toNat 0).toNat : Int)) }
    | _, _ => False
  | .al zs => K { d := .ref fr zs.length 0 0, up := [(fr, .drow zs.length [zs.map .u])], nx := fr + 1 }
  | .bx x => match (ev x).cells with
    | some xs => K { d := .ref fr xs.length 0 0, up := [(fr, .drow xs.length [xs])], nx := fr + 1 }
    | none => False
  | .bs s xs => match cellsAll (xs.map ev) with
    | some els => (els.all fun l => l.length == s) = true ∧ K { d := .msl fr els.length, up := [(fr, mkRow s els)], nx := fr + 1 }
    | none => False
  | .bd zs ps => match bdGo (zs.map .u) ps with
    | some l => K { d := mkAgg l }
    | none => False
  | .mk s bytes zs l c => match ev l, ev c with
    | .u (.int .i64 l), .u (.int .i64 c) => 0 ≤ l ∧ l ≤ c ∧ c * bytes ≤ 140737488355328 ∧ c ≤ 9223372036854775807 ∧ K { d := .msl fr l.toNat, up := [(fr, .row s (List.replicate l.toNat zs))], nx := fr + 1 }
    | _, _ => False
  | .sl s x lo hi => match ev x with
    | .u (.sl els) => match (match lo with | none => some 0 | some o => natOf (ev o)), (match hi with | none => some els.length | some o => natOf (ev o)) with
      | some l, some h => l ≤ h ∧ h ≤ els.length ∧ (els.all fun e => e.length == s) = true ∧ K { d := .u (.sl ((els.take h).drop l)) }
      | _, _ => False
    | .msl b m => match (match lo with | none => some 0 | some o => natOf (ev o)), (match hi with | none => some m | some o => natOf (ev o)) with
      | some l, some h => l = 0 ∧ h ≤ m ∧ K { d := .msl b h }
      | _, _ => False
    | _ => False
  | .ss x lo hi => match ev x with
    | .u (.str s) => match (match lo with | none => some 0 | some o => natOf (ev o)), (match hi with | none => some s.size | some o => natOf (ev o)) with
      | some l, some h => l ≤ h ∧ h ≤ s.size ∧ K { d := .u (.str (s.extract l h)) }
      | _, _ => False
    | _ => False
  | .mf f fs cs => match allU (fs.map ev), allU (cs.map ev) with
    | some x, some y => K { d := .u (.fn f x y) }
    | _, _ => K { d := .fn f (fs.map ev) (cs.map ev) }
  | .ex x i => match ev x with
    | .u (.tup us) => i < us.length ∧ K { d := .u (us.getD i .pnil) }
    | .tup ds => i < ds.length ∧ K { d := ds.getD i .any }
    | _ => False
  | .ln x => match ev x with
    | .u (.sl els) => K { d := .u (.int .i64 els.length) }
    | .u .nil => K { d := .u (.int .i64 0) }
    | .msl b n => K { d := .u (.int .i64 n) }
    | _ => False
  | .sn x => match ev x with
    | .u (.str s) => K { d := .u (.int .i64 s.size) }
    | _ => False
  | .ap s bytes x y => match appSrc H s (ev y) with
    | none => False
    | some news => match ev x with
      | .u .nil => news.length ≤ 9223372036854775807 ∧ news.length * bytes ≤ 140737488355328 ∧ K { d := .msl fr news.length, up := [(fr, mkRow s news)], nx := fr + 1 }
      | .msl b n => n + news.length ≤ 9223372036854775807 ∧ (n + news.length) * bytes ≤ 140737488355328 ∧ (match H b with
        | some (.row s' els) => s' = s ∧ n ≤ els.length ∧ (match allUU news with
          | some us => K { d := .msl b (n + news.length), up := [(b, .row s (els.take n ++ us))], kl := some b }
          | none => n = 0 ∧ D.hasLL b news = false ∧ K { d := .msl b (n + news.length), up := [(b, .drow s news)], kl := some b })
        | some (.drow s' els) => s' = s ∧ n ≤ els.length ∧ D.hasLL b (els.take n ++ news) = false ∧ K { d := .msl b (n + news.length), up := [(b, .drow s (els.take n ++ news))], kl := some b }
        | _ => False)
      | _ => False
  | .mn xs => match foldI minI (xs.map ev) with
    | some (k, m) => K { d := .u (.int k m) }
    | none => False
  | .mx xs => match foldI maxI (xs.map ev) with
    | some (k, m) => K { d := .u (.int k m) }
    | none => False
  | .ca g xs => match frzA H (xs.map ev) with
    | some us => callVC P g us (allU (xs.map ev)).isSome K
    | none => False
  | .cl x xs => match ev x with
    | .u (.fn g fs cs) => match frzA H (xs.map ev) with
      | some us => callVC P g (fs ++ us ++ cs) (allU (xs.map ev)).isSome K
      | none => False
    | _ => False
where
  bdGo (cells : List D) : List (Nat × Nat × Opd) → Option (List D)
    | [] => some cells
    | (off, n, x) :: ps => match (ev x).cells with
      | some xs => if xs.length = n ∧ off + n ≤ cells.length then bdGo (splice cells off xs) ps else none
      | none => none
  appSrc (H : Nat → Option MObj) (s : Nat) : D → Option (List (List D))
    | .u .nil => some []
    | .u (.sl els) => if els.all (fun l => l.length == s) then some (els.map fun l => l.map D.u) else none
    | .msl b n => match H b with
      | some (.row s' els) => if s' = s ∧ n ≤ els.length then some ((els.take n).map fun l => l.map D.u) else none
      | some (.drow s' els) => if s' = s ∧ n ≤ els.length then some (els.take n) else none
      | _ => none
    | _ => none

end Go.Proofs.Ytkpghgnbbfpbmaa
