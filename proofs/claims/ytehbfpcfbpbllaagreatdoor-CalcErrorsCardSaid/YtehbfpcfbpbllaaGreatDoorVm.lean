/- A machine of plain data that runs the program's code deterministically: values, memory, operations, code. Its soundness stands in the texts behind it. No program in sight. -/
import Derived.Calls
import Derived.Orders
namespace Go.Proofs.YtehbfpcfbpbllaaGreatDoor.VM
open Go
noncomputable section

/-- a table by numbers -/
inductive T (α : Type) where
  | leaf
  | node (v : Option α) (l r : T α)
def T.get {α : Type} (t : T α) : Nat → Option α :=
  T.rec (motive := fun _ => Nat → Option α) (fun _ => none)
    (fun v _ _ gl gr i => Nat.rec (motive := fun _ => Option α) v (fun j _ => Bool.rec (motive := fun _ => Option α) (gl (Nat.div j 2)) (gr (Nat.div j 2)) (Nat.beq (Nat.mod j 2) 1)) i) t
def T.setF {α : Type} (x : Option α) (f : Nat) : T α → Nat → T α :=
  Nat.rec (motive := fun _ => T α → Nat → T α) (fun t _ => t)
    (fun _ ih t i => T.rec (motive := fun _ => T α)
      (Nat.rec (motive := fun _ => T α) (.node x .leaf .leaf) (fun j _ => Bool.rec (motive := fun _ => T α) (.node none (ih .leaf (Nat.div j 2)) .leaf) (.node none .leaf (ih .leaf (Nat.div j 2))) (Nat.beq (Nat.mod j 2) 1)) i)
      (fun v l r _ _ => Nat.rec (motive := fun _ => T α) (.node x l r) (fun j _ => Bool.rec (motive := fun _ => T α) (.node v (ih l (Nat.div j 2)) r) (.node v l (ih r (Nat.div j 2))) (Nat.beq (Nat.mod j 2) 1)) i) t) f
def T.put {α : Type} (t : T α) (i : Nat) (x : α) : T α := T.setF (some x) (i + 1) t i
def T.ofL {α : Type} : List (Option α) → Nat → T α → T α
  | [], _, t => t
  | x :: r, i, t => T.ofL r (i + 1) (T.setF x (i + 1) t i)

inductive V where
  | bool (b : Bool)
  | int (k : IntKind) (n : Int)
  | str (s : List Nat)
  | nilp
  | ptr (b off : Nat)
  | nils
  | sl (b off len cap : Nat)
  | slo (b off len lo sz : Nat)
  | emp
  | nilm
  | mp (b : Nat)
  | fn (f : Fn) (first captured : List V)
  | nilf
  | iface (t : TypeId) (v : V)
  | nili
  | agg (l : List V)
  | tup (l : List V)
  | any
  | symI (k : IntKind) (j : Nat)
  | symS (j : Nat)
  | gptr (g off : Nat)
  deriving Inhabited

inductive K where
  | bool | int (k : IntKind) | str | ptr (e : Nat) | sl (e : Nat) | arr (n e : Nat) | map (k e : Nat) | struct (fs : List Field) | func | iface (ms : Array (String × TypeId)) | other
structure TI where
  k : K
  size : Nat
  bytes : Nat
  zero : Option (List V)
  cmp : Bool
  meths : Array Method
  plain : Option (List K)
  zv : Option V

def strOf (s : ByteArray) : List Nat := s.data.toList.map UInt8.toNat
def ofCell : Value → Option V
  | .bool b => some (.bool b)
  | .int k n => some (.int k n)
  | .string s => some (.str (strOf s))
  | .pointer none => some .nilp
  | .slice none 0 0 => some .nils
  | .map none => some .nilm
  | .nilFunc => some .nilf
  | .nilIface => some .nili
  | _ => none
def ofCells : List Value → Option (List V)
  | [] => some []
  | v :: r => (ofCell v).bind fun x => (ofCells r).bind fun l => some (x :: l)
def ofVal : Value → Option V
  | .agg cs => (ofCells cs.toList).bind fun l => some (.agg l)
  | .tuple cs => (ofCells cs.toList).bind fun l => some (.tup l)
  | v => ofCell v
def kOf : TypeDesc → K
  | .bool => .bool | .int k => .int k | .string => .str | .pointer e => .ptr e | .slice e => .sl e | .array n e => .arr n e | .map k e => .map k e
  | .struct fs => .struct fs.toList | .func .. => .func | .interface ms => .iface ms | _ => .other
/-- kinds of a struct of plain cells alone: whole numbers, texts, truths, one field a cell -/
def plainK : TypeDesc → Option K
  | .bool => some .bool
  | .int k => some (.int k)
  | .string => some .str
  | _ => none
def plainKs (P : Program) : List Field → Nat → Option (List K)
  | [], _ => some []
  | f :: r, i => bif f.name != "_" && Nat.beq f.offset i then (P.underlying f.type).bind fun d => (plainK d).bind fun k => (plainKs P r (i + 1)).bind fun l => some (k :: l) else none
def plainOf (P : Program) (t : TypeId) (d : TypeDesc) : Option (List K) :=
  match d with
  | .struct fs => bif !P.stoodInHeld t && !P.eqGuardType P.depth t then plainKs P fs.toList 0 else none
  | _ => none
/-- what is kept of a type -/
def tiOf (P : Program) (t : TypeId) : Option TI :=
  match P.info? t, P.underlying t with
  | some i, some d => some ⟨kOf d, i.size, i.bytes, i.zero.bind fun z => ofCells z.cells.toList, i.comparable, i.methods, plainOf P t d, i.zero.bind ofVal⟩
  | _, _ => none

inductive Blk where
  | cells (vs : List V) (elem : Nat) (ro : Bool)
  | map (es : List (V × V × Nat)) (clock : Nat)
  | siter (s : List Nat) (pos : Nat)
  | dead
structure Hp where
  t : T Blk
  n : Nat
/-- operations on what stands for something -/
inductive SOp where
  | bin (op : BinOp)
  | conv (k : IntKind)
  | idx
  | len
  | cut
  | bytes
  | text
  | char
  | min (lt : Bool)
  | glob (g off : Nat) (t : TypeId)
structure Env where
  ty : T TI
  fn : T Func
  hook : Nat → Option (List V → Hp → Option (V × Hp))
  idle : Nat → List V → Bool
  so : SOp → List V → Option V

def Hp.new (h : Hp) (b : Blk) : Hp := ⟨h.t.put h.n b, h.n + 1⟩
def Hp.set (h : Hp) (i : Nat) (b : Blk) : Hp := ⟨h.t.put i b, h.n⟩

abbrev Tm := T V
def undefV : V := .tup []
def ev (t : Tm) : Operand → Option V
  | .tmp i => some ((t.get i).getD undefV)
  | .const v => ofVal v
  | .global g => some (.gptr g 0)
  | .func f => some (.fn (.func f) [] [])
def evs (t : Tm) : List Operand → Option (List V)
  | [] => some []
  | x :: r => (ev t x).bind fun v => (evs t r).bind fun l => some (v :: l)

def V.cells : V → List V
  | .agg l => l
  | v => [v]
def V.isCell : V → Bool
  | .agg _ | .tup _ => false
  | _ => true

/-- whole numbers: forced -/
def mkInt (k : IntKind) : Int → V
  | .ofNat 0 => .int k 0
  | .ofNat (n + 1) => .int k (.ofNat (n + 1))
  | .negSucc 0 => .int k (.negSucc 0)
  | .negSucc (n + 1) => .int k (.negSucc (n + 1))
def ilt : Int → Int → Bool
  | .ofNat a, .ofNat b => Nat.blt a b
  | .ofNat _, .negSucc _ => false
  | .negSucc _, .ofNat _ => true
  | .negSucc a, .negSucc b => Nat.blt b a
def ieq : Int → Int → Bool
  | .ofNat a, .ofNat b => Nat.beq a b
  | .negSucc a, .negSucc b => Nat.beq a b
  | _, _ => false
def keq : IntKind → IntKind → Bool
  | .i8, .i8 | .i16, .i16 | .i32, .i32 | .i64, .i64 | .u8, .u8 | .u16, .u16 | .u32, .u32 | .u64, .u64 => true
  | _, _ => false
def wrapF (k : IntKind) (n : Int) : Int := k.wrap n
def seq : List Nat → List Nat → Bool
  | [], [] => true
  | a :: x, b :: y => bif Nat.beq a b then seq x y else false
  | _, _ => false
def slt : List Nat → List Nat → Bool
  | _, [] => false
  | [], _ :: _ => true
  | a :: x, b :: y => bif Nat.blt a b then true else bif Nat.beq a b then slt x y else false
/-- a nat of an int that is not below nought -/
def natOf : Int → Option Nat
  | .ofNat n => some n
  | .negSucc _ => none

/-- plain cells alike -/
def ceq : K → V → V → Option Bool
  | .bool, .bool a, .bool b => some (a == b)
  | .int _, .int k a, .int j b => bif keq k j then some (ieq a b) else none
  | .str, .str a, .str b => some (seq a b)
  | .int k, .symI j a, .symI l b => bif keq k j && keq k l && Nat.beq a b then some true else none
  | .str, .symS a, .symS b => bif Nat.beq a b then some true else none
  | _, _, _ => none
def leq : List K → List V → List V → Option Bool
  | [], [], [] => some true
  | k :: ks, a :: x, b :: y => (ceq k a b).bind fun c => bif c then leq ks x y else some false
  | _, _, _ => none
def aeq (i : TI) (a b : List V) : Option Bool := i.plain.bind fun ks => leq ks a b
/-- alike, by a type -/
def veqP (E : Env) (e : TypeId) (a b x y : Nat) : Option Bool :=
  (E.ty.get e).bind fun j => bif Nat.beq j.size 0 then none else bif Nat.beq a b then some (Nat.beq x y) else none
def veqI (E : Env) (t u : Nat) (x y : V) : Option Bool :=
  bif Nat.beq t u then (E.ty.get t).bind fun j => bif j.cmp then (match j.k with | .int k => ceq (.int k) x y | .str => ceq .str x y | _ => none) else none else some false
def veq (E : Env) (i : TI) (x y : V) : Option Bool :=
  match i.k, x, y with
  | .bool, .bool a, .bool b => some (a == b)
  | .ptr _, .nilp, .nilp => some true
  | .ptr _, .nilp, .ptr _ _ => some false
  | .ptr _, .ptr _ _, .nilp => some false
  | .ptr e, .ptr a x, .ptr b y => veqP E e a b x y
  | .sl _, .nils, .nils => some true
  | .sl _, .nils, .sl .. => some false
  | .sl _, .nils, .slo .. => some false
  | .sl _, .sl .., .nils => some false
  | .sl _, .slo .., .nils => some false
  | .map .., .nilm, .nilm => some true
  | .map .., .nilm, .mp _ => some false
  | .map .., .mp _, .nilm => some false
  | .func, .nilf, .nilf => some true
  | .func, .nilf, .fn .. => some false
  | .func, .fn .., .nilf => some false
  | .iface _, .nili, .iface .. => some false
  | .iface _, .iface .., .nili => some false
  | .iface _, .iface t x, .iface u y => veqI E t u x y
  | .struct _, .agg a, .agg b => aeq i a b
  | _, _, _ => none
def bitop (k : IntKind) (f : BitVec k.bits → BitVec k.bits → BitVec k.bits) (a b : Int) : V :=
  mkInt k (k.wrap (f (BitVec.ofInt k.bits a) (BitVec.ofInt k.bits b)).toNat)
def vbin (op : BinOp) (x y : V) : Option V :=
  match x, y with
  | .int k a, .int j b =>
    match op with
    | .shl => bif ilt b 0 then none else (natOf b).bind fun n => some (mkInt k (k.wrap (a * 2 ^ (min n k.bits))))
    | .shr => bif ilt b 0 then none else (natOf b).bind fun n => some (mkInt k (a.fdiv (2 ^ (min n k.bits))))
    | _ => bif keq k j then
      match op with
      | .add => some (mkInt k (k.wrap (a + b)))
      | .sub => some (mkInt k (k.wrap (a - b)))
      | .mul => some (mkInt k (k.wrap (a * b)))
      | .quo => bif ieq b 0 then none else some (mkInt k (k.wrap (a.tdiv b)))
      | .rem => bif ieq b 0 then none else some (mkInt k (a.tmod b))
      | .and => some (bitop k (· &&& ·) a b)
      | .or => some (bitop k (· ||| ·) a b)
      | .xor => some (bitop k (· ^^^ ·) a b)
      | .andNot => some (bitop k (fun x y => x &&& ~~~y) a b)
      | .eql => some (.bool (ieq a b))
      | .neq => some (.bool (!ieq a b))
      | .lss => some (.bool (ilt a b))
      | .leq => some (.bool (!ilt b a))
      | .gtr => some (.bool (ilt b a))
      | .geq => some (.bool (!ilt a b))
      | _ => none
      else none
  | .str a, .str b =>
    match op with
    | .add => bif Nat.ble (a.length + b.length) 1048576 then some (.str (a ++ b)) else none
    | .eql => some (.bool (seq a b))
    | .neq => some (.bool (!seq a b))
    | .lss => some (.bool (slt a b))
    | .leq => some (.bool (!slt b a))
    | .gtr => some (.bool (slt b a))
    | .geq => some (.bool (!slt a b))
    | _ => none
  | _, _ => none
def vun (op : UnOp) (x : V) : Option V :=
  match op, x with
  | .not, .bool b => some (.bool (!b))
  | .neg, .int k n => some (mkInt k (k.wrap (0 - n)))
  | .xor, .int k n => some (bitop k (· ^^^ ·) (if k.signed then -1 else k.max) n)
  | _, _ => none

def isConstO : Operand → Bool
  | .const _ => true
  | _ => false
/-- with the operands: nil beside the word nil; structs of plain cells -/
def eqOp (op : BinOp) (r : Option Bool) : Option V :=
  match op with
  | .eql => r.bind fun c => some (.bool c)
  | .neq => r.bind fun c => some (.bool (!c))
  | _ => none
def vbinO (E : Env) (op : BinOp) (ty : TypeId) (ox oy : Operand) (x y : V) : Option V :=
  match x, y with
  | .int k a, .int j b => vbin op (.int k a) (.int j b)
  | .str a, .str b => vbin op (.str a) (.str b)
  | .nili, .nili => bif isConstO ox || isConstO oy then eqOp op ((E.ty.get ty).bind fun i => match i.k with | .iface _ => some true | _ => none) else none
  | .symI k j, y => E.so (.bin op) [.symI k j, y]
  | .symS j, y => E.so (.bin op) [.symS j, y]
  | x, .symI k j => E.so (.bin op) [x, .symI k j]
  | x, .symS j => E.so (.bin op) [x, .symS j]
  | x, y => eqOp op ((E.ty.get ty).bind fun i => veq E i x y)

/-- memory -/
def rdCells (h : Hp) (b : Nat) : Option (List V) :=
  match h.t.get b with
  | some (.cells vs _ _) => some vs
  | _ => none
def sub (l : List V) (off n : Nat) : Option (List V) := let r := (l.drop off).take n; bif Nat.beq r.length n then some r else none
def aggOf (E : Env) (t : TypeId) : Option Bool :=
  match (E.ty.get t).bind fun i => some i.k with
  | some (.struct _) | some (.arr ..) => some true
  | some _ => some false
  | none => none
def partV (E : Env) (t : TypeId) (cs : List V) (off : Nat) : Option V :=
  (E.ty.get t).bind fun i => match i.k with
  | .struct _ | .arr .. => (sub cs off i.size).bind fun l => some (.agg l)
  | _ => cs[off]?
def vload (E : Env) (h : Hp) (t : TypeId) : V → Option V
  | .ptr b off => (rdCells h b).bind fun vs => partV E t vs off
  | .gptr g off => E.so (.glob g off t) []
  | _ => none
/-- cells written from a place on -/
def spl : List V → Nat → List V → Option (List V)
  | l, _, [] => some l
  | [], _, _ :: _ => none
  | _ :: l, 0, w :: ws => (spl l 0 ws).bind fun r => some (w :: r)
  | x :: l, i + 1, ws => (spl l i ws).bind fun r => some (x :: r)
def allCells : List V → Bool
  | [] => true
  | v :: r => bif v.isCell then allCells r else false
def wrCells (h : Hp) (b off : Nat) (ws : List V) : Option Hp :=
  match h.t.get b with
  | some (.cells vs e false) => bif allCells ws then (spl vs off ws).bind fun r => some (h.set b (.cells r e false)) else none
  | _ => none
def vstore (E : Env) (h : Hp) (t : TypeId) : V → V → Option Hp
  | .ptr b off, v => (E.ty.get t).bind fun i => bif Nat.beq v.cells.length i.size then wrCells h b off v.cells else none
  | _, _ => none
def vzero (E : Env) (t : TypeId) : Option V := (E.ty.get t).bind fun i => i.zv
/-- what is made anew: how its place is told, what it has -/
inductive Fr where
  | ptr
  | sl (len cap : Nat)
  | slo (len sz : Nat)
  | mp
def Fr.at (b : Nat) : Fr → V
  | .ptr => .ptr b 0
  | .sl l c => .sl b 0 l c
  | .slo l sz => .slo b 0 l l sz
  | .mp => .mp b
abbrev F := Option (Fr × Blk)
def newCells (e : TypeId) (vs : List V) : Fr × Blk := (.ptr, .cells vs e false)
/-- parts of a literal -/
def fillV : List (Nat × Nat) → List V → List (Nat × V) → Option (List V)
  | _, cs, [] => some cs
  | pl, cs, (i, v) :: r => (pl[i]?).bind fun p => bif Nat.beq v.cells.length p.2 && Nat.ble (p.1 + p.2) cs.length then (spl cs p.1 v.cells).bind fun cs' => fillV pl cs' r else none
def sizesOf (E : Env) : List Field → Option (List (Nat × Nat))
  | [] => some []
  | f :: r => (E.ty.get f.type).bind fun i => (sizesOf E r).bind fun l => some ((f.offset, i.size) :: l)
def placesOf (sz : Nat) : Nat → Nat → List (Nat × Nat)
  | _, 0 => []
  | i, n + 1 => (i * sz, sz) :: placesOf sz (i + 1) n
def rep : Nat → List V → List V
  | 0, _ => []
  | n + 1, l => l ++ rep n l
def vbuild (E : Env) (t : TypeId) (ps : List (Nat × V)) : Option V :=
  (E.ty.get t).bind fun i => i.zero.bind fun z => match i.k with
  | .struct fs => (sizesOf E fs).bind fun pl => (fillV pl z ps).bind fun l => some (.agg l)
  | .arr n e => (E.ty.get e).bind fun j => (fillV (placesOf j.size 0 n) z ps).bind fun l => some (.agg l)
  | _ => none
def vbuildSlice (E : Env) (t : TypeId) (len : Nat) (ps : List (Nat × V)) : F :=
  (E.ty.get t).bind fun i => match i.k with
  | .sl e => (E.ty.get e).bind fun j => bif Nat.ble (len * j.size) 16777216 && Nat.beq ((j.zero.getD []).length) j.size then (j.zero.bind fun z => (fillV (placesOf j.size 0 len) (rep len z) ps).bind fun l =>
      some (.sl len len, .cells l e false)) else none
  | _ => none
def vfield (E : Env) (t : TypeId) (x : V) (f : Nat) : Option V :=
  (E.ty.get t).bind fun i => match i.k, x with
  | .struct fs, .agg cs => (fs[f]?).bind fun d => partV E d.type cs d.offset
  | _, _ => none
def vfieldAddr (E : Env) (t : TypeId) (x : V) (f : Nat) : Option V :=
  (E.ty.get t).bind fun i => match i.k, x with
  | .struct fs, .ptr b off => (fs[f]?).bind fun d => (E.ty.get d.type).bind fun j => bif Nat.beq j.size 0 then none else some (.ptr b (off + d.offset))
  | _, _ => none
def vindexAddr (E : Env) (t : TypeId) (x ix : V) : Option V :=
  match ix with
  | .int _ n => (natOf n).bind fun n => (E.ty.get t).bind fun i => match i.k, x with
    | .sl e, .sl b off len _ => (E.ty.get e).bind fun j => bif Nat.blt n len then some (.ptr b (off + n * j.size)) else none
    | .sl e, .slo b off len _ _ => (E.ty.get e).bind fun j => bif Nat.blt n len then some (.ptr b (off + n * j.size)) else none
    | .arr m e, .ptr b off => (E.ty.get e).bind fun j => bif Nat.blt n m then some (.ptr b (off + n * j.size)) else none
    | _, _ => none
  | _ => none
def vindex (E : Env) (t : TypeId) (x ix : V) : Option V :=
  match ix with
  | .int _ n => (natOf n).bind fun n => (E.ty.get t).bind fun i => match i.k, x with
    | .str, .str s => (s[n]?).bind fun b => some (.int .u8 (.ofNat b))
    | .str, .symS j => E.so .idx [.symS j, .int .i64 (.ofNat n)]
    | .arr m e, .agg cs => (E.ty.get e).bind fun j => bif Nat.blt n m then partV E e cs (n * j.size) else none
    | _, _ => none
  | _ => none
/-- bounds: low, high, max -/
def bound (o : Option V) (most : Nat) (dflt : Nat) : Option Nat :=
  match o with
  | none => some dflt
  | some (.int _ n) => (natOf n).bind fun n => bif Nat.ble n most then some n else none
  | _ => none
/-- low, high, max -/
def bounds (lo hi mx : Option V) (len cap : Nat) : Option (Nat × Nat × Nat) :=
  match hi, mx with
  | none, some _ => none
  | _, _ => (bound mx cap cap).bind fun m => (bound hi m len).bind fun h => (bound lo h 0).bind fun l => some (l, h, m)
def slOf (b off sz : Nat) : Nat × Nat × Nat → V
  | (l, h, m) => .sl b (bif Nat.beq m l then off else off + l * sz) (h - l) (m - l)
def sloOf (b off sz low : Nat) : Nat × Nat × Nat → Option V
  | (l, h, _) => bif Nat.beq l 0 || Nat.blt l low then some (.slo b (off + l * sz) (h - l) (low - l) sz) else bif Nat.beq h l then some .emp else none
def strCut (s : List Nat) : Nat × Nat × Nat → V
  | (l, h, _) => .str ((s.take h).drop l)
def lenOf : V → Option Nat
  | .int .i64 (.ofNat n) => some n
  | _ => none
def vslice (E : Env) (t : TypeId) (x : V) (lo hi mx : Option V) : Option V :=
  (E.ty.get t).bind fun i => match i.k, x with
  | .str, .str s => match mx with
    | none => (bounds lo hi none s.length s.length).bind fun b => some (strCut s b)
    | some _ => none
  | .str, .symS q => match mx with
    | none => (E.so .len [.symS q]).bind fun n => (lenOf n).bind fun n => (bounds lo hi none n n).bind fun b => E.so .cut [.symS q, .int .i64 (.ofNat b.1), .int .i64 (.ofNat b.2.1)]
    | some _ => none
  | .sl e, .nils => (E.ty.get e).bind fun _ => (bounds lo hi mx 0 0).bind fun r => match r with
    | (0, 0, 0) => some .nils
    | _ => none
  | .sl e, .sl b off len cap => (E.ty.get e).bind fun j => (bounds lo hi mx len cap).bind fun r => some (slOf b off j.size r)
  | .sl e, .slo b off len low sz => (E.ty.get e).bind fun j => match mx with
    | none => bif Nat.beq sz j.size then (bounds lo hi none len low).bind fun r => sloOf b off sz low r else none
    | some _ => (bounds lo hi mx len low).bind fun r => some (slOf b off j.size r)
  | .sl e, .emp => (E.ty.get e).bind fun _ => match mx with
    | none => (bounds lo hi none 0 0).bind fun _ => some .emp
    | some _ => none
  | .arr n e, .ptr b off => (E.ty.get e).bind fun j => (bounds lo hi mx n n).bind fun r => some (slOf b off j.size r)
  | _, _ => none

/-- bytes of a text as cells, cells as bytes -/
def bytesV (s : List Nat) : List V := s.map fun b => .int .u8 (.ofNat b)
def strV : List V → Option (List Nat)
  | [] => some []
  | .int .u8 (.ofNat n) :: r => bif Nat.blt n 256 then (strV r).bind fun l => some (n :: l) else none
  | _ :: _ => none
def strW (E : Env) (l : List V) : Option V :=
  match strV l with
  | some s => some (.str s)
  | none => E.so .text l
def tupOf : V → Option (List V)
  | .tup l => some l
  | _ => none
def convStr (E : Env) (h : Hp) (e : TypeId) (x : V) : Option V :=
  (E.ty.get e).bind fun m => match m.k, x with
  | .int .u8, .nils => some (.str [])
  | .int .u8, .emp => some (.str [])
  | .int .u8, .sl b off len _ => (rdCells h b).bind fun vs => (sub vs off len).bind fun l => strW E l
  | .int .u8, .slo b off len _ _ => (rdCells h b).bind fun vs => (sub vs off len).bind fun l => strW E l
  | _, _ => none
def vconv (E : Env) (h : Hp) (s d : TypeId) (x : V) : Option V :=
  (E.ty.get s).bind fun i => (E.ty.get d).bind fun j => match j.k, x with
  | .int k, .int _ n => some (mkInt k (k.wrap n))
  | .int k, .symI l j => E.so (.conv k) [.symI l j]
  | .str, .str s => some (.str s)
  | .str, .int _ (.ofNat n) => bif Nat.blt n 128 then some (.str [n]) else none
  | .str, .symS q => some (.symS q)
  | .str, .symI l q => E.so .char [.symI l q]
  | .str, x => match i.k with
    | .sl e => convStr E h e x
    | _ => none
  | _, _ => none
def fconv (E : Env) (d : TypeId) (x : V) : F :=
  (E.ty.get d).bind fun j => match j.k, x with
  | .sl e, .str s => (E.ty.get e).bind fun m => match m.k with
    | .int .u8 => some (.slo s.length 1, .cells (bytesV s) e false)
    | _ => none
  | .sl e, .symS q => (E.ty.get e).bind fun m => match m.k with
    | .int .u8 => (E.so .bytes [.symS q]).bind fun r => (tupOf r).bind fun l => some (.slo l.length 1, .cells l e false)
    | _ => none
  | _, _ => none

/-- the cells of what is appended -/
def elemsV (h : Hp) (sz : Nat) : V → Option (List V × Nat)
  | .nils => some ([], 0)
  | .emp => some ([], 0)
  | .str s => some (bytesV s, s.length)
  | .sl b off len _ => (rdCells h b).bind fun vs => (sub vs off (len * sz)).bind fun l => some (l, len)
  | .slo b off len _ _ => (rdCells h b).bind fun vs => (sub vs off (len * sz)).bind fun l => some (l, len)
  | _ => none
def appOK (j : TI) (need : Nat) : Bool := Nat.ble need 1048576 && Nat.ble j.bytes 65536 && Nat.beq ((j.zero.getD []).length) j.size && j.zero.isSome
/-- a slice grows, and goes on in its own block or in a new one: who knows -/
def grow (h : Hp) (e b sz len n : Nat) (ws : List V) : Option (V × Hp) :=
  match h.t.get b with
  | some (.cells vs el false) => bif Nat.beq vs.length (len * sz) && Nat.beq el e && allCells ws then some (.slo h.n 0 (len + n) (len + n) sz, (h.new (.cells (vs ++ ws) e false)).set b .dead) else none
  | _ => none
def appTo (h : Hp) (e : Nat) (j : TI) (x : V) (ws : List V) (n : Nat) : Option (V × Hp) :=
  match x with
  | .nils => bif Nat.beq n 0 then some (.nils, h) else bif appOK j n then some (.slo h.n 0 n n j.size, h.new (.cells ws e false)) else none
  | .sl b off len cap =>
    bif Nat.ble (len + n) cap then (wrCells h b (off + len * j.size) ws).bind fun h' => some (.sl b off (len + n) cap, h')
    else bif appOK j (len + n) then (rdCells h b).bind fun vs => (sub vs off (len * j.size)).bind fun l => some (.slo h.n 0 (len + n) (len + n) j.size, h.new (.cells (l ++ ws) e false)) else none
  | .slo b off len lo sz =>
    bif Nat.beq sz j.size then
      bif Nat.ble (len + n) lo then (wrCells h b (off + len * j.size) ws).bind fun h' => some (.slo b off (len + n) lo sz, h')
      else bif Nat.beq off 0 && appOK j (len + n) then grow h e b j.size len n ws else none
    else none
  | _ => none
/-- so many noughts behind -/
def zappTo (h : Hp) (e : Nat) (j : TI) (x : V) (n : Nat) : Option (V × Hp) :=
  match x with
  | .sl b off len cap =>
    bif appOK j (len + n) then
      bif Nat.ble (len + n) cap then (wrCells h b (off + len * j.size) (rep n (j.zero.getD []))).bind fun h' => some (.sl b off (len + n) cap, h')
      else (rdCells h b).bind fun vs => (sub vs off (len * j.size)).bind fun l => some (.slo h.n 0 (len + n) (len + n) j.size, h.new (.cells (l ++ rep n (j.zero.getD [])) e false))
    else none
  | _ => none
def isStr : V → Bool
  | .str _ => true
  | .symS _ => true
  | _ => false
def elemsW (E : Env) (h : Hp) (sz : Nat) (y : V) : Option (List V × Nat) :=
  match y with
  | .symS j => (E.so .bytes [.symS j]).bind fun r => (tupOf r).bind fun l => some (l, l.length)
  | y => elemsV h sz y
def vappend (E : Env) (h : Hp) (ts : Array TypeId) (x y : V) : Option (V × Hp) :=
  (ts[0]?).bind fun t => (ts[1]?).bind fun u => (E.ty.get u).bind fun iu => (E.ty.get t).bind fun i => match iu.k, i.k with
    | .int _, .sl e => (E.ty.get e).bind fun j => match y with
      | .int .i64 (.ofNat n) => zappTo h e j x n
      | _ => none
    | .int _, _ => none
    | _, .sl e => (E.ty.get e).bind fun j => bif !isStr y || Nat.beq j.size 1 then (elemsW E h j.size y).bind fun p => appTo h e j x p.1 p.2 else none
    | _, _ => none
def vlen (E : Env) (h : Hp) (ts : Array TypeId) (x : V) : Option V :=
  (ts[0]?).bind fun t => (E.ty.get t).bind fun i => match i.k, x with
  | .str, .str s => some (mkInt .i64 (.ofNat s.length))
  | .str, .symS q => E.so .len [.symS q]
  | .sl _, .nils => some (.int .i64 0)
  | .sl _, .sl _ _ len _ => some (.int .i64 (.ofNat len))
  | .sl _, .slo _ _ len _ _ => some (.int .i64 (.ofNat len))
  | .sl _, .emp => some (.int .i64 0)
  | .map .., .nilm => some (.int .i64 0)
  | .map .., .mp b => match h.t.get b with
    | some (.map es _) => some (mkInt .i64 (.ofNat es.length))
    | _ => none
  | _, _ => none
def copyTo (h : Hp) (sz : Nat) (x : V) (ws : List V) (n : Nat) : Option (V × Hp) :=
  match x with
  | .sl b off len _ => (wrCells h b off (ws.take (min n len * sz))).bind fun h' => some (mkInt .i64 (.ofNat (min n len)), h')
  | .slo b off len _ _ => (wrCells h b off (ws.take (min n len * sz))).bind fun h' => some (mkInt .i64 (.ofNat (min n len)), h')
  | .nils => some (.int .i64 0, h)
  | _ => none
def vcopy (E : Env) (h : Hp) (ts : Array TypeId) (x y : V) : Option (V × Hp) :=
  (ts[0]?).bind fun t => (E.ty.get t).bind fun i => match i.k with
  | .sl e => (E.ty.get e).bind fun j => bif isStr y then none else (elemsV h j.size y).bind fun p => copyTo h j.size x p.1 p.2
  | _ => none
def vcap (E : Env) (ts : Array TypeId) (x : V) : Option V :=
  (ts[0]?).bind fun t => (E.ty.get t).bind fun i => match i.k, x with
  | .sl _, .nils => some (.int .i64 0)
  | .sl _, .sl _ _ _ c => some (.int .i64 (.ofNat c))
  | _, _ => none
def vminF (lt : Bool) (k : IntKind) : Int → List V → Option V
  | a, [] => some (mkInt k a)
  | a, .int j b :: r => bif keq k j then vminF lt k (bif (bif lt then ilt b a else ilt a b) then b else a) r else none
  | _, _ => none
def vmin (lt : Bool) : List V → Option V
  | .int k a :: r => vminF lt k a r
  | _ => none
def vminS (E : Env) (lt : Bool) (l : List V) : Option V :=
  match vmin lt l with
  | some v => some v
  | none => E.so (.min lt) l

/-- maps: keys alike: whole numbers, texts, structs of plain cells -/
def veqK (i : TI) (x y : V) : Option Bool :=
  match i.k, x, y with
  | .int k, .int a m, .int b n => bif keq a b && keq a k then some (ieq m n) else none
  | .str, .str a, .str b => some (seq a b)
  | .struct _, .agg a, .agg b => aeq i a b
  | _, _, _ => none
def keyOK (i : TI) (x : V) : Bool :=
  match veqK i x x with
  | some true => true
  | _ => false
def findM (i : TI) (k : V) : List (V × V × Nat) → Nat → Option (Option (Nat × V × Nat))
  | [], _ => some none
  | (q, v, b) :: r, n => (veqK i k q).bind fun c => bif c then some (some (n, v, b)) else findM i k r (n + 1)
def mapOf (h : Hp) : V → Option (List (V × V × Nat) × Nat)
  | .mp b => match h.t.get b with
    | some (.map es c) => some (es, c)
    | _ => none
  | .nilm => some ([], 0)
  | _ => none
def vlookup (E : Env) (h : Hp) (t : TypeId) (x k : V) (ok : Bool) : Option V :=
  (E.ty.get t).bind fun i => match i.k with
  | .map q e => (E.ty.get q).bind fun j => bif keyOK j k then (mapOf h x).bind fun m => (findM j k m.1 0).bind fun r => match r with
    | some (_, v, _) => some (bif ok then .tup [v, .bool true] else v)
    | none => (vzero E e).bind fun z => some (bif ok then .tup [z, .bool false] else z)
    else none
  | _ => none
def setE : List (V × V × Nat) → Nat → V → Option (List (V × V × Nat))
  | [], _, _ => none
  | (q, _, b) :: r, 0, v => some ((q, v, b) :: r)
  | e :: r, i + 1, v => (setE r i v).bind fun l => some (e :: l)
def vmapUpdate (E : Env) (h : Hp) (t : TypeId) (m k v : V) : Option Hp :=
  (E.ty.get t).bind fun i => match i.k, m with
  | .map q _, .mp b => (E.ty.get q).bind fun j => bif keyOK j k then (mapOf h m).bind fun x => (findM j k x.1 0).bind fun r => match r with
    | some (n, _, _) => (setE x.1 n v).bind fun es' => some (h.set b (.map es' x.2))
    | none => some (h.set b (.map (x.1 ++ [(k, v, x.2)]) (x.2 + 1)))
    else none
  | _, _ => none
def vmapEntry (E : Env) (h : Hp) (t : TypeId) (m k : V) : Option (V × Hp) :=
  (E.ty.get t).bind fun i => match i.k, m with
  | .map q e, .mp b => (E.ty.get q).bind fun j => bif keyOK j k then (mapOf h m).bind fun x => (findM j k x.1 0).bind fun r => match r with
    | some (_, v, born) => some (.tup [v, .int .i64 (.ofNat born)], h)
    | none => (vzero E e).bind fun z => some (.tup [z, .int .i64 (.ofNat x.2)], h.set b (.map (x.1 ++ [(k, z, x.2)]) (x.2 + 1)))
    else none
  | _, _ => none
def setBorn : List (V × V × Nat) → Nat → V → Option (List (V × V × Nat))
  | [], _, _ => none
  | (q, w, b) :: r, n, v => bif Nat.beq b n then some ((q, v, b) :: r) else (setBorn r n v).bind fun l => some ((q, w, b) :: l)
def ventryStore (h : Hp) (m s v : V) : Option Hp :=
  match m, s with
  | .mp b, .int _ n => (natOf n).bind fun n => (mapOf h m).bind fun (es, c) => (setBorn es n v).bind fun es' => some (h.set b (.map es' c))
  | _, _ => none

def vtypeAssert (E : Env) (x : V) (a : TypeId) (ok : Bool) : Option V :=
  (E.ty.get a).bind fun i => match i.k, x with
  | .iface _, _ => none
  | _, .iface t v => bif Nat.beq t a then some (bif ok then .tup [v, .bool true] else v) else bif ok then (vzero E a).bind fun z => some (.tup [z, .bool false]) else none
  | _, .nili => bif ok then (vzero E a).bind fun z => some (.tup [z, .bool false]) else none
  | _, _ => none

inductive Nx where
  | val (v : V)
  | skip
  | enter (f : Nat) (args : List V)
  | dfr (f : Nat) (args : List V)
  | recover

/-- whom a function value calls -/
def target : V → List V → Option (Nat × List V)
  | .fn (.func f) first cap, args => some (f, first ++ args ++ cap)
  | _, _ => none
def findMeth (n : String) : List Method → Option Method
  | [] => none
  | m :: r => bif m.name == n then some m else findMeth n r
def methodV (E : Env) (r : V) (n : String) (args : List V) : Option (Nat × List V) :=
  match r with
  | .iface t v => (E.ty.get t).bind fun i => (findMeth n i.meths.toList).bind fun m => match m.path.toList, m.func, i.k with
    | [], some (f, true), .ptr _ => some (f, v :: args)
    | _, _, _ => none
  | _ => none
def parts (t : Tm) : List (Nat × Operand) → Option (List (Nat × V))
  | [] => some []
  | (i, x) :: r => (ev t x).bind fun v => (parts t r).bind fun l => some ((i, v) :: l)
def evo (t : Tm) : Option Operand → Option (Option V)
  | none => some none
  | some x => (ev t x).bind fun v => some (some v)
/-- operations that make nothing and change nothing -/
def lPick (t : Tm) (c a b : Operand) : Option V :=
  (ev t c).bind fun c => match c with
    | .bool true => ev t a
    | .bool false => ev t b
    | _ => none
def nilCheckV : V → Option V
  | .ptr b o => some (.ptr b o)
  | .fn (.func f) a c => some (.fn (.func f) a c)
  | _ => none
def ifaceV (ty : TypeId) (x : V) (i : TI) : Option V :=
  match i.k with
  | .iface _ => none
  | _ => some (.iface ty x)
def extractV (i : Nat) : V → Option V
  | .tup l => l[i]?
  | _ => none
def lBuild (E : Env) (t : Tm) (ty : TypeId) (ps : Array (Nat × Operand)) : Option V := (parts t ps.toList).bind fun ps => vbuild E ty ps
def lLoad (E : Env) (t : Tm) (h : Hp) (ty : TypeId) (a : Operand) : Option V := (ev t a).bind fun a => vload E h ty a
def lNilCheck (t : Tm) (x : Operand) : Option V := (ev t x).bind nilCheckV
def lBin (E : Env) (t : Tm) (op : BinOp) (ty : TypeId) (x y : Operand) : Option V := (ev t x).bind fun a => (ev t y).bind fun b => vbinO E op ty x y a b
def lUn (t : Tm) (op : UnOp) (x : Operand) : Option V := (ev t x).bind fun x => vun op x
def lConv (E : Env) (t : Tm) (h : Hp) (s d : TypeId) (x : Operand) : Option V := (ev t x).bind fun x => vconv E h s d x
def lIface (E : Env) (t : Tm) (ty : TypeId) (x : Operand) : Option V := (ev t x).bind fun x => (E.ty.get ty).bind fun i => ifaceV ty x i
def lFunc (t : Tm) (f : Fn) (a c : Array Operand) : Option V := (evs t a.toList).bind fun a => (evs t c.toList).bind fun c => some (.fn f a c)
def lSlice (E : Env) (t : Tm) (ty : TypeId) (x : Operand) (lo hi mx : Option Operand) : Option V :=
  (ev t x).bind fun x => (evo t lo).bind fun lo => (evo t hi).bind fun hi => (evo t mx).bind fun mx => vslice E ty x lo hi mx
def lFieldAddr (E : Env) (t : Tm) (ty : TypeId) (x : Operand) (f : Nat) : Option V := (ev t x).bind fun x => vfieldAddr E ty x f
def lField (E : Env) (t : Tm) (ty : TypeId) (x : Operand) (f : Nat) : Option V := (ev t x).bind fun x => vfield E ty x f
def lIndexAddr (E : Env) (t : Tm) (ty : TypeId) (x i : Operand) : Option V := (ev t x).bind fun x => (ev t i).bind fun i => vindexAddr E ty x i
def lIndex (E : Env) (t : Tm) (ty : TypeId) (x i : Operand) : Option V := (ev t x).bind fun x => (ev t i).bind fun i => vindex E ty x i
def lLookup (E : Env) (t : Tm) (h : Hp) (ty : TypeId) (x k : Operand) (ok : Bool) : Option V := (ev t x).bind fun x => (ev t k).bind fun k => vlookup E h ty x k ok
def lAssert (E : Env) (t : Tm) (x : Operand) (a : TypeId) (ok : Bool) : Option V := (ev t x).bind fun x => vtypeAssert E x a ok
def lExtract (t : Tm) (x : Operand) (i : Nat) : Option V := (ev t x).bind (extractV i)
def bLen (E : Env) (h : Hp) (ts : Array TypeId) : List V → Option V
  | [x] => vlen E h ts x
  | _ => none
def bCap (E : Env) (ts : Array TypeId) : List V → Option V
  | [x] => vcap E ts x
  | _ => none
def lBuiltin (E : Env) (h : Hp) (ts : Array TypeId) (b : Builtin) (args : List V) : Option V :=
  match b with
  | .len => bLen E h ts args
  | .cap => bCap E ts args
  | .min => vminS E true args
  | .max => vminS E false args
  | _ => none
def lCall (E : Env) (t : Tm) (h : Hp) (c : Call) : Option V :=
  match c.callee with
  | .builtin b => (evs t c.args.toList).bind fun args => lBuiltin E h c.argTypes b args
  | _ => none
def lop (E : Env) (t : Tm) (h : Hp) (op : Op) : Option V :=
  match op with
  | .move x => ev t x
  | .pick c a b => lPick t c a b
  | .build ty ps => lBuild E t ty ps
  | .load ty a => lLoad E t h ty a
  | .nilCheck x => lNilCheck t x
  | .binOp op ty x y _ => lBin E t op ty x y
  | .unOp op _ x => lUn t op x
  | .convert s d x => lConv E t h s d x
  | .makeInterface ty x => lIface E t ty x
  | .makeFunc f a c => lFunc t f a c
  | .slice ty x lo hi mx => lSlice E t ty x lo hi mx
  | .fieldAddr ty x f => lFieldAddr E t ty x f
  | .field ty x f => lField E t ty x f
  | .indexAddr ty x i => lIndexAddr E t ty x i
  | .index ty x i => lIndex E t ty x i
  | .lookup ty x k ok => lLookup E t h ty x k ok
  | .typeAssert x _ a ok => lAssert E t x a ok
  | .extract x i => lExtract t x i
  | .call c => lCall E t h c
  | _ => none

/-- operations that make one block, and read no memory -/
def fAlloc (E : Env) (e : TypeId) : F := (E.ty.get e).bind fun i => i.zero.bind fun z => some (newCells e z)
def fBox (t : Tm) (e : TypeId) (x : Operand) : F := (ev t x).bind fun x => bif allCells x.cells then some (newCells e x.cells) else none
def fBuildSlice (E : Env) (t : Tm) (ty : TypeId) (n : Nat) (ps : Array (Nat × Operand)) : F := (parts t ps.toList).bind fun ps => vbuildSlice E ty n ps
def makeV (E : Env) (l c : V) (i : TI) : F :=
  match i.k, l, c with
  | .sl e, .int .i64 l, .int .i64 c => (natOf l).bind fun l => (natOf c).bind fun c => (E.ty.get e).bind fun j => j.zero.bind fun z =>
    bif Nat.ble l c && Nat.ble (j.bytes * c) 1048576 && Nat.ble c 1048576 && Nat.beq z.length j.size then some (.sl l c, .cells (rep c z) e false) else none
  | _, _, _ => none
def fMake (E : Env) (t : Tm) (ty : TypeId) (l c : Operand) : F := (ev t l).bind fun l => (ev t c).bind fun c => (E.ty.get ty).bind fun i => makeV E l c i
def fConv (E : Env) (t : Tm) (s d : TypeId) (x : Operand) : F := (E.ty.get s).bind fun _ => (ev t x).bind fun x => fconv E d x
def fMap : Option Operand → F
  | none => some (.mp, .map [] 0)
  | some _ => none
def fop (E : Env) (t : Tm) (op : Op) : F :=
  match op with
  | .alloc e => fAlloc E e
  | .box e x => fBox t e x
  | .buildSlice ty n ps => fBuildSlice E t ty n ps
  | .makeMap _ r => fMap r
  | .makeSlice ty l c => fMake E t ty l c
  | .convert s d x => fConv E t s d x
  | _ => none

/-- operations that do something -/
abbrev R := Option (Nx × Hp)
def rV (h : Hp) : Option V → R
  | some v => some (.val v, h)
  | none => none
def rVH : Option (V × Hp) → R
  | some (v, h) => some (.val v, h)
  | none => none
def rU : Option Hp → R
  | some h => some (.skip, h)
  | none => none
def eStore (E : Env) (t : Tm) (h : Hp) (ty : TypeId) (a x : Operand) : R := rU ((ev t a).bind fun a => (ev t x).bind fun x => vstore E h ty a x)
def eMapUpdate (E : Env) (t : Tm) (h : Hp) (ty : TypeId) (m k x : Operand) : R := rU ((ev t m).bind fun m => (ev t k).bind fun k => (ev t x).bind fun x => vmapUpdate E h ty m k x)
def eMapEntry (E : Env) (t : Tm) (h : Hp) (ty : TypeId) (m k : Operand) : R := rVH ((ev t m).bind fun m => (ev t k).bind fun k => vmapEntry E h ty m k)
def eEntryStore (t : Tm) (h : Hp) (m s x : Operand) : R := rU ((ev t m).bind fun m => (ev t s).bind fun s => (ev t x).bind fun x => ventryStore h m s x)
def eBuiltin (E : Env) (h : Hp) (ts : Array TypeId) (b : Builtin) (args : List V) : R :=
  match b, args with
  | .append, [x, y] => rVH (vappend E h ts x y)
  | .copy, [x, y] => rVH (vcopy E h ts x y)
  | .recover, _ => some (.recover, h)
  | _, _ => none
def eCall (E : Env) (t : Tm) (h : Hp) (c : Call) : R :=
  (evs t c.args.toList).bind fun args => match c.callee with
    | .value f => (ev t f).bind fun f => (target f args).bind fun p => some (.enter p.1 p.2, h)
    | .invoke r n => (ev t r).bind fun r => (methodV E r n args).bind fun p => some (.enter p.1 p.2, h)
    | .builtin b => eBuiltin E h c.argTypes b args
def eDefer (t : Tm) (h : Hp) (c : Call) : R :=
  match c.callee with
  | .value f => (evs t c.args.toList).bind fun args => (ev t f).bind fun f => (target f args).bind fun p => some (.dfr p.1 p.2, h)
  | _ => none
def eop (E : Env) (t : Tm) (h : Hp) (op : Op) : R :=
  match op with
  | .assign x => rV h (ev t x)
  | .store ty a x => eStore E t h ty a x
  | .mapUpdate ty m k x => eMapUpdate E t h ty m k x
  | .insert ty m k x => eMapUpdate E t h ty m k x
  | .mapEntry ty m k => eMapEntry E t h ty m k
  | .entryStore _ m s x => eEntryStore t h m s x
  | .call c => eCall E t h c
  | .defer c => eDefer t h c
  | _ => none
def isEB : Builtin → Bool
  | .len | .cap | .min | .max => false
  | _ => true
def isE : Op → Bool
  | .assign _ | .store .. | .mapUpdate .. | .insert .. | .mapEntry .. | .entryStore .. | .defer _ => true
  | .call c => (match c.callee with | .builtin b => isEB b | _ => true)
  | _ => false
/-- may what is read hang on memory? -/
def readsM : Op → Bool
  | .load .. | .convert .. | .lookup .. | .call _ => true
  | _ => false

structure St where
  t : Tm
  h : Hp
  d : List (Nat × List V)
  n : Nat
inductive Ex where
  | normal | exit (id : Nat) | ret

def St.put (s : St) (dst : Option Tmp) (v : V) (h : Hp) : Option St :=
  match s with
  | ⟨t, _, d, n⟩ => match dst with
    | some i => bif Nat.blt i n then some ⟨t.put i v, h, d, n⟩ else none
    | none => some ⟨t, h, d, n⟩
theorem St.put_eq (s : St) (dst : Option Tmp) (v : V) (h : Hp) : s.put dst v h = match dst with
  | some d => bif Nat.blt d s.n then some ⟨s.t.put d v, h, s.d, s.n⟩ else none
  | none => some ⟨s.t, h, s.d, s.n⟩ := rfl
def wantedV (t : Tm) (ops : List Oper) : Option (Nat × Bool) → Option Bool
  | none => some true
  | some (j, w) => (ops[j]?).bind fun g => g.dst.bind fun d => match (t.get d).getD undefV with
    | .bool b => some (b == w)
    | .tup [] => some false
    | _ => none
abbrev CallF := Nat → List V → Hp → Option (V × Hp)
def onNx (call : CallF) (s : St) (dst : Option Tmp) : R → Option St
  | some (.val v, h) => s.put dst v h
  | some (.skip, h) => s.put dst undefV h
  | some (.enter f xs, h) => (call f xs h).bind fun p => s.put dst p.1 p.2
  | some (.dfr f xs, h) => St.put ⟨s.t, h, (f, xs) :: s.d, s.n⟩ dst undefV h
  | some (.recover, _) => none
  | none => none
/-- an operation that changes nothing that stands: its value, or its block -/
inductive PR where
  | skip
  | l (v : V)
  | f (r : Fr) (b : Blk) (id : Nat)
def prOf (E : Env) (t : Tm) (h : Hp) (op : Op) : Option PR :=
  match lop E t h op with
  | some v => some (.l v)
  | none => match fop E t op with
    | some (r, b) => some (.f r b h.n)
    | none => none
def St.take (s : St) (dst : Option Tmp) : PR → Option St
  | .skip => s.put dst undefV s.h
  | .l v => s.put dst v s.h
  | .f r b id => s.put dst (r.at id) (s.h.new b)
def nStep (E : Env) (ops : List Oper) (o : Oper) (s : St) : Option PR :=
  (wantedV s.t ops o.guard).bind fun w => match w with
    | true => prOf E s.t s.h o.op
    | false => some .skip
def eStep (E : Env) (call : CallF) (ops : List Oper) (o : Oper) (s : St) : Option St :=
  (wantedV s.t ops o.guard).bind fun w => match w with
    | true => onNx call s o.dst (eop E s.t s.h o.op)
    | false => s.put o.dst undefV s.h
/-- one operation, with calls -/
def opStep (E : Env) (call : CallF) (ops : List Oper) (o : Oper) (s : St) : Option St :=
  match isE o.op with
  | true => eStep E call ops o s
  | false => (nStep E ops o s).bind fun p => s.take o.dst p
def opsRun (E : Env) (call : CallF) (ops : List Oper) : List Oper → St → Option St
  | [], s => some s
  | o :: r, s => match opStep E call ops o s with
    | some s' => opsRun E call ops r s'
    | none => none

/-- a region whose order is drawn: a plan: what changes nothing as early as may be; what does something one after the other -/
inductive PStep where
  | n (i : Nat) (o : Oper)
  | e (i : Nat) (o : Oper) (m : Nat)
def afterAll (listed : Nat) : List Edge → Bool
  | [] => true
  | e :: r => match Region.binds .any e with
    | true => bif Nat.testBit listed e.on then afterAll listed r else false
    | false => afterAll listed r
/-- all that come ahead, by numbers -/
def maskOf (ms : List Nat) : List Edge → Nat → Nat
  | [], m => m
  | e :: r, m => match Region.binds .any e with
    | true => maskOf ms r (m ||| 2 ^ e.on ||| ms.getD e.on 0)
    | false => maskOf ms r m
def masks : List Oper → List Nat → List Nat
  | [], ms => ms
  | o :: r, ms => masks r (ms ++ [maskOf ms o.after.toList 0])
/-- what changes nothing, in the order of the numbers; a proposal, looked over by 'build' -/
def pass : List Oper → Nat → Nat → List Nat → Nat × List Nat
  | [], _, l, acc => (l, acc)
  | o :: r, i, l, acc => bif Nat.testBit l i || isE o.op then pass r (i + 1) l acc else
      bif afterAll l o.after.toList then pass r (i + 1) (l ||| 2 ^ i) (i :: acc) else pass r (i + 1) l acc
def firstE : List Oper → Nat → Nat → Option Nat
  | [], _, _ => none
  | o :: r, i, l => bif Nat.testBit l i then firstE r (i + 1) l else bif afterAll l o.after.toList then some i else firstE r (i + 1) l
def mkPlan (ops : List Oper) : Nat → Nat → List Nat → List Nat
  | 0, _, acc => acc.reverse
  | f + 1, l, acc =>
    match pass ops 0 l acc with
    | (l, acc) => match firstE ops 0 l with
      | some i => mkPlan ops f (l ||| 2 ^ i) (i :: acc)
      | none => acc.reverse
/-- whatever else may come up: nothing -/
def only : List Oper → Nat → Nat → Nat → Bool
  | [], _, _, _ => true
  | o :: r, k, l, i => (Nat.testBit l k || !afterAll l o.after.toList || Nat.beq k i) && only r (k + 1) l i
def allBits : Nat → Nat → Bool
  | 0, _ => true
  | n + 1, l => Nat.testBit l n && allBits n l
def build (ops : List Oper) (ms : List Nat) : Nat → List Nat → Option (List PStep)
  | l, [] => bif allBits ops.length l then some [] else none
  | l, i :: r => match ops[i]? with
    | none => none
    | some o => bif !Nat.testBit l i && afterAll l o.after.toList then (match build ops ms (l ||| 2 ^ i) r with
      | none => none
      | some p => match isE o.op with
        | false => some (.n i o :: p)
        | true => bif only ops 0 l i then some (.e i o (ms.getD i 0) :: p) else none) else none
def looks (ops : List Oper) (o : Oper) : List Tmp :=
  (o.op.operands.toList.filterMap fun | .tmp t => some t | _ => none) ++
  (match o.guard with
   | some (g, _) => ((ops[g]?).bind (·.dst)).toList
   | none => [])
/-- no two meet in a slot, but one is ahead -/
def apart2 (ops : List Oper) (ms : List Nat) (i : Nat) (o : Oper) (j : Nat) (p : Oper) : Bool :=
  match p.dst with
  | none => true
  | some d =>
    bif Nat.beq i j then !(looks ops p).contains d || isE p.op else
    bif (looks ops o).contains d then (Nat.testBit (ms.getD i 0) j || (isE p.op && Nat.testBit (ms.getD j 0) i)) && (match o.dst with | some e => bif Nat.beq e d then isE o.op && isE p.op else true | none => true)
    else match o.dst with
      | some e => bif Nat.beq e d then isE o.op && isE p.op else true
      | none => true
def zipI : List Oper → Nat → List (Nat × Oper)
  | [], _ => []
  | o :: r, i => (i, o) :: zipI r (i + 1)
def edgesOk : List Oper → Nat → Bool
  | [], _ => true
  | o :: r, i => (o.after.toList.all fun e => !Region.binds .any e || Nat.blt e.on i) && edgesOk r (i + 1)
def planOf (ops : List Oper) : Option (List PStep) :=
  match masks ops [] with
  | ms => bif edgesOk ops 0 && ((zipI ops 0).all fun x => (zipI ops 0).all fun y => apart2 ops ms x.1 x.2 y.1 y.2) then build ops ms 0 (mkPlan ops (ops.length + 1) 0 []) else none
/-- flat things alike, to the letter -/
def same1 : V → V → Bool
  | .bool a, .bool b => a == b
  | .int k a, .int j b => keq k j && ieq a b
  | .str a, .str b => seq a b
  | .nilp, .nilp => true
  | .ptr a x, .ptr b y => Nat.beq a b && Nat.beq x y
  | .nils, .nils => true
  | .sl a x l c, .sl b y m d => Nat.beq a b && Nat.beq x y && Nat.beq l m && Nat.beq c d
  | .slo a x l c z, .slo b y m d u => Nat.beq a b && Nat.beq x y && Nat.beq l m && Nat.beq c d && Nat.beq z u
  | .emp, .emp => true
  | .nilm, .nilm => true
  | .mp a, .mp b => Nat.beq a b
  | .nilf, .nilf => true
  | .nili, .nili => true
  | .symI k a, .symI j b => keq k j && Nat.beq a b
  | .symS a, .symS b => Nat.beq a b
  | .gptr a x, .gptr b y => Nat.beq a b && Nat.beq x y
  | .any, .any => true
  | .fn (.func f) [] [], .fn (.func g) [] [] => Nat.beq f g
  | _, _ => false
def sameL : List V → List V → Bool
  | [], [] => true
  | a :: x, b :: y => bif same1 a b then sameL x y else false
  | _, _ => false
def sameV : V → V → Bool
  | .agg a, .agg b => sameL a b
  | .tup a, .tup b => sameL a b
  | a, b => same1 a b
def sameB : Blk → Blk → Bool
  | .cells a e r, .cells b f q => sameL a b && Nat.beq e f && (r == q)
  | .map [] c, .map [] d => Nat.beq c d
  | _, _ => false
def still (E : Env) (s : St) (p : Nat × Oper × PR) : Bool :=
  match p.2.2 with
  | .skip => true
  | .l v => bif readsM p.2.1.op then (match lop E s.t s.h p.2.1.op with | some u => sameV u v | none => false) else true
  | .f _ b id => match s.h.t.get id with | some c => sameB c b | none => false
def stillAll (E : Env) (s : St) (pd : List (Nat × Oper × PR)) : PR → Bool
  | .f _ _ _ => pd.all (still E s)
  | _ => true
def planRun (E : Env) (call : CallF) (ops : List Oper) : List PStep → List (Nat × Oper × PR) → St → Option St
  | [], _, s => some s
  | .n i o :: r, pd, s => match nStep E ops o s with
    | some p => match s.take o.dst p with
      | some s' => bif stillAll E s' pd p then planRun E call ops r ((i, o, p) :: pd) s' else none
      | none => none
    | none => none
  | .e _ o m :: r, pd, s => match eStep E call ops o s with
    | some s' => match pd.filter fun p => !Nat.testBit m p.1 with
      | pd' => bif pd'.all (still E s') then planRun E call ops r pd' s' else none
    | none => none
def regRun (E : Env) (call : CallF) (ops : List Oper) : Bool → St → Option St
  | false, s => opsRun E call ops ops s
  | true, s => match planOf ops with
    | some p => planRun E call ops p [] s
    | none => none
def resV (E : Env) (s : St) : List ResultVar → Option (List V)
  | [] => some []
  | .tmp t :: r => (resV E s r).bind fun l => some ((s.t.get t).getD undefV :: l)
  | .cell a ty :: r => (vload E s.h ty ((s.t.get a).getD undefV)).bind fun v => (resV E s r).bind fun l => some (v :: l)
def endOf (E : Env) (fn : Func) (s : St) : Option (V × Hp) :=
  (resV E s fn.results.toList).bind fun l => match l with
    | [v] => some (v, s.h)
    | l => some (.tup l, s.h)
/-- deferred calls that do nothing -/
def idleAll (E : Env) : List (Nat × List V) → Bool
  | [] => true
  | (f, xs) :: r => bif E.idle f xs then idleAll E r else false
def finOf (E : Env) (fn : Func) : Option (Ex × St) → Option (V × Hp)
  | some (.normal, s) => bif idleAll E s.d then endOf E fn s else none
  | some (.ret, s) => bif idleAll E s.d then endOf E fn s else none
  | _ => none
def callFn (E : Env) (ex : Code → St → Option (Ex × St)) (args : List V) (h : Hp) (fn : Func) : Option (V × Hp) :=
  match fn.body with
  | none => none
  | some c => bif Nat.ble args.length fn.ntmps then finOf E fn (ex c ⟨T.ofL (args.map some) 0 .leaf, h, [], fn.ntmps⟩) else none
def callOf (E : Env) (ex : Code → St → Option (Ex × St)) (f : Nat) (args : List V) (h : Hp) : Option (V × Hp) :=
  match E.hook f with
  | some g => g args h
  | none => match E.fn.get f with
    | some fn => callFn E ex args h fn
    | none => none
def ndNormal (k : St → Option (Ex × St)) : Option (Ex × St) → Option (Ex × St)
  | some (.normal, s) => k s
  | r => r
def ndBlock (id : Nat) : Option (Ex × St) → Option (Ex × St)
  | some (.exit j, s) => bif Nat.beq j id then some (.normal, s) else some (.exit j, s)
  | r => r
def ndCond (a b : Unit → Option (Ex × St)) : Option V → Option (Ex × St)
  | some (.bool true) => a ()
  | some (.bool false) => b ()
  | _ => none
def ndRegion : Option St → Option (Ex × St)
  | some s => some (.normal, s)
  | none => none
def exec (E : Env) : Nat → Code → St → Option (Ex × St)
  | 0, _, _ => none
  | n + 1, c, s => match c with
    | .skip => some (.normal, s)
    | .region _ ops draw => ndRegion (regRun E (callOf E (exec E n)) ops.toList draw s)
    | .seq a b => ndNormal (exec E n b) (exec E n a s)
    | .cond c a b => ndCond (fun _ => exec E n a s) (fun _ => exec E n b s) (ev s.t c)
    | .block id c => ndBlock id (exec E n c s)
    | .loop c => ndNormal (exec E n (.loop c)) (exec E n c s)
    | .exit id => some (.exit id, s)
    | .ret => some (.ret, s)
    | _ => none
def Env.of (P : Program) (hook : Nat → Option (List V → Hp → Option (V × Hp))) (idle : Nat → List V → Bool) (so : SOp → List V → Option V := fun _ _ => none) : Env :=
  ⟨T.ofL ((List.range P.types.size).map (tiOf P)) 0 .leaf, T.ofL (P.funcs.toList.map some) 0 .leaf, hook, idle, so⟩
end
end Go.Proofs.YtehbfpcfbpbllaaGreatDoor.VM
