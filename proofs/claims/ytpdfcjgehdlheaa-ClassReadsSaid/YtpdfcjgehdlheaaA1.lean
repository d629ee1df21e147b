/- The abstract machine: values that carry their contents, simplified code, and its run with fuel. -/
import Derived.Calls
set_option linter.all false
namespace Go.Ab

/-- Plain data: what may lie in a list's element. -/
inductive D where
  | int (k : IntKind) (n : Int)
  | bool (b : Bool)
  | str (s : List UInt8)
  | lst (es : List (List D))
  | nilp
  | nilI
  | nilF
  deriving Inhabited

/-- Values: data, a list that may be appended to, pointers, functions, interfaces, structs. -/
inductive AV where
  | d (x : D)
  | nil
  | own (es : List (List D))
  | ptr (r off : Nat)
  | ept (cs : List D) (off : Nat)
  | sref (r off n : Nat)
  | fn (f : Fn) (first cap : List AV)
  | ifc (t : TypeId) (v : AV)
  | agg (cs : List AV)
  | tup (vs : List AV)
  deriving Inhabited

/-- a number that is not below 0 -/
abbrev AV.nat (k : IntKind) (n : Nat) : AV := .d (.int k n)

inductive Opd where
  | t (n : Nat)
  | c (v : AV)
  | f (id : FuncId)
  deriving Inhabited

inductive PK where
  | int (k : IntKind)
  | bool
  | str
  deriving DecidableEq, Inhabited

inductive AOpk where
  | mov (x : Opd)
  | take (t : Nat)
  | asg (x : Opd)
  | pick (c a b : Opd)
  | alloc (cells : List AV)
  | box (x : Opd)
  | build (zero : List AV) (parts : List (Nat × Nat × Opd))
  | mkls (sz : Nat) (zero : List AV) (parts : List (Nat × Nat × Opd))
  | load (agg : Option Nat) (a : Opd)
  | loadB (agg : Option Nat) (a base : Opd)
  | takeload (a : Opd)
  | recheck (agg : Option Nat) (a : Opd) (t : Nat)
  | store (sz : Nat) (a v : Opd)
  | storeW (sz : Nat) (a v : Opd) (ws : List Opd)
  | nilchk (x : Opd)
  | bin (op : BinOp) (x y : Opd)
  | beq (ne : Bool) (x y : Opd)
  | eqc (ne : Bool) (ks : List PK) (x y : Opd)
  | eqnil (nk : Nat) (ne : Bool) (x : Opd)
  | un (op : UnOp) (x : Opd)
  | toInt (k : IntKind) (x : Opd)
  | ident (x : Opd)
  | same (x : Opd)
  | strBytes (x : Opd)
  | bytesStr (x : Opd)
  | mkifc (t : TypeId) (x : Opd)
  | mkfn (f : Fn) (first cap : List Opd)
  | sliceS (x : Opd) (lo hi : Option Opd)
  | slice (sz : Nat) (x : Opd) (lo hi : Option Opd)
  | slArr (n : Nat) (x : Opd) (lo hi : Option Opd)
  | fldA (off : Nat) (x : Opd)
  | fld (off : Nat) (agg : Option Nat) (x : Opd)
  | idxA (arr : Option Nat) (sz : Nat) (x i : Opd)
  | idxS (x i : Opd)
  | idxV (n sz : Nat) (agg : Option Nat) (x i : Opd)
  | assertT (t : TypeId) (zero : AV) (x : Opd)
  | extr (x : Opd) (i : Nat)
  | call (f : Opd) (args : List Opd)
  | callZ (f : Opd) (args : List Opd)
  | callQ (f : Opd) (args : List Opd)
  | lenS (x : Opd)
  | len (x : Opd)
  | lenArr (n : Nat)
  | append (sz : Nat) (x y : Opd)
  | copy (x y : Opd)
  | min (x y : Opd)
  | max (x y : Opd)
  | recover
  | defer (f : Opd) (args : List Opd)
  | panic (x : Opd)
  deriving Inhabited

structure AOp where
  dst : Option Nat
  op : AOpk
  guard : Option (Nat × Bool) := none
  may : Bool := true
  deriving Inhabited

inductive AC where
  | skip
  | ops (l : List AOp)
  | seq (a b : AC)
  | cond (c : Opd) (t e : AC)
  | block (id : Nat) (b : AC)
  | loop (keep : List Nat) (b : AC)
  | exit (id : Nat)
  | ret
  | trim (keep : List Nat) (b : AC)
  | hole
  | label
  | goto (l : Nat)
  | scope (l : Nat) (b r : AC)
  deriving Inhabited

inductive ResV where
  | tmp (t : Nat)
  | cell (a : Nat) (agg : Option Nat)
  deriving Inhabited

structure AFn where
  body : AC
  res : List ResV
  keep : Bool := false
  deriving Inhabited

abbrev Slots := List (Nat × AV)
abbrev Refs := List (List AV)

structure St where
  sl : Slots
  rf : Refs
  df : List (AV × List AV) := []
  pn : Option (Option AV) := none
  nb : Nat := 0
  deriving Inhabited

inductive Ex where
  | nrm
  | exit (id : Nat)
  | goto (l : Nat)
  | ret
  | pan (v : AV)
  deriving Inhabited

/-- What a call comes to: its result, or the value that it panics with. -/
inductive Out where
  | ret (v : AV)
  | pan (v : AV)
  deriving Inhabited

abbrev CallFn := FuncId → List AV → Refs → Option (Out × Refs)

def Slots.get : Slots → Nat → Option AV
  | [], _ => none
  | (k, v) :: r, n => if k = n then some v else Slots.get r n

def Slots.put (s : Slots) (n : Nat) (v : AV) : Slots := (n, v) :: s

def Slots.keep (s : Slots) : List Nat → Slots
  | [] => []
  | k :: ks => match s.get k with
    | some v => (k, v) :: Slots.keep s ks
    | none => Slots.keep s ks

mutual
/-- A value without leave to append. -/
def AV.strip : AV → AV
  | .own es => .d (.lst es)
  | .agg cs => .agg (AV.strips cs)
  | .ifc t v => .ifc t v.strip
  | .tup vs => .tup (AV.strips vs)
  | v => v
def AV.strips : List AV → List AV
  | [] => []
  | v :: r => v.strip :: AV.strips r
end

mutual
/-- A value as it is handed to a call, or back: nil is an empty list. -/
def AV.bare : AV → AV
  | .own es => .d (.lst es)
  | .nil => .d (.lst [])
  | .agg cs => .agg (AV.bares cs)
  | .ifc t v => .ifc t v.bare
  | v => v
def AV.bares : List AV → List AV
  | [] => []
  | v :: r => v.bare :: AV.bares r
end

def AV.toD : AV → Option D
  | .d x => some x
  | .nil => some (.lst [])
  | .own es => some (.lst es)
  | _ => none

def toDs : List AV → Option (List D)
  | [] => some []
  | v :: r => match v.toD, toDs r with
    | some x, some xs => some (x :: xs)
    | _, _ => none

def AV.cells : AV → List AV
  | .agg cs => cs
  | v => [v]

/-- the cells of a value that is stored: leave to append goes along at the outermost alone -/
def AV.cellsO : AV → List AV
  | .agg cs => AV.strips cs
  | v => [v]

mutual
/-- One more than the greatest reference in it. -/
def AV.refB : AV → Nat
  | .ptr r _ => r + 1
  | .sref r _ _ => r + 1
  | .fn _ a b => max (AV.refBs a) (AV.refBs b)
  | .ifc _ v => v.refB
  | .agg cs => AV.refBs cs
  | .tup vs => AV.refBs vs
  | _ => 0
def AV.refBs : List AV → Nat
  | [] => 0
  | v :: r => max v.refB (AV.refBs r)
end

def rawO (s : Slots) : Opd → Option AV
  | .t n => s.get n
  | .c v => some v
  | .f id => some (.fn (.func id) [] [])

def getO (s : Slots) (x : Opd) : Option AV := (rawO s x).map AV.strip

def getOs (s : Slots) : List Opd → Option (List AV)
  | [] => some []
  | x :: r => match getO s x, getOs s r with
    | some v, some vs => some (v :: vs)
    | _, _ => none

def Refs.cellsAt (rf : Refs) (r off n : Nat) : Option (List AV) :=
  match rf[r]? with
  | some cs => if off + n ≤ cs.length then some ((cs.drop off).take n) else none
  | none => none

def setRange (cs : List AV) (off : Nat) : List AV → List AV
  | [] => cs
  | v :: r => setRange (cs.set off v) (off + 1) r

def loadAt (rf : Refs) (agg : Option Nat) : AV → Option AV
  | .ptr r off =>
    match agg with
    | some n => (rf.cellsAt r off n).map .agg
    | none => match rf[r]? with
      | some cs => cs[off]?
      | none => none
  | .ept cs off =>
    match agg with
    | some n => if off + n ≤ cs.length then some (.agg (((cs.drop off).take n).map .d)) else none
    | none => (cs[off]?).map .d
  | _ => none

def AV.solid : AV → Bool
  | .tup _ => false
  | _ => true

/-- what one cell may hold -/
def AV.one : AV → Bool
  | .agg _ => false
  | .tup _ => false
  | _ => true

def storeAt (rf : Refs) (nb : Nat) (sz : Nat) (a v : AV) : Option Refs :=
  match a with
  | .ptr r off =>
    let cs' := v.cellsO
    if cs'.length ≠ sz ∨ cs'.all AV.one = false then none else
    match rf[r]? with
    | some cs => if off + sz ≤ cs.length ∧ (AV.refBs cs' ≤ r + 1 ∨ nb ≤ r) then some (rf.set r (setRange cs off cs')) else none
    | none => none
  | _ => none

mutual
def D.same : D → D → Bool
  | .int k n, .int k' n' => k == k' && n == n'
  | .bool a, .bool b => a == b
  | .str a, .str b => a == b
  | .lst a, .lst b => sameR a b
  | .nilp, .nilp => true
  | .nilI, .nilI => true
  | .nilF, .nilF => true
  | _, _ => false
def sameR : List (List D) → List (List D) → Bool
  | [], [] => true
  | a :: r, b :: s => sameD a b && sameR r s
  | _, _ => false
def sameD : List D → List D → Bool
  | [], [] => true
  | a :: r, b :: s => D.same a b && sameD r s
  | _, _ => false
end
mutual
theorem D.same_eq : ∀ a b : D, D.same a b = true → a = b
  | .int k n, b, h => by cases b <;> simp_all [D.same]
  | .bool a, b, h => by cases b <;> simp_all [D.same]
  | .str a, b, h => by cases b <;> simp_all [D.same]
  | .lst a, b, h => by
    cases b <;> simp only [D.same, Bool.false_eq_true] at h
    rw [sameR_eq a _ h]
  | .nilp, b, h => by cases b <;> simp_all [D.same]
  | .nilI, b, h => by cases b <;> simp_all [D.same]
  | .nilF, b, h => by cases b <;> simp_all [D.same]
theorem sameR_eq : ∀ a b : List (List D), sameR a b = true → a = b
  | [], b, h => by cases b <;> simp_all [sameR]
  | a :: r, b, h => by
    cases b with
    | nil => simp [sameR] at h
    | cons b s =>
      simp only [sameR, Bool.and_eq_true] at h
      rw [sameD_eq a b h.1, sameR_eq r s h.2]
theorem sameD_eq : ∀ a b : List D, sameD a b = true → a = b
  | [], b, h => by cases b <;> simp_all [sameD]
  | a :: r, b, h => by
    cases b with
    | nil => simp [sameD] at h
    | cons b s =>
      simp only [sameD, Bool.and_eq_true] at h
      rw [D.same_eq a b h.1, sameD_eq r s h.2]
end
def fnSame : Fn → Fn → Bool
  | .func a, .func b => a == b
  | _, _ => false

theorem fnSame_eq {f g : Fn} (h : fnSame f g = true) : f = g := by
  cases f <;> cases g <;> simp_all [fnSame]

mutual
def AV.same : AV → AV → Bool
  | .d a, .d b => a.same b
  | .nil, .nil => true
  | .own a, .own b => sameR a b
  | .ptr a b, .ptr c d => a == c && b == d
  | .ept a b, .ept c d => sameD a c && b == d
  | .sref a b c, .sref d e f => a == d && b == e && c == f
  | .fn a b c, .fn d e f => fnSame a d && sameV b e && sameV c f
  | .ifc a b, .ifc c d => a == c && b.same d
  | .agg a, .agg b => sameV a b
  | .tup a, .tup b => sameV a b
  | _, _ => false
def sameV : List AV → List AV → Bool
  | [], [] => true
  | a :: r, b :: s => a.same b && sameV r s
  | _, _ => false
end
mutual
theorem AV.same_eq : ∀ a b : AV, a.same b = true → a = b
  | .d a, b, h => by cases b <;> simp only [AV.same, Bool.false_eq_true] at h; rw [D.same_eq a _ h]
  | .nil, b, h => by cases b <;> simp_all [AV.same]
  | .own a, b, h => by cases b <;> simp only [AV.same, Bool.false_eq_true] at h; rw [sameR_eq a _ h]
  | .ptr a c, b, h => by cases b <;> simp_all [AV.same]
  | .ept a c, b, h => by
    cases b <;> simp only [AV.same, Bool.false_eq_true, Bool.and_eq_true, beq_iff_eq] at h
    rw [sameD_eq a _ h.1, h.2]
  | .sref a c e, b, h => by cases b <;> simp_all [AV.same]
  | .fn a c e, b, h => by
    cases b <;> simp only [AV.same, Bool.false_eq_true, Bool.and_eq_true] at h
    rw [fnSame_eq h.1.1, sameV_eq c _ h.1.2, sameV_eq e _ h.2]
  | .ifc a c, b, h => by
    cases b <;> simp only [AV.same, Bool.false_eq_true, Bool.and_eq_true, beq_iff_eq] at h
    rw [h.1, AV.same_eq c _ h.2]
  | .agg a, b, h => by cases b <;> simp only [AV.same, Bool.false_eq_true] at h; rw [sameV_eq a _ h]
  | .tup a, b, h => by cases b <;> simp only [AV.same, Bool.false_eq_true] at h; rw [sameV_eq a _ h]
theorem sameV_eq : ∀ a b : List AV, sameV a b = true → a = b
  | [], b, h => by cases b <;> simp_all [sameV]
  | a :: r, b, h => by
    cases b with
    | nil => simp [sameV] at h
    | cons b s =>
      simp only [sameV, Bool.and_eq_true] at h
      rw [AV.same_eq a b h.1, sameV_eq r s h.2]
end
def sameRf : Refs → Refs → Bool
  | [], [] => true
  | a :: r, b :: s => sameV a b && sameRf r s
  | _, _ => false
theorem sameRf_eq : ∀ a b : Refs, sameRf a b = true → a = b
  | [], b, h => by cases b <;> simp_all [sameRf]
  | a :: r, b, h => by
    cases b with
    | nil => simp [sameRf] at h
    | cons b s =>
      simp only [sameRf, Bool.and_eq_true] at h
      rw [sameV_eq a b h.1, sameRf_eq r s h.2]

def lim : Nat := 2 ^ 34

def intBin (op : BinOp) (k : IntKind) (x y : Int) : Option AV :=
  match op with
  | .add => some (.d (.int k (k.wrap (x + y))))
  | .sub => some (.d (.int k (k.wrap (x - y))))
  | .mul => some (.d (.int k (k.wrap (x * y))))
  | .quo => if y = 0 then none else some (.d (.int k (k.wrap (x.tdiv y))))
  | .rem => if y = 0 then none else some (.d (.int k (x.tmod y)))
  | .and => some (.d (.int k (k.wrap (BitVec.ofInt k.bits x &&& BitVec.ofInt k.bits y).toNat)))
  | .or => some (.d (.int k (k.wrap (BitVec.ofInt k.bits x ||| BitVec.ofInt k.bits y).toNat)))
  | .xor => some (.d (.int k (k.wrap (BitVec.ofInt k.bits x ^^^ BitVec.ofInt k.bits y).toNat)))
  | .andNot => some (.d (.int k (k.wrap (BitVec.ofInt k.bits x &&& ~~~ BitVec.ofInt k.bits y).toNat)))
  | .eql => some (.d (.bool (x == y)))
  | .neq => some (.d (.bool (x != y)))
  | .lss => some (.d (.bool (decide (x < y))))
  | .leq => some (.d (.bool (decide (x ≤ y))))
  | .gtr => some (.d (.bool (decide (x > y))))
  | .geq => some (.d (.bool (decide (x ≥ y))))
  | _ => none

def strBin (op : BinOp) (x y : List UInt8) : Option AV :=
  match op with
  | .add => if x.length + y.length ≤ lim then some (.d (.str (x ++ y))) else none
  | .eql => some (.d (.bool (x == y)))
  | .neq => some (.d (.bool !(x == y)))
  | .lss => some (.d (.bool (Op.bytesLess x y)))
  | .leq => some (.d (.bool (Op.bytesLess x y || x == y)))
  | .gtr => some (.d (.bool !(Op.bytesLess x y || x == y)))
  | .geq => some (.d (.bool !(Op.bytesLess x y)))
  | _ => none

def binA (op : BinOp) (x y : AV) : Option AV :=
  match x, y with
  | .d (.int k a), .d (.int yk b) =>
    match op with
    | .shl => if b < 0 then none else some (.d (.int k (k.wrap (a * 2 ^ (Nat.min b.toNat k.bits)))))
    | .shr => if b < 0 then none else some (.d (.int k (a.fdiv (2 ^ (Nat.min b.toNat k.bits)))))
    | _ => if k = yk then intBin op k a b else none
  | .d (.str a), .d (.str b) => strBin op a b
  | _, _ => none

def unA (op : UnOp) (x : AV) : Option AV :=
  match op, x with
  | .neg, .d (.int k n) => some (.d (.int k (k.wrap (0 - n))))
  | .xor, .d (.int k n) => some (.d (.int k (k.wrap (BitVec.ofInt k.bits (if k.signed then -1 else k.max) ^^^ BitVec.ofInt k.bits n).toNat)))
  | .not, .d (.bool b) => some (.d (.bool !b))
  | _, _ => none

def D.kind? : D → Option PK
  | .int k _ => some (.int k)
  | .bool _ => some .bool
  | .str _ => some .str
  | _ => none

def D.eqP : D → D → Bool
  | .int _ a, .int _ b => a == b
  | .bool a, .bool b => a == b
  | .str a, .str b => a == b
  | _, _ => false

def eqCells : List PK → List AV → List AV → Option Bool
  | [], [], [] => some true
  | k :: ks, .d x :: xs, .d y :: ys =>
    if x.kind? = some k ∧ y.kind? = some k then (eqCells ks xs ys).map (x.eqP y && ·) else none
  | _, _, _ => none

/-- is it nil? (0: a pointer, 1: an interface, 2: a function, 3: a slice) -/
def eqNilA : Nat → AV → Option Bool
  | 0, .d .nilp => some true
  | 0, .ptr _ _ => some false
  | 0, .ept _ _ => some false
  | 1, .d .nilI => some true
  | 1, .ifc _ _ => some false
  | 2, .d .nilF => some true
  | 2, .fn _ _ _ => some false
  | 3, .nil => some true
  | 3, .d (.lst (_ :: _)) => some false
  | _, _ => none

def bytesOf (s : List UInt8) : List (List D) := s.map fun b => [.int .u8 b.toNat]

def strOf : List (List D) → Option (List UInt8)
  | [] => some []
  | [.int .u8 n] :: r => (strOf r).map (UInt8.ofNat n.toNat :: ·)
  | _ => none

def AV.list? : AV → Option (List (List D))
  | .d (.lst es) => some es
  | .own es => some es
  | .nil => some []
  | _ => none

def asIdx (s : Slots) : Option Opd → Nat → Option Nat
  | none, d => some d
  | some x, _ => match getO s x with
    | some (.d (.int _ n)) => if 0 ≤ n then some n.toNat else none
    | _ => none

/-- a, from an offset on, holds parts -/
def fillA (s : Slots) (cs : List AV) : List (Nat × Nat × Opd) → Option (List AV)
  | [] => some cs
  | (off, size, x) :: r => match getO s x with
    | some v => if v.cells.length = size ∧ off + size ≤ cs.length ∧ v.solid = true then fillA s (setRange cs off v.cells) r else none
    | none => none

def chunks (sz : Nat) : Nat → List D → List (List D)
  | 0, _ => []
  | n + 1, l => l.take sz :: chunks sz n (l.drop sz)

/-- the first element's cells are so many (or there is none) -/
def sizesB (sz : Nat) : List (List D) → Bool
  | [] => true
  | e :: _ => e.length == sz

def AV.elems? : AV → Option (List (List D))
  | .d (.str s) => some (bytesOf s)
  | v => v.list?

def appendA (sz : Nat) (x y : AV) : Option AV :=
  match y.elems? with
  | none => none
  | some ys => match x with
    | .nil => if ys.length ≤ lim ∧ sizesB sz ys then (match ys with | [] => some .nil | _ => some (.own ys)) else none
    | .own es => if es.length + ys.length ≤ lim ∧ sizesB sz es ∧ sizesB sz ys then some (.own (es ++ ys)) else none
    | _ => none

/-- a part of a struct or an array -/
def partA (agg : Option Nat) (cs : List AV) (off : Nat) : Option AV :=
  match agg with
  | some n => if off + n ≤ cs.length then some (.agg ((cs.drop off).take n)) else none
  | none => cs[off]?

/-- what an operation does: its value and the state behind it; a panic; or nothing is known (none) -/
inductive Did where
  | val (v : AV) (s : St)
  | none_ (s : St)
  | pan (v : AV) (s : St)
  deriving Inhabited

def vl (s : St) (v : Option AV) : Option Did := v.map (Did.val · s)

def unOwn (s : St) (x : Opd) : St :=
  match x with
  | .t n => match s.sl.get n with
    | some (.own es) => { s with sl := s.sl.put n (.d (.lst es)) }
    | _ => s
  | _ => s

/-- all of them point elsewhere -/
def apartB (s : Slots) (r : Nat) : List Opd → Bool
  | [] => true
  | x :: l => (match getO s x with
    | some (.ptr q _) => q != r
    | _ => false) && apartB s r l

def stepOp (C : CallFn) (s : St) (o : AOpk) : Option Did :=
  match o with
  | .mov x => vl s (getO s.sl x)
  | .take t => match s.sl.get t with
    | some v => some (.val v (unOwn s (.t t)))
    | none => none
  | .asg x => match rawO s.sl x with
    | some v => some (.val v (unOwn s x))
    | none => none
  | .pick c a b => match getO s.sl c with
    | some (.d (.bool t)) => vl s (if t then getO s.sl a else getO s.sl b)
    | _ => none
  | .alloc cells => some (.val (.ptr s.rf.length 0) { s with rf := s.rf ++ [cells] })
  | .box x => match getO s.sl x with
    | some v => if v.solid = true then some (.val (.ptr s.rf.length 0) { s with rf := s.rf ++ [v.cells] }) else none
    | none => none
  | .build zero parts => vl s ((fillA s.sl zero parts).map .agg)
  | .mkls sz zero parts => match fillA s.sl zero parts with
    | some cs => match toDs cs with
      | some ds => if 0 < sz ∧ ds.length ≤ lim then vl s (some (.own (chunks sz (ds.length / sz) ds))) else none
      | none => none
    | none => none
  | .load agg a => match getO s.sl a with
    | some p => vl s ((loadAt s.rf agg p).map AV.strip)
    | none => none
  | .loadB agg a base => match getO s.sl a, getO s.sl base with
    | some (.ptr r off), some (.ptr q _) => if r = q then vl s ((loadAt s.rf agg (.ptr r off)).map AV.strip) else none
    | _, _ => none
  | .takeload a => match getO s.sl a with
    | some (.ptr r off) => match loadAt s.rf none (.ptr r off) with
      | some v => match s.rf[r]? with
        | some cs => some (.val v { s with rf := s.rf.set r (cs.set off v.strip) })
        | none => none
      | none => none
    | _ => none
  | .recheck _ _ _ => none
  | .store sz a v => match getO s.sl a, rawO s.sl v with
    | some p, some x => match storeAt s.rf s.nb sz p x with
      | some rf => some (.none_ (unOwn { s with rf := rf } v))
      | none => none
    | _, _ => none
  | .storeW sz a v ws => match getO s.sl a, rawO s.sl v with
    | some (.ptr r off), some x => if apartB s.sl r ws = true then
        (match storeAt s.rf s.nb sz (.ptr r off) x with
        | some rf => some (.none_ (unOwn { s with rf := rf } v))
        | none => none)
      else none
    | _, _ => none
  | .nilchk x => match getO s.sl x with
    | some (.ptr r off) => vl s (some (.ptr r off))
    | some (.ept cs off) => vl s (some (.ept cs off))
    | some (.fn f a b) => (match f with | .func _ => vl s (some (.fn f a b)) | _ => none)
    | _ => none
  | .bin op x y => match getO s.sl x, getO s.sl y with
    | some a, some b => vl s (binA op a b)
    | _, _ => none
  | .beq ne x y => match getO s.sl x, getO s.sl y with
    | some (.d (.bool a)), some (.d (.bool b)) => vl s (some (.d (.bool ((a == b) != ne))))
    | _, _ => none
  | .eqc ne ks x y => match getO s.sl x, getO s.sl y with
    | some (.agg a), some (.agg b) => vl s ((eqCells ks a b).map fun t => .d (.bool (t != ne)))
    | _, _ => none
  | .eqnil nk ne x => match getO s.sl x with
    | some a => vl s ((eqNilA nk a).map fun t => .d (.bool (t != ne)))
    | none => none
  | .un op x => match getO s.sl x with
    | some a => vl s (unA op a)
    | none => none
  | .toInt k x => match getO s.sl x with
    | some (.d (.int _ n)) => vl s (some (.d (.int k (k.wrap n))))
    | _ => none
  | .ident x => match getO s.sl x with
    | some (.d (.str l)) => vl s (some (.d (.str l)))
    | _ => none
  | .same x => match rawO s.sl x with
    | some (.own (e :: es)) => some (.val (.own (e :: es)) (unOwn s x))
    | _ => none
  | .strBytes x => match getO s.sl x with
    | some (.d (.str [])) => vl s (some (.d (.lst [])))
    | some (.d (.str (c :: l))) => vl s (some (.own (bytesOf (c :: l))))
    | _ => none
  | .bytesStr x => match getO s.sl x with
    | some v => match v.list? with
      | some es => vl s ((strOf es).map fun l => .d (.str l))
      | none => none
    | none => none
  | .mkifc t x => match getO s.sl x with
    | some v => vl s (some (.ifc t v))
    | none => none
  | .mkfn f first cap => match getOs s.sl first, getOs s.sl cap with
    | some a, some b => vl s (some (.fn f a b))
    | _, _ => none
  | .sliceS x lo hi => match getO s.sl x with
    | some (.d (.str l)) => match asIdx s.sl lo 0, asIdx s.sl hi l.length with
      | some i, some j => if i ≤ j ∧ j ≤ l.length then vl s (some (.d (.str ((l.take j).drop i)))) else none
      | _, _ => none
    | _ => none
  | .slice sz x lo hi => match getO s.sl x with
    | some v => match v.list? with
      | some l => match asIdx s.sl lo 0, asIdx s.sl hi l.length with
        | some i, some j => if i ≤ j ∧ j ≤ l.length ∧ sizesB sz l then vl s (some (.d (.lst ((l.take j).drop i)))) else none
        | _, _ => none
      | none => none
    | _ => none
  | .slArr n x lo hi => match getO s.sl x with
    | some (.ptr r off) => match asIdx s.sl lo 0, asIdx s.sl hi n with
      | some i, some j => if i ≤ j ∧ j ≤ n then vl s (some (.sref r (off + i) (j - i))) else none
      | _, _ => none
    | _ => none
  | .fldA off x => match getO s.sl x with
    | some (.ptr r o) => vl s (some (.ptr r (o + off)))
    | some (.ept cs o) => vl s (some (.ept cs (o + off)))
    | _ => none
  | .fld off agg x => match getO s.sl x with
    | some (.agg cs) => vl s (partA agg cs off)
    | _ => none
  | .idxA arr sz x i => match getO s.sl i with
    | some (.d (.int _ n)) =>
      if n < 0 then none else
      match arr, getO s.sl x with
      | some m, some (.ptr r off) => if n < m then vl s (some (.ptr r (off + n.toNat * sz))) else none
      | some m, some (.ept cs off) => if n < m then vl s (some (.ept cs (off + n.toNat * sz))) else none
      | none, some v => match v.list? with
        | some es => match es[n.toNat]? with
          | some cs => if cs.length = sz then vl s (some (.ept cs 0)) else none
          | none => none
        | none => none
      | _, _ => none
    | _ => none
  | .idxS x i => match getO s.sl x, getO s.sl i with
    | some (.d (.str l)), some (.d (.int _ n)) => if n < 0 then none else vl s ((l[n.toNat]?).map fun b => .d (.int .u8 b.toNat))
    | _, _ => none
  | .idxV n sz agg x i => match getO s.sl x, getO s.sl i with
    | some (.agg cs), some (.d (.int _ m)) =>
      if m < 0 ∨ ¬ m < n then none else vl s (partA agg cs (m.toNat * sz))
    | _, _ => none
  | .assertT t zero x => match getO s.sl x with
    | some (.ifc t' v) => vl s (some (if t' = t then .tup [v, .d (.bool true)] else .tup [zero, .d (.bool false)]))
    | some (.d .nilI) => vl s (some (.tup [zero, .d (.bool false)]))
    | _ => none
  | .extr x i => match getO s.sl x with
    | some (.tup vs) => vl s (vs[i]?)
    | _ => none
  | .call f args => match getO s.sl f, getOs s.sl args with
    | some (.fn (.func id) first cap), some vs =>
      match C id (AV.bares (first ++ vs ++ cap)) s.rf with
      | some (.ret v, rf) => some (.val v { s with rf := rf })
      | some (.pan v, rf) => some (.pan v { s with rf := rf })
      | none => none
    | _, _ => none
  | .callZ f args => match getO s.sl f, getOs s.sl args with
    | some (.fn (.func id) first cap), some vs =>
      if AV.refBs (AV.bares (first ++ vs ++ cap)) = 0 then
        match C id (AV.bares (first ++ vs ++ cap)) [] with
        | some (.ret v, _) => some (.val v s)
        | _ => none
      else none
    | _, _ => none
  | .callQ f args => match getO s.sl f, getOs s.sl args with
    | some (.fn (.func id) first cap), some vs =>
      match C id (AV.bares (first ++ vs ++ cap)) s.rf with
      | some (.ret v, rf) => if sameRf rf s.rf = true then some (.val v s) else none
      | _ => none
    | _, _ => none
  | .lenS x => match getO s.sl x with
    | some (.d (.str l)) => vl s (some (.d (.int .i64 l.length)))
    | _ => none
  | .len x => match getO s.sl x with
    | some (.sref _ _ n) => vl s (some (.d (.int .i64 n)))
    | some v => vl s (v.list?.map fun l => .d (.int .i64 l.length))
    | none => none
  | .lenArr n => vl s (some (.d (.int .i64 n)))
  | .append sz t y => match rawO s.sl t, getO s.sl y with
    | some x, some v => match appendA sz x v with
      | some r => some (.val r (unOwn s t))
      | none => none
    | _, _ => none
  | .copy x y => match getO s.sl x, getO s.sl y with
    | some (.sref r off n), some v => match v.list?, s.rf[r]? with
      | some es, some cs =>
        let m := Nat.min es.length n
        let new := ((es.take m).map fun e => AV.d (e.headD .nilp))
        if off + m ≤ cs.length ∧ (es.all fun e => e.length == 1) then
          some (.val (.d (.int .i64 m)) { s with rf := s.rf.set r (setRange cs off new) })
        else none
      | _, _ => none
    | _, _ => none
  | .min x y => match getO s.sl x, getO s.sl y with
    | some (.d (.int k a)), some (.d (.int k' b)) => if k = k' then vl s (some (.d (.int k (if b < a then b else a)))) else none
    | _, _ => none
  | .max x y => match getO s.sl x, getO s.sl y with
    | some (.d (.int k a)), some (.d (.int k' b)) => if k = k' then vl s (some (.d (.int k (if b > a then b else a)))) else none
    | _, _ => none
  | .recover => match s.pn with
    | some (some v) => some (.val v.strip { s with pn := some none })
    | some none => some (.val (.d .nilI) s)
    | none => none
  | .defer f args => match getO s.sl f, getOs s.sl args with
    | some (.fn (.func id) first cap), some vs => some (.none_ { s with df := (.fn (.func id) first cap, AV.bares vs) :: s.df })
    | _, _ => none
  | .panic x => match getO s.sl x with
    | some (.ifc t v) => some (.pan (.ifc t v) s)
    | _ => none

def putO (s : St) (dst : Option Nat) (v : AV) : St :=
  match dst with
  | some d => { s with sl := s.sl.put d v }
  | none => s

def wantedA (s : St) : Option (Nat × Bool) → Option Bool
  | none => some true
  | some (t, b) => match s.sl.get t with
    | some (.d (.bool x)) => some (x == b)
    | some (.tup []) => some false
    | _ => none

def runOps (C : CallFn) : List AOp → St → Option (Ex × St)
  | [], s => some (.nrm, s)
  | o :: r, s =>
    match wantedA s o.guard with
    | none => none
    | some false => runOps C r (putO s o.dst (.tup []))
    | some true =>
      match stepOp C s o.op with
      | some (.val v s') => runOps C r (putO s' o.dst v)
      | some (.none_ s') => runOps C r s'
      | some (.pan v s') => if o.may then some (.pan v, s') else none
      | none => none

def refsB : Refs → Nat
  | [] => 0
  | cs :: r => max (AV.refBs cs) (refsB r)

def dfB : List (AV × List AV) → Nat
  | [] => 0
  | (f, vs) :: r => max (max f.refB (AV.refBs vs)) (dfB r)

def St.trimLoop (s : St) (keep : List Nat) (n : Nat) : St :=
  let sl := s.sl.keep keep
  if AV.refBs (sl.map (·.2)) ≤ n ∧ refsB ((s.rf.take n).drop s.nb) ≤ n ∧ dfB s.df ≤ n then { s with sl := sl, rf := s.rf.take n } else { s with sl := sl }

def runLoop (body : St → Option (Ex × St)) (keep : List Nat) (n : Nat) : Nat → St → Option (Ex × St)
  | 0, _ => none
  | k + 1, s => match body s with
    | some (.nrm, s') => runLoop body keep n k (s'.trimLoop keep n)
    | r => r

def run (C : CallFn) (k : Nat) : AC → St → Option (Ex × St)
  | .skip, s => some (.nrm, s)
  | .ops l, s => runOps C l s
  | .seq a b, s => match run C k a s with
    | some (.nrm, s') => run C k b s'
    | r => r
  | .cond c t e, s => match getO s.sl c with
    | some (.d (.bool true)) => run C k t s
    | some (.d (.bool false)) => run C k e s
    | _ => none
  | .block id b, s => match run C k b s with
    | some (.exit i, s') => if i = id then some (.nrm, s') else some (.exit i, s')
    | r => r
  | .loop keep b, s => runLoop (run C k b) keep s.rf.length k (s.trimLoop keep s.rf.length)
  | .exit id, s => some (.exit id, s)
  | .ret, s => some (.ret, s)
  | .trim keep b, s => match run C k b s with
    | some (.nrm, s') => some (.nrm, { s' with sl := s'.sl.keep keep })
    | r => r
  | .hole, _ => none
  | .label, s => some (.nrm, s)
  | .goto l, s => some (.goto l, s)
  | .scope l b r, s => match run C k b s with
    | some (.goto i, s') => if i = l then (match run C k r s' with
      | some (.goto _, _) => none
      | x => x) else none
    | x => x

def resA (s : St) : ResV → Option AV
  | .tmp t => s.sl.get t
  | .cell a agg => match s.sl.get a with
    | some p => loadAt s.rf agg p
    | none => none

def resAs (s : St) : List ResV → Option (List AV)
  | [] => some []
  | r :: rs => match resA s r, resAs s rs with
    | some v, some vs => some (v :: vs)
    | _, _ => none

def resOf (s : St) (keep : Bool) (l : List ResV) : Option AV :=
  match resAs s l with
  | some [v] => some (if keep then v else v.bare)
  | some vs => some (.tup (AV.bares vs))
  | none => none

def enterS (args : List AV) : Nat → Slots
  | i => match args with
    | [] => []
    | v :: r => (i, v) :: enterS r (i + 1)

/-- the end of a function: what it put off is done, last first -/
def leave (CD : FuncId → List AV → Option AV → Refs → Option (Out × Option AV × Refs)) (af : AFn) (n : Nat) :
    List (AV × List AV) → Option AV → St → Option (Out × Refs)
  | [], some v, s => if v.refB ≤ n then some (.pan v.bare, s.rf.take n) else none
  | [], none, s => match resOf s af.keep af.res with
    | some v => if v.refB ≤ n then some (.ret v, s.rf.take n) else none
    | none => none
  | (.fn (.func id) first cap, vs) :: r, m, s =>
    match CD id (AV.bares (first ++ vs ++ cap)) m s.rf with
    | some (.ret _, m', rf) => leave CD af n r m' { s with rf := rf }
    | some (.pan v, _, rf) => leave CD af n r (some v) { s with rf := rf }
    | none => none
  | _ :: _, _, _ => none

def callD (tab : FuncId → Option AFn) (C : CallFn) (k : Nat) (f : FuncId) (args : List AV) (m : Option AV) (rf : Refs) : Option (Out × Option AV × Refs) :=
  match tab f with
  | none => none
  | some af =>
    match run C k af.body { sl := enterS args 0, rf := rf, pn := some m, nb := rf.length } with
    | some (.nrm, s) | some (.ret, s) => if s.df.isEmpty then some (.ret (.tup []), (s.pn.getD none), s.rf.take rf.length) else none
    | some (.pan v, s) => if s.df.isEmpty ∧ v.refB ≤ rf.length then some (.pan v.bare, (s.pn.getD none), s.rf.take rf.length) else none
    | _ => none

def call (tab tabD : FuncId → Option AFn) (orc : FuncId → List AV → Option AV) : Nat → CallFn
  | 0, _, _, _ => none
  | k + 1, f, args, rf =>
    match orc f args with
    | some v => some (.ret v, rf)
    | none =>
    match tab f with
    | none => none
    | some af =>
      match run (call tab tabD orc k) k af.body { sl := enterS args 0, rf := rf, nb := rf.length } with
      | some (.nrm, s) | some (.ret, s) => leave (callD tabD (call tab tabD orc k) k) af rf.length s.df none s
      | some (.pan v, s) => leave (callD tabD (call tab tabD orc k) k) af rf.length s.df (some v) s
      | _ => none

end Go.Ab
