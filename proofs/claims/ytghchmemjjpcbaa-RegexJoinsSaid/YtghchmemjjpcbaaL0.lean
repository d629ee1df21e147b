/- A part of the proof: tools. No condition. -/
import Derived.Calls
import Derived.WalkKit
set_option linter.all false
namespace Go.Ab
inductive D where
 | int (k : IntKind) (n : Int)
 | bool (b : Bool)
 | str (s : List UInt8)
 | lst (es : List (List D))
 | nilp
 | nilI
 | nilF
 | nilM
 deriving Inhabited
inductive AV where
 | d (x : D)
 | nil
 | own (es : List (List D))
 | ptr (r off : Nat)
 | ept (cs : List D) (off : Nat)
 | sref (r off n : Nat)
 | mp (r : Nat)
 | fn (f : Fn) (first cap : List AV)
 | ifc (t : TypeId) (v : AV)
 | agg (cs : List AV)
 | tup (vs : List AV)
 deriving Inhabited
abbrev AV.nat (k : IntKind) (n : Nat) : AV := .d (.int k n)
inductive Opd where
 | t (n : Nat)
 | c (v : AV)
 | f (id : FuncId)
 deriving Inhabited
inductive PK where
 | int (k : IntKind)
 | bool
 | str
 deriving DecidableEq, Inhabited
inductive AOpk where
 | mov (x : Opd)
 | take (t : Nat)
 | asg (x : Opd)
 | pick (c a b : Opd)
 | alloc (cells : List AV)
 | box (x : Opd)
 | build (zero : List AV) (parts : List (Nat × Nat × Opd))
 | mkls (sz : Nat) (zero : List AV) (parts : List (Nat × Nat × Opd))
 | load (agg : Option Nat) (a : Opd)
 | loadB (agg : Option Nat) (a base : Opd)
 | takeload (a : Opd)
 | recheck (agg : Option Nat) (a : Opd) (t : Nat)
 | store (sz : Nat) (a v : Opd)
 | storeW (sz : Nat) (a v : Opd) (ws : List Opd)
 | nilchk (x : Opd)
 | bin (op : BinOp) (x y : Opd)
 | beq (ne : Bool) (x y : Opd)
 | eqc (ne : Bool) (ks : List PK) (x y : Opd)
 | eqnil (nk : Nat) (ne : Bool) (x : Opd)
 | un (op : UnOp) (x : Opd)
 | toInt (k : IntKind) (x : Opd)
 | ident (x : Opd)
 | same (x : Opd)
 | strBytes (x : Opd)
 | bytesStr (x : Opd)
 | mkifc (t : TypeId) (x : Opd)
 | mkfn (f : Fn) (first cap : List Opd)
 | sliceS (x : Opd) (lo hi : Option Opd)
 | slice (sz : Nat) (x : Opd) (lo hi : Option Opd)
 | slArr (n : Nat) (x : Opd) (lo hi : Option Opd)
 | fldA (off : Nat) (x : Opd)
 | fld (off : Nat) (agg : Option Nat) (x : Opd)
 | idxA (arr : Option Nat) (sz : Nat) (x i : Opd)
 | idxS (x i : Opd)
 | idxV (n sz : Nat) (agg : Option Nat) (x i : Opd)
 | assertT (t : TypeId) (zero : AV) (x : Opd)
 | extr (x : Opd) (i : Nat)
 | call (f : Opd) (args : List Opd)
 | callZ (f : Opd) (args : List Opd)
 | callQ (f : Opd) (args : List Opd)
 | lenS (x : Opd)
 | len (x : Opd)
 | lenArr (n : Nat)
 | append (sz : Nat) (x y : Opd)
 | copy (x y : Opd)
 | min (x y : Opd)
 | max (x y : Opd)
 | recover
 | defer (f : Opd) (args : List Opd)
 | panic (x : Opd)
 | makeMap
 | stuck
 | lookup (pk : PK) (ok : Bool) (zero : AV) (m k : Opd)
 | mapSet (pk : PK) (m k v : Opd)
 | mapEntry (pk : PK) (zero : AV) (m k : Opd)
 | entrySet (m st v : Opd)
 | mkS (cell : AV) (n : Opd)
 | callO (f : Opd) (pre : List Opd) (x : Opd) (post : List Opd)
 deriving Inhabited
structure AOp where
 dst : Option Nat
 op : AOpk
 guard : Option (Nat × Bool) := none
 may : Bool := true
 deriving Inhabited
inductive AC where
 | skip
 | ops (l : List AOp)
 | opsD (l : List AOp) (ords : List (List Nat)) (nk pk : List Nat) (t : Nat)
 | seq (a b : AC)
 | cond (c : Opd) (t e : AC)
 | block (id : Nat) (b : AC)
 | loop (keep : List Nat) (b : AC)
 | exit (id : Nat)
 | ret
 | trim (keep : List Nat) (b : AC)
 | hole
 | label
 | goto (l : Nat)
 | scope (l : Nat) (b r : AC)
 deriving Inhabited
inductive ResV where
 | tmp (t : Nat)
 | cell (a : Nat) (agg : Option Nat)
 deriving Inhabited
structure AFn where
 body : AC
 res : List ResV
 keep : Bool := false
 deriving Inhabited
abbrev Slots := List (Nat × AV)
abbrev Refs := List (List AV)
structure St where
 sl : Slots
 rf : Refs
 df : List (AV × List AV) := []
 pn : Option (Option AV) := none
 nb : Nat := 0
 deriving Inhabited
inductive Ex where
 | nrm
 | exit (id : Nat)
 | goto (l : Nat)
 | ret
 | pan (v : AV)
 deriving Inhabited
inductive Out where
 | ret (v : AV)
 | pan (v : AV)
 deriving Inhabited
abbrev CallFn := FuncId → List AV → Refs → Option (Out × Refs)
def Slots.get : Slots → Nat → Option AV
 | [], _ => none
 | (k, v) :: r, n => if k = n then some v else Slots.get r n
def Slots.put (s : Slots) (n : Nat) (v : AV) : Slots := (n, v) :: s
def Slots.keep (s : Slots) : List Nat → Slots
 | [] => []
 | k :: ks => match s.get k with
   | some v => (k, v) :: Slots.keep s ks
   | none => Slots.keep s ks
mutual
def AV.strip : AV → AV
 | .own es => .d (.lst es)
 | .agg cs => .agg (AV.strips cs)
 | .ifc t v => .ifc t v.strip
 | .tup vs => .tup (AV.strips vs)
 | v => v
def AV.strips : List AV → List AV
 | [] => []
 | v :: r => v.strip :: AV.strips r
end
mutual
def AV.bare : AV → AV
 | .own es => .d (.lst es)
 | .nil => .d (.lst [])
 | .agg cs => .agg (AV.bares cs)
 | .ifc t v => .ifc t v.bare
 | v => v
def AV.bares : List AV → List AV
 | [] => []
 | v :: r => v.bare :: AV.bares r
end
def AV.barg : AV → AV
 | .nil => .nil
 | v => v.bare
def AV.bargs : List AV → List AV
 | [] => []
 | v :: r => v.barg :: AV.bargs r
def AV.toD : AV → Option D
 | .d x => some x
 | .nil => some (.lst [])
 | .own es => some (.lst es)
 | _ => none
def toDs : List AV → Option (List D)
 | [] => some []
 | v :: r => match v.toD, toDs r with
   | some x, some xs => some (x :: xs)
   | _, _ => none
def AV.cells : AV → List AV
 | .agg cs => cs
 | v => [v]
def AV.cellsO : AV → List AV
 | .agg cs => AV.strips cs
 | v => [v]
mutual
def AV.refB : AV → Nat
 | .ptr r _ => r + 1
 | .sref r _ _ => r + 1
 | .mp r => r + 1
 | .fn _ a b => max (AV.refBs a) (AV.refBs b)
 | .ifc _ v => v.refB
 | .agg cs => AV.refBs cs
 | .tup vs => AV.refBs vs
 | _ => 0
def AV.refBs : List AV → Nat
 | [] => 0
 | v :: r => max v.refB (AV.refBs r)
end
def rawO (s : Slots) : Opd → Option AV
 | .t n => s.get n
 | .c v => some v
 | .f id => some (.fn (.func id) [] [])
def getO (s : Slots) (x : Opd) : Option AV := (rawO s x).map AV.strip
def getOs (s : Slots) : List Opd → Option (List AV)
 | [] => some []
 | x :: r => match getO s x, getOs s r with
   | some v, some vs => some (v :: vs)
   | _, _ => none
def isMp : List AV → Bool
 | .tup [] :: _ => true
 | _ => false
def Refs.cellsAt (rf : Refs) (r off n : Nat) : Option (List AV) :=
 match rf[r]? with
 | some cs => if isMp cs = false ∧ off + n ≤ cs.length then some ((cs.drop off).take n) else none
 | none => none
def setRange (cs : List AV) (off : Nat) : List AV → List AV
 | [] => cs
 | v :: r => setRange (cs.set off v) (off + 1) r
def loadAt (rf : Refs) (agg : Option Nat) : AV → Option AV
 | .ptr r off =>
   match agg with
   | some n => (rf.cellsAt r off n).map .agg
   | none => match rf[r]? with
     | some cs => if isMp cs = false then cs[off]? else none
     | none => none
 | .ept cs off =>
   match agg with
   | some n => if off + n ≤ cs.length then some (.agg (((cs.drop off).take n).map .d)) else none
   | none => (cs[off]?).map .d
 | _ => none
def AV.solid : AV → Bool
 | .tup _ => false
 | _ => true
def AV.one : AV → Bool
 | .agg _ => false
 | .tup _ => false
 | _ => true
def storeAt (rf : Refs) (nb : Nat) (sz : Nat) (a v : AV) : Option Refs :=
 match a with
 | .ptr r off =>
   let cs' := v.cellsO
   if cs'.length ≠ sz ∨ cs'.all AV.one = false then none else
   match rf[r]? with
   | some cs => if isMp cs = false ∧ off + sz ≤ cs.length ∧ (AV.refBs cs' ≤ r + 1 ∨ nb ≤ r) then some (rf.set r (setRange cs off cs')) else none
   | none => none
 | _ => none
mutual
def D.same : D → D → Bool
 | .int k n, .int k' n' => k == k' && n == n'
 | .bool a, .bool b => a == b
 | .str a, .str b => a == b
 | .lst a, .lst b => sameR a b
 | .nilp, .nilp => true
 | .nilI, .nilI => true
 | .nilF, .nilF => true
 | .nilM, .nilM => true
 | _, _ => false
def sameR : List (List D) → List (List D) → Bool
 | [], [] => true
 | a :: r, b :: s => sameD a b && sameR r s
 | _, _ => false
def sameD : List D → List D → Bool
 | [], [] => true
 | a :: r, b :: s => D.same a b && sameD r s
 | _, _ => false
end
mutual
theorem D.same_eq : ∀ a b : D, D.same a b = true → a = b
 | .int k n, b, h => by cases b <;> simp_all [D.same]
 | .bool a, b, h => by cases b <;> simp_all [D.same]
 | .str a, b, h => by cases b <;> simp_all [D.same]
 | .lst a, b, h => by
   cases b <;> simp only [D.same, Bool.false_eq_true] at h
   rw [sameR_eq a _ h]
 | .nilp, b, h => by cases b <;> simp_all [D.same]
 | .nilI, b, h => by cases b <;> simp_all [D.same]
 | .nilF, b, h => by cases b <;> simp_all [D.same]
 | .nilM, b, h => by cases b <;> simp_all [D.same]
theorem sameR_eq : ∀ a b : List (List D), sameR a b = true → a = b
 | [], b, h => by cases b <;> simp_all [sameR]
 | a :: r, b, h => by
   cases b with
   | nil => simp [sameR] at h
   | cons b s =>
     simp only [sameR, Bool.and_eq_true] at h
     rw [sameD_eq a b h.1, sameR_eq r s h.2]
theorem sameD_eq : ∀ a b : List D, sameD a b = true → a = b
 | [], b, h => by cases b <;> simp_all [sameD]
 | a :: r, b, h => by
   cases b with
   | nil => simp [sameD] at h
   | cons b s =>
     simp only [sameD, Bool.and_eq_true] at h
     rw [D.same_eq a b h.1, sameD_eq r s h.2]
end
def fnSame (f g : Fn) : Bool := decide (f = g)
theorem fnSame_eq {f g : Fn} (h : fnSame f g = true) : f = g := of_decide_eq_true h
mutual
def AV.same : AV → AV → Bool
 | .d a, .d b => a.same b
 | .nil, .nil => true
 | .own a, .own b => sameR a b
 | .ptr a b, .ptr c d => a == c && b == d
 | .ept a b, .ept c d => sameD a c && b == d
 | .sref a b c, .sref d e f => a == d && b == e && c == f
 | .mp a, .mp b => a == b
 | .fn a b c, .fn d e f => fnSame a d && sameV b e && sameV c f
 | .ifc a b, .ifc c d => a == c && b.same d
 | .agg a, .agg b => sameV a b
 | .tup a, .tup b => sameV a b
 | _, _ => false
def sameV : List AV → List AV → Bool
 | [], [] => true
 | a :: r, b :: s => a.same b && sameV r s
 | _, _ => false
end
mutual
theorem AV.same_eq : ∀ a b : AV, a.same b = true → a = b
 | .d a, b, h => by cases b <;> simp only [AV.same, Bool.false_eq_true] at h; rw [D.same_eq a _ h]
 | .nil, b, h => by cases b <;> simp_all [AV.same]
 | .own a, b, h => by cases b <;> simp only [AV.same, Bool.false_eq_true] at h; rw [sameR_eq a _ h]
 | .ptr a c, b, h => by cases b <;> simp_all [AV.same]
 | .ept a c, b, h => by
   cases b <;> simp only [AV.same, Bool.false_eq_true, Bool.and_eq_true, beq_iff_eq] at h
   rw [sameD_eq a _ h.1, h.2]
 | .sref a c e, b, h => by cases b <;> simp_all [AV.same]
 | .mp a, b, h => by cases b <;> simp_all [AV.same]
 | .fn a c e, b, h => by
   cases b <;> simp only [AV.same, Bool.false_eq_true, Bool.and_eq_true] at h
   rw [fnSame_eq h.1.1, sameV_eq c _ h.1.2, sameV_eq e _ h.2]
 | .ifc a c, b, h => by
   cases b <;> simp only [AV.same, Bool.false_eq_true, Bool.and_eq_true, beq_iff_eq] at h
   rw [h.1, AV.same_eq c _ h.2]
 | .agg a, b, h => by cases b <;> simp only [AV.same, Bool.false_eq_true] at h; rw [sameV_eq a _ h]
 | .tup a, b, h => by cases b <;> simp only [AV.same, Bool.false_eq_true] at h; rw [sameV_eq a _ h]
theorem sameV_eq : ∀ a b : List AV, sameV a b = true → a = b
 | [], b, h => by cases b <;> simp_all [sameV]
 | a :: r, b, h => by
   cases b with
   | nil => simp [sameV] at h
   | cons b s =>
     simp only [sameV, Bool.and_eq_true] at h
     rw [AV.same_eq a b h.1, sameV_eq r s h.2]
end
def sameRf : Refs → Refs → Bool
 | [], [] => true
 | a :: r, b :: s => sameV a b && sameRf r s
 | _, _ => false
theorem sameRf_eq : ∀ a b : Refs, sameRf a b = true → a = b
 | [], b, h => by cases b <;> simp_all [sameRf]
 | a :: r, b, h => by
   cases b with
   | nil => simp [sameRf] at h
   | cons b s =>
     simp only [sameRf, Bool.and_eq_true] at h
     rw [sameV_eq a b h.1, sameRf_eq r s h.2]
def lim : Nat := 2 ^ 34
def intBin (op : BinOp) (k : IntKind) (x y : Int) : Option AV :=
 match op with
 | .add => some (.d (.int k (k.wrap (x + y))))
 | .sub => some (.d (.int k (k.wrap (x - y))))
 | .mul => some (.d (.int k (k.wrap (x * y))))
 | .quo => if y = 0 then none else some (.d (.int k (k.wrap (x.tdiv y))))
 | .rem => if y = 0 then none else some (.d (.int k (x.tmod y)))
 | .and => some (.d (.int k (k.wrap (BitVec.ofInt k.bits x &&& BitVec.ofInt k.bits y).toNat)))
 | .or => some (.d (.int k (k.wrap (BitVec.ofInt k.bits x ||| BitVec.ofInt k.bits y).toNat)))
 | .xor => some (.d (.int k (k.wrap (BitVec.ofInt k.bits x ^^^ BitVec.ofInt k.bits y).toNat)))
 | .andNot => some (.d (.int k (k.wrap (BitVec.ofInt k.bits x &&& ~~~ BitVec.ofInt k.bits y).toNat)))
 | .eql => some (.d (.bool (x == y)))
 | .neq => some (.d (.bool (x != y)))
 | .lss => some (.d (.bool (decide (x < y))))
 | .leq => some (.d (.bool (decide (x ≤ y))))
 | .gtr => some (.d (.bool (decide (x > y))))
 | .geq => some (.d (.bool (decide (x ≥ y))))
 | _ => none
def strBin (op : BinOp) (x y : List UInt8) : Option AV :=
 match op with
 | .add => if x.length + y.length ≤ lim then some (.d (.str (x ++ y))) else none
 | .eql => some (.d (.bool (x == y)))
 | .neq => some (.d (.bool !(x == y)))
 | .lss => some (.d (.bool (Op.bytesLess x y)))
 | .leq => some (.d (.bool (Op.bytesLess x y || x == y)))
 | .gtr => some (.d (.bool !(Op.bytesLess x y || x == y)))
 | .geq => some (.d (.bool !(Op.bytesLess x y)))
 | _ => none
def binA (op : BinOp) (x y : AV) : Option AV :=
 match x, y with
 | .d (.int k a), .d (.int yk b) =>
   match op with
   | .shl => if b < 0 then none else some (.d (.int k (k.wrap (a * 2 ^ (Nat.min b.toNat k.bits)))))
   | .shr => if b < 0 then none else some (.d (.int k (a.fdiv (2 ^ (Nat.min b.toNat k.bits)))))
   | _ => if k = yk then intBin op k a b else none
 | .d (.str a), .d (.str b) => strBin op a b
 | _, _ => none
def unA (op : UnOp) (x : AV) : Option AV :=
 match op, x with
 | .neg, .d (.int k n) => some (.d (.int k (k.wrap (0 - n))))
 | .xor, .d (.int k n) => some (.d (.int k (k.wrap (BitVec.ofInt k.bits (if k.signed then -1 else k.max) ^^^ BitVec.ofInt k.bits n).toNat)))
 | .not, .d (.bool b) => some (.d (.bool !b))
 | _, _ => none
def D.kind? : D → Option PK
 | .int k _ => some (.int k)
 | .bool _ => some .bool
 | .str _ => some .str
 | _ => none
def D.eqP : D → D → Bool
 | .int _ a, .int _ b => a == b
 | .bool a, .bool b => a == b
 | .str a, .str b => a == b
 | _, _ => false
def eqCells : List PK → List AV → List AV → Option Bool
 | [], [], [] => some true
 | k :: ks, .d x :: xs, .d y :: ys =>
   if x.kind? = some k ∧ y.kind? = some k then (eqCells ks xs ys).map (x.eqP y && ·) else none
 | _, _, _ => none
def eqNilA : Nat → AV → Option Bool
 | 0, .d .nilp => some true
 | 0, .ptr _ _ => some false
 | 0, .ept _ _ => some false
 | 1, .d .nilI => some true
 | 1, .ifc _ _ => some false
 | 2, .d .nilF => some true
 | 2, .fn _ _ _ => some false
 | 3, .nil => some true
 | 3, .d (.lst (_ :: _)) => some false
 | _, _ => none
def bytesOf (s : List UInt8) : List (List D) := s.map fun b => [.int .u8 b.toNat]
def strOf : List (List D) → Option (List UInt8)
 | [] => some []
 | [.int .u8 n] :: r => (strOf r).map (UInt8.ofNat n.toNat :: ·)
 | _ => none
def findK (pk : PK) (k : D) : List AV → Nat → Option (Option (Nat × AV))
 | [], _ => some none
 | .d x :: v :: r, i => if x.kind? = some pk then (if k.eqP x then some (some (i, v)) else findK pk k r (i + 1)) else none
 | _, _ => none
def AV.list? : AV → Option (List (List D))
 | .d (.lst es) => some es
 | .own es => some es
 | .nil => some []
 | _ => none
def asIdx (s : Slots) : Option Opd → Nat → Option Nat
 | none, d => some d
 | some x, _ => match getO s x with
   | some (.d (.int _ n)) => if 0 ≤ n then some n.toNat else none
   | _ => none
def fillA (s : Slots) (cs : List AV) : List (Nat × Nat × Opd) → Option (List AV)
 | [] => some cs
 | (off, size, x) :: r => match getO s x with
   | some v => if v.cells.length = size ∧ off + size ≤ cs.length ∧ v.solid = true then fillA s (setRange cs off v.cells) r else none
   | none => none
def chunks (sz : Nat) : Nat → List D → List (List D)
 | 0, _ => []
 | n + 1, l => l.take sz :: chunks sz n (l.drop sz)
def sizesB (sz : Nat) : List (List D) → Bool
 | [] => true
 | e :: _ => e.length == sz
def AV.elems? : AV → Option (List (List D))
 | .d (.str s) => some (bytesOf s)
 | v => v.list?
def appendA (sz : Nat) (x y : AV) : Option AV :=
 match y.elems? with
 | none => none
 | some ys => match x with
   | .nil => if ys.length ≤ lim ∧ sizesB sz ys then (match ys with | [] => some .nil | _ => some (.own ys)) else none
   | .own es => if es.length + ys.length ≤ lim ∧ sizesB sz es ∧ sizesB sz ys then some (.own (es ++ ys)) else none
   | _ => none
def partA (agg : Option Nat) (cs : List AV) (off : Nat) : Option AV :=
 match agg with
 | some n => if off + n ≤ cs.length then some (.agg ((cs.drop off).take n)) else none
 | none => cs[off]?
inductive Did where
 | val (v : AV) (s : St)
 | none_ (s : St)
 | pan (v : AV) (s : St)
 deriving Inhabited
def vl (s : St) (v : Option AV) : Option Did := v.map (Did.val · s)
def unOwn (s : St) (x : Opd) : St :=
 match x with
 | .t n => match s.sl.get n with
   | some (.own es) => { s with sl := s.sl.put n (.d (.lst es)) }
   | _ => s
 | _ => s
def apartB (s : Slots) (r : Nat) : List Opd → Bool
 | [] => true
 | x :: l => (match getO s x with
   | some (.ptr q _) => q != r
   | _ => false) && apartB s r l
def stepOp (C : CallFn) (s : St) (o : AOpk) : Option Did :=
 match o with
 | .mov x => vl s (getO s.sl x)
 | .take t => match s.sl.get t with
   | some v => some (.val v (unOwn s (.t t)))
   | none => none
 | .asg x => match rawO s.sl x with
   | some v => some (.val v (unOwn s x))
   | none => none
 | .pick c a b => match getO s.sl c with
   | some (.d (.bool t)) => vl s (if t then getO s.sl a else getO s.sl b)
   | _ => none
 | .alloc cells => some (.val (.ptr s.rf.length 0) { s with rf := s.rf ++ [cells] })
 | .box x => match getO s.sl x with
   | some v => if v.solid = true ∧ isMp v.cells = false then some (.val (.ptr s.rf.length 0) { s with rf := s.rf ++ [v.cells] }) else none
   | none => none
 | .build zero parts => vl s ((fillA s.sl zero parts).map .agg)
 | .mkls sz zero parts => match fillA s.sl zero parts with
   | some cs => match toDs cs with
     | some ds => if 0 < sz ∧ ds.length ≤ lim then vl s (some (.own (chunks sz (ds.length / sz) ds))) else none
     | none => none
   | none => none
 | .load agg a => match getO s.sl a with
   | some p => vl s ((loadAt s.rf agg p).map AV.strip)
   | none => none
 | .loadB agg a base => match getO s.sl a, getO s.sl base with
   | some (.ptr r off), some (.ptr q _) => if r = q then vl s ((loadAt s.rf agg (.ptr r off)).map AV.strip) else none
   | _, _ => none
 | .takeload a => match getO s.sl a with
   | some (.ptr r off) => match loadAt s.rf none (.ptr r off) with
     | some v => match s.rf[r]? with
       | some cs => some (.val v { s with rf := s.rf.set r (cs.set off v.strip) })
       | none => none
     | none => none
   | _ => none
 | .recheck _ _ _ => none
 | .store sz a v => match getO s.sl a, rawO s.sl v with
   | some p, some x => match storeAt s.rf s.nb sz p x with
     | some rf => some (.none_ (unOwn { s with rf := rf } v))
     | none => none
   | _, _ => none
 | .storeW sz a v ws => match getO s.sl a, rawO s.sl v with
   | some (.ptr r off), some x => if apartB s.sl r ws = true then
     (match storeAt s.rf s.nb sz (.ptr r off) x with
     | some rf => some (.none_ (unOwn { s with rf := rf } v))
     | none => none)
     else none
   | _, _ => none
 | .nilchk x => match getO s.sl x with
   | some (.ptr r off) => vl s (some (.ptr r off))
   | some (.ept cs off) => vl s (some (.ept cs off))
   | some (.fn f a b) => (match f with | .func _ => vl s (some (.fn f a b)) | _ => none)
   | _ => none
 | .bin op x y => match getO s.sl x, getO s.sl y with
   | some a, some b => vl s (binA op a b)
   | _, _ => none
 | .beq ne x y => match getO s.sl x, getO s.sl y with
   | some (.d (.bool a)), some (.d (.bool b)) => vl s (some (.d (.bool ((a == b) != ne))))
   | _, _ => none
 | .eqc ne ks x y => match getO s.sl x, getO s.sl y with
   | some (.agg a), some (.agg b) => vl s ((eqCells ks a b).map fun t => .d (.bool (t != ne)))
   | _, _ => none
 | .eqnil nk ne x => match getO s.sl x with
   | some a => vl s ((eqNilA nk a).map fun t => .d (.bool (t != ne)))
   | none => none
 | .un op x => match getO s.sl x with
   | some a => vl s (unA op a)
   | none => none
 | .toInt k x => match getO s.sl x with
   | some (.d (.int _ n)) => vl s (some (.d (.int k (k.wrap n))))
   | _ => none
 | .ident x => match getO s.sl x with
   | some (.d (.str l)) => vl s (some (.d (.str l)))
   | _ => none
 | .same x => match rawO s.sl x with
   | some (.own (e :: es)) => some (.val (.own (e :: es)) (unOwn s x))
   | _ => none
 | .strBytes x => match getO s.sl x with
   | some (.d (.str [])) => vl s (some (.d (.lst [])))
   | some (.d (.str (c :: l))) => vl s (some (.own (bytesOf (c :: l))))
   | _ => none
 | .bytesStr x => match getO s.sl x with
   | some v => match v.list? with
     | some es => vl s ((strOf es).map fun l => .d (.str l))
     | none => none
   | none => none
 | .mkifc t x => match getO s.sl x with
   | some v => vl s (some (.ifc t v))
   | none => none
 | .mkfn f first cap => match getOs s.sl first, getOs s.sl cap with
   | some a, some b => vl s (some (.fn f a b))
   | _, _ => none
 | .sliceS x lo hi => match getO s.sl x with
   | some (.d (.str l)) => match asIdx s.sl lo 0, asIdx s.sl hi l.length with
     | some i, some j => if i ≤ j ∧ j ≤ l.length then vl s (some (.d (.str ((l.take j).drop i)))) else none
     | _, _ => none
   | _ => none
 | .slice sz x lo hi => match getO s.sl x with
   | some v => match v.list? with
     | some l => match asIdx s.sl lo 0, asIdx s.sl hi l.length with
       | some i, some j => if i ≤ j ∧ j ≤ l.length ∧ sizesB sz l then vl s (some (.d (.lst ((l.take j).drop i)))) else none
       | _, _ => none
     | none => none
   | _ => none
 | .slArr n x lo hi => match getO s.sl x with
   | some (.ptr r off) => match asIdx s.sl lo 0, asIdx s.sl hi n with
     | some i, some j => if i ≤ j ∧ j ≤ n then vl s (some (.sref r (off + i) (j - i))) else none
     | _, _ => none
   | _ => none
 | .fldA off x => match getO s.sl x with
   | some (.ptr r o) => vl s (some (.ptr r (o + off)))
   | some (.ept cs o) => vl s (some (.ept cs (o + off)))
   | _ => none
 | .fld off agg x => match getO s.sl x with
   | some (.agg cs) => vl s (partA agg cs off)
   | _ => none
 | .idxA arr sz x i => match getO s.sl i with
   | some (.d (.int _ n)) =>
     if n < 0 then none else
     match arr, getO s.sl x with
     | some m, some (.ptr r off) => if n < m then vl s (some (.ptr r (off + n.toNat * sz))) else none
     | some m, some (.ept cs off) => if n < m then vl s (some (.ept cs (off + n.toNat * sz))) else none
     | none, some (.sref r off m) => if n < m ∧ sz = 1 then vl s (some (.ptr r (off + n.toNat))) else none
     | none, some v => match v.list? with
       | some es => match es[n.toNat]? with
         | some cs => if cs.length = sz then vl s (some (.ept cs 0)) else none
         | none => none
       | none => none
     | _, _ => none
   | _ => none
 | .idxS x i => match getO s.sl x, getO s.sl i with
   | some (.d (.str l)), some (.d (.int _ n)) => if n < 0 then none else vl s ((l[n.toNat]?).map fun b => .d (.int .u8 b.toNat))
   | _, _ => none
 | .idxV n sz agg x i => match getO s.sl x, getO s.sl i with
   | some (.agg cs), some (.d (.int _ m)) =>
     if m < 0 ∨ ¬ m < n then none else vl s (partA agg cs (m.toNat * sz))
   | _, _ => none
 | .assertT t zero x => match getO s.sl x with
   | some (.ifc t' v) => vl s (some (if t' = t then .tup [v, .d (.bool true)] else .tup [zero, .d (.bool false)]))
   | some (.d .nilI) => vl s (some (.tup [zero, .d (.bool false)]))
   | _ => none
 | .extr x i => match getO s.sl x with
   | some (.tup vs) => vl s (vs[i]?)
   | _ => none
 | .call f args => match getO s.sl f, getOs s.sl args with
   | some (.fn (.func id) first cap), some vs =>
     match C id (AV.bargs (first ++ vs ++ cap)) s.rf with
     | some (.ret v, rf) => some (.val v { s with rf := rf })
     | some (.pan v, rf) => some (.pan v { s with rf := rf })
     | none => none
   | _, _ => none
 | .callZ f args => match getO s.sl f, getOs s.sl args with
   | some (.fn (.func id) first cap), some vs =>
     if AV.refBs (AV.bargs (first ++ vs ++ cap)) = 0 then
      match C id (AV.bargs (first ++ vs ++ cap)) [] with
      | some (.ret v, _) => if v.refB = 0 then some (.val v s) else none
      | _ => none
     else none
   | _, _ => none
 | .callQ f args => match getO s.sl f, getOs s.sl args with
   | some (.fn (.func id) first cap), some vs =>
     match C id (AV.bargs (first ++ vs ++ cap)) s.rf with
     | some (.ret v, rf) => if sameRf rf s.rf = true then some (.val v s) else none
     | _ => none
   | _, _ => none
 | .lenS x => match getO s.sl x with
   | some (.d (.str l)) => vl s (some (.d (.int .i64 l.length)))
   | _ => none
 | .len x => match getO s.sl x with
   | some (.sref _ _ n) => vl s (some (.d (.int .i64 n)))
   | some v => vl s (v.list?.map fun l => .d (.int .i64 l.length))
   | none => none
 | .lenArr n => vl s (some (.d (.int .i64 n)))
 | .append sz t y => match rawO s.sl t, getO s.sl y with
   | some x, some v => match appendA sz x v with
     | some r => some (.val r (unOwn s t))
     | none => none
   | _, _ => none
 | .copy x y => match getO s.sl x, getO s.sl y with
   | some (.sref r off n), some v => match v.list?, s.rf[r]? with
     | some es, some cs =>
       let m := Nat.min es.length n
       let new := ((es.take m).map fun e => AV.d (e.headD .nilp))
       if isMp cs = false ∧ off + m ≤ cs.length ∧ (es.all fun e => e.length == 1) then
        some (.val (.d (.int .i64 m)) { s with rf := s.rf.set r (setRange cs off new) })
       else none
     | _, _ => none
   | _, _ => none
 | .min x y => match getO s.sl x, getO s.sl y with
   | some (.d (.int k a)), some (.d (.int k' b)) => if k = k' then vl s (some (.d (.int k (if b < a then b else a)))) else none
   | _, _ => none
 | .max x y => match getO s.sl x, getO s.sl y with
   | some (.d (.int k a)), some (.d (.int k' b)) => if k = k' then vl s (some (.d (.int k (if b > a then b else a)))) else none
   | _, _ => none
 | .recover => match s.pn with
   | some (some v) => some (.val v.strip { s with pn := some none })
   | some none => some (.val (.d .nilI) s)
   | none => none
 | .defer f args => match getO s.sl f, getOs s.sl args with
   | some (.fn (.func id) first cap), some vs => some (.none_ { s with df := (.fn (.func id) first cap, AV.bares vs) :: s.df })
   | _, _ => none
 | .panic x => match getO s.sl x with
   | some (.ifc t v) => some (.pan (.ifc t v) s)
   | _ => none
 | .stuck => none
 | .makeMap => some (.val (.mp s.rf.length) { s with rf := s.rf ++ [[.tup []]] })
 | .lookup pk ok zero m k => match getO s.sl m, getO s.sl k with
   | some (.mp r), some (.d x) => if x.kind? = some pk then
     (match s.rf[r]? with
     | some (.tup [] :: kvs) => match findK pk x kvs 0 with
       | some (some (_, v)) => vl s (some (if ok then .tup [v.strip, .d (.bool true)] else v.strip))
       | some none => vl s (some (if ok then .tup [zero.strip, .d (.bool false)] else zero.strip))
       | none => none
     | _ => none)
     else none
   | _, _ => none
 | .mapSet pk m k v => match getO s.sl m, getO s.sl k, getO s.sl v with
   | some (.mp r), some (.d x), some u => if x.kind? = some pk ∧ (u.refB ≤ r + 1 ∨ s.nb ≤ r) then
     (match s.rf[r]? with
     | some (.tup [] :: kvs) => match findK pk x kvs 0 with
       | some (some (i, _)) => some (.none_ { s with rf := s.rf.set r (.tup [] :: kvs.set (2 * i + 1) u) })
       | some none => some (.none_ { s with rf := s.rf.set r (.tup [] :: (kvs ++ [.d x, u])) })
       | none => none
     | _ => none)
     else none
   | _, _, _ => none
 | .mapEntry pk zero m k => match getO s.sl m, getO s.sl k with
   | some (.mp r), some (.d x) => if x.kind? = some pk ∧ zero.refB = 0 then
     (match s.rf[r]? with
     | some (.tup [] :: kvs) => match findK pk x kvs 0 with
       | some (some (i, v)) => some (.val (.tup [v.strip, .d (.int .i64 i)]) s)
       | some none => some (.val (.tup [zero.strip, .d (.int .i64 (kvs.length / 2 : Nat))]) { s with rf := s.rf.set r (.tup [] :: (kvs ++ [.d x, zero.strip])) })
       | none => none
     | _ => none)
     else none
   | _, _ => none
 | .entrySet m st v => match getO s.sl m, getO s.sl st, getO s.sl v with
   | some (.mp r), some (.d (.int _ n)), some u => if 0 ≤ n ∧ (u.refB ≤ r + 1 ∨ s.nb ≤ r) then
     (match s.rf[r]? with
     | some (.tup [] :: kvs) => if 2 * n.toNat + 1 < kvs.length then some (.none_ { s with rf := s.rf.set r (.tup [] :: kvs.set (2 * n.toNat + 1) u) }) else none
     | _ => none)
     else none
   | _, _, _ => none
 | .mkS cell n => match getO s.sl n with
   | some (.d (.int _ m)) => if 0 ≤ m ∧ m ≤ lim ∧ cell.solid = true then some (.val (.sref s.rf.length 0 m.toNat) { s with rf := s.rf ++ [List.replicate m.toNat cell] }) else none
   | _ => none
 | .callO f pre x post => match getO s.sl f, getOs s.sl pre, rawO s.sl x, getOs s.sl post with
   | some (.fn (.func id) first cap), some vs, some xv, some ws =>
     match C id (AV.bargs (first ++ vs) ++ xv :: AV.bargs (ws ++ cap)) s.rf with
     | some (.ret v, rf) => some (.val v (unOwn { s with rf := rf } x))
     | some (.pan v, rf) => some (.pan v (unOwn { s with rf := rf } x))
     | none => none
   | _, _, _, _ => none
def putO (s : St) (dst : Option Nat) (v : AV) : St :=
 match dst with
 | some d => { s with sl := s.sl.put d v }
 | none => s
def wantedA (s : St) : Option (Nat × Bool) → Option Bool
 | none => some true
 | some (t, b) => match s.sl.get t with
   | some (.d (.bool x)) => some (x == b)
   | some (.tup []) => some false
   | _ => none
def runOps (C : CallFn) : List AOp → St → Option (Ex × St)
 | [], s => some (.nrm, s)
 | o :: r, s =>
   match wantedA s o.guard with
   | none => none
   | some false => runOps C r (putO s o.dst (.tup []))
   | some true =>
     match stepOp C s o.op with
     | some (.val v s') => runOps C r (putO s' o.dst v)
     | some (.none_ s') => runOps C r s'
     | some (.pan v s') => if o.may then some (.pan v, s') else none
     | none => none
def refsB : Refs → Nat
 | [] => 0
 | cs :: r => max (AV.refBs cs) (refsB r)
def dfB : List (AV × List AV) → Nat
 | [] => 0
 | (f, vs) :: r => max (max f.refB (AV.refBs vs)) (dfB r)
def St.trimLoop (s : St) (keep : List Nat) (n : Nat) : St :=
 let sl := s.sl.keep keep
 if AV.refBs (sl.map (·.2)) ≤ n ∧ refsB ((s.rf.take n).drop s.nb) ≤ n ∧ dfB s.df ≤ n then { s with sl := sl, rf := s.rf.take n } else { s with sl := sl }
def runLoop (body : St → Option (Ex × St)) (keep : List Nat) (n : Nat) : Nat → St → Option (Ex × St)
 | 0, _ => none
 | k + 1, s => match body s with
   | some (.nrm, s') => runLoop body keep n k (s'.trimLoop keep n)
   | r => r
def pickL (l : List AOp) (ord : List Nat) : List AOp := ord.filterMap (l[·]?)
def sameEx : Ex → Ex → Bool
 | .nrm, .nrm => true
 | .pan v, .pan w => v.same w
 | _, _ => false
def sameSl : Slots → Slots → Bool
 | [], [] => true
 | (i, a) :: r, (j, b) :: s => Nat.beq i j && a.same b && sameSl r s
 | _, _ => false
def sameDf : List (AV × List AV) → List (AV × List AV) → Bool
 | [], [] => true
 | (i, a) :: r, (j, b) :: s => i.same j && sameV a b && sameDf r s
 | _, _ => false
def samePn : Option (Option AV) → Option (Option AV) → Bool
 | none, none => true
 | some none, some none => true
 | some (some a), some (some b) => a.same b
 | _, _ => false
def sameES (x y : Ex × St) : Bool := sameEx x.1 y.1 && sameSl x.2.sl y.2.sl && sameRf x.2.rf y.2.rf && sameDf x.2.df y.2.df && samePn x.2.pn y.2.pn && Nat.beq x.2.nb y.2.nb
def stripAt (s : St) (t : Nat) : St := match s.sl.get t with
 | some (.ptr r _) => match s.rf[r]? with
   | some cs => if isMp cs then s else { s with rf := s.rf.set r (AV.strips cs) }
   | none => s
 | _ => s
def normD (nk pk : List Nat) (t : Nat) : Ex × St → Ex × St
 | (.pan v, s) => (.pan v, stripAt { s with sl := s.sl.keep pk } t)
 | (e, s) => (e, { s with sl := s.sl.keep nk })
def runD (C : CallFn) (l : List AOp) (nk pk : List Nat) (t : Nat) (s : St) : List (List Nat) → Option (Ex × St)
 | [] => none
 | [o] => (runOps C (pickL l o) s).map (normD nk pk t)
 | o :: o' :: r => match runOps C (pickL l o) s, runD C l nk pk t s (o' :: r) with
   | some x, some y => if sameES (normD nk pk t x) y = true then some y else none
   | _, _ => none
def run (C : CallFn) (k : Nat) : AC → St → Option (Ex × St)
 | .skip, s => some (.nrm, s)
 | .ops l, s => runOps C l s
 | .opsD l ords nk pk t, s => runD C l nk pk t s ords
 | .seq a b, s => match run C k a s with
   | some (.nrm, s') => run C k b s'
   | r => r
 | .cond c t e, s => match getO s.sl c with
   | some (.d (.bool true)) => run C k t s
   | some (.d (.bool false)) => run C k e s
   | _ => none
 | .block id b, s => match run C k b s with
   | some (.exit i, s') => if i = id then some (.nrm, s') else some (.exit i, s')
   | r => r
 | .loop keep b, s => runLoop (run C k b) keep s.rf.length k (s.trimLoop keep s.rf.length)
 | .exit id, s => some (.exit id, s)
 | .ret, s => some (.ret, s)
 | .trim keep b, s => match run C k b s with
   | some (.nrm, s') => some (.nrm, { s' with sl := s'.sl.keep keep })
   | r => r
 | .hole, _ => none
 | .label, s => some (.nrm, s)
 | .goto l, s => some (.goto l, s)
 | .scope l b r, s => match run C k b s with
   | some (.goto i, s') => if i = l then (match run C k r s' with
     | some (.goto _, _) => none
     | x => x) else none
   | x => x
def resA (s : St) : ResV → Option AV
 | .tmp t => s.sl.get t
 | .cell a agg => match s.sl.get a with
   | some p => loadAt s.rf agg p
   | none => none
def resAs (s : St) : List ResV → Option (List AV)
 | [] => some []
 | r :: rs => match resA s r, resAs s rs with
   | some v, some vs => some (v :: vs)
   | _, _ => none
def resOf0 (s : St) (l : List ResV) : Option AV :=
 match resAs s l with
 | some [v] => some v.bare
 | some vs => some (.tup (AV.bares vs))
 | none => none
def resOf (s : St) (keep : Bool) (l : List ResV) : Option AV :=
 match keep, l with
 | true, [.tmp t] => s.sl.get t
 | _, l => resOf0 s l
def enterS (args : List AV) : Nat → Slots
 | i => match args with
   | [] => []
   | v :: r => (i, v) :: enterS r (i + 1)
def leave (CD : FuncId → List AV → Option AV → Refs → Option (Out × Option AV × Refs)) (af : AFn) (n : Nat) :
  List (AV × List AV) → Option AV → St → Option (Out × Refs)
 | [], some v, s => if v.refB ≤ n then some (.pan v.bare, s.rf.take n) else none
 | [], none, s => match resOf s af.keep af.res with
   | some v => if v.refB ≤ n then some (.ret v, s.rf.take n) else some (.ret v, s.rf)
   | none => none
 | (.fn (.func id) first cap, vs) :: r, m, s =>
   match CD id (AV.bargs (first ++ vs ++ cap)) m s.rf with
   | some (.ret _, m', rf) => leave CD af n r m' { s with rf := rf }
   | some (.pan v, _, rf) => leave CD af n r (some v) { s with rf := rf }
   | none => none
 | _ :: _, _, _ => none
def callD (tab : FuncId → Option AFn) (C : CallFn) (k : Nat) (f : FuncId) (args : List AV) (m : Option AV) (rf : Refs) : Option (Out × Option AV × Refs) :=
 match tab f with
 | none => none
 | some af =>
   match run C k af.body { sl := enterS args 0, rf := rf, pn := some m, nb := rf.length } with
   | some (.nrm, s) | some (.ret, s) => if s.df.isEmpty then some (.ret (.tup []), (s.pn.getD none), s.rf.take rf.length) else none
   | some (.pan v, s) => if s.df.isEmpty ∧ v.refB ≤ rf.length then some (.pan v.bare, (s.pn.getD none), s.rf.take rf.length) else none
   | _ => none
def call (tab tabD : FuncId → Option AFn) (orc : FuncId → List AV → Option AV) : Nat → CallFn
 | 0, _, _, _ => none
 | k + 1, f, args, rf =>
   match orc f args with
   | some v => some (.ret v, rf)
   | none =>
   match tab f with
   | none => none
   | some af =>
     match run (call tab tabD orc k) k af.body { sl := enterS args 0, rf := rf, nb := rf.length } with
     | some (.nrm, s) | some (.ret, s) => leave (callD tabD (call tab tabD orc k) k) af rf.length s.df none s
     | some (.pan v, s) => leave (callD tabD (call tab tabD orc k) k) af rf.length s.df (some v) s
     | _ => none
end Go.Ab
namespace Go.Ab
abbrev Ghost := Nat → Nat → Option Value
mutual
def RepD (G : Ghost) : D → Value → Prop
 | .int k n, v => v = .int k n
 | .bool b, v => v = .bool b
 | .str s, v => v = .string ⟨s.toArray⟩
 | .nilp, v => v = .pointer none
 | .nilI, v => v = .nilIface
 | .nilF, v => v = .nilFunc
 | .nilM, v => v = .map none
 | .lst es, v => ∃ a n, v = .slice a es.length n ∧ es.length ≤ n ∧ (es ≠ [] → ∃ b o sz, a = some ⟨b, o, none⟩ ∧ RepRows G b sz o es)
def RepRows (G : Ghost) (b sz : Nat) : Nat → List (List D) → Prop
 | _, [] => True
 | o, e :: es => e.length = sz ∧ RepCells G b o e ∧ RepRows G b sz (o + sz) es
def RepCells (G : Ghost) (b : Nat) : Nat → List D → Prop
 | _, [] => True
 | o, x :: r => (∃ v, G b o = some v ∧ RepD G x v) ∧ RepCells G b (o + 1) r
end
structure Ctx where
 G : Ghost
 F : Nat → Option Nat
 ρ : Nat → Option Nat
mutual
def Rep (K : Ctx) : AV → Value → Prop
 | .d x, v => RepD K.G x v
 | .nil, v => v = .slice none 0 0
 | .own es, v => RepD K.G (.lst es) v
 | .ptr r off, v => ∃ b, K.ρ r = some b ∧ v = .pointer (some ⟨b, off, none⟩)
 | .ept cs off, v => ∃ b o, v = .pointer (some ⟨b, o + off, none⟩) ∧ RepCells K.G b o cs
 | .sref r off n, v => ∃ b a c, K.ρ r = some b ∧ v = .slice (some a) n c ∧ (n ≠ 0 → a = ⟨b, off, none⟩)
 | .mp r, v => ∃ b, K.ρ r = some b ∧ v = .map (some b)
 | .fn f a c, v => ∃ va vc, v = .func f va vc ∧ RepL K a va.toList ∧ RepL K c vc.toList
 | .ifc t x, v => ∃ y, v = .iface t y ∧ Rep K x y
 | .agg cs, v => ∃ vs, v = .agg vs ∧ RepL K cs vs.toList
 | .tup cs, v => ∃ vs, v = .tuple vs ∧ RepL K cs vs.toList
def RepL (K : Ctx) : List AV → List Value → Prop
 | [], vs => vs = []
 | c :: cs, vs => ∃ v r, vs = v :: r ∧ Rep K c v ∧ RepL K cs r
end
def Le (G G' : Ghost) : Prop := ∀ b o v, G b o = some v → G' b o = some v
theorem Le.refl (G : Ghost) : Le G G := fun _ _ _ h => h
theorem Le.trans {A B C : Ghost} (h : Le A B) (k : Le B C) : Le A C := fun b o v x => k b o v (h b o v x)
class Glb where
 G0 : Ghost
instance (priority := low) Glb.none : Glb := ⟨fun _ _ => Option.none⟩
structure LeG [Glb] (A B : Ghost) : Prop where
 le : Le A B
 g : Le Glb.G0 B
theorem LeG.trans [Glb] {A B C : Ghost} (h : LeG A B) (k : Le B C) : LeG A C := ⟨h.le.trans k, h.g.trans k⟩
mutual
theorem RepD.mono {G G' : Ghost} (h : Le G G') : ∀ (x : D) (v : Value), RepD G x v → RepD G' x v
 | .int k n, v, r => by simpa [RepD] using r
 | .bool b, v, r => by simpa [RepD] using r
 | .str s, v, r => by simpa [RepD] using r
 | .nilp, v, r => by simpa [RepD] using r
 | .nilI, v, r => by simpa [RepD] using r
 | .nilF, v, r => by simpa [RepD] using r
 | .nilM, v, r => by simpa [RepD] using r
 | .lst es, v, r => by
   simp only [RepD] at r ⊢
   obtain ⟨a, n, hv, hn, hr⟩ := r
   exact ⟨a, n, hv, hn, fun hne => let ⟨b, o, sz, ha, hrows⟩ := hr hne; ⟨b, o, sz, ha, RepRows.mono h b sz o es hrows⟩⟩
theorem RepRows.mono {G G' : Ghost} (h : Le G G') (b sz : Nat) : ∀ (o : Nat) (es : List (List D)), RepRows G b sz o es → RepRows G' b sz o es
 | _, [], _ => by simp [RepRows]
 | o, e :: es, r => by
   simp only [RepRows] at r ⊢
   exact ⟨r.1, RepCells.mono h b o e r.2.1, RepRows.mono h b sz (o + sz) es r.2.2⟩
theorem RepCells.mono {G G' : Ghost} (h : Le G G') (b : Nat) : ∀ (o : Nat) (l : List D), RepCells G b o l → RepCells G' b o l
 | _, [], _ => by simp [RepCells]
 | o, x :: l, r => by
   simp only [RepCells] at r ⊢
   obtain ⟨⟨v, hv, hx⟩, hr⟩ := r
   exact ⟨⟨v, h _ _ _ hv, RepD.mono h x v hx⟩, RepCells.mono h b (o + 1) l hr⟩
end
theorem RepRows.get {G : Ghost} {b sz : Nat} : ∀ {o : Nat} {es : List (List D)} {i : Nat} {e : List D}, RepRows G b sz o es → es[i]? = some e → e.length = sz ∧ RepCells G b (o + i * sz) e
 | o, [], i, e, _, h => by simp at h
 | o, x :: es, 0, e, r, h => by
   simp only [RepRows] at r
   simp only [List.getElem?_cons_zero, Option.some.injEq] at h
   subst h
   simpa using ⟨r.1, r.2.1⟩
 | o, x :: es, i + 1, e, r, h => by
   simp only [RepRows] at r
   simp only [List.getElem?_cons_succ] at h
   have := RepRows.get r.2.2 h
   rw [show o + (i + 1) * sz = o + sz + i * sz by rw [Nat.add_mul]; omega]
   exact this
theorem RepRows.append {G : Ghost} {b sz : Nat} : ∀ {o : Nat} {es fs : List (List D)}, RepRows G b sz o es → RepRows G b sz (o + es.length * sz) fs → RepRows G b sz o (es ++ fs)
 | o, [], fs, _, h => by simpa using h
 | o, e :: es, fs, r, h => by
   simp only [RepRows, List.cons_append] at r ⊢
   refine ⟨r.1, r.2.1, RepRows.append r.2.2 ?_⟩
   rw [show o + sz + es.length * sz = o + (e :: es).length * sz by simp [Nat.add_mul]; omega]
   exact h
theorem RepRows.drop {G : Ghost} {b sz : Nat} : ∀ {o : Nat} {es : List (List D)} (i : Nat), RepRows G b sz o es → RepRows G b sz (o + i * sz) (es.drop i)
 | o, es, 0, r => by simpa using r
 | o, [], i + 1, _ => by simp [RepRows]
 | o, e :: es, i + 1, r => by
   simp only [RepRows] at r
   rw [show o + (i + 1) * sz = o + sz + i * sz by rw [Nat.add_mul]; omega, List.drop_succ_cons]
   exact RepRows.drop i r.2.2
theorem RepRows.take {G : Ghost} {b sz : Nat} : ∀ {o : Nat} {es : List (List D)} (i : Nat), RepRows G b sz o es → RepRows G b sz o (es.take i)
 | o, es, 0, r => by simp [RepRows]
 | o, [], i + 1, _ => by simp [RepRows]
 | o, e :: es, i + 1, r => by
   simp only [RepRows, List.take_succ_cons] at r ⊢
   exact ⟨r.1, r.2.1, RepRows.take i r.2.2⟩
theorem RepCells.get {G : Ghost} {b : Nat} : ∀ {o : Nat} {l : List D} {i : Nat} {x : D}, RepCells G b o l → l[i]? = some x → ∃ v, G b (o + i) = some v ∧ RepD G x v
 | o, [], i, x, _, h => by simp at h
 | o, y :: l, 0, x, r, h => by
   simp only [RepCells] at r
   simp only [List.getElem?_cons_zero, Option.some.injEq] at h
   subst h
   simpa using r.1
 | o, y :: l, i + 1, x, r, h => by
   simp only [RepCells] at r
   simp only [List.getElem?_cons_succ] at h
   have := RepCells.get r.2 h
   rw [show o + (i + 1) = o + 1 + i by omega]
   exact this
mutual
theorem Rep.mono {K K' : Ctx} {n : Nat} (hG : Le K.G K'.G) (hρ : ∀ r, r < n → K.ρ r = K'.ρ r) : ∀ (x : AV) (v : Value), x.refB ≤ n → Rep K x v → Rep K' x v
 | .d x, v, _, r => by simp only [Rep] at r ⊢; exact RepD.mono hG x v r
 | .nil, v, _, r => by simpa [Rep] using r
 | .own es, v, _, r => by simp only [Rep] at r ⊢; exact RepD.mono hG _ v r
 | .ptr r off, v, hb, h => by
   simp only [Rep, AV.refB] at h hb ⊢
   obtain ⟨b, hb', hv⟩ := h
   exact ⟨b, by rw [← hρ r (by omega)]; exact hb', hv⟩
 | .ept cs off, v, _, h => by
   simp only [Rep] at h ⊢
   obtain ⟨b, o, hv, hc⟩ := h
   exact ⟨b, o, hv, RepCells.mono hG b o cs hc⟩
 | .sref r off m, v, hb, h => by
   simp only [Rep, AV.refB] at h hb ⊢
   obtain ⟨b, a, c, hb', hv⟩ := h
   exact ⟨b, a, c, by rw [← hρ r (by omega)]; exact hb', hv⟩
 | .mp r, v, hb, h => by
   simp only [Rep, AV.refB] at h hb ⊢
   obtain ⟨b, hb', hv⟩ := h
   exact ⟨b, by rw [← hρ r (by omega)]; exact hb', hv⟩
 | .fn f a c, v, hb, h => by
   simp only [Rep, AV.refB] at h hb ⊢
   obtain ⟨va, vc, hv, h1, h2⟩ := h
   exact ⟨va, vc, hv, RepL.mono hG hρ a _ (Nat.le_trans (Nat.le_max_left _ _) hb) h1, RepL.mono hG hρ c _ (Nat.le_trans (Nat.le_max_right _ _) hb) h2⟩
 | .ifc t x, v, hb, h => by
   simp only [Rep, AV.refB] at h hb ⊢
   obtain ⟨y, hv, hx⟩ := h
   exact ⟨y, hv, Rep.mono hG hρ x y hb hx⟩
 | .agg cs, v, hb, h => by
   simp only [Rep, AV.refB] at h hb ⊢
   obtain ⟨vs, hv, hx⟩ := h
   exact ⟨vs, hv, RepL.mono hG hρ cs _ hb hx⟩
 | .tup cs, v, hb, h => by
   simp only [Rep, AV.refB] at h hb ⊢
   obtain ⟨vs, hv, hx⟩ := h
   exact ⟨vs, hv, RepL.mono hG hρ cs _ hb hx⟩
theorem RepL.mono {K K' : Ctx} {n : Nat} (hG : Le K.G K'.G) (hρ : ∀ r, r < n → K.ρ r = K'.ρ r) : ∀ (l : List AV) (vs : List Value), AV.refBs l ≤ n → RepL K l vs → RepL K' l vs
 | [], vs, _, r => by simpa [RepL] using r
 | x :: l, vs, hb, h => by
   simp only [RepL, AV.refBs] at h hb ⊢
   obtain ⟨v, r, hv, hx, hl⟩ := h
   exact ⟨v, r, hv, Rep.mono hG hρ x v (Nat.le_trans (Nat.le_max_left _ _) hb) hx, RepL.mono hG hρ l r (Nat.le_trans (Nat.le_max_right _ _) hb) hl⟩
end
theorem RepL.length {K : Ctx} : ∀ {l : List AV} {vs : List Value}, RepL K l vs → vs.length = l.length
 | [], vs, h => by simp only [RepL] at h; simp [h]
 | x :: l, vs, h => by
   simp only [RepL] at h
   obtain ⟨v, r, hv, _, hl⟩ := h
   subst hv
   simp [RepL.length hl]
theorem RepL.get {K : Ctx} : ∀ {l : List AV} {vs : List Value} {i : Nat} {x : AV}, RepL K l vs → l[i]? = some x → ∃ v, vs[i]? = some v ∧ Rep K x v
 | [], vs, i, x, _, h => by simp at h
 | y :: l, vs, 0, x, r, h => by
   simp only [RepL] at r
   obtain ⟨v, r, rfl, hx, hl⟩ := r
   simp only [List.getElem?_cons_zero, Option.some.injEq] at h
   subst h
   exact ⟨v, by simp, hx⟩
 | y :: l, vs, i + 1, x, r, h => by
   simp only [RepL] at r
   obtain ⟨v, r, rfl, hx, hl⟩ := r
   simp only [List.getElem?_cons_succ] at h ⊢
   exact RepL.get hl h
theorem RepL.append {K : Ctx} : ∀ {l m : List AV} {vs ws : List Value}, RepL K l vs → RepL K m ws → RepL K (l ++ m) (vs ++ ws)
 | [], m, vs, ws, h, k => by simp only [RepL] at h; subst h; simpa using k
 | x :: l, m, vs, ws, h, k => by
   simp only [RepL, List.cons_append] at h ⊢
   obtain ⟨v, r, rfl, hx, hl⟩ := h
   exact ⟨v, r ++ ws, by simp, hx, RepL.append hl k⟩
theorem RepL.take {K : Ctx} : ∀ {l : List AV} {vs : List Value} (i : Nat), RepL K l vs → RepL K (l.take i) (vs.take i)
 | l, vs, 0, _ => by simp [RepL]
 | [], vs, i + 1, h => by simp only [RepL] at h; subst h; simp [RepL]
 | x :: l, vs, i + 1, h => by
   simp only [RepL] at h
   obtain ⟨v, r, rfl, hx, hl⟩ := h
   simp only [List.take_succ_cons, RepL]
   exact ⟨v, r.take i, rfl, hx, RepL.take i hl⟩
theorem RepL.drop {K : Ctx} : ∀ {l : List AV} {vs : List Value} (i : Nat), RepL K l vs → RepL K (l.drop i) (vs.drop i)
 | l, vs, 0, h => by simpa using h
 | [], vs, i + 1, h => by simp only [RepL] at h; subst h; simp [RepL]
 | x :: l, vs, i + 1, h => by
   simp only [RepL] at h
   obtain ⟨v, r, rfl, hx, hl⟩ := h
   simpa using RepL.drop i hl
theorem RepL.set {K : Ctx} : ∀ {l : List AV} {vs : List Value} {i : Nat} {x : AV} {v : Value}, RepL K l vs → Rep K x v → RepL K (l.set i x) (vs.set i v)
 | [], vs, i, x, v, h, _ => by simp only [RepL] at h; subst h; simp [RepL]
 | y :: l, vs, 0, x, v, h, k => by
   simp only [RepL] at h
   obtain ⟨v', r, rfl, hx, hl⟩ := h
   simp only [List.set_cons_zero, RepL]
   exact ⟨v, r, rfl, k, hl⟩
 | y :: l, vs, i + 1, x, v, h, k => by
   simp only [RepL] at h
   obtain ⟨v', r, rfl, hx, hl⟩ := h
   simp only [List.set_cons_succ, RepL]
   exact ⟨v', _, rfl, hx, RepL.set hl k⟩
def setRangeV (cs : List Value) (off : Nat) : List Value → List Value
 | [] => cs
 | v :: r => setRangeV (cs.set off v) (off + 1) r
theorem RepL.setRange {K : Ctx} : ∀ {m : List AV} {ws : List Value} {l : List AV} {vs : List Value} {off : Nat}, RepL K l vs → RepL K m ws → RepL K (setRange l off m) (setRangeV vs off ws)
 | [], ws, l, vs, off, h, k => by simp only [RepL] at k; subst k; simpa [Ab.setRange, setRangeV] using h
 | x :: m, ws, l, vs, off, h, k => by
   simp only [RepL] at k
   obtain ⟨v, r, rfl, hx, hm⟩ := k
   simp only [Ab.setRange, setRangeV]
   exact RepL.setRange (RepL.set h hx) hm
mutual
theorem Rep.strip {K : Ctx} : ∀ (x : AV) (v : Value), Rep K x v → Rep K x.strip v
 | .d x, v, h => by simpa [AV.strip] using h
 | .nil, v, h => by simpa [AV.strip] using h
 | .own es, v, h => by simpa [AV.strip, Rep] using h
 | .ptr r off, v, h => by simpa [AV.strip] using h
 | .ept cs off, v, h => by simpa [AV.strip] using h
 | .sref r off m, v, h => by simpa [AV.strip] using h
 | .mp r, v, h => by simpa [AV.strip] using h
 | .fn f a c, v, h => by simpa [AV.strip] using h
 | .ifc t x, v, h => by
   simp only [AV.strip, Rep] at h ⊢
   obtain ⟨y, hv, hx⟩ := h
   exact ⟨y, hv, Rep.strip x y hx⟩
 | .agg cs, v, h => by
   simp only [AV.strip, Rep] at h ⊢
   obtain ⟨y, hv, hx⟩ := h
   exact ⟨y, hv, RepL.strips cs _ hx⟩
 | .tup cs, v, h => by
   simp only [AV.strip, Rep] at h ⊢
   obtain ⟨y, hv, hx⟩ := h
   exact ⟨y, hv, RepL.strips cs _ hx⟩
theorem RepL.strips {K : Ctx} : ∀ (l : List AV) (vs : List Value), RepL K l vs → RepL K (AV.strips l) vs
 | [], vs, h => by simpa [AV.strips] using h
 | x :: l, vs, h => by
   simp only [AV.strips, RepL] at h ⊢
   obtain ⟨v, r, hv, hx, hl⟩ := h
   exact ⟨v, r, hv, Rep.strip x v hx, RepL.strips l r hl⟩
end
mutual
theorem Rep.bare {K : Ctx} : ∀ (x : AV) (v : Value), Rep K x v → Rep K x.bare v
 | .d x, v, h => by simpa [AV.bare] using h
 | .nil, v, h => by
   simp only [AV.bare, Rep, RepD] at h ⊢
   exact ⟨none, 0, by simp [h], by simp, by simp⟩
 | .own es, v, h => by simpa [AV.bare, Rep] using h
 | .ptr r off, v, h => by simpa [AV.bare] using h
 | .ept cs off, v, h => by simpa [AV.bare] using h
 | .sref r off m, v, h => by simpa [AV.bare] using h
 | .mp r, v, h => by simpa [AV.bare] using h
 | .fn f a c, v, h => by simpa [AV.bare] using h
 | .ifc t x, v, h => by
   simp only [AV.bare, Rep] at h ⊢
   obtain ⟨y, hv, hx⟩ := h
   exact ⟨y, hv, Rep.bare x y hx⟩
 | .agg cs, v, h => by
   simp only [AV.bare, Rep] at h ⊢
   obtain ⟨y, hv, hx⟩ := h
   exact ⟨y, hv, RepL.bares cs _ hx⟩
 | .tup cs, v, h => by simpa [AV.bare] using h
theorem RepL.bares {K : Ctx} : ∀ (l : List AV) (vs : List Value), RepL K l vs → RepL K (AV.bares l) vs
 | [], vs, h => by simpa [AV.bares] using h
 | x :: l, vs, h => by
   simp only [AV.bares, RepL] at h ⊢
   obtain ⟨v, r, hv, hx, hl⟩ := h
   exact ⟨v, r, hv, Rep.bare x v hx, RepL.bares l r hl⟩
end
mutual
theorem refB_strip : ∀ x : AV, x.strip.refB = x.refB
 | .d x => by simp [AV.strip]
 | .nil => by simp [AV.strip]
 | .own es => by simp [AV.strip, AV.refB]
 | .ptr r off => by simp [AV.strip]
 | .ept cs off => by simp [AV.strip]
 | .sref r off m => by simp [AV.strip]
 | .mp r => by simp [AV.strip]
 | .fn f a c => by simp [AV.strip]
 | .ifc t x => by simp [AV.strip, AV.refB, refB_strip x]
 | .agg cs => by simp [AV.strip, AV.refB, refBs_strips cs]
 | .tup cs => by simp [AV.strip, AV.refB, refBs_strips cs]
theorem refBs_strips : ∀ l : List AV, AV.refBs (AV.strips l) = AV.refBs l
 | [] => by simp [AV.strips]
 | x :: l => by simp [AV.strips, AV.refBs, refB_strip x, refBs_strips l]
end
mutual
theorem refB_bare : ∀ x : AV, x.bare.refB = x.refB
 | .d x => by simp [AV.bare]
 | .nil => by simp [AV.bare, AV.refB]
 | .own es => by simp [AV.bare, AV.refB]
 | .ptr r off => by simp [AV.bare]
 | .ept cs off => by simp [AV.bare]
 | .sref r off m => by simp [AV.bare]
 | .mp r => by simp [AV.bare]
 | .fn f a c => by simp [AV.bare]
 | .ifc t x => by simp [AV.bare, AV.refB, refB_bare x]
 | .agg cs => by simp [AV.bare, AV.refB, refBs_bares cs]
 | .tup cs => by simp [AV.bare]
theorem refBs_bares : ∀ l : List AV, AV.refBs (AV.bares l) = AV.refBs l
 | [] => by simp [AV.bares]
 | x :: l => by simp [AV.bares, AV.refBs, refB_bare x, refBs_bares l]
end
theorem refB_barg (x : AV) : x.barg.refB = x.refB := by
 cases x <;> first | rfl | exact refB_bare _
theorem refBs_bargs : ∀ l : List AV, AV.refBs (AV.bargs l) = AV.refBs l
 | [] => by simp [AV.bargs]
 | x :: l => by simp [AV.bargs, AV.refBs, refB_barg x, refBs_bargs l]
theorem Rep.barg {K : Ctx} (x : AV) (v : Value) (h : Rep K x v) : Rep K x.barg v := by
 cases x <;> first | exact h | exact Rep.bare _ _ h
theorem RepL.bargs {K : Ctx} : ∀ (l : List AV) (vs : List Value), RepL K l vs → RepL K (AV.bargs l) vs
 | [], vs, h => by simpa [AV.bargs] using h
 | x :: l, vs, h => by
   simp only [AV.bargs, RepL] at h ⊢
   obtain ⟨v, r, hv, hx, hl⟩ := h
   exact ⟨v, r, hv, Rep.barg x v hx, RepL.bargs l r hl⟩
theorem refBs_append (l m : List AV) : AV.refBs (l ++ m) = max (AV.refBs l) (AV.refBs m) := by
 induction l with
 | nil => simp [AV.refBs]
 | cons x l ih => simp only [List.cons_append, AV.refBs, ih]; omega
theorem refB_le_of_get {l : List AV} {i : Nat} {x : AV} (h : l[i]? = some x) : x.refB ≤ AV.refBs l := by
 induction l generalizing i with
 | nil => simp at h
 | cons y l ih =>
   cases i with
   | zero => simp only [List.getElem?_cons_zero, Option.some.injEq] at h; subst h; simp only [AV.refBs]; omega
   | succ i => simp only [List.getElem?_cons_succ] at h; have := ih h; simp only [AV.refBs]; omega
theorem refBs_le_iff {l : List AV} {n : Nat} : AV.refBs l ≤ n ↔ ∀ x ∈ l, x.refB ≤ n := by
 induction l with
 | nil => simp [AV.refBs]
 | cons y l ih => simp only [AV.refBs, List.mem_cons, forall_eq_or_imp, ← ih]; omega
theorem refBs_take (l : List AV) (i : Nat) : AV.refBs (l.take i) ≤ AV.refBs l :=
 refBs_le_iff.2 fun x h => (refBs_le_iff.1 (Nat.le_refl _)) x (List.mem_of_mem_take h)
theorem refBs_drop (l : List AV) (i : Nat) : AV.refBs (l.drop i) ≤ AV.refBs l :=
 refBs_le_iff.2 fun x h => (refBs_le_iff.1 (Nat.le_refl _)) x (List.mem_of_mem_drop h)
theorem refBs_set {l : List AV} {i n : Nat} {x : AV} (h : AV.refBs l ≤ n) (hx : x.refB ≤ n) : AV.refBs (l.set i x) ≤ n :=
 refBs_le_iff.2 fun y hy => by
  rcases List.mem_or_eq_of_mem_set hy with h' | h'
  ·exact refBs_le_iff.1 h y h'
  ·subst h'; exact hx
theorem refBs_setRange {m l : List AV} {off n : Nat} (h : AV.refBs l ≤ n) (hm : AV.refBs m ≤ n) : AV.refBs (setRange l off m) ≤ n := by
 induction m generalizing l off with
 | nil => simpa [setRange] using h
 | cons x m ih =>
   simp only [setRange]
   simp only [AV.refBs] at hm
   exact ih (refBs_set h (by omega)) (by omega)
end Go.Ab
namespace Go.Ab
def RB (n : Nat) (rf : Refs) : Prop := ∀ (r : Nat) cs, rf[r]? = some cs → AV.refBs cs ≤ n
def RBm (m : Nat) (rf : Refs) : Prop := ∀ (r : Nat) cs, r < m → rf[r]? = some cs → AV.refBs cs ≤ m
theorem RB.get {n : Nat} {rf : Refs} (h : RB n rf) {r : Nat} {cs : List AV} (k : rf[r]? = some cs) : AV.refBs cs ≤ n := h r cs k
theorem RBm.get {m : Nat} {rf : Refs} (h : RBm m rf) {r : Nat} {cs : List AV} (hr : r < m) (k : rf[r]? = some cs) : AV.refBs cs ≤ m := h r cs hr k
structure WF (rf0 : Refs) (s : St) : Prop where
 nb : s.nb = rf0.length
 le : rf0.length ≤ s.rf.length
 sb : ∀ n v, s.sl.get n = some v → v.refB ≤ s.rf.length
 rb : RB s.rf.length s.rf
 bd : ∀ m, m ≤ rf0.length → RBm m rf0 → RBm m s.rf
 db : ∀ p, p ∈ s.df → p.1.refB ≤ s.rf.length ∧ AV.refBs p.2 ≤ s.rf.length
 pb : ∀ v, s.pn = some (some v) → v.refB ≤ rf0.length
def Out.val : Out → AV
 | .ret v => v
 | .pan v => v
def CallWF (C : CallFn) : Prop := ∀ f args rf out rf', C f args rf = some (out, rf') → RB rf.length rf → AV.refBs args ≤ rf.length →
 rf.length ≤ rf'.length ∧ RB rf'.length rf' ∧ out.val.refB ≤ rf'.length ∧ ∀ m, m ≤ rf.length → RBm m rf → RBm m rf'
def Opd.cok : Opd → Bool
 | .c v => v.refB == 0
 | _ => true
def optCok : Option Opd → Bool
 | some x => x.cok
 | none => true
def partsCok : List (Nat × Nat × Opd) → Bool
 | [] => true
 | (_, _, x) :: r => x.cok && partsCok r
def AOpk.cok : AOpk → Bool
 | .mov x | .asg x | .box x | .nilchk x | .eqnil _ _ x | .un _ x | .toInt _ x | .ident x | .same x | .strBytes x | .bytesStr x | .mkifc _ x
 | .fldA _ x | .fld _ _ x | .extr x _ | .lenS x | .len x | .panic x | .load _ x | .takeload x | .recheck _ x _ => x.cok
 | .take _ | .lenArr _ | .recover => true
 | .assertT _ zero x => x.cok && zero.refB == 0
 | .pick c a b => c.cok && a.cok && b.cok
 | .alloc cells => AV.refBs cells == 0
 | .build zero parts => AV.refBs zero == 0 && partsCok parts
 | .mkls _ zero parts => AV.refBs zero == 0 && partsCok parts
 | .store _ a v => a.cok && v.cok
 | .storeW _ a v ws => a.cok && v.cok && ws.all Opd.cok
 | .loadB _ a b => a.cok && b.cok
 | .bin _ x y | .beq _ x y | .eqc _ _ x y | .idxA _ _ x y | .idxS x y | .idxV _ _ _ x y | .append _ x y | .copy x y | .min x y | .max x y => x.cok && y.cok
 | .mkfn _ first cap => first.all Opd.cok && cap.all Opd.cok
 | .sliceS x lo hi | .slice _ x lo hi => x.cok && optCok lo && optCok hi
 | .slArr _ x lo hi => x.cok && optCok lo && optCok hi
 | .call f args | .callZ f args | .callQ f args | .defer f args => f.cok && args.all Opd.cok
 | .makeMap => true
 | .stuck => true
 | .lookup _ _ zero m k | .mapEntry _ zero m k => m.cok && k.cok && zero.refB == 0
 | .mapSet _ m k v | .entrySet m k v => m.cok && k.cok && v.cok
 | .mkS cell n => n.cok && cell.refB == 0
 | .callO f pre x post => f.cok && pre.all Opd.cok && x.cok && post.all Opd.cok
def Did.wf (rf0 : Refs) : Did → Prop
 | .val v s => WF rf0 s ∧ v.refB ≤ s.rf.length
 | .none_ s => WF rf0 s
 | .pan v s => WF rf0 s ∧ v.refB ≤ s.rf.length
theorem rawO_b {s : St} {rf0 : Refs} (hw : WF rf0 s) {x : Opd} (hx : x.cok = true) {v : AV} (h : rawO s.sl x = some v) : v.refB ≤ s.rf.length := by
 cases x with
 | t n => exact hw.sb n v h
 | c w => simp only [rawO, Option.some.injEq] at h; subst h; simp [Opd.cok] at hx; omega
 | f id => simp only [rawO, Option.some.injEq] at h; subst h; simp [AV.refB, AV.refBs]
theorem getO_b {s : St} {rf0 : Refs} (hw : WF rf0 s) {x : Opd} (hx : x.cok = true) {v : AV} (h : getO s.sl x = some v) : v.refB ≤ s.rf.length := by
 simp only [getO, Option.map_eq_some_iff] at h
 obtain ⟨u, hu, rfl⟩ := h
 rw [refB_strip]
 exact rawO_b hw hx hu
theorem getOs_b {s : St} {rf0 : Refs} (hw : WF rf0 s) : ∀ {l : List Opd} {vs : List AV}, l.all Opd.cok = true → getOs s.sl l = some vs → AV.refBs vs ≤ s.rf.length
 | [], vs, _, h => by simp only [getOs, Option.some.injEq] at h; subst h; simp [AV.refBs]
 | x :: l, vs, hx, h => by
   simp only [List.all_cons, Bool.and_eq_true] at hx
   simp only [getOs] at h
   split at h
   ·rename_i v vs' h1 h2
    simp only [Option.some.injEq] at h
    subst h
    have a := getO_b hw hx.1 h1
    have b := getOs_b hw hx.2 h2
    simp only [AV.refBs]
    omega
   ·simp at h
theorem get_put {sl : Slots} {n m : Nat} {v w : AV} (h : (sl.put n v).get m = some w) : w = v ∨ sl.get m = some w := by
 simp only [Slots.put, Slots.get] at h
 split at h
 ·exact .inl (Option.some.inj h).symm
 ·exact .inr h
theorem WF.withSl {rf0 : Refs} {s : St} (hw : WF rf0 s) {sl : Slots} (h : ∀ n v, sl.get n = some v → v.refB ≤ s.rf.length) : WF rf0 { s with sl := sl } :=
 ⟨hw.nb, hw.le, h, hw.rb, hw.bd, hw.db, hw.pb⟩
theorem WF.putSl {rf0 : Refs} {s : St} (hw : WF rf0 s) {n : Nat} {v : AV} (hv : v.refB ≤ s.rf.length) : WF rf0 { s with sl := s.sl.put n v } :=
 hw.withSl fun m w h => by
  rcases get_put h with rfl | h'
  ·exact hv
  ·exact hw.sb m w h'
theorem WF.unOwn {rf0 : Refs} {s : St} (hw : WF rf0 s) (x : Opd) : WF rf0 (unOwn s x) := by
 unfold Ab.unOwn
 split
 ·split
  ·exact hw.putSl (by simp [AV.refB])
  ·exact hw
 ·exact hw
theorem unOwn_rf (s : St) (x : Opd) : (unOwn s x).rf = s.rf := by
 unfold Ab.unOwn
 split
 ·split <;> rfl
 ·rfl
theorem loadAt_b {s : St} {rf0 : Refs} (hw : WF rf0 s) {agg : Option Nat} {p v : AV} (h : loadAt s.rf agg p = some v) : v.refB ≤ s.rf.length := by
 unfold loadAt at h
 split at h
 ·split at h
  ·rename_i r off _ n
   simp only [Option.map_eq_some_iff] at h
   obtain ⟨cs, hcs, rfl⟩ := h
   unfold Refs.cellsAt at hcs
   split at hcs
   ·rename_i cs' hr
    split at hcs
    ·simp only [Option.some.injEq] at hcs
     subst hcs
     simp only [AV.refB]
     exact Nat.le_trans (refBs_take _ _) (Nat.le_trans (refBs_drop _ _) (hw.rb.get hr))
    ·simp at hcs
   ·simp at hcs
  ·split at h
   ·rename_i cs hr
    split at h
    ·exact Nat.le_trans (refB_le_of_get h) (hw.rb.get hr)
    ·simp at h
   ·simp at h
 ·split at h
  ·split at h
   ·simp only [Option.some.injEq] at h
    subst h
    simp only [AV.refB]
    have : ∀ l : List D, AV.refBs (l.map .d) = 0 := fun l => by
     induction l with
     | nil => rfl
     | cons x l ih => simp [AV.refBs, AV.refB, ih]
    rw [this]; omega
   ·simp at h
  ·simp only [Option.map_eq_some_iff] at h
   obtain ⟨x, _, rfl⟩ := h
   simp [AV.refB]
 ·simp at h
theorem cells_b (v : AV) : AV.refBs v.cells = v.refB := by
 cases v <;> simp [AV.cells, AV.refBs, AV.refB]
theorem cellsO_b (v : AV) : AV.refBs v.cellsO = v.refB := by
 cases v <;> simp [AV.cellsO, AV.refBs, AV.refB, refBs_strips]
theorem WF.setRf {rf0 : Refs} {s : St} (hw : WF rf0 s) {r : Nat} {cs : List AV} (hb : AV.refBs cs ≤ s.rf.length)
  (hm : ∀ m, m ≤ rf0.length → r < m → RBm m s.rf → AV.refBs cs ≤ m) : WF rf0 { s with rf := s.rf.set r cs } where
 nb := hw.nb
 le := by simpa using hw.le
 sb := by simpa using hw.sb
 rb := fun r' cs' h => by
  simp only [List.length_set] at *
  rw [List.getElem?_set] at h
  split at h
  ·split at h
   ·simp only [Option.some.injEq] at h; subst h; exact hb
   ·simp at h
  ·exact hw.rb.get h
 bd := fun m hm' h0 r' cs' hr' h => by
  rw [List.getElem?_set] at h
  split at h
  ·rename_i he
   subst he
   split at h
   ·simp only [Option.some.injEq] at h; subst h; exact hm m hm' hr' (hw.bd m hm' h0)
   ·simp at h
  ·exact (hw.bd m hm' h0).get hr' h
 db := by simpa using hw.db
 pb := hw.pb
theorem WF.pushRf {rf0 : Refs} {s : St} (hw : WF rf0 s) {cs : List AV} (hb : AV.refBs cs ≤ s.rf.length) : WF rf0 { s with rf := s.rf ++ [cs] } where
 nb := hw.nb
 le := by simp; have := hw.le; omega
 sb := fun n v h => by have := hw.sb n v h; simp; omega
 rb := fun r cs' h => by
  simp only [List.length_append, List.length_cons, List.length_nil]
  rw [List.getElem?_append] at h
  split at h
  ·have := hw.rb.get h; omega
  ·have := List.mem_of_getElem? h
   simp only [List.mem_singleton] at this
   subst this; omega
 bd := fun m hm h0 r cs' hr h => by
  rw [List.getElem?_append_left (by have := hw.le; omega)] at h
  exact (hw.bd m hm h0).get hr h
 db := fun p h => by have := hw.db p h; simp; omega
 pb := hw.pb
theorem WF.storeAt {rf0 : Refs} {s : St} (hw : WF rf0 s) {sz : Nat} {p v : AV} {rf : Refs} (hv : v.refB ≤ s.rf.length) (h : storeAt s.rf s.nb sz p v = some rf) :
  WF rf0 { s with rf := rf } ∧ rf.length = s.rf.length := by
 unfold Ab.storeAt at h
 split at h
 ·rename_i r off
  simp only at h
  split at h
  ·simp at h
  ·split at h
   ·rename_i cs hr
    split at h
    ·rename_i hc
     simp only [Option.some.injEq] at h
     subst h
     have hcs := cellsO_b v
     refine ⟨hw.setRf (refBs_setRange (hw.rb.get hr) (by omega)) (fun m hm hrm hbm => ?_), by simp⟩
     refine refBs_setRange (hbm.get hrm hr) ?_
     rcases hc.2.2 with h' | h'
     ·omega
     ·have := hw.nb; omega
    ·simp at h
   ·simp at h
 ·simp at h
theorem fillA_b {s : St} {rf0 : Refs} (hw : WF rf0 s) : ∀ {l : List (Nat × Nat × Opd)} {cs cs' : List AV}, partsCok l = true → AV.refBs cs ≤ s.rf.length → fillA s.sl cs l = some cs' → AV.refBs cs' ≤ s.rf.length
 | [], cs, cs', _, hb, h => by simp only [fillA, Option.some.injEq] at h; subst h; exact hb
 | (off, size, x) :: l, cs, cs', hc, hb, h => by
   simp only [partsCok, Bool.and_eq_true] at hc
   simp only [fillA] at h
   split at h
   ·rename_i v hv
    split at h
    ·have := getO_b hw hc.1 hv
     have e := cells_b v
     exact fillA_b hw hc.2 (refBs_setRange hb (by omega)) h
    ·simp at h
   ·simp at h
theorem intBin_b {op : BinOp} {k : IntKind} {x y : Int} {v : AV} (h : intBin op k x y = some v) : v.refB = 0 := by
 unfold intBin at h
 split at h <;> first | (simp at h; done) | (simp only [Option.some.injEq] at h; subst h; rfl) | (split at h <;> first | (simp at h; done) | (simp only [Option.some.injEq] at h; subst h; rfl))
theorem strBin_b {op : BinOp} {x y : List UInt8} {v : AV} (h : strBin op x y = some v) : v.refB = 0 := by
 unfold strBin at h
 split at h <;> first | (simp at h; done) | (simp only [Option.some.injEq] at h; subst h; rfl) | (split at h <;> first | (simp at h; done) | (simp only [Option.some.injEq] at h; subst h; rfl))
theorem binA_b {op : BinOp} {x y v : AV} (h : binA op x y = some v) : v.refB = 0 := by
 unfold binA at h
 split at h
 ·split at h
  ·split at h <;> first | (simp at h; done) | (simp only [Option.some.injEq] at h; subst h; rfl)
  ·split at h <;> first | (simp at h; done) | (simp only [Option.some.injEq] at h; subst h; rfl)
  ·split at h
   ·exact intBin_b h
   ·simp at h
 ·exact strBin_b h
 ·simp at h
theorem unA_b {op : UnOp} {x v : AV} (h : unA op x = some v) : v.refB = 0 := by
 unfold unA at h
 split at h <;> first | (simp at h; done) | (simp only [Option.some.injEq] at h; subst h; rfl)
theorem appendA_b {sz : Nat} {x y v : AV} (h : appendA sz x y = some v) : v.refB = 0 := by
 unfold appendA at h
 split at h
 ·simp at h
 ·split at h
  ·split at h
   ·split at h <;> (simp only [Option.some.injEq] at h; subst h; rfl)
   ·simp at h
  ·split at h
   ·simp only [Option.some.injEq] at h; subst h; rfl
   ·simp at h
  ·simp at h
theorem strA_b {l : List D} : AV.refBs (l.map AV.d) = 0 := by
 induction l with
 | nil => rfl
 | cons x l ih => simp [AV.refBs, AV.refB, ih]
theorem vl_wf {rf0 : Refs} {s : St} {o : Option AV} {d : Did} (h : vl s o = some d) (hw : WF rf0 s) (hv : ∀ v, o = some v → v.refB ≤ s.rf.length) : d.wf rf0 := by
 unfold vl at h
 simp only [Option.map_eq_some_iff] at h
 obtain ⟨v, ho, rfl⟩ := h
 exact ⟨hw, hv v ho⟩
theorem refBs_append_le {l m : List AV} {n : Nat} (h : AV.refBs l ≤ n) (k : AV.refBs m ≤ n) : AV.refBs (l ++ m) ≤ n := by rw [refBs_append]; omega
theorem some_b {v : AV} {n : Nat} (h : v.refB ≤ n) : ∀ w, some v = some w → w.refB ≤ n := fun w e => by cases e; exact h
theorem partA_b {agg : Option Nat} {cs : List AV} {off : Nat} {v : AV} (h : partA agg cs off = some v) : v.refB ≤ AV.refBs cs := by
 unfold partA at h
 split at h
 ·split at h
  ·simp only [Option.some.injEq] at h; subst h
   exact Nat.le_trans (refBs_take _ _) (refBs_drop _ _)
  ·simp at h
 ·exact refB_le_of_get h
theorem WF.grown {rf0 : Refs} {s : St} (hw : WF rf0 s) {rf : Refs} (hl : s.rf.length ≤ rf.length) (hrb : RB rf.length rf) (hm : ∀ m, m ≤ s.rf.length → RBm m s.rf → RBm m rf) : WF rf0 { s with rf := rf } :=
 ⟨hw.nb, Nat.le_trans hw.le hl, fun n v h => Nat.le_trans (hw.sb n v h) hl, hrb, fun m hm' h0 => hm m (Nat.le_trans hm' hw.le) (hw.bd m hm' h0),
  fun p hp => ⟨Nat.le_trans (hw.db p hp).1 hl, Nat.le_trans (hw.db p hp).2 hl⟩, hw.pb⟩
theorem refBs_tail (x : AV) (l : List AV) : AV.refBs l ≤ AV.refBs (x :: l) := by simp only [AV.refBs]; omega
theorem refBs_rep {cell : AV} (h : cell.refB = 0) (n : Nat) : AV.refBs (List.replicate n cell) = 0 := by
 induction n with
 | zero => rfl
 | succ n ih => simp only [List.replicate_succ, AV.refBs, h, ih]; rfl
theorem findK_b {pk : PK} {k : D} : ∀ {l : List AV} {i j : Nat} {v : AV}, findK pk k l i = some (some (j, v)) → v.refB ≤ AV.refBs l
 | [], i, j, v, h => by simp [findK] at h
 | [x], i, j, v, h => by cases x <;> simp [findK] at h
 | x :: u :: r, i, j, v, h => by
   cases x <;> simp only [findK] at h <;> try (cases h; done)
   split at h
   ·split at h
    ·simp only [Option.some.injEq, Prod.mk.injEq] at h
     obtain ⟨_, rfl⟩ := h
     simp only [AV.refBs]; omega
    ·have := findK_b h
     simp only [AV.refBs]; omega
   ·cases h
theorem argsO_b {n : Nat} {first vs ws cap : List AV} {x : AV} (h1 : AV.refBs first ≤ n) (h2 : AV.refBs vs ≤ n) (hx : x.refB ≤ n) (h3 : AV.refBs ws ≤ n) (h4 : AV.refBs cap ≤ n) :
  AV.refBs (AV.bargs (first ++ vs) ++ x :: AV.bargs (ws ++ cap)) ≤ n := by
 rw [refBs_append]
 simp only [AV.refBs, refBs_bargs, refBs_append]
 omega
set_option maxHeartbeats 1000000 in
theorem stepOp_wf {C : CallFn} (hC : CallWF C) {rf0 : Refs} {s : St} {o : AOpk} {d : Did} (h : stepOp C s o = some d) (hw : WF rf0 s) (ho : o.cok = true) : d.wf rf0 := by
 cases o <;> simp only [AOpk.cok, Bool.and_eq_true, beq_iff_eq] at ho <;> simp only [stepOp] at h
 case mov x => exact vl_wf h hw fun v e => getO_b hw ho e
 case take t =>
  split at h
  ·rename_i v hv
   simp only [Option.some.injEq] at h; subst h
   exact ⟨hw.unOwn _, by rw [unOwn_rf]; exact hw.sb _ _ hv⟩
  ·simp at h
 case asg x =>
  split at h
  ·rename_i v hv
   simp only [Option.some.injEq] at h; subst h
   exact ⟨hw.unOwn _, by rw [unOwn_rf]; exact rawO_b hw ho hv⟩
  ·simp at h
 case pick c a b =>
  split at h
  ·refine vl_wf h hw fun v e => ?_
   split at e
   ·exact getO_b hw ho.1.2 e
   ·exact getO_b hw ho.2 e
  ·simp at h
 case alloc cells =>
  simp only [Option.some.injEq] at h; subst h
  exact ⟨hw.pushRf (by omega), by simp [AV.refB]⟩
 case box x =>
  split at h
  ·rename_i v hv
   split at h
   ·simp only [Option.some.injEq] at h; subst h
    exact ⟨hw.pushRf (by rw [cells_b]; exact getO_b hw ho hv), by simp [AV.refB]⟩
   ·simp at h
  ·simp at h
 case build zero parts =>
  refine vl_wf h hw fun v e => ?_
  simp only [Option.map_eq_some_iff] at e
  obtain ⟨cs, hcs, rfl⟩ := e
  exact fillA_b hw ho.2 (by omega) hcs
 case mkls sz zero parts =>
  split at h
  ·split at h
   ·split at h
    ·exact vl_wf h hw (some_b (by simp [AV.refB]))
    ·simp at h
   ·simp at h
  ·simp at h
 case load agg a =>
  split at h
  ·refine vl_wf h hw fun v e => ?_
   simp only [Option.map_eq_some_iff] at e
   obtain ⟨u, hu, rfl⟩ := e
   rw [refB_strip]
   exact loadAt_b hw hu
  ·simp at h
 case takeload a =>
  split at h
  ·rename_i r off hp
   split at h
   ·rename_i v hv
    split at h
    ·rename_i cs hr
     simp only [Option.some.injEq] at h; subst h
     have hvb := loadAt_b hw hv
     have hget : cs[off]? = some v := by
      simp only [loadAt, hr] at hv
      split at hv
      ·exact hv
      ·cases hv
     refine ⟨hw.setRf (refBs_set (hw.rb.get hr) (by rw [refB_strip]; exact hvb)) (fun m hm hrm hbm => ?_), by simpa using hvb⟩
     have hcs := hbm.get hrm hr
     exact refBs_set hcs (by rw [refB_strip]; exact Nat.le_trans (refB_le_of_get hget) hcs)
    ·simp at h
   ·simp at h
  ·simp at h
 case recheck => simp at h
 case store sz a v =>
  split at h
  ·rename_i p x hp hx
   split at h
   ·rename_i rf hrf
    simp only [Option.some.injEq] at h; subst h
    exact ((hw.storeAt (rawO_b hw ho.2 hx) hrf).1).unOwn _
   ·simp at h
  ·simp at h
 case storeW sz a v ws =>
  split at h
  ·rename_i r off x hp hx
   split at h
   ·split at h
    ·rename_i rf hrf
     simp only [Option.some.injEq] at h; subst h
     exact ((hw.storeAt (rawO_b hw ho.1.2 hx) hrf).1).unOwn _
    ·simp at h
   ·simp at h
  ·simp at h
 case loadB agg a b =>
  split at h
  ·split at h
   ·refine vl_wf h hw fun v e => ?_
    simp only [Option.map_eq_some_iff] at e
    obtain ⟨u, hu, rfl⟩ := e
    rw [refB_strip]
    exact loadAt_b hw hu
   ·simp at h
  ·simp at h
 case nilchk x =>
  split at h
  ·rename_i r off hv
   exact vl_wf h hw (some_b (getO_b hw ho hv))
  ·exact vl_wf h hw (some_b (by simp [AV.refB]))
  ·rename_i f a b hv
   split at h
   ·exact vl_wf h hw (some_b (getO_b hw ho hv))
   ·simp at h
  ·simp at h
 case bin op x y =>
  split at h
  ·exact vl_wf h hw fun v e => by rw [binA_b e]; omega
  ·simp at h
 case beq ne x y =>
  split at h
  ·exact vl_wf h hw (some_b (by simp [AV.refB]))
  ·simp at h
 case eqc ne ks x y =>
  split at h
  ·refine vl_wf h hw fun v e => ?_
   simp only [Option.map_eq_some_iff] at e
   obtain ⟨t, _, rfl⟩ := e
   simp [AV.refB]
  ·simp at h
 case eqnil nk ne x =>
  split at h
  ·refine vl_wf h hw fun v e => ?_
   simp only [Option.map_eq_some_iff] at e
   obtain ⟨t, _, rfl⟩ := e
   simp [AV.refB]
  ·simp at h
 case un op x =>
  split at h
  ·exact vl_wf h hw fun v e => by rw [unA_b e]; omega
  ·simp at h
 case toInt k x =>
  split at h
  ·exact vl_wf h hw (some_b (by simp [AV.refB]))
  ·simp at h
 case ident x =>
  split at h
  ·exact vl_wf h hw (some_b (by simp [AV.refB]))
  ·simp at h
 case same x =>
  split at h
  ·rename_i v hv
   simp only [Option.some.injEq] at h; subst h
   exact ⟨hw.unOwn _, by rw [unOwn_rf]; simp [AV.refB]⟩
  ·simp at h
 case strBytes x =>
  split at h
  ·exact vl_wf h hw (some_b (by simp [AV.refB]))
  ·exact vl_wf h hw (some_b (by simp [AV.refB]))
  ·simp at h
 case bytesStr x =>
  split at h
  ·split at h
   ·refine vl_wf h hw fun v e => ?_
    simp only [Option.map_eq_some_iff] at e
    obtain ⟨t, _, rfl⟩ := e
    simp [AV.refB]
   ·simp at h
  ·simp at h
 case mkifc t x =>
  split at h
  ·rename_i v hv
   exact vl_wf h hw (some_b (by simpa [AV.refB] using getO_b hw ho hv))
  ·simp at h
 case mkfn f first cap =>
  split at h
  ·rename_i a b ha hb
   refine vl_wf h hw (some_b ?_)
   have := getOs_b hw ho.1 ha
   have := getOs_b hw ho.2 hb
   simp only [AV.refB]; omega
  ·simp at h
 case sliceS x lo hi =>
  split at h
  ·split at h
   ·split at h
    ·exact vl_wf h hw (some_b (by simp [AV.refB]))
    ·simp at h
   ·simp at h
  ·simp at h
 case slice sz x lo hi =>
  split at h
  ·split at h
   ·split at h
    ·split at h
     ·exact vl_wf h hw (some_b (by simp [AV.refB]))
     ·simp at h
    ·simp at h
   ·simp at h
  ·simp at h
 case slArr n x lo hi =>
  split at h
  ·rename_i r off hv
   split at h
   ·split at h
    ·have := getO_b hw ho.1.1 hv
     exact vl_wf h hw (some_b (by simpa [AV.refB] using this))
    ·simp at h
   ·simp at h
  ·simp at h
 case fldA off x =>
  split at h
  ·rename_i r o hv
   have := getO_b hw ho hv
   exact vl_wf h hw (some_b (by simpa [AV.refB] using this))
  ·exact vl_wf h hw (some_b (by simp [AV.refB]))
  ·simp at h
 case fld off agg x =>
  split at h
  ·rename_i cs hv
   have hb := getO_b hw ho hv
   simp only [AV.refB] at hb
   exact vl_wf h hw fun v e => Nat.le_trans (partA_b e) hb
  ·simp at h
 case idxA arr sz x i =>
  split at h
  ·split at h
   ·simp at h
   ·split at h
    ·rename_i r off hv
     have := getO_b hw ho.1 hv
     split at h
     ·exact vl_wf h hw (some_b (by simpa [AV.refB] using this))
     ·simp at h
    ·split at h
     ·exact vl_wf h hw (some_b (by simp [AV.refB]))
     ·simp at h
    ·rename_i r off m hv
     have := getO_b hw ho.1 hv
     split at h
     ·exact vl_wf h hw (some_b (by simpa [AV.refB] using this))
     ·simp at h
    ·split at h
     ·split at h
      ·split at h
       ·exact vl_wf h hw (some_b (by simp [AV.refB]))
       ·simp at h
      ·simp at h
     ·simp at h
    ·simp at h
  ·simp at h
 case idxS x i =>
  split at h
  ·split at h
   ·simp at h
   ·refine vl_wf h hw fun v e => ?_
    simp only [Option.map_eq_some_iff] at e
    obtain ⟨t, _, rfl⟩ := e
    simp [AV.refB]
  ·simp at h
 case idxV n sz agg x i =>
  split at h
  ·rename_i cs m hv _
   have hb := getO_b hw ho.1 hv
   simp only [AV.refB] at hb
   split at h
   ·simp at h
   ·exact vl_wf h hw fun v e => Nat.le_trans (partA_b e) hb
  ·simp at h
 case assertT t zero x =>
  split at h
  ·rename_i t' v hv
   have hb := getO_b hw ho.1 hv
   simp only [AV.refB] at hb
   refine vl_wf h hw (some_b ?_)
   split <;> simp [AV.refB, AV.refBs, ho.2, hb]
  ·exact vl_wf h hw (some_b (by simp [AV.refB, AV.refBs, ho.2]))
  ·simp at h
 case extr x i =>
  split at h
  ·rename_i vs hv
   have hb := getO_b hw ho hv
   simp only [AV.refB] at hb
   exact vl_wf h hw fun v e => Nat.le_trans (refB_le_of_get e) hb
  ·simp at h
 case call f args =>
  split at h
  ·rename_i id first cap vs hf hvs
   have hb := getO_b hw ho.1 hf
   have hb2 := getOs_b hw ho.2 hvs
   simp only [AV.refB] at hb
   have hargs : AV.refBs (AV.bargs (first ++ vs ++ cap)) ≤ s.rf.length := by
    rw [refBs_bargs]; exact refBs_append_le (refBs_append_le (by omega) hb2) (by omega)
   have wfOf : ∀ {out : Out} {rf : Refs}, C id (AV.bargs (first ++ vs ++ cap)) s.rf = some (out, rf) → WF rf0 { s with rf := rf } ∧ out.val.refB ≤ rf.length := fun {out rf} hc => by
    obtain ⟨hl, hrb, hv, hm⟩ := hC _ _ _ _ _ hc hw.rb hargs
    exact ⟨hw.grown hl hrb hm, hv⟩
   split at h
   ·rename_i v rf hc
    simp only [Option.some.injEq] at h; subst h
    exact wfOf hc
   ·rename_i v rf hc
    simp only [Option.some.injEq] at h; subst h
    exact wfOf hc
   ·simp at h
  ·simp at h
 case callZ f args =>
  split at h
  ·rename_i id first cap vs hf hvs
   split at h
   ·rename_i hz
    split at h
    ·rename_i v rf hc
     split at h
     ·rename_i hv
      simp only [Option.some.injEq] at h; subst h
      exact ⟨hw, by omega⟩
     ·simp at h
    ·simp at h
   ·simp at h
  ·simp at h
 case callQ f args =>
  split at h
  ·rename_i id first cap vs hf hvs
   have hb := getO_b hw ho.1 hf
   have hb2 := getOs_b hw ho.2 hvs
   simp only [AV.refB] at hb
   have hargs : AV.refBs (AV.bargs (first ++ vs ++ cap)) ≤ s.rf.length := by
    rw [refBs_bargs]; exact refBs_append_le (refBs_append_le (by omega) hb2) (by omega)
   split at h
   ·rename_i v rf hc
    split at h
    ·rename_i hsame
     simp only [Option.some.injEq] at h; subst h
     have := (hC _ _ _ _ _ hc hw.rb hargs).2.2.1
     rw [sameRf_eq _ _ hsame] at this
     exact ⟨hw, this⟩
    ·simp at h
   ·simp at h
  ·simp at h
 case lenS x =>
  split at h
  ·exact vl_wf h hw (some_b (by simp [AV.refB]))
  ·simp at h
 case len x =>
  split at h
  ·exact vl_wf h hw (some_b (by simp [AV.refB]))
  ·refine vl_wf h hw fun v e => ?_
   simp only [Option.map_eq_some_iff] at e
   obtain ⟨t, _, rfl⟩ := e
   simp [AV.refB]
  ·simp at h
 case lenArr n => exact vl_wf h hw (some_b (by simp [AV.refB]))
 case append sz x y =>
  split at h
  ·split at h
   ·rename_i r hr
    simp only [Option.some.injEq] at h; subst h
    exact ⟨hw.unOwn _, by rw [appendA_b hr]; omega⟩
   ·simp at h
  ·simp at h
 case copy x y =>
  split at h
  ·rename_i r off n v hx hy
   split at h
   ·rename_i es cs _ hr
    split at h
    ·simp only [Option.some.injEq] at h; subst h
     have e0 : AV.refBs ((es.take (Nat.min es.length n)).map fun e => AV.d (e.headD .nilp)) = 0 := by
      have : ∀ l : List (List D), AV.refBs (l.map fun e => AV.d (e.headD .nilp)) = 0 := fun l => by
       induction l with
       | nil => rfl
       | cons x l ih => simp only [List.map_cons, AV.refBs, AV.refB, ih]; rfl
      exact this _
     refine ⟨hw.setRf (refBs_setRange (hw.rb.get hr) (by rw [e0]; omega)) (fun m hm hrm hbm => ?_), by simp [AV.refB]⟩
     exact refBs_setRange (hbm.get hrm hr) (by rw [e0]; omega)
    ·simp at h
   ·simp at h
  ·simp at h
 case min x y =>
  split at h
  ·split at h
   ·exact vl_wf h hw (some_b (by simp [AV.refB]))
   ·simp at h
  ·simp at h
 case max x y =>
  split at h
  ·split at h
   ·exact vl_wf h hw (some_b (by simp [AV.refB]))
   ·simp at h
  ·simp at h
 case recover =>
  split at h
  ·rename_i v hv
   simp only [Option.some.injEq] at h; subst h
   exact ⟨⟨hw.nb, hw.le, hw.sb, hw.rb, hw.bd, hw.db, fun v e => by simp at e⟩, by rw [refB_strip]; exact Nat.le_trans (hw.pb v hv) hw.le⟩
  ·simp only [Option.some.injEq] at h; subst h
   exact ⟨hw, by simp [AV.refB]⟩
  ·simp at h
 case defer f args =>
  split at h
  ·rename_i id first cap vs hf hvs
   simp only [Option.some.injEq] at h; subst h
   have hb := getO_b hw ho.1 hf
   have hb2 := getOs_b hw ho.2 hvs
   refine ⟨hw.nb, hw.le, hw.sb, hw.rb, hw.bd, fun p hp => ?_, hw.pb⟩
   simp only [List.mem_cons] at hp
   rcases hp with rfl | hp
   ·exact ⟨hb, by rw [refBs_bares]; exact hb2⟩
   ·exact hw.db p hp
  ·simp at h
 case panic x =>
  split at h
  ·rename_i t v hv
   simp only [Option.some.injEq] at h; subst h
   exact ⟨hw, getO_b hw ho hv⟩
  ·simp at h
 case stuck => cases h
 case makeMap =>
  simp only [Option.some.injEq] at h; subst h
  exact ⟨hw.pushRf (by simp [AV.refBs, AV.refB]), by simp [AV.refB]⟩
 case lookup pk ok zero m k =>
  split at h
  ·split at h
   ·split at h
    ·rename_i kvs hr
     split at h
     ·rename_i i v hf
      have hb := Nat.le_trans (findK_b hf) (Nat.le_trans (refBs_tail _ _) (hw.rb.get hr))
      refine vl_wf h hw (some_b ?_)
      split <;> simp [AV.refB, AV.refBs, refB_strip, hb]
     ·refine vl_wf h hw (some_b ?_)
      split <;> simp [AV.refB, AV.refBs, refB_strip, ho.2]
     ·simp at h
    ·simp at h
   ·simp at h
  ·simp at h
 case mapSet pk m k v =>
  split at h
  ·rename_i r x u hm hk hu
   split at h
   ·rename_i hc
    split at h
    ·rename_i kvs hr
     have hub := getO_b hw ho.2 hu
     have hrb := Nat.le_trans (refBs_tail _ _) (hw.rb.get hr)
     split at h
     ·rename_i i0 v0 hf
      simp only [Option.some.injEq] at h; subst h
      refine hw.setRf (by simp only [AV.refBs, AV.refB]; have := refBs_set (i := 2 * i0 + 1) hrb hub; omega) (fun m hm hrm hbm => ?_)
      have h1 := Nat.le_trans (refBs_tail _ _) (hbm.get hrm hr)
      have h2 : u.refB ≤ m := by have := hw.nb; omega
      have := refBs_set (i := 2 * i0 + 1) h1 h2
      simp only [AV.refBs, AV.refB]; omega
     ·simp only [Option.some.injEq] at h; subst h
      refine hw.setRf (by simp only [AV.refBs, AV.refB, refBs_append]; omega) (fun m hm hrm hbm => ?_)
      have h1 := Nat.le_trans (refBs_tail _ _) (hbm.get hrm hr)
      have h2 : u.refB ≤ m := by have := hw.nb; omega
      simp only [AV.refBs, AV.refB, refBs_append]; omega
     ·simp at h
    ·simp at h
   ·simp at h
  ·simp at h
 case mapEntry pk zero m k =>
  split at h
  ·split at h
   ·rename_i hc
    split at h
    ·rename_i kvs hr
     have hrb := Nat.le_trans (refBs_tail _ _) (hw.rb.get hr)
     split at h
     ·rename_i i v hf
      simp only [Option.some.injEq] at h; subst h
      have hb := Nat.le_trans (findK_b hf) hrb
      exact ⟨hw, by simp [AV.refB, AV.refBs, refB_strip, hb]⟩
     ·simp only [Option.some.injEq] at h; subst h
      refine ⟨hw.setRf (by simp only [AV.refBs, AV.refB, refBs_append, refB_strip]; omega) (fun m hm hrm hbm => ?_), by simp [AV.refB, AV.refBs, refB_strip, hc.2]⟩
      have h1 := Nat.le_trans (refBs_tail _ _) (hbm.get hrm hr)
      simp only [AV.refBs, AV.refB, refBs_append, refB_strip]; omega
     ·simp at h
    ·simp at h
   ·simp at h
  ·simp at h
 case entrySet m st v =>
  split at h
  ·rename_i r x n u hm hk hu
   split at h
   ·rename_i hc
    split at h
    ·rename_i kvs hr
     have hub := getO_b hw ho.2 hu
     have hrb := Nat.le_trans (refBs_tail _ _) (hw.rb.get hr)
     split at h
     ·simp only [Option.some.injEq] at h; subst h
      refine hw.setRf (by simp only [AV.refBs, AV.refB]; have := refBs_set (i := 2 * n.toNat + 1) hrb hub; omega) (fun m hm hrm hbm => ?_)
      have h1 := Nat.le_trans (refBs_tail _ _) (hbm.get hrm hr)
      have h2 : u.refB ≤ m := by have := hw.nb; omega
      have := refBs_set (i := 2 * n.toNat + 1) h1 h2
      simp only [AV.refBs, AV.refB]; omega
     ·simp at h
    ·simp at h
   ·simp at h
  ·simp at h
 case mkS cell n =>
  split at h
  ·split at h
   ·simp only [Option.some.injEq] at h; subst h
    exact ⟨hw.pushRf (by rw [refBs_rep ho.2]; omega), by simp [AV.refB]⟩
   ·simp at h
  ·simp at h
 case callO f pre x post =>
  split at h
  ·rename_i id first cap vs xv ws hf hvs hx hws
   have hb := getO_b hw ho.1.1.1 hf
   have hb2 := getOs_b hw ho.1.1.2 hvs
   have hb3 := getOs_b hw ho.2 hws
   simp only [AV.refB] at hb
   have hargs := argsO_b (x := xv) (show AV.refBs first ≤ s.rf.length by omega) hb2 (rawO_b hw ho.1.2 hx) hb3 (show AV.refBs cap ≤ s.rf.length by omega)
   have wfOf : ∀ {out : Out} {rf : Refs}, C id (AV.bargs (first ++ vs) ++ xv :: AV.bargs (ws ++ cap)) s.rf = some (out, rf) → WF rf0 (unOwn { s with rf := rf } x) ∧ out.val.refB ≤ rf.length := fun {out rf} hc => by
    obtain ⟨hl, hrb, hv, hm⟩ := hC _ _ _ _ _ hc hw.rb hargs
    exact ⟨(hw.grown hl hrb hm).unOwn _, hv⟩
   split at h
   ·rename_i v rf hc
    simp only [Option.some.injEq] at h; subst h
    exact ⟨(wfOf hc).1, by rw [unOwn_rf]; exact (wfOf hc).2⟩
   ·rename_i v rf hc
    simp only [Option.some.injEq] at h; subst h
    exact ⟨(wfOf hc).1, by rw [unOwn_rf]; exact (wfOf hc).2⟩
   ·simp at h
  ·simp at h
theorem putO_wf {rf0 : Refs} {s : St} (hw : WF rf0 s) {dst : Option Nat} {v : AV} (hv : v.refB ≤ s.rf.length) : WF rf0 (putO s dst v) := by
 cases dst with
 | none => exact hw
 | some d => exact hw.putSl hv
def opsCok : List AOp → Bool
 | [] => true
 | o :: r => o.op.cok && opsCok r
def Ex.wf (s : St) : Ex → Prop
 | .pan v => v.refB ≤ s.rf.length
 | _ => True
theorem runOps_wf {C : CallFn} (hC : CallWF C) {rf0 : Refs} : ∀ {l : List AOp} {s : St} {e : Ex} {s' : St}, runOps C l s = some (e, s') → opsCok l = true → WF rf0 s → WF rf0 s' ∧ e.wf s'
 | [], s, e, s', h, _, hw => by
   simp only [runOps, Option.some.injEq, Prod.mk.injEq] at h
   obtain ⟨rfl, rfl⟩ := h
   exact ⟨hw, trivial⟩
 | o :: r, s, e, s', h, ho, hw => by
   simp only [opsCok, Bool.and_eq_true] at ho
   simp only [runOps] at h
   split at h
   ·simp at h
   ·exact runOps_wf hC h ho.2 (putO_wf hw (by simp [AV.refB, AV.refBs]))
   ·split at h
    ·rename_i v s1 hs
     have := stepOp_wf hC hs hw ho.1
     exact runOps_wf hC h ho.2 (putO_wf this.1 this.2)
    ·rename_i s1 hs
     exact runOps_wf hC h ho.2 (stepOp_wf hC hs hw ho.1 : WF rf0 s1)
    ·rename_i v s1 hs
     have := stepOp_wf hC hs hw ho.1
     split at h
     ·simp only [Option.some.injEq, Prod.mk.injEq] at h
      obtain ⟨rfl, rfl⟩ := h
      exact this
     ·simp at h
    ·simp at h
def AC.cok : AC → Bool
 | .ops l => opsCok l
 | .opsD l _ _ _ _ => opsCok l
 | .seq a b => a.cok && b.cok
 | .cond c t e => c.cok && t.cok && e.cok
 | .block _ b => b.cok
 | .loop _ b => b.cok
 | .trim _ b => b.cok
 | .scope _ b r => b.cok && r.cok
 | _ => true
theorem keep_get {sl : Slots} {ks : List Nat} {n : Nat} {v : AV} (h : (sl.keep ks).get n = some v) : sl.get n = some v := by
 induction ks with
 | nil => simp [Slots.keep, Slots.get] at h
 | cons k ks ih =>
   simp only [Slots.keep] at h
   split at h
   ·rename_i w hw
    simp only [Slots.get] at h
    split at h
    ·rename_i he
     subst he
     rw [← h]; exact hw
    ·exact ih h
   ·exact ih h
theorem get_mem {sl : Slots} {n : Nat} {v : AV} (h : sl.get n = some v) : v ∈ sl.map (·.2) := by
 induction sl with
 | nil => simp [Slots.get] at h
 | cons p sl ih =>
   obtain ⟨k, w⟩ := p
   simp only [Slots.get] at h
   split at h
   ·simp only [Option.some.injEq] at h; subst h; simp
   ·simp [ih h]
theorem refsB_get {rf : Refs} {r : Nat} {cs : List AV} (h : rf[r]? = some cs) : AV.refBs cs ≤ refsB rf := by
 induction rf generalizing r with
 | nil => simp at h
 | cons y rf ih =>
   cases r with
   | zero => simp only [List.getElem?_cons_zero, Option.some.injEq] at h; subst h; simp only [refsB]; omega
   | succ r => simp only [List.getElem?_cons_succ] at h; have := ih h; simp only [refsB]; omega
theorem dfB_get {l : List (AV × List AV)} {p : AV × List AV} (h : p ∈ l) : p.1.refB ≤ dfB l ∧ AV.refBs p.2 ≤ dfB l := by
 induction l with
 | nil => simp at h
 | cons q l ih =>
   obtain ⟨f, vs⟩ := q
   simp only [List.mem_cons] at h
   simp only [dfB]
   rcases h with rfl | h
   ·constructor <;> simp only <;> omega
   ·have := ih h; omega
theorem trimLoop_wf {rf0 : Refs} {s : St} (h0 : RB rf0.length rf0) (hw : WF rf0 s) (keep : List Nat) {n : Nat} (hn : rf0.length ≤ n) (hn' : n ≤ s.rf.length) : WF rf0 (s.trimLoop keep n) := by
 unfold St.trimLoop
 simp only
 split
 ·rename_i hb
  have hlen : (s.rf.take n).length = n := by simp; omega
  refine ⟨hw.nb, by rw [hlen]; exact hn, fun m v h => ?_, fun r cs h => ?_, fun m hm hm0 r cs hr h => ?_, fun p hp => ?_, hw.pb⟩
  ·rw [hlen]
   exact Nat.le_trans (refBs_le_iff.1 (Nat.le_refl _) v (get_mem h)) hb.1
  ·rw [hlen]
   rw [List.getElem?_take] at h
   split at h
   ·rename_i hr
    by_cases hr0 : r < rf0.length
    ·have := (hw.bd rf0.length (Nat.le_refl _) (fun r cs _ hc => h0.get hc)).get hr0 h
     omega
    ·have : ((s.rf.take n).drop s.nb)[r - s.nb]? = some cs := by
      rw [List.getElem?_drop, hw.nb, show rf0.length + (r - rf0.length) = r by omega, List.getElem?_take, if_pos hr]; exact h
     exact Nat.le_trans (refsB_get this) hb.2.1
   ·simp at h
  ·rw [List.getElem?_take] at h
   split at h
   ·exact (hw.bd m hm hm0).get hr h
   ·simp at h
  ·rw [hlen]
   have h1 : p.1.refB ≤ dfB s.df ∧ AV.refBs p.2 ≤ dfB s.df := dfB_get hp
   have := hb.2.2
   constructor <;> omega
 ·exact hw.withSl fun m v h => hw.sb m v (keep_get h)
theorem trimLoop_len {s : St} (keep : List Nat) {n : Nat} (hn : n ≤ s.rf.length) : n ≤ (s.trimLoop keep n).rf.length := by
 unfold St.trimLoop
 simp only
 split
 ·simp; omega
 ·exact hn
theorem runLoop_wf {body : St → Option (Ex × St)} {rf0 : Refs} (h0 : RB rf0.length rf0) {keep : List Nat} {n : Nat} (hn : rf0.length ≤ n)
  (hb : ∀ s e s', body s = some (e, s') → WF rf0 s → WF rf0 s' ∧ e.wf s' ∧ s.rf.length ≤ s'.rf.length) :
  ∀ (k : Nat) (s : St) (e : Ex) (s' : St), runLoop body keep n k s = some (e, s') → WF rf0 s → n ≤ s.rf.length → WF rf0 s' ∧ e.wf s' ∧ n ≤ s'.rf.length
 | 0, s, e, s', h, _, _ => by simp [runLoop] at h
 | k + 1, s, e, s', h, hw, hl => by
   simp only [runLoop] at h
   split at h
   ·rename_i s1 hs
    obtain ⟨hw1, _, hl1⟩ := hb _ _ _ hs hw
    exact runLoop_wf h0 hn hb k _ e s' h (trimLoop_wf h0 hw1 keep hn (by omega)) (trimLoop_len keep (by omega))
   ·obtain ⟨hw1, he, hl1⟩ := hb _ _ _ h hw
    exact ⟨hw1, he, by omega⟩
def Did.len : Did → Nat
 | .val _ s => s.rf.length
 | .none_ s => s.rf.length
 | .pan _ s => s.rf.length
theorem vl_len {s : St} {v : Option AV} {d : Did} (h : vl s v = some d) : s.rf.length ≤ d.len := by
 unfold vl at h
 simp only [Option.map_eq_some_iff] at h
 obtain ⟨v, _, rfl⟩ := h
 exact Nat.le_refl _
theorem stepOp_len {C : CallFn} (hC : CallWF C) {rf0 : Refs} {s : St} {o : AOpk} {d : Did} (h : stepOp C s o = some d) (hw : WF rf0 s) (ho : o.cok = true) :
  s.rf.length ≤ d.len := by
 cases o <;> simp only [AOpk.cok, Bool.and_eq_true, beq_iff_eq] at ho <;> simp only [stepOp] at h
 case call f args =>
  split at h
  ·rename_i id first cap vs hf hvs
   have hb := getO_b hw ho.1 hf
   have hb2 := getOs_b hw ho.2 hvs
   simp only [AV.refB] at hb
   have hargs : AV.refBs (AV.bargs (first ++ vs ++ cap)) ≤ s.rf.length := by
    rw [refBs_bargs]; exact refBs_append_le (refBs_append_le (by omega) hb2) (by omega)
   split at h
   ·rename_i v rf hc
    simp only [Option.some.injEq] at h; subst h
    exact (hC _ _ _ _ _ hc hw.rb hargs).1
   ·rename_i v rf hc
    simp only [Option.some.injEq] at h; subst h
    exact (hC _ _ _ _ _ hc hw.rb hargs).1
   ·simp at h
  ·simp at h
 case callO f pre x post =>
  split at h
  ·rename_i id first cap vs xv ws hf hvs hx hws
   have hb := getO_b hw ho.1.1.1 hf
   have hb2 := getOs_b hw ho.1.1.2 hvs
   have hb3 := getOs_b hw ho.2 hws
   simp only [AV.refB] at hb
   have hargs := argsO_b (x := xv) (show AV.refBs first ≤ s.rf.length by omega) hb2 (rawO_b hw ho.1.2 hx) hb3 (show AV.refBs cap ≤ s.rf.length by omega)
   split at h
   ·rename_i v rf hc
    simp only [Option.some.injEq] at h; subst h
    simp only [Did.len, unOwn_rf]
    exact (hC _ _ _ _ _ hc hw.rb hargs).1
   ·rename_i v rf hc
    simp only [Option.some.injEq] at h; subst h
    simp only [Did.len, unOwn_rf]
    exact (hC _ _ _ _ _ hc hw.rb hargs).1
   ·simp at h
  ·simp at h
 case store sz a v =>
  split at h
  ·rename_i p x hp hx
   split at h
   ·rename_i rf hrf
    simp only [Option.some.injEq] at h; subst h
    simp only [Did.len, unOwn_rf]
    exact Nat.le_of_eq (hw.storeAt (rawO_b hw ho.2 hx) hrf).2.symm
   ·simp at h
  ·simp at h
 case storeW sz a v ws =>
  split at h
  ·rename_i r off x hp hx
   split at h
   ·split at h
    ·rename_i rf hrf
     simp only [Option.some.injEq] at h; subst h
     simp only [Did.len, unOwn_rf]
     exact Nat.le_of_eq (hw.storeAt (rawO_b hw ho.1.2 hx) hrf).2.symm
    ·simp at h
   ·simp at h
  ·simp at h
 all_goals first
  | exact vl_len h
  | (repeat' first
    | exact vl_len h
    | (simp at h; done)
    | (simp only [Option.some.injEq] at h; subst h; simp [Did.len, unOwn_rf]; done)
    | split at h)
theorem putO_rf (s : St) (dst : Option Nat) (v : AV) : (putO s dst v).rf = s.rf := by cases dst <;> rfl
theorem runOps_len {C : CallFn} (hC : CallWF C) {rf0 : Refs} : ∀ {l : List AOp} {s : St} {e : Ex} {s' : St}, runOps C l s = some (e, s') → opsCok l = true → WF rf0 s → s.rf.length ≤ s'.rf.length
 | [], s, e, s', h, _, hw => by
   simp only [runOps, Option.some.injEq, Prod.mk.injEq] at h
   obtain ⟨rfl, rfl⟩ := h
   exact Nat.le_refl _
 | o :: r, s, e, s', h, ho, hw => by
   simp only [opsCok, Bool.and_eq_true] at ho
   simp only [runOps] at h
   split at h
   ·simp at h
   ·have := runOps_len hC h ho.2 (putO_wf hw (by simp [AV.refB, AV.refBs]))
    rwa [putO_rf] at this
   ·split at h
    ·rename_i v s1 hs
     have h1 := stepOp_wf hC hs hw ho.1
     have h2 := stepOp_len hC hs hw ho.1
     have := runOps_len hC h ho.2 (putO_wf h1.1 h1.2)
     rw [putO_rf] at this
     exact Nat.le_trans h2 this
    ·rename_i s1 hs
     have h2 := stepOp_len hC hs hw ho.1
     exact Nat.le_trans h2 (runOps_len hC h ho.2 (stepOp_wf hC hs hw ho.1 : WF rf0 s1))
    ·rename_i v s1 hs
     have h2 := stepOp_len hC hs hw ho.1
     split at h
     ·simp only [Option.some.injEq, Prod.mk.injEq] at h
      obtain ⟨rfl, rfl⟩ := h
      exact h2
     ·simp at h
    ·simp at h
theorem opsCok_mem : ∀ {l : List AOp}, opsCok l = true ↔ ∀ o, o ∈ l → o.op.cok = true
 | [] => by simp [opsCok]
 | x :: l => by simp [opsCok, opsCok_mem (l := l)]
theorem opsCok_pick {l : List AOp} (h : opsCok l = true) (ord : List Nat) : opsCok (pickL l ord) = true := by
 rw [opsCok_mem] at h ⊢
 intro o ho
 simp only [pickL, List.mem_filterMap] at ho
 obtain ⟨i, _, hi⟩ := ho
 exact h o (List.mem_of_getElem? hi)
theorem sameEx_eq : ∀ {a b : Ex}, sameEx a b = true → a = b := by
 intro a b h
 cases a <;> cases b <;> simp only [sameEx, Bool.false_eq_true] at h
 ·rfl
 ·rw [AV.same_eq _ _ h]
theorem sameSl_eq : ∀ {a b : Slots}, sameSl a b = true → a = b
 | [], b, h => by cases b <;> simp_all [sameSl]
 | (i, a) :: r, b, h => by
   cases b with
   | nil => simp [sameSl] at h
   | cons p s =>
     obtain ⟨j, b⟩ := p
     simp only [sameSl, Bool.and_eq_true] at h
     rw [Nat.eq_of_beq_eq_true h.1.1, AV.same_eq _ _ h.1.2, sameSl_eq h.2]
theorem sameDf_eq : ∀ {a b : List (AV × List AV)}, sameDf a b = true → a = b
 | [], b, h => by cases b <;> simp_all [sameDf]
 | (i, a) :: r, b, h => by
   cases b with
   | nil => simp [sameDf] at h
   | cons p s =>
     obtain ⟨j, b⟩ := p
     simp only [sameDf, Bool.and_eq_true] at h
     rw [AV.same_eq _ _ h.1.1, sameV_eq _ _ h.1.2, sameDf_eq h.2]
theorem samePn_eq {a b : Option (Option AV)} (h : samePn a b = true) : a = b := by
 rcases a with _ | _ | a <;> rcases b with _ | _ | b <;> simp only [samePn, Bool.false_eq_true] at h
 ·rfl
 ·rfl
 ·rw [AV.same_eq _ _ h]
theorem sameES_eq {x y : Ex × St} (h : sameES x y = true) : x = y := by
 obtain ⟨e, sl, rf, df, pn, nb⟩ := x
 obtain ⟨e', sl', rf', df', pn', nb'⟩ := y
 simp only [sameES, Bool.and_eq_true] at h
 obtain ⟨⟨⟨⟨⟨h1, h2⟩, h3⟩, h4⟩, h5⟩, h6⟩ := h
 rw [sameEx_eq h1, sameSl_eq h2, sameRf_eq _ _ h3, sameDf_eq h4, samePn_eq h5, Nat.eq_of_beq_eq_true h6]
theorem runD_all {C : CallFn} {l : List AOp} {nk pk : List Nat} {t : Nat} {s : St} {y : Ex × St} : ∀ {ords : List (List Nat)}, runD C l nk pk t s ords = some y → ∀ o, o ∈ ords → ∃ x, runOps C (pickL l o) s = some x ∧ normD nk pk t x = y
 | [], h, o, ho => by cases ho
 | [a], h, o, ho => by
   simp only [List.mem_singleton] at ho
   subst ho
   simp only [runD, Option.map_eq_some_iff] at h
   exact h
 | a :: b :: r, h, o, ho => by
   simp only [runD] at h
   split at h
   ·rename_i x z hx hz
    split at h
    ·rename_i hs
     simp only [Option.some.injEq] at h
     subst h
     have := sameES_eq hs
     rcases List.mem_cons.1 ho with rfl | ho
     ·exact ⟨x, hx, this⟩
     ·exact runD_all hz o ho
    ·cases h
   ·cases h
theorem runD_one {C : CallFn} {l : List AOp} {nk pk : List Nat} {t : Nat} {s : St} {y : Ex × St} {ords : List (List Nat)} (h : runD C l nk pk t s ords = some y) : ∃ o x, runOps C (pickL l o) s = some x ∧ normD nk pk t x = y := by
 cases ords with
 | nil => simp [runD] at h
 | cons o r =>
   obtain ⟨x, h1, h2⟩ := runD_all h o (by simp)
   exact ⟨o, x, h1, h2⟩
theorem stripAt_cases (s : St) (t : Nat) : stripAt s t = s ∨ ∃ r off cs, s.sl.get t = some (.ptr r off) ∧ s.rf[r]? = some cs ∧ isMp cs = false ∧ stripAt s t = { s with rf := s.rf.set r (AV.strips cs) } := by
 unfold stripAt
 split
 ·rename_i r off hp
  split
  ·rename_i cs hcs
   split
   ·exact .inl rfl
   ·rename_i hm
    exact .inr ⟨r, off, cs, hp, hcs, by simpa using hm, rfl⟩
  ·exact .inl rfl
 ·exact .inl rfl
theorem stripAt_wf {rf0 : Refs} {s : St} (hw : WF rf0 s) (t : Nat) : WF rf0 (stripAt s t) ∧ (stripAt s t).rf.length = s.rf.length := by
 rcases stripAt_cases s t with h | ⟨r, off, cs, _, hcs, _, h⟩
 ·rw [h]; exact ⟨hw, rfl⟩
 ·rw [h]
  have hget : ∀ q ds, (s.rf.set r (AV.strips cs))[q]? = some ds → ∃ ds', s.rf[q]? = some ds' ∧ AV.refBs ds = AV.refBs ds' := fun q ds hq => by
   rw [List.getElem?_set] at hq
   split at hq
   ·rename_i hrq
    subst hrq
    split at hq
    ·simp only [Option.some.injEq] at hq
     subst hq
     exact ⟨cs, hcs, refBs_strips cs⟩
    ·cases hq
   ·exact ⟨ds, hq, rfl⟩
  refine ⟨⟨hw.nb, by simpa using hw.le, by simpa using hw.sb, fun q ds hq => ?_, fun m hm hb q ds hlt hq => ?_, by simpa using hw.db, hw.pb⟩, by simp⟩
  ·obtain ⟨ds', h1, h2⟩ := hget q ds hq
   rw [h2]
   simpa using hw.rb q ds' h1
  ·obtain ⟨ds', h1, h2⟩ := hget q ds hq
   rw [h2]
   exact hw.bd m hm hb q ds' hlt h1
theorem normD_wf {rf0 : Refs} {nk pk : List Nat} {t : Nat} {e e' : Ex} {s s' : St} (h : normD nk pk t (e, s) = (e', s')) (hw : WF rf0 s) (he : e.wf s) : WF rf0 s' ∧ e'.wf s' ∧ s'.rf.length = s.rf.length := by
 have hk : ∀ ks, WF rf0 { s with sl := s.sl.keep ks } := fun ks => hw.withSl fun n v hv => hw.sb n v (keep_get hv)
 unfold normD at h
 split at h
 ·rename_i v s0 heq
  simp only [Prod.mk.injEq] at heq
  obtain ⟨rfl, rfl⟩ := heq
  simp only [Prod.mk.injEq] at h
  obtain ⟨rfl, rfl⟩ := h
  have := stripAt_wf (hk pk) t
  exact ⟨this.1, by simp only [Ex.wf] at he ⊢; rw [this.2]; exact he, this.2⟩
 ·rename_i e0 s0 hne heq
  simp only [Prod.mk.injEq] at heq
  obtain ⟨rfl, rfl⟩ := heq
  simp only [Prod.mk.injEq] at h
  obtain ⟨rfl, rfl⟩ := h
  exact ⟨hk nk, by cases e <;> first | trivial | exact he, rfl⟩
theorem run_wf {C : CallFn} (hC : CallWF C) (k : Nat) {rf0 : Refs} (h0 : RB rf0.length rf0) : ∀ {c : AC} {s : St} {e : Ex} {s' : St}, run C k c s = some (e, s') → c.cok = true → WF rf0 s →
  WF rf0 s' ∧ e.wf s' ∧ s.rf.length ≤ s'.rf.length := by
 intro c
 induction c with
 | skip =>
   intro s e s' h _ hw
   simp only [run, Option.some.injEq, Prod.mk.injEq] at h
   obtain ⟨rfl, rfl⟩ := h
   exact ⟨hw, trivial, Nat.le_refl _⟩
 | ops l =>
   intro s e s' h hc hw
   simp only [run] at h
   have := runOps_wf hC h hc hw
   exact ⟨this.1, this.2, runOps_len hC h hc hw⟩
 | opsD l ords nk pk t =>
   intro s e s' h hc hw
   simp only [run] at h
   obtain ⟨o, ⟨e1, s1⟩, h1, h2⟩ := runD_one h
   have hc' := opsCok_pick hc o
   have h3 := runOps_wf hC h1 hc' hw
   have h4 := normD_wf h2 h3.1 h3.2
   exact ⟨h4.1, h4.2.1, by rw [h4.2.2]; exact runOps_len hC h1 hc' hw⟩
 | seq a b iha ihb =>
   intro s e s' h hc hw
   simp only [AC.cok, Bool.and_eq_true] at hc
   simp only [run] at h
   split at h
   ·rename_i s1 hs
    obtain ⟨hw1, _, hl⟩ := iha hs hc.1 hw
    obtain ⟨hw2, he, hl2⟩ := ihb h hc.2 hw1
    exact ⟨hw2, he, Nat.le_trans hl hl2⟩
   ·exact iha h hc.1 hw
 | cond c t f iht ihf =>
   intro s e s' h hc hw
   simp only [AC.cok, Bool.and_eq_true] at hc
   simp only [run] at h
   split at h
   ·exact iht h hc.1.2 hw
   ·exact ihf h hc.2 hw
   ·simp at h
 | block id b ih =>
   intro s e s' h hc hw
   simp only [AC.cok] at hc
   simp only [run] at h
   split at h
   ·rename_i i s1 hs
    have := ih hs hc hw
    split at h <;> (simp only [Option.some.injEq, Prod.mk.injEq] at h; obtain ⟨rfl, rfl⟩ := h; exact ⟨this.1, trivial, this.2.2⟩)
   ·exact ih h hc hw
 | loop keep b ih =>
   intro s e s' h hc hw
   simp only [AC.cok] at hc
   simp only [run] at h
   have := runLoop_wf h0 hw.le (fun s e s' hb hw => ih hb hc hw) k _ e s' h (trimLoop_wf h0 hw keep hw.le (Nat.le_refl _)) (trimLoop_len keep (Nat.le_refl _))
   exact this
 | hole =>
   intro s e s' h _ hw
   simp [run] at h
 | label =>
   intro s e s' h _ hw
   simp only [run, Option.some.injEq, Prod.mk.injEq] at h
   obtain ⟨rfl, rfl⟩ := h
   exact ⟨hw, trivial, Nat.le_refl _⟩
 | goto l =>
   intro s e s' h _ hw
   simp only [run, Option.some.injEq, Prod.mk.injEq] at h
   obtain ⟨rfl, rfl⟩ := h
   exact ⟨hw, trivial, Nat.le_refl _⟩
 | scope l b r ihb ihr =>
   intro s e s' h hc hw
   simp only [AC.cok, Bool.and_eq_true] at hc
   simp only [run] at h
   split at h
   ·rename_i i s1 hs
    obtain ⟨hw1, _, hl⟩ := ihb hs hc.1 hw
    split at h
    ·split at h
     ·cases h
     ·obtain ⟨hw2, he, hl2⟩ := ihr h hc.2 hw1
      exact ⟨hw2, he, Nat.le_trans hl hl2⟩
    ·cases h
   ·exact ihb h hc.1 hw
 | exit id =>
   intro s e s' h _ hw
   simp only [run, Option.some.injEq, Prod.mk.injEq] at h
   obtain ⟨rfl, rfl⟩ := h
   exact ⟨hw, trivial, Nat.le_refl _⟩
 | ret =>
   intro s e s' h _ hw
   simp only [run, Option.some.injEq, Prod.mk.injEq] at h
   obtain ⟨rfl, rfl⟩ := h
   exact ⟨hw, trivial, Nat.le_refl _⟩
 | trim keep b ih =>
   intro s e s' h hc hw
   simp only [AC.cok] at hc
   simp only [run] at h
   split at h
   ·rename_i s1 hs
    obtain ⟨hw1, _, hl⟩ := ih hs hc hw
    simp only [Option.some.injEq, Prod.mk.injEq] at h
    obtain ⟨rfl, rfl⟩ := h
    exact ⟨hw1.withSl fun m v h => hw1.sb m v (keep_get h), trivial, hl⟩
   ·exact ih h hc hw
theorem enterS_get {args : List AV} {i n : Nat} {v : AV} (h : (enterS args i).get n = some v) : v ∈ args := by
 induction args generalizing i with
 | nil => simp [enterS, Slots.get] at h
 | cons x args ih =>
   simp only [enterS, Slots.get] at h
   split at h
   ·simp only [Option.some.injEq] at h; subst h; simp
   ·exact List.mem_cons_of_mem _ (ih h)
theorem enter_wf {rf : Refs} (hrb : RB rf.length rf) {args : List AV} (ha : AV.refBs args ≤ rf.length) (m : Option (Option AV)) (hm : ∀ v, m = some (some v) → v.refB ≤ rf.length) :
  WF rf { sl := enterS args 0, rf := rf, pn := m, nb := rf.length } :=
 ⟨rfl, Nat.le_refl _, fun n v h => refBs_le_iff.1 ha v (enterS_get h), hrb, fun m _ h => h, by simp, hm⟩
theorem WF.taken {rf0 : Refs} (h0 : RB rf0.length rf0) {s : St} (hw : WF rf0 s) : (s.rf.take rf0.length).length = rf0.length ∧ RB rf0.length (s.rf.take rf0.length) ∧
  ∀ m, m ≤ rf0.length → RBm m rf0 → RBm m (s.rf.take rf0.length) := by
 have hl : (s.rf.take rf0.length).length = rf0.length := by have := hw.le; simp; omega
 have hm : ∀ m, m ≤ rf0.length → RBm m rf0 → RBm m (s.rf.take rf0.length) := fun m hm h r cs hr hc => by
  rw [List.getElem?_take] at hc
  split at hc
  ·exact (hw.bd m hm h).get hr hc
  ·simp at hc
 refine ⟨hl, fun r cs hc => ?_, hm⟩
 have hr : r < rf0.length := by
  have := (List.getElem?_eq_some_iff.1 hc).1
  omega
 exact (hm rf0.length (Nat.le_refl _) fun r cs _ hc => h0.get hc).get hr hc
def TabOK (tab : FuncId → Option AFn) : Prop := ∀ f af, tab f = some af → af.body.cok = true
def CallDWF (CD : FuncId → List AV → Option AV → Refs → Option (Out × Option AV × Refs)) : Prop := ∀ f args m rf out m' rf', CD f args m rf = some (out, m', rf') →
 RB rf.length rf → AV.refBs args ≤ rf.length → (∀ v, m = some v → v.refB ≤ rf.length) →
 rf'.length = rf.length ∧ RB rf.length rf' ∧ out.val.refB ≤ rf.length ∧ (∀ v, m' = some v → v.refB ≤ rf.length) ∧ ∀ m, m ≤ rf.length → RBm m rf → RBm m rf'
theorem callD_wf {tab : FuncId → Option AFn} (ht : TabOK tab) {C : CallFn} (hC : CallWF C) (k : Nat) : CallDWF (callD tab C k) := by
 intro f args m rf out m' rf' h hrb ha hm
 unfold callD at h
 split at h
 ·simp at h
 ·rename_i af haf
  have hw0 := enter_wf hrb ha (some m) (fun v e => hm v (by simpa using e))
  split at h
  ·rename_i s hs
   have hw := run_wf hC k hrb hs (ht _ _ haf) hw0
   split at h
   ·simp only [Option.some.injEq, Prod.mk.injEq] at h
    obtain ⟨rfl, rfl, rfl⟩ := h
    obtain ⟨a, b, c⟩ := hw.1.taken hrb
    refine ⟨a, b, by simp [Out.val, AV.refB, AV.refBs], fun v e => ?_, c⟩
    cases hp : s.pn with
    | none => simp [hp] at e
    | some u => simp only [hp, Option.getD_some] at e; subst e; exact hw.1.pb v hp
   ·simp at h
  ·rename_i s hs
   have hw := run_wf hC k hrb hs (ht _ _ haf) hw0
   split at h
   ·simp only [Option.some.injEq, Prod.mk.injEq] at h
    obtain ⟨rfl, rfl, rfl⟩ := h
    obtain ⟨a, b, c⟩ := hw.1.taken hrb
    refine ⟨a, b, by simp [Out.val, AV.refB, AV.refBs], fun v e => ?_, c⟩
    cases hp : s.pn with
    | none => simp [hp] at e
    | some u => simp only [hp, Option.getD_some] at e; subst e; exact hw.1.pb v hp
   ·simp at h
  ·rename_i v s hs
   have hw := run_wf hC k hrb hs (ht _ _ haf) hw0
   split at h
   ·rename_i hc
    simp only [Option.some.injEq, Prod.mk.injEq] at h
    obtain ⟨rfl, rfl, rfl⟩ := h
    obtain ⟨a, b, c⟩ := hw.1.taken hrb
    refine ⟨a, b, by simpa [Out.val, refB_bare] using hc.2, fun v e => ?_, c⟩
    cases hp : s.pn with
    | none => simp [hp] at e
    | some u => simp only [hp, Option.getD_some] at e; subst e; exact hw.1.pb v hp
   ·simp at h
  ·simp at h
theorem WF.withRf {rf0 : Refs} {s : St} (hw : WF rf0 s) {rf : Refs} (hl : rf.length = s.rf.length) (hb : RB s.rf.length rf) (hm : ∀ m, m ≤ s.rf.length → RBm m s.rf → RBm m rf) : WF rf0 { s with rf := rf } :=
 ⟨hw.nb, by simp only [hl]; exact hw.le, by simp only [hl]; exact hw.sb, by simp only [hl]; exact hb, fun m hm' h0 => hm m (Nat.le_trans hm' hw.le) (hw.bd m hm' h0), by simp only [hl]; exact hw.db, hw.pb⟩
theorem resAs_b {rf0 : Refs} {s : St} (hw : WF rf0 s) : ∀ {l : List ResV} {vs : List AV}, resAs s l = some vs → AV.refBs vs ≤ s.rf.length
 | [], vs, h => by simp only [resAs, Option.some.injEq] at h; subst h; simp [AV.refBs]
 | r :: l, vs, h => by
   simp only [resAs] at h
   split at h
   ·rename_i v vs' h1 h2
    simp only [Option.some.injEq] at h
    subst h
    have hv : v.refB ≤ s.rf.length := by
     cases r with
     | tmp t => exact hw.sb _ _ h1
     | cell a agg =>
       simp only [resA] at h1
       split at h1
       ·exact loadAt_b hw h1
       ·simp at h1
    have := resAs_b hw h2
    simp only [AV.refBs]; omega
   ·simp at h
theorem resOf0_b {rf0 : Refs} {s : St} (hw : WF rf0 s) {l : List ResV} {v : AV} (h : resOf0 s l = some v) : v.refB ≤ s.rf.length := by
 unfold resOf0 at h
 split at h
 ·rename_i u hu
  have := resAs_b hw hu
  simp only [AV.refBs] at this
  simp only [Option.some.injEq] at h
  subst h
  rw [refB_bare]; omega
 ·rename_i vs _ hu
  have := resAs_b hw hu
  simp only [Option.some.injEq] at h
  subst h
  simp only [AV.refB, refBs_bares]; exact this
 ·simp at h
theorem resOf_b {rf0 : Refs} {s : St} (hw : WF rf0 s) {keep : Bool} {l : List ResV} {v : AV} (h : resOf s keep l = some v) : v.refB ≤ s.rf.length := by
 unfold resOf at h
 split at h
 ·exact hw.sb _ _ h
 ·exact resOf0_b hw h
theorem leave_wf {CD : FuncId → List AV → Option AV → Refs → Option (Out × Option AV × Refs)} (hCD : CallDWF CD) {af : AFn} {rf0 : Refs} (h0 : RB rf0.length rf0) :
  ∀ {ds : List (AV × List AV)} {m : Option AV} {s : St} {out : Out} {rf : Refs}, leave CD af rf0.length ds m s = some (out, rf) → WF rf0 s →
   (∀ p, p ∈ ds → p.1.refB ≤ s.rf.length ∧ AV.refBs p.2 ≤ s.rf.length) → (∀ v, m = some v → v.refB ≤ s.rf.length) →
   rf0.length ≤ rf.length ∧ RB rf.length rf ∧ out.val.refB ≤ rf.length ∧ ∀ m, m ≤ rf0.length → RBm m rf0 → RBm m rf
 | [], some v, s, out, rf, h, hw, _, _ => by
   simp only [leave] at h
   split at h
   ·simp only [Option.some.injEq, Prod.mk.injEq] at h
    obtain ⟨rfl, rfl⟩ := h
    obtain ⟨a, b, c⟩ := hw.taken h0
    exact ⟨Nat.le_of_eq a.symm, by rw [a]; exact b, by rw [a]; simpa [Out.val, refB_bare], c⟩
   ·simp at h
 | [], none, s, out, rf, h, hw, _, _ => by
   simp only [leave] at h
   split at h
   ·rename_i v hv
    split at h
    ·simp only [Option.some.injEq, Prod.mk.injEq] at h
     obtain ⟨rfl, rfl⟩ := h
     obtain ⟨a, b, c⟩ := hw.taken h0
     exact ⟨Nat.le_of_eq a.symm, by rw [a]; exact b, by rw [a]; simpa [Out.val], c⟩
    ·simp only [Option.some.injEq, Prod.mk.injEq] at h
     obtain ⟨rfl, rfl⟩ := h
     exact ⟨hw.le, hw.rb, resOf_b hw hv, hw.bd⟩
   ·simp at h
 | (f, vs) :: r, m, s, out, rf, h, hw, hd, hm => by
   have hf := hd (f, vs) (by simp)
   cases f <;> try (simp [leave] at h; done)
   rename_i fn first cap
   cases fn <;> try (simp [leave] at h; done)
   rename_i id
   simp only [leave] at h
   simp only [AV.refB] at hf
   have hargs : AV.refBs (AV.bargs (first ++ vs ++ cap)) ≤ s.rf.length := by
    rw [refBs_bargs]; exact refBs_append_le (refBs_append_le (by omega) hf.2) (by omega)
   split at h
   ·rename_i v m' rf1 hc
    obtain ⟨a, b, c, d, e⟩ := hCD _ _ _ _ _ _ _ hc hw.rb hargs hm
    exact leave_wf hCD h0 h (hw.withRf a b e) (fun p hp => by simp only [a]; exact hd p (List.mem_cons_of_mem _ hp)) (by simpa only [a] using d)
   ·rename_i v m' rf1 hc
    obtain ⟨a, b, c, d, e⟩ := hCD _ _ _ _ _ _ _ hc hw.rb hargs hm
    exact leave_wf hCD h0 h (hw.withRf a b e) (fun p hp => by simp only [a]; exact hd p (List.mem_cons_of_mem _ hp)) (fun u e => by simp only [Option.some.injEq] at e; subst e; simp only [a]; exact c)
   ·simp at h
theorem call_wf {tab tabD : FuncId → Option AFn} (ht : TabOK tab) (htD : TabOK tabD) {orc : FuncId → List AV → Option AV} (ho : ∀ f args v, orc f args = some v → v.refB = 0) : ∀ k, CallWF (call tab tabD orc k)
 | 0 => fun f args rf out rf' h => by simp [call] at h
 | k + 1 => fun f args rf out rf' h hrb ha => by
   have hC := call_wf ht htD ho k
   simp only [call] at h
   split at h
   ·rename_i v hv
    simp only [Option.some.injEq, Prod.mk.injEq] at h
    obtain ⟨rfl, rfl⟩ := h
    exact ⟨Nat.le_refl _, hrb, by simp [Out.val, ho _ _ _ hv], fun m _ h => h⟩
   ·split at h
    ·simp at h
    ·rename_i af haf
     have hw0 := enter_wf hrb ha none (fun v e => by simp at e)
     split at h
     ·rename_i s hs
      have hw := run_wf hC k hrb hs (ht _ _ haf) hw0
      exact leave_wf (callD_wf htD hC k) hrb h hw.1 hw.1.db (fun v e => by simp at e)
     ·rename_i s hs
      have hw := run_wf hC k hrb hs (ht _ _ haf) hw0
      exact leave_wf (callD_wf htD hC k) hrb h hw.1 hw.1.db (fun v e => by simp at e)
     ·rename_i v s hs
      have hw := run_wf hC k hrb hs (ht _ _ haf) hw0
      refine leave_wf (callD_wf htD hC k) hrb h hw.1 hw.1.db (fun u e => ?_)
      simp only [Option.some.injEq] at e; subst e
      exact hw.2.1
     ·simp at h
end Go.Ab
namespace Go.Ab
mutual
def chkV : AV → Value → Bool
 | .d (.int k n), .int k' n' => k == k' && n == n'
 | .d (.bool b), .bool b' => b == b'
 | .d (.str s), .string t => t.data.toList == s
 | .d .nilp, .pointer none => true
 | .d .nilI, .nilIface => true
 | .d .nilF, .nilFunc => true
 | .d .nilM, .map none => true
 | .nil, .slice none 0 0 => true
 | .agg cs, .agg vs => chkVs cs vs.toList
 | _, _ => false
def chkVs : List AV → List Value → Bool
 | [], [] => true
 | c :: cs, v :: vs => chkV c v && chkVs cs vs
 | _, _ => false
end
mutual
theorem chkV_rep {K : Ctx} : ∀ (x : AV) (v : Value), chkV x v = true → Rep K x v
 | .d (.int k n), v, h => by
   cases v <;> simp [chkV] at h
   simp [Rep, RepD, h]
 | .d (.bool b), v, h => by
   cases v <;> simp [chkV] at h
   simp [Rep, RepD, h]
 | .d (.str s), v, h => by
   cases v <;> simp [chkV] at h
   rename_i t
   obtain ⟨⟨l⟩⟩ := t
   simp only at h
   simp [Rep, RepD, h]
 | .d .nilp, v, h => by
   unfold chkV at h
   split at h <;> simp_all [Rep, RepD]
 | .d .nilI, v, h => by cases v <;> simp [chkV] at h; simp [Rep, RepD]
 | .d .nilF, v, h => by cases v <;> simp [chkV] at h; simp [Rep, RepD]
 | .d .nilM, v, h => by
   unfold chkV at h
   split at h <;> simp_all [Rep, RepD]
 | .d (.lst es), v, h => by cases v <;> simp [chkV] at h
 | .nil, v, h => by
   unfold chkV at h
   split at h <;> simp_all [Rep]
 | .own es, v, h => by cases v <;> simp [chkV] at h
 | .ptr r off, v, h => by cases v <;> simp [chkV] at h
 | .ept cs off, v, h => by cases v <;> simp [chkV] at h
 | .sref r off m, v, h => by cases v <;> simp [chkV] at h
 | .mp r, v, h => by cases v <;> simp [chkV] at h
 | .fn f a c, v, h => by cases v <;> simp [chkV] at h
 | .ifc t x, v, h => by cases v <;> simp [chkV] at h
 | .agg cs, v, h => by
   cases v <;> simp [chkV] at h
   rename_i vs
   simp only [Rep]
   exact ⟨vs, rfl, chkVs_rep cs _ h⟩
 | .tup cs, v, h => by cases v <;> simp [chkV] at h
theorem chkVs_rep {K : Ctx} : ∀ (l : List AV) (vs : List Value), chkVs l vs = true → RepL K l vs
 | [], vs, h => by
   cases vs <;> simp [chkVs] at h
   simp [RepL]
 | x :: l, vs, h => by
   cases vs <;> simp [chkVs] at h
   rename_i v vs
   simp only [RepL]
   exact ⟨v, vs, rfl, chkV_rep x v h.1, chkVs_rep l vs h.2⟩
end
def chkO : Opd → Operand → Bool
 | .t n, .tmp m => n == m
 | .c av, .const v => chkV av v && av.refB == 0
 | .f a, .func b => a == b
 | _, _ => false
def chkOs : List Opd → List Operand → Bool
 | [], [] => true
 | x :: l, y :: m => chkO x y && chkOs l m
 | _, _ => false
def chkOO : Option Opd → Option Operand → Bool
 | none, none => true
 | some x, some y => chkO x y
 | _, _ => false
def sizeT (P : Program) (t : TypeId) : Option Nat := (P.info? t).map (·.size)
def aggT (P : Program) (t : TypeId) : Option Bool :=
 match P.underlying t with
 | some (.struct _) | some (.array _ _) => some true
 | some _ => some false
 | none => none
def chkAgg (P : Program) (agg : Option Nat) (t : TypeId) : Bool :=
 match agg with
 | some n => aggT P t == some true && sizeT P t == some n
 | none => aggT P t == some false && sizeT P t == some 1
def zeroT (P : Program) (t : TypeId) : Option (List Value) := (P.info? t).bind fun i => i.zero.map fun z => z.cells.toList
def placesOf (P : Program) (t : TypeId) : Option (Nat → Option (Nat × Nat)) :=
 match P.underlying t with
 | some (.struct fs) => (fs.toList.mapM fun f => (P.info? f.type).map fun i => (f.offset, i.size)).map fun l => fun i => l[i]?
 | some (.array _ e) => (sizeT P e).map fun n => fun i => some (i * n, n)
 | _ => none
def chkParts (place : Nat → Option (Nat × Nat)) : List (Nat × Nat × Opd) → List (Nat × Operand) → Bool
 | [], [] => true
 | (off, size, x) :: l, (i, y) :: m => place i == some (off, size) && chkO x y && chkParts place l m
 | _, _ => false
def kindT (P : Program) (t : TypeId) : Option IntKind :=
 match P.underlying t with
 | some (.int k) => some k
 | _ => none
def isStrT (P : Program) (t : TypeId) : Bool := match P.underlying t with | some .string => true | _ => false
def elemT (P : Program) (t : TypeId) : Option TypeId := match P.underlying t with | some (.slice e) => some e | _ => none
def arrT (P : Program) (t : TypeId) : Option (Nat × TypeId) := match P.underlying t with | some (.array n e) => some (n, e) | _ => none
def plainFs (P : Program) (rec : TypeId → Option (List PK)) (off : Nat) : List Field → Option (List PK)
 | [] => some []
 | f :: fs => if f.name == "_" || f.offset != off then none else
   match rec f.type with
   | some ks => if sizeT P f.type == some ks.length then (plainFs P rec (off + ks.length) fs).map (ks ++ ·) else none
   | none => none
def plainK (P : Program) : Nat → TypeId → Option (List PK)
 | 0, _ => none
 | d + 1, t =>
   match P.underlying t with
   | some (.int k) => some [.int k]
   | some .bool => some [.bool]
   | some .string => some [.str]
   | some (.struct fs) => if P.stoodInHeld t then none else plainFs P (plainK P d) 0 fs.toList
   | some (.array n e) => match plainK P d e with
     | some ks => if sizeT P e == some ks.length then some ((List.replicate n ks).flatten) else none
     | none => none
   | _ => none
def nilT (P : Program) (t : TypeId) : Option Nat :=
 match P.underlying t with
 | some (.pointer _) => some 0
 | some (.interface _) => some 1
 | some (.func ..) => some 2
 | some (.slice _) => some 3
 | _ => none
def isNilC : Nat → Operand → Bool
 | 0, .const (.pointer none) => true
 | 1, .const .nilIface => true
 | 2, .const .nilFunc => true
 | 3, .const (.slice none 0 0) => true
 | _, _ => false
def shape0 (x : AV) : Bool := x.refB == 0
def keyP (P : Program) (t : TypeId) : Option PK :=
 match P.underlying t with
 | some (.int k) => some (.int k)
 | some .bool => some .bool
 | some .string => some .str
 | _ => none
def chkKey (P : Program) (pk : PK) (t : TypeId) : Bool :=
 match P.underlying t with
 | some (.map k _) => keyP P k == some pk
 | _ => false
def chkMap (P : Program) (pk : PK) (zero : AV) (t : TypeId) : Bool :=
 match P.underlying t with
 | some (.map k e) => keyP P k == some pk && (match (P.info? e).bind (·.zero) with | some z => chkV zero z && zero.refB == 0 | none => false)
 | _ => false
def chkOp (P : Program) (a : AOpk) (o : Oper) : Bool :=
 match a with
 | .mov x => (match o.op with
   | .move y => (chkO x y)
   | _ => false)
 | .take t => (match o.op with
   | .move (.tmp u) => (t == u)
   | _ => false)
 | .asg x => (match o.op with
   | .assign y => (chkO x y)
   | _ => false)
 | .pick c a b => (match o.op with
   | .pick c' a' b' => (chkO c c' && chkO a a' && chkO b b')
   | _ => false)
 | .alloc cells => (match o.op with
   | .alloc t => (match zeroT P t with
   | some z => chkVs cells z && AV.refBs cells == 0
   | none => false)
   | _ => false)
 | .box x => (match o.op with
   | .box _ y => (chkO x y)
   | _ => false)
 | .build zero parts => (match o.op with
   | .build t ps => (match zeroT P t, placesOf P t with
   | some z, some pl => chkVs zero z && AV.refBs zero == 0 && chkParts pl parts ps.toList
   | _, _ => false)
   | _ => false)
 | .mkls sz zero parts => (match o.op with
   | .buildSlice t len ps => (match elemT P t with
   | some e => match sizeT P e, zeroT P e with
     | some n, some z => n == sz && 0 < n && z.length == n && len * n ≤ 2 ^ 24 && chkVs zero ((List.replicate len z).flatten) && AV.refBs zero == 0 && chkParts (fun i => some (i * n, n)) parts ps.toList
     | _, _ => false
   | none => false)
   | _ => false)
 | .load agg a => (match o.op with
   | .load t a' => (chkAgg P agg t && chkO a a')
   | _ => false)
 | .loadB agg a _ => (match o.op with
   | .load t a' => (chkAgg P agg t && chkO a a')
   | _ => false)
 | .takeload a => (match o.op with
   | .load t a' => (chkAgg P none t && chkO a a')
   | _ => false)
 | .store sz a v => (match o.op with
   | .store t a' v' => (sizeT P t == some sz && chkO a a' && chkO v v')
   | _ => false)
 | .storeW sz a v _ => (match o.op with
   | .store t a' v' => (sizeT P t == some sz && chkO a a' && chkO v v')
   | _ => false)
 | .nilchk x => (match o.op with
   | .nilCheck y => (chkO x y)
   | _ => false)
 | .bin op x y => (match o.op with
   | .binOp op' _ x' y' _ => (op == op' && chkO x x' && chkO y y')
   | _ => false)
 | .beq ne x y => (match o.op with
   | .binOp op t x' y' _ => ((op == if ne then BinOp.neq else BinOp.eql) && chkO x x' && chkO y y' && (match P.underlying t with | some .bool => true | _ => false))
   | _ => false)
 | .eqc ne ks x y => (match o.op with
   | .binOp op t x' y' _ => ((op == if ne then BinOp.neq else BinOp.eql) && chkO x x' && chkO y y' && plainK P 50 t == some ks && aggT P t == some true && P.eqGuardType P.depth t == false)
   | _ => false)
 | .eqnil nk ne x => (match o.op with
   | .binOp op t x' y' _ => ((op == if ne then BinOp.neq else BinOp.eql) && nilT P t == some nk && ((chkO x x' && isNilC nk y') || (chkO x y' && isNilC nk x')))
   | _ => false)
 | .un op x => (match o.op with
   | .unOp op' _ y => (op == op' && chkO x y)
   | _ => false)
 | .toInt k x => (match o.op with
   | .convert s t y => (kindT P t == some k && (kindT P s).isSome && chkO x y)
   | _ => false)
 | .ident x => (match o.op with
   | .convert s t y => (isStrT P s && isStrT P t && chkO x y)
   | _ => false)
 | .same x => (match o.op with
   | .convert s t y => (s == t && ((elemT P t).bind (kindT P)) == some .u8 && chkO x y)
   | _ => false)
 | .strBytes x => (match o.op with
   | .convert s t y => (isStrT P s && ((elemT P t).bind (kindT P)) == some .u8 && chkO x y)
   | _ => false)
 | .bytesStr x => (match o.op with
   | .convert s t y => (isStrT P t && ((elemT P s).bind (kindT P)) == some .u8 && chkO x y)
   | _ => false)
 | .mkifc t x => (match o.op with
   | .makeInterface t' y => (t == t' && chkO x y && (match P.underlying t with | some (.interface _) | none => false | _ => true))
   | _ => false)
 | .mkfn f a b => (match o.op with
   | .makeFunc f' a' b' => (fnSame f f' && chkOs a a'.toList && chkOs b b'.toList && (match f with | .func _ => true | _ => false))
   | _ => false)
 | .sliceS x lo hi => (match o.op with
   | .slice t x' lo' hi' mx => (chkO x x' && chkOO lo lo' && chkOO hi hi' && mx.isNone && isStrT P t)
   | _ => false)
 | .slice sz x lo hi => (match o.op with
   | .slice t x' lo' hi' mx => (chkO x x' && chkOO lo lo' && chkOO hi hi' && mx.isNone && (match elemT P t with | some e => sizeT P e == some sz && 0 < sz | none => false))
   | _ => false)
 | .slArr n x lo hi => (match o.op with
   | .slice t x' lo' hi' mx => (chkO x x' && chkOO lo lo' && chkOO hi hi' && mx.isNone && (match arrT P t with | some (m, e) => m == n && sizeT P e == some 1 | none => false))
   | _ => false)
 | .fldA off x => (match o.op with
   | .fieldAddr t y f => (chkO x y && (match P.underlying t with | some (.struct fs) => (fs[f]?).any fun g => g.offset == off && (match sizeT P g.type with | some n => 0 < n | none => false) | _ => false))
   | _ => false)
 | .fld off agg x => (match o.op with
   | .field t y f => (chkO x y && (match P.underlying t with | some (.struct fs) => (fs[f]?).any fun g => g.offset == off && chkAgg P agg g.type | _ => false))
   | _ => false)
 | .idxA arr sz x i => (match o.op with
   | .indexAddr t x' i' => (chkO x x' && chkO i i' && (match arr with
     | some n => (match arrT P t with | some (m, e) => m == n && sizeT P e == some sz | none => false)
     | none => (match elemT P t with | some e => sizeT P e == some sz && 0 < sz | none => false)))
   | _ => false)
 | .idxS x i => (match o.op with
   | .index t x' i' => (chkO x x' && chkO i i' && isStrT P t)
   | _ => false)
 | .idxV n sz agg x i => (match o.op with
   | .index t x' i' => (chkO x x' && chkO i i' && (match arrT P t with | some (m, e) => m == n && sizeT P e == some sz && chkAgg P agg e | none => false))
   | _ => false)
 | .assertT t zero x => (match o.op with
   | .typeAssert y _ t' ok => (ok && t == t' && chkO x y && shape0 zero && (match P.underlying t with | some (.interface _) | none => false | _ => true) &&
     (match (P.info? t).bind (·.zero) with | some z => chkV zero z | none => false))
   | _ => false)
 | .extr x i => (match o.op with
   | .extract y j => (chkO x y && i == j)
   | _ => false)
 | .call f xs => (match o.op with
   | .call c => ((match c.callee with | .value g => chkO f g | _ => false) && chkOs xs c.args.toList)
   | _ => false)
 | .callZ f xs => (match o.op with
   | .call c => ((match c.callee with | .value g => chkO f g | _ => false) && chkOs xs c.args.toList)
   | _ => false)
 | .callQ f xs => (match o.op with
   | .call c => ((match c.callee with | .value g => chkO f g | _ => false) && chkOs xs c.args.toList)
   | _ => false)
 | .defer f xs => (match o.op with
   | .defer c => ((match c.callee with | .value g => chkO f g | _ => false) && chkOs xs c.args.toList)
   | _ => false)
 | .lenS x => (match o.op with
   | .call c => ((match c.callee, c.args.toList, c.argTypes.toList with
     | .builtin .len, [y], [t] => chkO x y && isStrT P t
     | _, _, _ => false))
   | _ => false)
 | .len x => (match o.op with
   | .call c => ((match c.callee, c.args.toList, c.argTypes.toList with
     | .builtin .len, [y], [t] => chkO x y && (elemT P t).isSome
     | _, _, _ => false))
   | _ => false)
 | .lenArr n => (match o.op with
   | .call c => ((match c.callee, c.args.toList, c.argTypes.toList with
     | .builtin .len, [_], [t] => (match arrT P t with | some (m, _) => m == n | none => false)
     | _, _, _ => false))
   | _ => false)
 | .append sz x y => (match o.op with
   | .call c => ((match c.callee, c.args.toList, c.argTypes.toList with
     | .builtin .append, [x', y'], [t, u] => chkO x x' && chkO y y' && (match elemT P t with
       | some e => (match P.info? e with
         | some i => i.size == sz && 0 < sz && i.bytes ≤ 4096 && (match i.zero with | some z => z.cells.size == sz | none => false)
         | none => false)
       | none => false) && (isStrT P u || (elemT P u).isSome)
     | _, _, _ => false))
   | _ => false)
 | .copy x y => (match o.op with
   | .call c => ((match c.callee, c.args.toList, c.argTypes.toList with
     | .builtin .copy, [x', y'], [t, _] => chkO x x' && chkO y y' && (match elemT P t with | some e => sizeT P e == some 1 | none => false)
     | _, _, _ => false))
   | _ => false)
 | .min x y => (match o.op with
   | .call c => ((match c.callee, c.args.toList with
     | .builtin .min, [x', y'] => chkO x x' && chkO y y'
     | _, _ => false))
   | _ => false)
 | .max x y => (match o.op with
   | .call c => ((match c.callee, c.args.toList with
     | .builtin .max, [x', y'] => chkO x x' && chkO y y'
     | _, _ => false))
   | _ => false)
 | .recover => (match o.op with
   | .call c => ((match c.callee with | .builtin .recover => true | _ => false))
   | _ => false)
 | .panic x => (match o.op with
   | .panic y => (chkO x y)
   | _ => false)
 | .stuck => (match o.op with
   | .defer _ => false
   | _ => true)
 | .makeMap => (match o.op with
   | .makeMap _ none => true
   | _ => false)
 | .lookup pk ok zero m k => (match o.op with
   | .lookup t m' k' ok' => ok == ok' && chkO m m' && chkO k k' && chkMap P pk zero t
   | _ => false)
 | .mapSet pk m k v => (match o.op with
   | .mapUpdate t m' k' v' => chkO m m' && chkO k k' && chkO v v' && chkKey P pk t
   | .insert t m' k' v' => chkO m m' && chkO k k' && chkO v v' && chkKey P pk t
   | _ => false)
 | .mapEntry pk zero m k => (match o.op with
   | .mapEntry t m' k' => chkO m m' && chkO k k' && chkMap P pk zero t
   | _ => false)
 | .entrySet m st v => (match o.op with
   | .entryStore _ m' st' v' => chkO m m' && chkO st st' && chkO v v'
   | _ => false)
 | .mkS cell n => (match o.op with
   | .makeSlice t n' c' => chkO n n' && chkO n c' && (match elemT P t with
     | some e => (match P.info? e with
       | some i => i.size == 1 && 0 < i.bytes && i.bytes ≤ 4096 && (match i.zero with | some z => chkVs [cell] z.cells.toList | none => false)
       | none => false)
     | none => false)
   | _ => false)
 | .callO f pre x post => (match o.op with
   | .call c => ((match c.callee with | .value g => chkO f g | _ => false) && chkOs (pre ++ x :: post) c.args.toList)
   | _ => false)
 | _ => false
end Go.Ab
namespace Go.Ab
variable [Glb]
inductive Loc where
 | sl (t : Nat)
 | rf (r i : Nat)
 deriving DecidableEq
def holds (K : Ctx) (s : St) (tm : Array Value) (w : World) : Loc → AV → Value → Prop
 | .sl t, av, v => s.sl.get t = some av ∧ tm.getD t undef = v
 | .rf r i, av, v => ∃ cs β, s.rf[r]? = some cs ∧ cs[i]? = some av ∧ K.ρ r = some β ∧ w.cell? ⟨β, i, none⟩ = some v
def blk : Value → Option Nat
 | .slice (some a) (_ + 1) _ => some a.block
 | _ => none
def OwnV (K : Ctx) (w : World) (es : List (List D)) (v : Value) : Prop :=
 match es with
 | [] => ∃ a, v = .slice a 0 0
 | e :: r => ∃ b o n c el fz, v = .slice (some ⟨b, o, none⟩) (r.length + 1) n ∧ r.length + 1 ≤ n ∧ K.F b = some (o + (r.length + 1) * e.length) ∧
   w.heap[b]? = some (.cells c el fz) ∧ o + n * e.length ≤ c.size ∧ RepRows K.G b e.length o (e :: r)
def flatE : List MapEntry → List Value
 | [] => []
 | e :: r => e.key :: e.val :: flatE r
inductive ObjR (K : Ctx) (cs : List AV) : Obj → Prop
 | cells (vs : Array Value) (el : TypeId) (h0 : isMp cs = false) (h : RepL K cs vs.toList) : ObjR K cs (.cells vs el)
 | map (kvs : List AV) (es : Array MapEntry) (h0 : cs = .tup [] :: kvs) (hb : ∀ (i : Nat) e, es[i]? = some e → e.born = i) (h : RepL K kvs (flatE es.toList)) : ObjR K cs (.map es es.size)
theorem ObjR.mono {K K' : Ctx} {n : Nat} (hG : Le K.G K'.G) (hρ : ∀ r, r < n → K.ρ r = K'.ρ r) {cs : List AV} {o : Obj} (hb : AV.refBs cs ≤ n) (h : ObjR K cs o) : ObjR K' cs o := by
 cases h with
 | cells vs el h0 h => exact .cells vs el h0 (RepL.mono hG hρ _ _ hb h)
 | map kvs es h0 hbn h =>
   subst h0
   simp only [AV.refBs] at hb
   exact .map kvs es rfl hbn (RepL.mono hG hρ _ _ (by omega) h)
structure Env where
 w0 : World
 K0 : Ctx
 rf0 : Refs
 T : Nat → Prop
structure Sim (E : Env) (K : Ctx) (s : St) (tm : Array Value) (w : World) : Prop where
 size : E.w0.heap.size ≤ w.heap.size
 os : w.os = E.w0.os
 tape : w.tape = E.w0.tape
 output : w.output = E.w0.output
 keep : ∀ b, b < E.w0.heap.size → ¬ E.T b → w.heap[b]? = E.w0.heap[b]? ∧ K.F b = E.K0.F b ∧ ∀ o, K.G b o = E.K0.G b o
 gle : LeG E.K0.G K.G
 rho : ∀ r, r < E.rf0.length → K.ρ r = E.K0.ρ r
 cells : ∀ b o v, K.G b o = some v → w.cell? ⟨b, o, none⟩ = some v
 refs : ∀ (r : Nat) cs, s.rf[r]? = some cs → ∃ b o, K.ρ r = some b ∧ w.heap[b]? = some o ∧ ObjR K cs o
 refG : ∀ r b, r < s.rf.length → K.ρ r = some b → K.F b = none ∧ ∀ o, K.G b o = none
 inj : ∀ r r' b, r < s.rf.length → r' < s.rf.length → K.ρ r = some b → K.ρ r' = some b → r = r'
 rows : ∀ b f, K.F b = some f → (∃ c el fz, w.heap[b]? = some (.cells c el fz) ∧ (fz.1 = fz.2 ∨ c.size ≤ fz.1)) ∧ ∀ o, f ≤ o → K.G b o = none
 slots : ∀ t av, s.sl.get t = some av → t < tm.size ∧ Rep K av (tm.getD t undef)
 own : ∀ ℓ es v, holds K s tm w ℓ (.own es) v → OwnV K w es v
 uniq : ∀ ℓ ℓ' es es' v v' b, holds K s tm w ℓ (.own es) v → holds K s tm w ℓ' (.own es') v' → blk v = some b → blk v' = some b → ℓ = ℓ'
 tO : ∀ ℓ es v b, holds K s tm w ℓ (.own es) v → blk v = some b → b < E.w0.heap.size → E.T b
 tR : ∀ r b, r < s.rf.length → K.ρ r = some b → b < E.w0.heap.size → E.T b
theorem Sim.refs_cells {E : Env} {K : Ctx} {s : St} {tm : Array Value} {w : World} (h : Sim E K s tm w) {r : Nat} {cs : List AV} (hr : s.rf[r]? = some cs) (hm : isMp cs = false) :
  ∃ b vs el, K.ρ r = some b ∧ w.heap[b]? = some (.cells vs el) ∧ RepL K cs vs.toList := by
 obtain ⟨b, o, h1, h2, h3⟩ := h.refs r cs hr
 cases h3 with
 | cells vs el _ h => exact ⟨b, vs, el, h1, h2, h⟩
 | map kvs es h0 _ _ => subst h0; cases hm
theorem Sim.refs_map {E : Env} {K : Ctx} {s : St} {tm : Array Value} {w : World} (h : Sim E K s tm w) {r : Nat} {kvs : List AV} (hr : s.rf[r]? = some (.tup [] :: kvs)) :
  ∃ b es, K.ρ r = some b ∧ w.heap[b]? = some (.map es es.size) ∧ (∀ (i : Nat) e, es[i]? = some e → e.born = i) ∧ RepL K kvs (flatE es.toList) := by
 obtain ⟨b, o, h1, h2, h3⟩ := h.refs r _ hr
 cases h3 with
 | cells vs el h0 h => cases h0
 | map kvs' es h0 hb h => cases h0; exact ⟨b, es, h1, h2, hb, h⟩
def Fresh (E : Env) (K : Ctx) (s : St) (tm : Array Value) (w : World) (d : Option Nat) (av : AV) (v : Value) : Prop :=
 ∀ es, av = .own es → OwnV K w es v ∧ ∀ b, blk v = some b → (b < E.w0.heap.size → E.T b) ∧ ∀ ℓ es' v', (∀ t, d = some t → ℓ ≠ .sl t) → holds K s tm w ℓ (.own es') v' → blk v' ≠ some b
theorem getD_set {tm : Array Value} {d t : Nat} {v : Value} (hd : d < tm.size) : (tm.setIfInBounds d v).getD t undef = if d = t then v else tm.getD t undef := by
 rw [Array.getD_eq_getD_getElem?, Array.getD_eq_getD_getElem?, Array.getElem?_setIfInBounds]
 by_cases h : d = t
 ·subst h; simp [hd]
 ·simp [h]
theorem holds_put {K : Ctx} {s : St} {tm : Array Value} {w : World} {d : Nat} {av : AV} {v : Value} (hd : d < tm.size) {ℓ : Loc} {bv : AV} {u : Value}
  (h : holds K { s with sl := s.sl.put d av } (tm.setIfInBounds d v) w ℓ bv u) : (ℓ = .sl d ∧ bv = av ∧ u = v) ∨ (ℓ ≠ .sl d ∧ holds K s tm w ℓ bv u) := by
 cases ℓ with
 | sl t =>
   simp only [holds, Slots.put, Slots.get] at h
   rw [getD_set hd] at h
   by_cases ht : d = t
   ·subst ht
    simp only [if_true, Option.some.injEq] at h
    exact .inl ⟨rfl, h.1.symm, h.2.symm⟩
   ·simp only [if_neg ht] at h
    exact .inr ⟨by simp; omega, h⟩
 | rf r i => exact .inr ⟨by simp, h⟩
theorem Sim.put {E : Env} {K : Ctx} {s : St} {tm : Array Value} {w : World} (h : Sim E K s tm w) {d : Nat} (hd : d < tm.size) {av : AV} {v : Value} (hv : Rep K av v)
  (hf : Fresh E K s tm w (some d) av v) : Sim E K { s with sl := s.sl.put d av } (tm.setIfInBounds d v) w where
 size := h.size
 os := h.os
 tape := h.tape
 output := h.output
 keep := h.keep
 gle := h.gle
 rho := h.rho
 cells := h.cells
 refs := h.refs
 refG := h.refG
 inj := h.inj
 rows := h.rows
 slots := fun t bv hb => by
  simp only [Slots.put, Slots.get] at hb
  rw [getD_set hd]
  by_cases ht : d = t
  ·subst ht
   simp only [if_true, Option.some.injEq] at hb ⊢
   subst hb
   exact ⟨by simpa using hd, hv⟩
  ·simp only [if_neg ht] at hb ⊢
   have := h.slots t bv hb
   exact ⟨by simpa using this.1, this.2⟩
 own := fun ℓ es u hh => by
  rcases holds_put hd hh with ⟨rfl, rfl, rfl⟩ | ⟨_, h'⟩
  ·exact (hf es rfl).1
  ·exact h.own ℓ es u h'
 uniq := fun ℓ ℓ' es es' u u' b h1 h2 b1 b2 => by
  rcases holds_put hd h1 with ⟨rfl, e1, rfl⟩ | ⟨n1, h1'⟩ <;> rcases holds_put hd h2 with ⟨rfl, e2, rfl⟩ | ⟨n2, h2'⟩
  ·rfl
  ·exact absurd b2 (((hf es e1.symm).2 b b1).2 ℓ' es' u' (fun t ht => by cases ht; exact n2) h2')
  ·exact absurd b1 (((hf es' e2.symm).2 b b2).2 ℓ es u (fun t ht => by cases ht; exact n1) h1')
  ·exact h.uniq ℓ ℓ' es es' u u' b h1' h2' b1 b2
 tO := fun ℓ es u b hh hb hlt => by
  rcases holds_put hd hh with ⟨rfl, e1, rfl⟩ | ⟨_, h'⟩
  ·exact ((hf es e1.symm).2 b hb).1 hlt
  ·exact h.tO ℓ es u b h' hb hlt
 tR := h.tR
theorem fresh_of_not_own {E : Env} {K : Ctx} {s : St} {tm : Array Value} {w : World} {d : Option Nat} {av : AV} {v : Value} (h : ∀ es, av ≠ .own es) : Fresh E K s tm w d av v :=
 fun es e => absurd e (h es)
theorem strip_not_own (x : AV) : ∀ es, x.strip ≠ .own es := fun es h => by cases x <;> simp [AV.strip] at h
theorem holds_unOwn {K : Ctx} {s : St} {tm : Array Value} {w : World} {x : Opd} {ℓ : Loc} {es : List (List D)} {v : Value} (h : holds K (unOwn s x) tm w ℓ (.own es) v) :
  holds K s tm w ℓ (.own es) v ∧ ∀ t, x = .t t → ℓ ≠ .sl t := by
 unfold unOwn at h
 split at h
 ·rename_i n
  split at h
  ·rename_i es' he
   cases ℓ with
   | sl t =>
     simp only [holds, Slots.put, Slots.get] at h
     by_cases ht : n = t
     ·simp [ht] at h
     ·simp only [if_neg ht] at h
      exact ⟨h, fun t' e => by cases e; simp; omega⟩
   | rf r i => exact ⟨h, by simp⟩
  ·rename_i hne
   refine ⟨h, fun t e hℓ => ?_⟩
   cases e
   subst hℓ
   exact hne es h.1
 ·rename_i hne
  exact ⟨h, fun t e => absurd e (hne t)⟩
theorem Sim.unOwn {E : Env} {K : Ctx} {s : St} {tm : Array Value} {w : World} (h : Sim E K s tm w) (x : Opd) : Sim E K (unOwn s x) tm w where
 size := h.size
 os := h.os
 tape := h.tape
 output := h.output
 keep := h.keep
 gle := h.gle
 rho := h.rho
 cells := h.cells
 refs := by rw [unOwn_rf]; exact h.refs
 refG := by rw [unOwn_rf]; exact h.refG
 inj := by rw [unOwn_rf]; exact h.inj
 rows := h.rows
 slots := fun t av ha => by
  unfold Ab.unOwn at ha
  split at ha
  ·split at ha
   ·rename_i n es' he
    simp only [Slots.put, Slots.get] at ha
    split at ha
    ·rename_i ht
     subst ht
     simp only [Option.some.injEq] at ha
     subst ha
     have := h.slots _ _ he
     exact ⟨this.1, by simpa [Rep] using this.2⟩
    ·exact h.slots t av ha
   ·exact h.slots t av ha
  ·exact h.slots t av ha
 own := fun ℓ es v hh => h.own ℓ es v (holds_unOwn hh).1
 uniq := fun ℓ ℓ' es es' v v' b h1 h2 => h.uniq ℓ ℓ' es es' v v' b (holds_unOwn h1).1 (holds_unOwn h2).1
 tO := fun ℓ es v b hh => h.tO ℓ es v b (holds_unOwn hh).1
 tR := by rw [unOwn_rf]; exact h.tR
theorem Sim.fresh_raw {E : Env} {K : Ctx} {s : St} {tm : Array Value} {w : World} (h : Sim E K s tm w) {t : Nat} {av : AV} (ha : s.sl.get t = some av) (d : Option Nat) :
  Fresh E K (Ab.unOwn s (.t t)) tm w d av (tm.getD t undef) := fun es e => by
 subst e
 have hh : holds K s tm w (.sl t) (.own es) (tm.getD t undef) := ⟨ha, rfl⟩
 refine ⟨h.own _ _ _ hh, fun b hb => ⟨h.tO _ _ _ _ hh hb, fun ℓ es' v' _ h2 hb2 => ?_⟩⟩
 have := holds_unOwn h2
 exact this.2 t rfl (h.uniq ℓ (.sl t) es' es v' _ b this.1 hh hb2 hb)
theorem Sim.drew {E : Env} {K : Ctx} {s : St} {tm : Array Value} {w : World} (h : Sim E K s tm w) : Sim E K s tm w.drew :=
 ⟨h.size, h.os, h.tape, h.output, h.keep, h.gle, h.rho, h.cells, h.refs, h.refG, h.inj, h.rows, h.slots, h.own, h.uniq, h.tO, h.tR⟩
theorem Sim.forget {E : Env} {K : Ctx} {s : St} {tm : Array Value} {w : World} (h : Sim E K s tm w) {sl : Slots} (hk : ∀ t av, sl.get t = some av → s.sl.get t = some av) :
  Sim E K { s with sl := sl } tm w := by
 have hh : ∀ ℓ av v, holds K { s with sl := sl } tm w ℓ av v → holds K s tm w ℓ av v := fun ℓ av v h' => by
  cases ℓ with
  | sl t => exact ⟨hk t av h'.1, h'.2⟩
  | rf r i => exact h'
 exact ⟨h.size, h.os, h.tape, h.output, h.keep, h.gle, h.rho, h.cells, h.refs, h.refG, h.inj, h.rows, fun t av ha => h.slots t av (hk t av ha),
  fun ℓ es v h1 => h.own ℓ es v (hh _ _ _ h1), fun ℓ ℓ' es es' v v' b h1 h2 => h.uniq ℓ ℓ' es es' v v' b (hh _ _ _ h1) (hh _ _ _ h2), fun ℓ es v b h1 => h.tO ℓ es v b (hh _ _ _ h1), h.tR⟩
theorem OwnV.mono {K K' : Ctx} {w w' : World} {es : List (List D)} {v : Value} (h : OwnV K w es v) (hG : Le K.G K'.G)
  (hF : ∀ b f, K.F b = some f → blk v = some b → K'.F b = some f) (hw : ∀ b, blk v = some b → ∀ c el fz, w.heap[b]? = some (.cells c el fz) → ∃ c', w'.heap[b]? = some (.cells c' el fz) ∧ c'.size = c.size) : OwnV K' w' es v := by
 cases es with
 | nil => exact h
 | cons e r =>
   obtain ⟨b, o, n, c, el, fz, hv, hn, hf, hh, hs, hr⟩ := h
   have hb : blk v = some b := by rw [hv]; rfl
   obtain ⟨c', h1, h2⟩ := hw b hb c el fz hh
   exact ⟨b, o, n, c', el, fz, hv, hn, hF b _ hf hb, h1, by omega, RepRows.mono hG _ _ _ _ hr⟩
def updN {α : Type} (f : Nat → α) (n : Nat) (v : α) : Nat → α := fun m => if m = n then v else f m
theorem heap_lt {w : World} {b : Nat} {o : Obj} (h : w.heap[b]? = some o) : b < w.heap.size := (Array.getElem?_eq_some_iff.1 h).1
theorem alloc_old {w : World} {o : Obj} {b : Nat} (h : b < w.heap.size) : (w.alloc o).heap[b]? = w.heap[b]? := by
 simp only [World.alloc, Array.getElem?_push]
 rw [if_neg (by omega)]
theorem alloc_new (w : World) (o : Obj) : (w.alloc o).heap[w.heap.size]? = some o := by
 simp only [World.alloc, Array.getElem?_push_size]
theorem cell_alloc {w : World} {o : Obj} {a : Addr} (h : a.block < w.heap.size) : (w.alloc o).cell? a = w.cell? a := World.cell?_of_block (alloc_old h)
theorem cell_lt {w : World} {a : Addr} {v : Value} (h : w.cell? a = some v) : a.block < w.heap.size := by
 unfold World.cell? at h
 split at h
 ·rename_i hb; exact heap_lt hb
 ·simp at h
theorem cell_of {w : World} {b o : Nat} {c : Array Value} {el : TypeId} {fz : Nat × Nat} (h : w.heap[b]? = some (.cells c el fz)) : w.cell? ⟨b, o, none⟩ = c[o]? := by
 simp [World.cell?, h]
theorem Sim.newRef {E : Env} {K : Ctx} {s : St} {tm : Array Value} {w : World} (h : Sim E K s tm w) (hw : WF E.rf0 s) {cs : List AV} {ob : Obj}
  (hr : ObjR K cs ob) (hb : AV.refBs cs ≤ s.rf.length) (hno : ∀ x, x ∈ cs → ∀ es, x ≠ .own es) {K' : Ctx} (hG : K'.G = K.G) (hF : K'.F = K.F)
  (hρ : ∀ r, r < s.rf.length → K.ρ r = K'.ρ r) (hn : K'.ρ s.rf.length = some w.heap.size) :
  Sim E K' { s with rf := s.rf ++ [cs] } tm (w.alloc ob) := by
 have hle : Le K.G K'.G := by rw [hG]; exact Le.refl _
 have hold : ∀ (b : Nat) (o : Obj), w.heap[b]? = some o → (w.alloc ob).heap[b]? = some o := fun b o hb => by
  rw [alloc_old (heap_lt hb)]; exact hb
 have hbl : ∀ r b, r < s.rf.length → K.ρ r = some b → b < w.heap.size := fun r b hr hb => by
  obtain ⟨cs, hcs⟩ : ∃ cs, s.rf[r]? = some cs := ⟨_, List.getElem?_eq_getElem hr⟩
  obtain ⟨b', o', h1, h2, _⟩ := h.refs r cs hcs
  rw [h1] at hb
  cases hb
  exact heap_lt h2
 have hgb : ∀ b o v, K.G b o = some v → b < w.heap.size := fun b o v hg => cell_lt (h.cells b o v hg)
 have hfb : ∀ b f, K.F b = some f → b < w.heap.size := fun b f hf => by
  obtain ⟨⟨c, el, fz, hc, _⟩, _⟩ := h.rows b f hf
  exact heap_lt hc
 have hh : ∀ ℓ es v, holds K' { s with rf := s.rf ++ [cs] } tm (w.alloc ob) ℓ (.own es) v → holds K s tm w ℓ (.own es) v := fun ℓ es v h' => by
  cases ℓ with
  | sl t => exact h'
  | rf r i =>
    obtain ⟨cs', β, h1, h2, h3, h4⟩ := h'
    by_cases hr' : r < s.rf.length
    ·simp only at h1 h3
     rw [List.getElem?_append_left hr'] at h1
     rw [← hρ r hr'] at h3
     have := hbl r β hr' h3
     rw [cell_alloc this] at h4
     exact ⟨cs', β, h1, h2, h3, h4⟩
    ·simp only at h1
     rw [List.getElem?_append_right (by omega)] at h1
     have hm := List.mem_of_getElem? h1
     simp only [List.mem_singleton] at hm
     subst hm
     exact absurd rfl (hno _ (List.mem_of_getElem? h2) es)
 refine ⟨by simp; have := h.size; omega, h.os, h.tape, h.output, fun b hb hT => ?_, by rw [hG]; exact h.gle, fun r hr => ?_, fun b o v hg => ?_, fun r cs' hcs => ?_, fun r b hr hb => ?_, fun r r' b hr hr' h1 h2 => ?_, fun b f hf => ?_, fun t av ha => ?_,
  fun ℓ es v h1 => ?_, fun ℓ ℓ' es es' v v' b h1 h2 => h.uniq ℓ ℓ' es es' v v' b (hh _ _ _ h1) (hh _ _ _ h2), fun ℓ es v b h1 => h.tO ℓ es v b (hh _ _ _ h1), fun r b hr hb hlt => ?_⟩
 ·have := h.size
  rw [alloc_old (by omega), hG, hF]
  exact h.keep b hb hT
 ·have := hw.le
  rw [← hρ r (by omega)]
  exact h.rho r hr
 ·rw [hG] at hg
  rw [cell_alloc (hgb b o v hg)]
  exact h.cells b o v hg
 ·by_cases hr' : r < s.rf.length
  ·rw [List.getElem?_append_left hr'] at hcs
   obtain ⟨b, o', h1, h2, h3⟩ := h.refs r cs' hcs
   exact ⟨b, o', by rw [← hρ r hr']; exact h1, hold _ _ h2, h3.mono hle hρ (hw.rb.get hcs)⟩
  ·rw [List.getElem?_append_right (by omega)] at hcs
   have hz : r - s.rf.length = 0 := by
    have := (List.getElem?_eq_some_iff.1 hcs).1
    simp at this; omega
   rw [hz] at hcs
   simp only [List.getElem?_cons_zero, Option.some.injEq] at hcs
   subst hcs
   have : r = s.rf.length := by omega
   subst this
   exact ⟨w.heap.size, ob, hn, alloc_new _ _, hr.mono hle hρ hb⟩
 ·rw [hF, hG]
  by_cases hr' : r < s.rf.length
  ·rw [← hρ r hr'] at hb
   exact h.refG r b hr' hb
  ·have : r = s.rf.length := by simp at hr; omega
   subst this
   rw [hn] at hb
   simp only [Option.some.injEq] at hb
   subst hb
   refine ⟨?_, fun o => ?_⟩
   ·cases hF : K.F w.heap.size with
    | none => rfl
    | some f => exact absurd (hfb _ _ hF) (by omega)
   ·cases hG : K.G w.heap.size o with
    | none => rfl
    | some f => exact absurd (hgb _ _ _ hG) (by omega)
 ·simp only [List.length_append, List.length_cons, List.length_nil] at hr hr'
  by_cases hr1 : r < s.rf.length <;> by_cases hr2 : r' < s.rf.length
  ·rw [← hρ r hr1] at h1
   rw [← hρ r' hr2] at h2
   exact h.inj r r' b hr1 hr2 h1 h2
  ·have : r' = s.rf.length := by omega
   subst this
   rw [hn] at h2
   rw [← hρ r hr1] at h1
   have := hbl r b hr1 h1
   simp only [Option.some.injEq] at h2
   omega
  ·have : r = s.rf.length := by omega
   subst this
   rw [hn] at h1
   rw [← hρ r' hr2] at h2
   have := hbl r' b hr2 h2
   simp only [Option.some.injEq] at h1
   omega
  ·omega
 ·rw [hF] at hf
  rw [hG]
  obtain ⟨⟨c, el', fz, hc, hz⟩, hg⟩ := h.rows b f hf
  exact ⟨⟨c, el', fz, hold _ _ hc, hz⟩, hg⟩
 ·have := h.slots t av ha
  exact ⟨this.1, Rep.mono hle hρ _ _ (hw.sb t av ha) this.2⟩
 ·refine (h.own ℓ es v (hh _ _ _ h1)).mono hle (fun b f hf _ => by rw [hF]; exact hf) (fun b _ c el' fz hc => ⟨c, hold _ _ hc, rfl⟩)
 ·by_cases hr' : r < s.rf.length
  ·rw [← hρ r hr'] at hb
   exact h.tR r b hr' hb hlt
  ·have : r = s.rf.length := by simp at hr; omega
   subst this
   rw [hn] at hb
   simp only [Option.some.injEq] at hb
   have := h.size
   omega
end Go.Ab
namespace Go.Ab
variable [Glb]
theorem rows_of_flat {G : Ghost} {b sz : Nat} : ∀ {es : List (List D)} {o : Nat}, (∀ e, e ∈ es → e.length = sz) →
  (∀ (j : Nat) x, es.flatten[j]? = some x → ∃ v, G b (o + j) = some v ∧ RepD G x v) → RepRows G b sz o es
 | [], o, _, _ => by simp [RepRows]
 | e :: es, o, hl, h => by
   simp only [RepRows]
   have hcells : ∀ (l : List D) (o' : Nat), (∀ (j : Nat) x, l[j]? = some x → ∃ v, G b (o' + j) = some v ∧ RepD G x v) → RepCells G b o' l := fun l => by
    induction l with
    | nil => intro o' _; simp [RepCells]
    | cons x l ih =>
      intro o' hx
      simp only [RepCells]
      refine ⟨by simpa using hx 0 x (by simp), ih (o' + 1) fun j y hy => ?_⟩
      have := hx (j + 1) y (by simpa using hy)
      rwa [show o' + (j + 1) = o' + 1 + j by omega] at this
   refine ⟨hl e (by simp), hcells e o fun j x hx => h j x ?_, rows_of_flat (fun e he => hl e (List.mem_cons_of_mem _ he)) fun j x hx => ?_⟩
   ·simp only [List.flatten_cons]
    rw [List.getElem?_append_left (List.getElem?_eq_some_iff.1 hx).1]
    exact hx
   ·have := h (sz + j) x (by
     simp only [List.flatten_cons]
     rw [List.getElem?_append_right (by rw [hl e (by simp)]; omega), hl e (by simp)]
     rw [show sz + j - sz = j by omega]
     exact hx)
    rwa [show o + (sz + j) = o + sz + j by omega] at this
theorem flat_of_rows {G : Ghost} {b sz : Nat} : ∀ {es : List (List D)} {o : Nat}, RepRows G b sz o es → ∀ (j : Nat) x, es.flatten[j]? = some x → ∃ v, G b (o + j) = some v ∧ RepD G x v
 | [], o, _, j, x, h => by simp at h
 | e :: es, o, r, j, x, h => by
   simp only [RepRows] at r
   simp only [List.flatten_cons] at h
   by_cases hj : j < e.length
   ·rw [List.getElem?_append_left hj] at h
    exact RepCells.get r.2.1 h
   ·rw [List.getElem?_append_right (by omega)] at h
    have := flat_of_rows r.2.2 _ _ h
    rwa [show o + sz + (j - e.length) = o + j by omega] at this
theorem rows_len {G : Ghost} {b sz : Nat} : ∀ {es : List (List D)} {o : Nat}, RepRows G b sz o es → ∀ e, e ∈ es → e.length = sz
 | [], o, _, e, h => by simp at h
 | x :: es, o, r, e, h => by
   simp only [RepRows] at r
   simp only [List.mem_cons] at h
   rcases h with rfl | h
   ·exact r.1
   ·exact rows_len r.2.2 e h
theorem flat_len {sz : Nat} : ∀ {es : List (List D)}, (∀ e, e ∈ es → e.length = sz) → es.flatten.length = es.length * sz
 | [], _ => by simp
 | e :: es, h => by
   simp only [List.flatten_cons, List.length_append, List.length_cons, h e (by simp), flat_len (fun e he => h e (List.mem_cons_of_mem _ he)), Nat.add_mul]
   omega
theorem Sim.newRow {E : Env} {K : Ctx} {s : St} {tm : Array Value} {w : World} (h : Sim E K s tm w) {es : List (List D)} {sz : Nat} {c : Array Value} {el : TypeId} {fz : Nat × Nat}
  (hl : ∀ e, e ∈ es → e.length = sz) (hc : ∀ (j : Nat) x, es.flatten[j]? = some x → ∃ v, c[j]? = some v ∧ RepD K.G x v)
  (hz : fz.1 = fz.2 ∨ c.size ≤ fz.1) :
  ∃ K', Sim E K' s tm (w.alloc (.cells c el fz)) ∧ K'.ρ = K.ρ ∧ Le K.G K'.G ∧ RepRows K'.G w.heap.size sz 0 es ∧ K'.F w.heap.size = some (es.length * sz) := by
 have hgb : ∀ b o v, K.G b o = some v → b < w.heap.size := fun b o v hg => cell_lt (h.cells b o v hg)
 have hfb : ∀ b f, K.F b = some f → b < w.heap.size := fun b f hf => by
  obtain ⟨⟨c, el, fz, hc, _⟩, _⟩ := h.rows b f hf
  exact heap_lt hc
 have hbl : ∀ r b, r < s.rf.length → K.ρ r = some b → b < w.heap.size := fun r b hr hb => by
  obtain ⟨cs, hcs⟩ : ∃ cs, s.rf[r]? = some cs := ⟨_, List.getElem?_eq_getElem hr⟩
  obtain ⟨b', o', h1, h2, _⟩ := h.refs r cs hcs
  rw [h1] at hb
  cases hb
  exact heap_lt h2
 have hold : ∀ (b : Nat) (o : Obj), w.heap[b]? = some o → (w.alloc (.cells c el fz)).heap[b]? = some o := fun b o hb => by
  rw [alloc_old (heap_lt hb)]; exact hb
 let G' : Ghost := fun b o => if b = w.heap.size then (if o < es.length * sz then c[o]? else none) else K.G b o
 let K' : Ctx := { G := G', F := updN K.F w.heap.size (some (es.length * sz)), ρ := K.ρ }
 have hG' : ∀ b o, b ≠ w.heap.size → G' b o = K.G b o := fun b o hb => by simp only [G']; rw [if_neg hb]
 have hle : Le K.G G' := fun b o v hg => by
  rw [hG' b o (by have := hgb b o v hg; omega)]; exact hg
 have hF' : ∀ b, b ≠ w.heap.size → K'.F b = K.F b := fun b hb => by simp only [K', updN]; rw [if_neg hb]
 have hh : ∀ ℓ es v, holds K' s tm (w.alloc (.cells c el fz)) ℓ (.own es) v → holds K s tm w ℓ (.own es) v := fun ℓ es v h' => by
  cases ℓ with
  | sl t => exact h'
  | rf r i =>
    obtain ⟨cs', β, h1, h2, h3, h4⟩ := h'
    have := hbl r β (List.getElem?_eq_some_iff.1 h1).1 h3
    rw [cell_alloc this] at h4
    exact ⟨cs', β, h1, h2, h3, h4⟩
 refine ⟨K', ⟨by simp; have := h.size; omega, h.os, h.tape, h.output, fun b hb hT => ?_, h.gle.trans hle, h.rho, fun b o v hg => ?_, fun r cs' hcs => ?_, fun r b hr hb => ?_, h.inj, fun b f hf => ?_, fun t av ha => ?_,
  fun ℓ es v h1 => ?_, fun ℓ ℓ' es es' v v' b h1 h2 => h.uniq ℓ ℓ' es es' v v' b (hh _ _ _ h1) (hh _ _ _ h2), fun ℓ es v b h1 => h.tO ℓ es v b (hh _ _ _ h1), h.tR⟩, rfl, hle, ?_, by simp [K', updN]⟩
 ·have := h.size
  rw [alloc_old (by omega), hF' b (by omega)]
  refine ⟨(h.keep b hb hT).1, (h.keep b hb hT).2.1, fun o => ?_⟩
  show G' b o = _
  rw [hG' b o (by omega)]
  exact (h.keep b hb hT).2.2 o
 ·change G' b o = some v at hg
  by_cases hb : b = w.heap.size
  ·subst hb
   simp only [G', if_true] at hg
   split at hg
   ·rw [cell_of (alloc_new _ _)]; exact hg
   ·simp at hg
  ·rw [hG' b o hb] at hg
   rw [cell_alloc (hgb b o v hg)]
   exact h.cells b o v hg
 ·obtain ⟨b, o', h1, h2, h3⟩ := h.refs r cs' hcs
  exact ⟨b, o', h1, hold _ _ h2, h3.mono (K := K) (K' := K') (n := AV.refBs cs') hle (fun _ _ => rfl) (Nat.le_refl _)⟩
 ·have := hbl r b hr hb
  rw [hF' b (by omega)]
  refine ⟨(h.refG r b hr hb).1, fun o => ?_⟩
  show G' b o = _
  rw [hG' b o (by omega)]
  exact (h.refG r b hr hb).2 o
 ·by_cases hb : b = w.heap.size
  ·subst hb
   simp only [K', updN, if_true, Option.some.injEq] at hf
   subst hf
   refine ⟨⟨c, el, fz, alloc_new _ _, hz⟩, fun o ho => ?_⟩
   show G' _ o = _
   simp only [G', if_true]
   rw [if_neg (by omega)]
  ·rw [hF' b hb] at hf
   obtain ⟨⟨c', el', fz', hc', hz'⟩, hg⟩ := h.rows b f hf
   refine ⟨⟨c', el', fz', hold _ _ hc', hz'⟩, fun o ho => ?_⟩
   show G' b o = _
   rw [hG' b o hb]
   exact hg o ho
 ·have := h.slots t av ha
  exact ⟨this.1, Rep.mono (K := K) (K' := K') (n := av.refB) hle (fun _ _ => rfl) _ _ (Nat.le_refl _) this.2⟩
 ·refine (h.own ℓ es v (hh _ _ _ h1)).mono hle (fun b f hf _ => ?_) (fun b _ c el' fz hc => ⟨c, hold _ _ hc, rfl⟩)
  rw [hF' b (by have := hfb b f hf; omega)]; exact hf
 ·refine rows_of_flat hl fun j x hx => ?_
  obtain ⟨v, hv, hr⟩ := hc j x hx
  refine ⟨v, ?_, RepD.mono hle x v hr⟩
  show G' _ _ = _
  have hj : j < es.length * sz := by
   have := (List.getElem?_eq_some_iff.1 hx).1
   rwa [flat_len hl] at this
  simp only [G', if_true, Nat.zero_add, if_pos hj]
  exact hv
theorem Sim.growRow {E : Env} {K : Ctx} {s : St} {tm : Array Value} {w w' : World} (h : Sim E K s tm w) {b f m : Nat} {c c' : Array Value} {el : TypeId} {fz fz' : Nat × Nat}
  (hf : K.F b = some f) (hb : w.heap[b]? = some (.cells c el fz)) (hb' : w'.heap[b]? = some (.cells c' el fz')) (hz' : fz'.1 = fz'.2 ∨ c'.size ≤ fz'.1) (hc : ∀ o, o < f → c'[o]? = c[o]?)
  (hoth : ∀ k, k ≠ b → w'.heap[k]? = w.heap[k]?) (hsz : w'.heap.size = w.heap.size) (hos : w'.os = w.os) (htape : w'.tape = w.tape) (hout : w'.output = w.output)
  (hT : b < E.w0.heap.size → E.T b) (hno : ∀ ℓ es v, holds K s tm w ℓ (.own es) v → blk v ≠ some b) :
  ∃ K', Sim E K' s tm w' ∧ K'.ρ = K.ρ ∧ Le K.G K'.G ∧ (∀ o, f ≤ o → o < f + m → K'.G b o = c'[o]?) ∧ K'.F b = some (f + m) := by
 have hfree := (h.rows b f hf).2
 have hrefne : ∀ r β, r < s.rf.length → K.ρ r = some β → β ≠ b := fun r β hr hβ e => by
  subst e
  rw [(h.refG r _ hr hβ).1] at hf
  cases hf
 let G' : Ghost := fun k o => if k = b ∧ f ≤ o ∧ o < f + m then c'[o]? else K.G k o
 let K' : Ctx := { G := G', F := updN K.F b (some (f + m)), ρ := K.ρ }
 have hG' : ∀ k o, k ≠ b → G' k o = K.G k o := fun k o hk => by simp only [G']; rw [if_neg (by simp [hk])]
 have hle : Le K.G G' := fun k o v hg => by
  by_cases hk : k = b ∧ f ≤ o ∧ o < f + m
  ·obtain ⟨rfl, h1, h2⟩ := hk
   rw [hfree o h1] at hg; cases hg
  ·simp only [G']; rw [if_neg hk]; exact hg
 have hF' : ∀ k, k ≠ b → K'.F k = K.F k := fun k hk => by simp only [K', updN]; rw [if_neg hk]
 have hcell : ∀ k o, k ≠ b → w'.cell? ⟨k, o, none⟩ = w.cell? ⟨k, o, none⟩ := fun k o hk => World.cell?_of_block (hoth k hk)
 have hh : ∀ ℓ es v, holds K' s tm w' ℓ (.own es) v → holds K s tm w ℓ (.own es) v := fun ℓ es v h' => by
  cases ℓ with
  | sl t => exact h'
  | rf r i =>
    obtain ⟨cs', β, h1, h2, h3, h4⟩ := h'
    rw [hcell β i (hrefne r β (List.getElem?_eq_some_iff.1 h1).1 h3)] at h4
    exact ⟨cs', β, h1, h2, h3, h4⟩
 refine ⟨K', ⟨by rw [hsz]; exact h.size, by rw [hos]; exact h.os, by rw [htape]; exact h.tape, by rw [hout]; exact h.output, fun k hk hTk => ?_, h.gle.trans hle, h.rho, fun k o v hg => ?_, fun r cs' hcs => ?_, fun r k hr hk => ?_, h.inj, fun k g hg => ?_, fun t av ha => ?_,
  fun ℓ es v h1 => ?_, fun ℓ ℓ' es es' v v' b h1 h2 => h.uniq ℓ ℓ' es es' v v' b (hh _ _ _ h1) (hh _ _ _ h2), fun ℓ es v b h1 => h.tO ℓ es v b (hh _ _ _ h1), h.tR⟩, rfl, hle, fun o h1 h2 => ?_, by simp [K', updN]⟩
 ·have hne : k ≠ b := fun e => by subst e; exact hTk (hT hk)
  rw [hoth k hne, hF' k hne]
  refine ⟨(h.keep k hk hTk).1, (h.keep k hk hTk).2.1, fun o => ?_⟩
  show G' k o = _
  rw [hG' k o hne]
  exact (h.keep k hk hTk).2.2 o
 ·change G' k o = some v at hg
  by_cases hk : k = b
  ·subst hk
   rw [cell_of hb']
   by_cases ho : f ≤ o ∧ o < f + m
   ·simp only [G'] at hg
    rw [if_pos (by simp [ho])] at hg
    exact hg
   ·simp only [G'] at hg
    rw [if_neg (by simp; omega)] at hg
    by_cases ho' : f ≤ o
    ·rw [hfree o ho'] at hg; cases hg
    ·rw [hc o (by omega)]
     have := h.cells k o v hg
     rwa [cell_of hb] at this
  ·rw [hG' k o hk] at hg
   rw [hcell k o hk]
   exact h.cells k o v hg
 ·obtain ⟨β, o', h1, h2, h3⟩ := h.refs r cs' hcs
  exact ⟨β, o', h1, by rw [hoth β (hrefne r β (List.getElem?_eq_some_iff.1 hcs).1 h1)]; exact h2, h3.mono (K := K) (K' := K') (n := AV.refBs cs') hle (fun _ _ => rfl) (Nat.le_refl _)⟩
 ·have hne := hrefne r k hr hk
  rw [hF' k hne]
  refine ⟨(h.refG r k hr hk).1, fun o => ?_⟩
  show G' k o = _
  rw [hG' k o hne]
  exact (h.refG r k hr hk).2 o
 ·by_cases hk : k = b
  ·subst hk
   simp only [K', updN, if_true, Option.some.injEq] at hg
   subst hg
   refine ⟨⟨c', el, fz', hb', hz'⟩, fun o ho => ?_⟩
   show G' k o = _
   simp only [G']
   rw [if_neg (by omega)]
   exact hfree o (by omega)
  ·rw [hF' k hk] at hg
   obtain ⟨⟨c1, el', fz', hc1, hz'⟩, hgg⟩ := h.rows k g hg
   refine ⟨⟨c1, el', fz', by rw [hoth k hk]; exact hc1, hz'⟩, fun o ho => ?_⟩
   show G' k o = _
   rw [hG' k o hk]
   exact hgg o ho
 ·have := h.slots t av ha
  exact ⟨this.1, Rep.mono (K := K) (K' := K') (n := av.refB) hle (fun _ _ => rfl) _ _ (Nat.le_refl _) this.2⟩
 ·have hbk := hno ℓ es v (hh _ _ _ h1)
  refine (h.own ℓ es v (hh _ _ _ h1)).mono hle (fun k g hg hk => ?_) (fun k hk c1 el' fz' hc1 => ⟨c1, ?_, rfl⟩)
  ·rw [hF' k (fun e => hbk (by rw [hk, e]))]; exact hg
  ·rw [hoth k (fun e => hbk (by rw [hk, e]))]; exact hc1
 ·show G' b o = _
  simp only [G']
  rw [if_pos (by simp [h1, h2])]
theorem Sim.setObj {E : Env} {K : Ctx} {s : St} {tm : Array Value} {w w' : World} (h : Sim E K s tm w) {r β : Nat} {cs cs' : List AV} {ob' : Obj} {i0 : Option Nat}
  (hr : s.rf[r]? = some cs) (hβ : K.ρ r = some β) (hrep : ObjR K cs' ob')
  (hb' : w'.heap[β]? = some ob') (hoth : ∀ k, k ≠ β → w'.heap[k]? = w.heap[k]?) (hsz : w'.heap.size = w.heap.size) (hos : w'.os = w.os) (htape : w'.tape = w.tape) (hout : w'.output = w.output)
  (hown : ∀ i es v, cs'[i]? = some (.own es) → i0 ≠ some i → w'.cell? ⟨β, i, none⟩ = some v → cs[i]? = some (.own es) ∧ w.cell? ⟨β, i, none⟩ = some v)
  (hnew : ∀ i es v, i0 = some i → cs'[i]? = some (.own es) → w'.cell? ⟨β, i, none⟩ = some v → OwnV K w es v ∧ ∀ b, blk v = some b → (b < E.w0.heap.size → E.T b) ∧
   ∀ ℓ es' u, ℓ ≠ .rf r i → holds K s tm w ℓ (.own es') u → blk u ≠ some b) :
  Sim E K { s with rf := s.rf.set r cs' } tm w' := by
 have hrl : r < s.rf.length := (List.getElem?_eq_some_iff.1 hr).1
 have hFβ := (h.refG r β hrl hβ).1
 have hGβ := (h.refG r β hrl hβ).2
 have hcell : ∀ k o, k ≠ β → w'.cell? ⟨k, o, none⟩ = w.cell? ⟨k, o, none⟩ := fun k o hk => World.cell?_of_block (hoth k hk)
 have hne : ∀ r' k, r' < s.rf.length → K.ρ r' = some k → r' ≠ r → k ≠ β := fun r' k hr' hk hn e => by
  subst e
  exact hn (h.inj r' r k hr' hrl hk hβ)
 have hh : ∀ ℓ es v, holds K { s with rf := s.rf.set r cs' } tm w' ℓ (.own es) v → holds K s tm w ℓ (.own es) v ∨ ∃ i, i0 = some i ∧ ℓ = .rf r i ∧ cs'[i]? = some (.own es) ∧ w'.cell? ⟨β, i, none⟩ = some v := fun ℓ es v h' => by
  cases ℓ with
  | sl t => exact .inl h'
  | rf r' i =>
    obtain ⟨cs1, β', h1, h2, h3, h4⟩ := h'
    simp only at h1
    by_cases e : r = r'
    ·subst e
     rw [List.getElem?_set_self hrl] at h1
     simp only [Option.some.injEq] at h1
     subst h1
     rw [hβ] at h3
     cases h3
     by_cases hi : i0 = some i
     ·exact .inr ⟨i, hi, rfl, h2, h4⟩
     ·obtain ⟨a1, a2⟩ := hown i es v h2 hi h4
      exact .inl ⟨cs, β, hr, a1, hβ, a2⟩
    ·rw [List.getElem?_set_ne e] at h1
     have hl := (List.getElem?_eq_some_iff.1 h1).1
     rw [hcell β' i (hne r' β' hl h3 (fun x => e x.symm))] at h4
     exact .inl ⟨cs1, β', h1, h2, h3, h4⟩
 have hrowne : ∀ b f, K.F b = some f → b ≠ β := fun b f hf e => by subst e; rw [hFβ] at hf; cases hf
 have ownKeep : ∀ es v, OwnV K w es v → OwnV K w' es v := fun es v ho => by
  cases es with
  | nil => exact ho
  | cons e l =>
    obtain ⟨b, o, n, c, el', fz, hv', hn, hf, hc, hs, hrr⟩ := ho
    exact ⟨b, o, n, c, el', fz, hv', hn, hf, by rw [hoth b (hrowne b _ hf)]; exact hc, hs, hrr⟩
 refine ⟨by rw [hsz]; exact h.size, by rw [hos]; exact h.os, by rw [htape]; exact h.tape, by rw [hout]; exact h.output, fun k hk hTk => ?_, h.gle, h.rho, fun k o v hg => ?_, fun r' cs1 hcs => ?_, fun r' k hr' hk => ?_, fun r1 r2 k h1 h2 => ?_, fun k g hg => ?_, h.slots,
  fun ℓ es v h1 => ?_, fun ℓ ℓ' es es' v v' b h1 h2 b1 b2 => ?_, fun ℓ es v b h1 hb hlt => ?_, fun r' b hr' => h.tR r' b (by simpa using hr')⟩
 ·have hnβ : k ≠ β := fun e => by subst e; exact hTk (h.tR r k hrl hβ hk)
  rw [hoth k hnβ]
  exact h.keep k hk hTk
 ·have hnβ : k ≠ β := fun e => by subst e; rw [hGβ o] at hg; cases hg
  rw [hcell k o hnβ]
  exact h.cells k o v hg
 ·simp only at hcs
  by_cases e : r = r'
  ·subst e
   rw [List.getElem?_set_self hrl] at hcs
   simp only [Option.some.injEq] at hcs
   subst hcs
   exact ⟨β, ob', hβ, hb', hrep⟩
  ·rw [List.getElem?_set_ne e] at hcs
   obtain ⟨β', o1, h1, h2, h3⟩ := h.refs r' cs1 hcs
   exact ⟨β', o1, h1, by rw [hoth β' (hne r' β' (List.getElem?_eq_some_iff.1 hcs).1 h1 (fun x => e x.symm))]; exact h2, h3⟩
 ·exact h.refG r' k (by simpa using hr') hk
 ·exact h.inj r1 r2 k (by simpa using h1) (by simpa using h2)
 ·obtain ⟨⟨c1, el', fz', hc1, hz'⟩, hgg⟩ := h.rows k g hg
  exact ⟨⟨c1, el', fz', by rw [hoth k (hrowne k g hg)]; exact hc1, hz'⟩, hgg⟩
 ·rcases hh _ _ _ h1 with h1 | ⟨i, hi, rfl, hcs, hvs⟩
  ·exact ownKeep _ _ (h.own ℓ es v h1)
  ·exact ownKeep _ _ (hnew i es v hi hcs hvs).1
 ·rcases hh _ _ _ h1 with h1 | ⟨i, hi, rfl, hcs, hvs⟩ <;> rcases hh _ _ _ h2 with h2 | ⟨i', hi', rfl, hcs', hvs'⟩
  ·exact h.uniq ℓ ℓ' es es' v v' b h1 h2 b1 b2
  ·by_cases e : ℓ = .rf r i'
   ·exact e
   ·exact absurd b1 (((hnew i' es' v' hi' hcs' hvs').2 b b2).2 ℓ es v e h1)
  ·by_cases e : ℓ' = .rf r i
   ·exact e.symm
   ·exact absurd b2 (((hnew i es v hi hcs hvs).2 b b1).2 ℓ' es' v' e h2)
  ·rw [hi] at hi'; cases hi'; rfl
 ·rcases hh _ _ _ h1 with h1 | ⟨i, hi, rfl, hcs, hvs⟩
  ·exact h.tO ℓ es v b h1 hb hlt
  ·exact ((hnew i es v hi hcs hvs).2 b hb).1 hlt
theorem Sim.setRef {E : Env} {K : Ctx} {s : St} {tm : Array Value} {w w' : World} (h : Sim E K s tm w) {r β : Nat} {cs cs' : List AV} {vs vs' : Array Value} {el : TypeId} {i0 : Option Nat}
  (hr : s.rf[r]? = some cs) (hβ : K.ρ r = some β) (hv : w.heap[β]? = some (.cells vs el)) (hmp : isMp cs' = false) (hrep : RepL K cs' vs'.toList)
  (hb' : w'.heap[β]? = some (.cells vs' el)) (hoth : ∀ k, k ≠ β → w'.heap[k]? = w.heap[k]?) (hsz : w'.heap.size = w.heap.size) (hos : w'.os = w.os) (htape : w'.tape = w.tape) (hout : w'.output = w.output)
  (hown : ∀ i es, cs'[i]? = some (.own es) → i0 ≠ some i → cs[i]? = some (.own es) ∧ vs'[i]? = vs[i]?)
  (hnew : ∀ i es v, i0 = some i → cs'[i]? = some (.own es) → vs'[i]? = some v → OwnV K w es v ∧ ∀ b, blk v = some b → (b < E.w0.heap.size → E.T b) ∧
   ∀ ℓ es' u, ℓ ≠ .rf r i → holds K s tm w ℓ (.own es') u → blk u ≠ some b) :
  Sim E K { s with rf := s.rf.set r cs' } tm w' :=
 h.setObj hr hβ (.cells vs' el hmp hrep) hb' hoth hsz hos htape hout
  (fun i es v h1 h2 h3 => by rw [cell_of hb'] at h3; have := hown i es h1 h2; exact ⟨this.1, by rw [cell_of hv, ← this.2]; exact h3⟩)
  (fun i es v h1 h2 h3 => hnew i es v h1 h2 (by rw [cell_of hb'] at h3; exact h3))
theorem isMp_set {cs : List AV} {i : Nat} {v : AV} (h : isMp cs = false) (hv : v.one = true) : isMp (cs.set i v) = false := by
 cases cs with
 | nil => rfl
 | cons c r =>
   cases i with
   | zero => cases v <;> first | rfl | cases hv
   | succ i =>
     rw [List.set_cons_succ]
     cases c <;> first | rfl | skip
     rename_i vs
     cases vs <;> first | rfl | exact h
theorem isMp_setRange {vs cs : List AV} {off : Nat} (h : isMp cs = false) (hv : vs.all AV.one = true) : isMp (setRange cs off vs) = false := by
 induction vs generalizing cs off with
 | nil => exact h
 | cons v vs ih =>
   simp only [List.all_cons, Bool.and_eq_true] at hv
   exact ih (isMp_set h hv.1) hv.2
theorem isMp_set_strip {cs : List AV} {i : Nat} {v : AV} (h : isMp cs = false) (hg : cs[i]? = some v) : isMp (cs.set i v.strip) = false := by
 cases cs with
 | nil => rfl
 | cons c r =>
   cases i with
   | zero =>
     simp only [List.getElem?_cons_zero, Option.some.injEq] at hg
     subst hg
     cases c <;> first | rfl | skip
     rename_i vs
     cases vs with
     | nil => exact h
     | cons x vs => rfl
   | succ i =>
     rw [List.set_cons_succ]
     cases c <;> first | rfl | skip
     rename_i vs
     cases vs <;> first | rfl | exact h
end Go.Ab
namespace Go.Ab
variable [Glb]
def Up (n : Nat) (K K' : Ctx) : Prop := Le K.G K'.G ∧ ∀ r, r < n → K.ρ r = K'.ρ r
theorem Up.refl (n : Nat) (K : Ctx) : Up n K K := ⟨Le.refl _, fun _ _ => rfl⟩
theorem Up.trans {n : Nat} {A B C : Ctx} (h : Up n A B) (k : Up n B C) : Up n A C := ⟨h.1.trans k.1, fun r hr => (h.2 r hr).trans (k.2 r hr)⟩
theorem Up.le {n m : Nat} {A B : Ctx} (h : Up n A B) (hm : m ≤ n) : Up m A B := ⟨h.1, fun r hr => h.2 r (by omega)⟩
def OpOK (P : Program) (E : Env) (K : Ctx) (s : St) (a : Act) (w : World) (o : Oper) : Did → Prop
 | .val v s' => ∃ pv w' K', (execOp a.eval o).run P w = .ok (.value pv) w' ∧ Sim E K' s' a.tmps w' ∧ Rep K' v pv ∧ Fresh E K' s' a.tmps w' none v pv ∧ Up s.rf.length K K'
 | .none_ s' => ∃ w' K', (execOp a.eval o).run P w = .ok .skip w' ∧ Sim E K' s' a.tmps w' ∧ Up s.rf.length K K'
 | .pan v s' => ∃ t v' pv, v = .ifc t v' ∧ s' = s ∧ (execOp a.eval o).run P w = .halt (.panic pv) w ∧ Rep K v pv
section
variable {P : Program} {E : Env} {K : Ctx} {s : St} {a : Act} {w : World}
theorem rawO_rep (h : Sim E K s a.tmps w) {x : Opd} {y : Operand} (hc : chkO x y = true) {v : AV} (hv : rawO s.sl x = some v) : Rep K v (a.eval y) := by
 cases x with
 | t n =>
   cases y <;> simp [chkO] at hc
   subst hc
   exact (h.slots n v hv).2
 | c av =>
   cases y <;> simp [chkO] at hc
   simp only [rawO, Option.some.injEq] at hv
   subst hv
   exact chkV_rep _ _ hc.1
 | f id =>
   cases y <;> simp [chkO] at hc
   simp only [rawO, Option.some.injEq] at hv
   subst hv hc
   simp only [Rep, Act.eval]
   exact ⟨#[], #[], rfl, by simp [RepL], by simp [RepL]⟩
theorem getO_rep (h : Sim E K s a.tmps w) {x : Opd} {y : Operand} (hc : chkO x y = true) {v : AV} (hv : getO s.sl x = some v) : Rep K v (a.eval y) := by
 simp only [getO, Option.map_eq_some_iff] at hv
 obtain ⟨u, hu, rfl⟩ := hv
 exact Rep.strip _ _ (rawO_rep h hc hu)
theorem getOs_rep (h : Sim E K s a.tmps w) : ∀ {l : List Opd} {m : List Operand} {vs : List AV}, chkOs l m = true → getOs s.sl l = some vs → RepL K vs (m.map a.eval)
 | [], m, vs, hc, hv => by
   cases m <;> simp [chkOs] at hc
   simp only [getOs, Option.some.injEq] at hv
   subst hv
   simp [RepL]
 | x :: l, m, vs, hc, hv => by
   cases m <;> simp [chkOs] at hc
   rename_i y m
   simp only [getOs] at hv
   split at hv
   ·rename_i v vs' h1 h2
    simp only [Option.some.injEq] at hv
    subst hv
    simp only [RepL, List.map_cons]
    exact ⟨_, _, rfl, getO_rep h hc.1 h1, getOs_rep h hc.2 h2⟩
   ·simp at hv
theorem getO_not_own {x : Opd} {v : AV} {sl : Slots} (hv : getO sl x = some v) : ∀ es, v ≠ .own es := by
 simp only [getO, Option.map_eq_some_iff] at hv
 obtain ⟨u, hu, rfl⟩ := hv
 exact strip_not_own u
theorem opOK_pure {o : Oper} {v : AV} {pv : Value} (h : Sim E K s a.tmps w) (hr : (execOp a.eval o).run P w = .ok (.value pv) w) (hv : Rep K v pv) (hn : ∀ es, v ≠ .own es) : OpOK P E K s a w o (.val v s) :=
 ⟨pv, w, K, hr, h, hv, fresh_of_not_own hn, Up.refl _ _⟩
theorem vl_of {v : Option AV} {d : Did} (h : vl s v = some d) : ∃ u, v = some u ∧ d = .val u s := by
 unfold vl at h
 simp only [Option.map_eq_some_iff] at h
 obtain ⟨u, hu, rfl⟩ := h
 exact ⟨u, hu, rfl⟩
theorem rep_bool {b : Bool} {v : Value} (h : Rep K (.d (.bool b)) v) : v = .bool b := by simpa [Rep, RepD] using h
theorem rep_int {k : IntKind} {n : Int} {v : Value} (h : Rep K (.d (.int k n)) v) : v = .int k n := by simpa [Rep, RepD] using h
theorem rep_str {l : List UInt8} {v : Value} (h : Rep K (.d (.str l)) v) : v = .string ⟨l.toArray⟩ := by simpa [Rep, RepD] using h
theorem rep_bool' (b : Bool) : Rep K (.d (.bool b)) (.bool b) := by simp [Rep, RepD]
theorem rep_int' (k : IntKind) (n : Int) : Rep K (.d (.int k n)) (.int k n) := by simp [Rep, RepD]
theorem rep_str' (l : List UInt8) : Rep K (.d (.str l)) (.string ⟨l.toArray⟩) := by simp [Rep, RepD]
theorem ok_mov {x : Opd} {o : Oper} {y : Operand} {d : Did} (ho : o.op = .move y) (h : Sim E K s a.tmps w) (hc : chkO x y = true) (hd : vl s (getO s.sl x) = some d) : OpOK P E K s a w o d := by
 obtain ⟨v, hv, rfl⟩ := vl_of hd
 exact opOK_pure h (by simp [execOp, ho]) (getO_rep h hc hv) (getO_not_own hv)
theorem ok_raw {x : Opd} {o : Oper} {y : Operand} {v : AV} (hr : (execOp a.eval o).run P w = .ok (.value (a.eval y)) w) (h : Sim E K s a.tmps w) (hc : chkO x y = true) (hv : rawO s.sl x = some v) : OpOK P E K s a w o (.val v (unOwn s x)) := by
 refine ⟨_, w, K, hr, h.unOwn x, rawO_rep h hc hv, ?_, Up.refl _ _⟩
 cases x with
 | t n =>
   cases y <;> simp [chkO] at hc
   subst hc
   exact h.fresh_raw hv none
 | c av =>
   cases y <;> simp [chkO] at hc
   simp only [rawO, Option.some.injEq] at hv
   subst hv
   refine fresh_of_not_own fun es e => ?_
   subst e
   exact absurd hc.1 (by unfold chkV; simp)
 | f id =>
   simp only [rawO, Option.some.injEq] at hv
   subst hv
   exact fresh_of_not_own fun es e => by cases e
theorem ok_pick {c x y : Opd} {c' x' y' : Operand} {o : Oper} {t : Bool} {d : Did} (ho : o.op = .pick c' x' y') (h : Sim E K s a.tmps w) (h1 : chkO c c' = true) (h2 : chkO x x' = true) (h3 : chkO y y' = true)
  (hc : getO s.sl c = some (.d (.bool t))) (hd : vl s (if t then getO s.sl x else getO s.sl y) = some d) : OpOK P E K s a w o d := by
 obtain ⟨v, hv, rfl⟩ := vl_of hd
 have hcv := rep_bool (getO_rep h h1 hc)
 cases t
 ·simp only [Bool.false_eq_true, if_false] at hv
  exact opOK_pure h (by simp [execOp, ho, hcv, asBool]) (getO_rep h h3 hv) (getO_not_own hv)
 ·simp only [if_true] at hv
  exact opOK_pure h (by simp [execOp, ho, hcv, asBool]) (getO_rep h h2 hv) (getO_not_own hv)
theorem not_own_int {k : IntKind} {n : Int} : ∀ es, AV.d (.int k n) ≠ .own es := fun _ e => by cases e
theorem run_intBin {op : BinOp} {t : TypeId} {k : IntKind} {x y : Int} {v : AV} (h : intBin op k x y = some v) (hs : op ≠ .shl) (hs' : op ≠ .shr) :
  ∃ pv, (binOp op t (.int k x) (.int k y)).run P w = .ok pv w ∧ Rep K v pv ∧ ∀ es, v ≠ .own es := by
 cases op <;> simp only [intBin] at h <;> first
  | (simp at h; done)
  | exact absurd rfl hs
  | exact absurd rfl hs'
  | (simp only [Option.some.injEq] at h; subst h; refine ⟨_, by simp [binOp, Op.intArith, Op.intBits, Op.intCmp]; rfl, by simp [Rep, RepD], fun _ e => by cases e⟩)
  | (split at h
     ·simp at h
     ·rename_i hy
      simp only [Option.some.injEq] at h; subst h
      refine ⟨_, by simp [binOp, Op.intDiv, hy]; rfl, by simp [Rep, RepD], fun _ e => by cases e⟩)
theorem run_shift {op : BinOp} {t : TypeId} {k yk : IntKind} {x y : Int} (hs : op = .shl ∨ op = .shr) (hy : ¬ y < 0) :
  (binOp op t (.int k x) (.int yk y)).run P w = .ok (.int k (if op = .shl then k.wrap (x * 2 ^ (Nat.min y.toNat k.bits)) else x.fdiv (2 ^ (Nat.min y.toNat k.bits)))) w := by
 rcases hs with rfl | rfl <;> simp [binOp, Op.shift, hy] <;> rfl
theorem toList_mk (l : List UInt8) : (ByteArray.mk l.toArray).toList = l := ByteArray.toList_mk l
theorem size_mk (l : List UInt8) : (ByteArray.mk l.toArray).size = l.length := by simp [ByteArray.size]
theorem run_strBin {op : BinOp} {t : TypeId} {x y : List UInt8} {v : AV} (h : strBin op x y = some v) :
  ∃ pv, (binOp op t (.string ⟨x.toArray⟩) (.string ⟨y.toArray⟩)).run P w = .ok pv w ∧ Rep K v pv ∧ ∀ es, v ≠ .own es := by
 cases op <;> simp only [strBin] at h <;> first
  | (simp at h; done)
  | (simp only [Option.some.injEq] at h; subst h; refine ⟨_, by simp [binOp, Op.stringOp]; rfl, by simp [Rep, RepD], fun _ e => by cases e⟩)
  | (split at h
     ·rename_i hl
      simp only [Option.some.injEq] at h; subst h
      refine ⟨.string ⟨(x ++ y).toArray⟩, ?_, by simp [Rep, RepD], fun _ e => by cases e⟩
      have hb : (ByteArray.mk x.toArray).size + (ByteArray.mk y.toArray).size ≤ 9223372036854775807 := by
       rw [size_mk, size_mk]; unfold lim at hl; omega
      simp only [binOp]
      rw [run_string_add_sum w _ _ hb, ByteArray.mk_append_mk]
     ·simp at h)
theorem run_eqGuard {op : BinOp} {t : TypeId} {x y : Operand} {u v : Value} (h : (∀ cs cs', ¬ (u = .agg cs ∧ v = .agg cs')) ∧ ¬ (u = .nilIface ∧ v = .nilIface)) : (eqGuard op t x y u v).run P w = .ok () w := by
 unfold eqGuard
 cases op <;> first
  | rfl
  | (cases u <;> cases v <;> first
    | rfl
    | exact absurd ⟨rfl, rfl⟩ h.2
    | exact absurd ⟨rfl, rfl⟩ (h.1 _ _))
theorem ok_bin {op : BinOp} {t yt : TypeId} {x y : Opd} {x' y' : Operand} {o : Oper} {u v : AV} {d : Did} (ho : o.op = .binOp op t x' y' yt) (h : Sim E K s a.tmps w) (h1 : chkO x x' = true) (h2 : chkO y y' = true)
  (hx : getO s.sl x = some u) (hy : getO s.sl y = some v) (hd : vl s (binA op u v) = some d) : OpOK P E K s a w o d := by
 obtain ⟨r, hr, rfl⟩ := vl_of hd
 have e1 := getO_rep h h1 hx
 have e2 := getO_rep h h2 hy
 unfold binA at hr
 split at hr
 ·rename_i k m yk n
  have p1 := rep_int e1
  have p2 := rep_int e2
  have hg : (eqGuard op t x' y' (a.eval x') (a.eval y')).run P w = .ok () w := by rw [p1, p2]; exact run_eqGuard ⟨fun _ _ e => by simp at e, by simp⟩
  split at hr
  ·split at hr
   ·simp at hr
   ·rename_i hn
    simp only [Option.some.injEq] at hr
    subst hr
    refine opOK_pure h (pv := .int k _) ?_ (rep_int' _ _) not_own_int
    simp only [execOp, ho, Sem.run_bind, hg, Result.andThen_ok]
    rw [p1, p2, run_shift (.inl rfl) hn]
    simp
  ·split at hr
   ·simp at hr
   ·rename_i hn
    simp only [Option.some.injEq] at hr
    subst hr
    refine opOK_pure h (pv := .int k _) ?_ (rep_int' _ _) not_own_int
    simp only [execOp, ho, Sem.run_bind, hg, Result.andThen_ok]
    rw [p1, p2, run_shift (.inr rfl) hn]
    simp
  ·rename_i hs1 hs2
   split at hr
   ·rename_i hk
    subst hk
    obtain ⟨pv, hrun, hrep, hno⟩ := run_intBin (P := P) (w := w) (K := K) (t := t) hr hs1 hs2
    refine opOK_pure h (pv := pv) ?_ hrep hno
    simp only [execOp, ho, Sem.run_bind, hg, Result.andThen_ok]
    rw [p1, p2, hrun]
    simp
   ·simp at hr
 ·have p1 := rep_str e1
  have p2 := rep_str e2
  obtain ⟨pv, hrun, hrep, hno⟩ := run_strBin (P := P) (w := w) (K := K) (t := t) hr
  refine opOK_pure h (pv := pv) ?_ hrep hno
  have hg : (eqGuard op t x' y' (a.eval x') (a.eval y')).run P w = .ok () w := by rw [p1, p2]; exact run_eqGuard ⟨fun _ _ e => by simp at e, by simp⟩
  simp only [execOp, ho, Sem.run_bind, hg, Result.andThen_ok]
  rw [p1, p2, hrun]
  simp
 ·simp at hr
theorem ok_beq {ne : Bool} {op : BinOp} {t yt : TypeId} {x y : Opd} {x' y' : Operand} {o : Oper} {b1 b2 : Bool} (ho : o.op = .binOp op t x' y' yt) (hop : op = if ne then BinOp.neq else BinOp.eql) (h : Sim E K s a.tmps w)
  (h1 : chkO x x' = true) (h2 : chkO y y' = true) (ht : P.underlying t = some .bool)
  (hx : getO s.sl x = some (.d (.bool b1))) (hy : getO s.sl y = some (.d (.bool b2))) : OpOK P E K s a w o (.val (.d (.bool ((b1 == b2) != ne))) s) := by
 have p1 := rep_bool (getO_rep h h1 hx)
 have p2 := rep_bool (getO_rep h h2 hy)
 have hg : (eqGuard op t x' y' (a.eval x') (a.eval y')).run P w = .ok () w := by rw [p1, p2]; exact run_eqGuard ⟨fun _ _ e => by simp at e, by simp⟩
 cases ne <;> simp only [Bool.false_eq_true, if_false, if_true] at hop <;> subst hop
 ·refine opOK_pure h (pv := .bool (b1 == b2)) ?_ (by simp [Rep, RepD]) (fun _ e => by cases e)
  simp only [execOp, ho, Sem.run_bind, hg, Result.andThen_ok]
  rw [p1, p2, run_eql_bool w t b1 b2 ht]
  simp
 ·refine opOK_pure h (pv := .bool !(b1 == b2)) ?_ (by simp [Rep, RepD]) (fun _ e => by cases e)
  simp only [execOp, ho, Sem.run_bind, hg, Result.andThen_ok]
  rw [p1, p2, run_neq_bool w t b1 b2 ht]
  simp
theorem ok_un {op : UnOp} {t : TypeId} {x : Opd} {y : Operand} {o : Oper} {u : AV} {d : Did} (ho : o.op = .unOp op t y) (h : Sim E K s a.tmps w) (h1 : chkO x y = true)
  (hx : getO s.sl x = some u) (hd : vl s (unA op u) = some d) : OpOK P E K s a w o d := by
 obtain ⟨r, hr, rfl⟩ := vl_of hd
 have e1 := getO_rep h h1 hx
 unfold unA at hr
 split at hr
 ·have p := rep_int e1
  simp only [Option.some.injEq] at hr
  subst hr
  exact opOK_pure h (pv := .int _ _) (by simp only [execOp, ho, p]; simp [Op.unary, Op.intArith]) (rep_int' _ _) not_own_int
 ·have p := rep_int e1
  simp only [Option.some.injEq] at hr
  subst hr
  exact opOK_pure h (pv := .int _ _) (by simp only [execOp, ho, p]; simp [Op.unary, Op.intBits]) (rep_int' _ _) not_own_int
 ·have p := rep_bool e1
  simp only [Option.some.injEq] at hr
  subst hr
  exact opOK_pure h (pv := .bool _) (by simp only [execOp, ho, p]; simp [Op.unary]) (rep_bool' _) (fun _ e => by cases e)
 ·simp at hr
theorem ok_toInt {k : IntKind} {src dst : TypeId} {x : Opd} {y : Operand} {o : Oper} {k' : IntKind} {n : Int} (ho : o.op = .convert src dst y) (h : Sim E K s a.tmps w) (h1 : chkO x y = true)
  (hk : kindT P dst = some k) (hs : (kindT P src).isSome = true) (hx : getO s.sl x = some (.d (.int k' n))) : OpOK P E K s a w o (.val (.d (.int k (k.wrap n))) s) := by
 have p := rep_int (getO_rep h h1 hx)
 have hd : P.underlying dst = some (.int k) := by
  unfold kindT at hk; split at hk <;> simp_all
 obtain ⟨j, hj⟩ : ∃ j, P.underlying src = some (.int j) := by
  unfold kindT at hs; split at hs <;> simp_all
 refine opOK_pure h (pv := .int k (k.wrap n)) ?_ (rep_int' _ _) not_own_int
 simp only [execOp, ho, p, convert]
 simp [run_underlying hd, run_underlying hj, Conv.intToInt]
theorem ok_ident {src dst : TypeId} {x : Opd} {y : Operand} {o : Oper} (ho : o.op = .convert src dst y) (h : Sim E K s a.tmps w) (h1 : chkO x y = true)
  (hk : isStrT P dst = true) (hs : isStrT P src = true) {l : List UInt8} (hl : getO s.sl x = some (.d (.str l))) : OpOK P E K s a w o (.val (.d (.str l)) s) := by
 have p := rep_str (getO_rep h h1 hl)
 have hd : P.underlying dst = some .string := by
  unfold isStrT at hk; split at hk <;> simp_all
 have hs' : P.underlying src = some .string := by
  unfold isStrT at hs; split at hs <;> simp_all
 refine opOK_pure h (pv := .string ⟨l.toArray⟩) ?_ (rep_str' _) (fun _ e => by cases e)
 simp only [execOp, ho, p, convert]
 simp [run_underlying hd, run_underlying hs']
theorem ok_mkifc {t : TypeId} {x : Opd} {y : Operand} {o : Oper} {v : AV} (ho : o.op = .makeInterface t y) (h : Sim E K s a.tmps w) (h1 : chkO x y = true)
  (ht : (match P.underlying t with | some (.interface _) | none => false | _ => true) = true) (hx : getO s.sl x = some v) : OpOK P E K s a w o (.val (.ifc t v) s) := by
 have p := getO_rep h h1 hx
 refine opOK_pure h (pv := .iface t (a.eval y)) ?_ (by simp only [Rep]; exact ⟨_, rfl, p⟩) (fun _ e => by cases e)
 simp only [execOp, ho, Instr.makeInterface]
 cases hu : P.underlying t with
 | none => simp [hu] at ht
 | some u => cases u <;> simp [hu] at ht <;> simp [run_underlying hu]
theorem ok_mkfn {f : Fn} {fi ca : List Opd} {fi' ca' : Array Operand} {o : Oper} {u v : List AV} (ho : o.op = .makeFunc f fi' ca') (h : Sim E K s a.tmps w) (h1 : chkOs fi fi'.toList = true) (h2 : chkOs ca ca'.toList = true)
  (hx : getOs s.sl fi = some u) (hy : getOs s.sl ca = some v) : OpOK P E K s a w o (.val (.fn f u v) s) := by
 have p := getOs_rep h h1 hx
 have q := getOs_rep h h2 hy
 refine opOK_pure h (pv := .func f (fi'.map a.eval) (ca'.map a.eval)) ?_ ?_ (fun _ e => by cases e)
 ·simp [execOp, ho, Instr.makeFunc]
 ·simp only [Rep]
  exact ⟨_, _, rfl, by simpa using p, by simpa using q⟩
theorem ok_extr {x : Opd} {y : Operand} {i : Nat} {o : Oper} {vs : List AV} {d : Did} (ho : o.op = .extract y i) (h : Sim E K s a.tmps w) (h1 : chkO x y = true)
  (hx : getO s.sl x = some (.tup vs)) (hd : vl s (vs[i]?) = some d) : OpOK P E K s a w o d := by
 obtain ⟨v, hv, rfl⟩ := vl_of hd
 have p := getO_rep h h1 hx
 simp only [Rep] at p
 obtain ⟨ws, hw, hr⟩ := p
 obtain ⟨u, hu, hru⟩ := RepL.get hr hv
 refine opOK_pure h (pv := u) ?_ hru ?_
 ·have : ws[i]? = some u := by simpa using hu
  simp only [execOp, ho, hw, Instr.extract, this]
  simp
 ·intro es e
  subst e
  have := getO_not_own hx
  simp only [getO, Option.map_eq_some_iff] at hx
  obtain ⟨z, _, hz⟩ := hx
  cases z <;> simp [AV.strip] at hz
  rename_i zs
  subst hz
  have : ∀ (l : List AV) (i : Nat), (AV.strips l)[i]? ≠ some (.own es) := fun l => by
   induction l with
   | nil => intro i; simp [AV.strips]
   | cons c l ih =>
     intro i
     cases i with
     | zero => simp only [AV.strips, List.getElem?_cons_zero, ne_eq, Option.some.injEq]; exact strip_not_own c es
     | succ i => simp only [AV.strips, List.getElem?_cons_succ]; exact ih i
  exact this _ _ hv
theorem ok_lenArr {n : Nat} {c : Call} {o : Oper} {y : Operand} {t e : TypeId} (ho : o.op = .call c) (h : Sim E K s a.tmps w) (hb : c.callee = .builtin .len) (hx : c.args.toList = [y]) (ht : c.argTypes.toList = [t])
  (hu : P.underlying t = some (.array n e)) : OpOK P E K s a w o (.val (.d (.int .i64 n)) s) := by
 refine opOK_pure h (pv := .int .i64 n) ?_ (rep_int' _ _) not_own_int
 have ha : c.args = #[y] := by rw [← Array.toArray_toList (xs := c.args), hx]
 have hta : c.argTypes = #[t] := by rw [← Array.toArray_toList (xs := c.argTypes), ht]
 simp [execOp, ho, resolve, hb, invoke, builtin, Builtin.len_, ha, hta, run_underlying hu, goInt]
end
end Go.Ab
namespace Go.Ab
variable [Glb]
section
variable {P : Program} {E : Env} {K : Ctx} {s : St} {a : Act} {w : World}
theorem und_str {t : TypeId} (h : isStrT P t = true) : P.underlying t = some .string := by
 unfold isStrT at h; split at h <;> simp_all
theorem und_elem {t e : TypeId} (h : elemT P t = some e) : P.underlying t = some (.slice e) := by
 unfold elemT at h; split at h <;> simp_all
theorem und_arr {t : TypeId} {p : Nat × TypeId} (h : arrT P t = some p) : P.underlying t = some (.array p.1 p.2) := by
 unfold arrT at h; split at h <;> simp_all
 subst h; simp
theorem und_kind {t : TypeId} {k : IntKind} (h : kindT P t = some k) : P.underlying t = some (.int k) := by
 unfold kindT at h; split at h <;> simp_all
theorem run_typeInfo {t : TypeId} {i : TypeInfo} (h : P.info? t = some i) : (typeInfo t).run P w = .ok i w := by simp [typeInfo, h]
theorem run_sizeOf {t : TypeId} {n : Nat} (h : sizeT P t = some n) : (sizeOf t).run P w = .ok n w := by
 unfold sizeT at h
 simp only [Option.map_eq_some_iff] at h
 obtain ⟨i, hi, rfl⟩ := h
 simp [sizeOf, run_typeInfo hi]
theorem run_isAgg {t : TypeId} {b : Bool} (h : aggT P t = some b) : (isAgg t).run P w = .ok b w := by
 unfold aggT at h
 split at h
 ·rename_i fs hu; cases h; simp [isAgg, run_underlying hu]
 ·rename_i n e hu; cases h; simp [isAgg, run_underlying hu]
 ·rename_i u h1 h2 hu
  cases h
  simp only [isAgg, Sem.run_bind, run_underlying hu, Result.andThen_ok]
  cases u <;> first | exact absurd rfl (h1 _) | exact absurd rfl (h2 _ _) | rfl
 ·simp at h
theorem run_asIntOf (k : IntKind) (n : Int) : (asIntOf (.int k n)).run P w = .ok (k, n) w := rfl
theorem asIdx_rep (h : Sim E K s a.tmps w) {x : Option Opd} {y : Option Operand} {d i : Nat} (hc : chkOO x y = true) (hi : asIdx s.sl x d = some i) :
  (y = none ∧ i = d) ∨ ∃ z k, y = some z ∧ a.eval z = .int k (i : Int) := by
 cases x with
 | none =>
   cases y <;> simp [chkOO] at hc
   simp only [asIdx, Option.some.injEq] at hi
   exact .inl ⟨rfl, hi.symm⟩
 | some x =>
   cases y <;> simp [chkOO] at hc
   rename_i z
   simp only [asIdx] at hi
   split at hi
   ·rename_i k n hx
    split at hi
    ·rename_i hn
     simp only [Option.some.injEq] at hi
     refine .inr ⟨z, k, rfl, ?_⟩
     rw [rep_int (getO_rep h hc hx)]
     congr 1
     omega
    ·simp at hi
   ·simp at hi
theorem run_bound {k : IntKind} {i y : Nat} {code : BoundsCode} (h : i ≤ y) : (Instr.sliceBound (.int k (i : Int)) y code).run P w = .ok i w := by
 simp only [Instr.sliceBound, Sem.run_bind, run_asIntOf, Result.andThen_ok]
 rw [if_pos ⟨by omega, by omega⟩]
 simp
theorem run_bounds (h : Sim E K s a.tmps w) {isS : Bool} {len cap : Nat} {lo hi : Option Opd} {lo' hi' : Option Operand} {i j : Nat} (h1 : chkOO lo lo' = true) (h2 : chkOO hi hi' = true)
  (e1 : asIdx s.sl lo 0 = some i) (e2 : asIdx s.sl hi len = some j) (hij : i ≤ j) (hj : j ≤ len) (hlen : len ≤ cap) :
  (Instr.sliceBounds isS len cap (lo'.map a.eval) (hi'.map a.eval) none).run P w = .ok (i, j, cap) w := by
 rcases asIdx_rep h h1 e1 with ⟨rfl, rfl⟩ | ⟨z, k, rfl, hz⟩ <;> rcases asIdx_rep h h2 e2 with ⟨rfl, rfl⟩ | ⟨z', k', rfl, hz'⟩
 ·simp [Instr.sliceBounds]
 ·simp [Instr.sliceBounds, hz', run_bound (show j ≤ cap by omega)]
 ·simp [Instr.sliceBounds, hz, run_bound hij]
 ·simp [Instr.sliceBounds, hz, hz', run_bound (show j ≤ cap by omega), run_bound hij]
theorem extract_list (l : List UInt8) (i j : Nat) : (ByteArray.mk l.toArray).extract i j = ⟨((l.take j).drop i).toArray⟩ := by
 rw [ByteArray.extract_mk, List.drop_take]
theorem ok_sliceStr {sz : Nat} {x : Opd} {lo hi : Option Opd} {x' : Operand} {lo' hi' mx : Option Operand} {t : TypeId} {o : Oper} {l : List UInt8} {i j : Nat} (ho : o.op = .slice t x' lo' hi' mx) (h : Sim E K s a.tmps w)
  (h1 : chkO x x' = true) (h2 : chkOO lo lo' = true) (h3 : chkOO hi hi' = true) (hm : mx = none) (ht : isStrT P t = true)
  (hx : getO s.sl x = some (.d (.str l))) (e1 : asIdx s.sl lo 0 = some i) (e2 : asIdx s.sl hi l.length = some j) (hij : i ≤ j ∧ j ≤ l.length) : OpOK P E K s a w o (.val (.d (.str ((l.take j).drop i))) s) := by
 have p := rep_str (getO_rep h h1 hx)
 have hu := und_str ht
 subst hm
 refine opOK_pure h (pv := .string ⟨((l.take j).drop i).toArray⟩) ?_ (rep_str' _) (fun _ e => by cases e)
 have hb := run_bounds (P := P) (isS := false) h h2 h3 e1 e2 hij.1 hij.2 (Nat.le_refl _)
 have hs : (ByteArray.mk l.toArray).size = l.length := size_mk l
 simp only [execOp, ho, p, Instr.sliceAt, Sem.run_bind, run_underlying hu, Result.andThen_ok, Instr.slice, hs, Option.map_none, Option.isSome_none, Bool.false_eq_true, if_false]
 rw [hb]
 simp only [Result.andThen_ok, Sem.run_pure, extract_list]
theorem add_addr (b o n : Nat) : Addr.add ⟨b, o, none⟩ n = ⟨b, o + n, none⟩ := by unfold Addr.add; split <;> simp_all
theorem list_rep {v : AV} {pv : Value} {es : List (List D)} (h : Rep K v pv) (hl : v.list? = some es) : RepD K.G (.lst es) pv := by
 cases v <;> simp [AV.list?] at hl
 ·rename_i x
  cases x <;> simp at hl
  subst hl
  simpa [Rep] using h
 ·subst hl
  simp only [Rep] at h
  subst h
  simp only [RepD]
  exact ⟨none, 0, rfl, by simp, by simp⟩
 ·subst hl
  simpa [Rep] using h
theorem ok_sliceLst {sz : Nat} {x : Opd} {lo hi : Option Opd} {x' : Operand} {lo' hi' mx : Option Operand} {t e : TypeId} {o : Oper} {v : AV} {l : List (List D)} {i j : Nat} (ho : o.op = .slice t x' lo' hi' mx) (h : Sim E K s a.tmps w)
  (h1 : chkO x x' = true) (h2 : chkOO lo lo' = true) (h3 : chkOO hi hi' = true) (hm : mx = none) (ht : elemT P t = some e) (hsz : sizeT P e = some sz)
  (hx : getO s.sl x = some v) (hl : v.list? = some l) (e1 : asIdx s.sl lo 0 = some i) (e2 : asIdx s.sl hi l.length = some j) (hij : i ≤ j ∧ j ≤ l.length) (hs : sizesB sz l = true) :
  OpOK P E K s a w o (.val (.d (.lst ((l.take j).drop i))) s) := by
 have p := list_rep (getO_rep h h1 hx) hl
 have hu := und_elem ht
 subst hm
 simp only [RepD] at p
 obtain ⟨ad, cap, hv, hcap, hrows⟩ := p
 have hb := run_bounds (P := P) (isS := true) h h2 h3 e1 e2 hij.1 hij.2 hcap
 refine opOK_pure h (pv := .slice (if cap = i then ad else ad.map (·.add (i * sz))) (j - i) (cap - i)) ?_ ?_ (fun _ e => by cases e)
 ·simp only [execOp, ho, hv, Instr.sliceAt, Sem.run_bind, run_underlying hu, Result.andThen_ok, Instr.slice, Option.map_none]
  rw [hb]
  simp only [Result.andThen_ok, run_sizeOf hsz, Sem.run_pure]
 ·simp only [Rep, RepD]
  have hlen : ((l.take j).drop i).length = j - i := by simp; omega
  refine ⟨_, _, by rw [hlen], by omega, fun hne => ?_⟩
  have hji : i < j := by
   rcases Nat.lt_or_ge i j with h' | h'
   ·exact h'
   ·exact absurd (List.length_eq_zero_iff.1 (by rw [hlen]; omega)) hne
  obtain ⟨b, off, z, ha, hr⟩ := hrows (by intro hn; subst hn; simp at hij; omega)
  have hz : z = sz := by
   cases l with
   | nil => simp at hij; omega
   | cons y l =>
     simp only [sizesB, beq_iff_eq] at hs
     simp only [RepRows] at hr
     omega
  subst hz
  refine ⟨b, off + i * z, z, ?_, RepRows.drop i (RepRows.take j hr)⟩
  rw [if_neg (by omega), ha]
  simp [add_addr]
theorem ok_slArr {n : Nat} {x : Opd} {lo hi : Option Opd} {x' : Operand} {lo' hi' mx : Option Operand} {t e : TypeId} {o : Oper} {r off i j : Nat} (ho : o.op = .slice t x' lo' hi' mx) (h : Sim E K s a.tmps w)
  (h1 : chkO x x' = true) (h2 : chkOO lo lo' = true) (h3 : chkOO hi hi' = true) (hm : mx = none) (ht : arrT P t = some (n, e)) (hsz : sizeT P e = some 1)
  (hx : getO s.sl x = some (.ptr r off)) (e1 : asIdx s.sl lo 0 = some i) (e2 : asIdx s.sl hi n = some j) (hij : i ≤ j ∧ j ≤ n) :
  OpOK P E K s a w o (.val (.sref r (off + i) (j - i)) s) := by
 have p := getO_rep h h1 hx
 have hu := und_arr ht
 subst hm
 simp only [Rep] at p
 obtain ⟨b, hρ, hv⟩ := p
 have hb := run_bounds (P := P) (isS := false) h h2 h3 e1 e2 hij.1 hij.2 (Nat.le_refl _)
 refine opOK_pure h (pv := .slice (some (if n = i then ⟨b, off, none⟩ else (⟨b, off, none⟩ : Addr).add (i * 1))) (j - i) (n - i)) ?_ ?_ (fun _ e => by cases e)
 ·simp only [execOp, ho, hv, Instr.sliceAt, Sem.run_bind, run_underlying hu, Result.andThen_ok, Instr.sureAddr, Sem.run_pure, Option.map_none]
  rw [hb]
  simp only [Result.andThen_ok, run_sizeOf hsz, Sem.run_pure]
 ·simp only [Rep]
  refine ⟨b, _, _, hρ, rfl, fun hne => ?_⟩
  rw [if_neg (by omega), add_addr]
  simp
theorem ok_fldA {off f : Nat} {x : Opd} {y : Operand} {t : TypeId} {o : Oper} {fs : Array Field} {g : Field} {sz : Nat} {v v' : AV} (ho : o.op = .fieldAddr t y f) (h : Sim E K s a.tmps w)
  (h1 : chkO x y = true) (ht : P.underlying t = some (.struct fs)) (hf : fs[f]? = some g) (hoff : g.offset = off) (hsz : sizeT P g.type = some sz) (hs : 0 < sz)
  (hx : getO s.sl x = some v) (hv : (∃ r o, v = .ptr r o ∧ v' = .ptr r (o + off)) ∨ (∃ cs o, v = .ept cs o ∧ v' = .ept cs (o + off))) : OpOK P E K s a w o (.val v' s) := by
 have p := getO_rep h h1 hx
 rcases hv with ⟨r, o', rfl, rfl⟩ | ⟨cs, o', rfl, rfl⟩
 ·simp only [Rep] at p
  obtain ⟨b, hρ, hv⟩ := p
  refine opOK_pure h (pv := .pointer (some ⟨b, o' + off, none⟩)) ?_ (by simp only [Rep]; exact ⟨b, hρ, rfl⟩) (fun _ e => by cases e)
  simp only [execOp, ho, hv, Instr.fieldAt, Sem.run_bind, run_underlying ht, Result.andThen_ok, hf, Instr.sureAddr, Sem.run_pure, fieldPlace, run_sizeOf hsz]
  rw [if_neg (by omega), hoff, add_addr]
  simp
 ·simp only [Rep] at p
  obtain ⟨b, o2, hv, hr⟩ := p
  refine opOK_pure h (pv := .pointer (some ⟨b, o2 + (o' + off), none⟩)) ?_ (by simp only [Rep]; exact ⟨b, o2, rfl, hr⟩) (fun _ e => by cases e)
  simp only [execOp, ho, hv, Instr.fieldAt, Sem.run_bind, run_underlying ht, Result.andThen_ok, hf, Instr.sureAddr, Sem.run_pure, fieldPlace, run_sizeOf hsz]
  rw [if_neg (by omega), hoff, add_addr]
  simp [Nat.add_assoc]
theorem agg_not_own {x : Opd} {cs : List AV} (hx : getO s.sl x = some (.agg cs)) : ∀ (i : Nat) es, cs[i]? ≠ some (.own es) := by
 simp only [getO, Option.map_eq_some_iff] at hx
 obtain ⟨z, _, hz⟩ := hx
 cases z <;> simp [AV.strip] at hz
 rename_i zs
 subst hz
 intro i es
 have : ∀ (l : List AV) (i : Nat), (AV.strips l)[i]? ≠ some (.own es) := fun l => by
  induction l with
  | nil => intro i; simp [AV.strips]
  | cons c l ih =>
    intro i
    cases i with
    | zero => simp only [AV.strips, List.getElem?_cons_zero, ne_eq, Option.some.injEq]; exact strip_not_own c es
    | succ i => simp only [AV.strips, List.getElem?_cons_succ]; exact ih i
 exact this _ _
theorem toList_extract (vs : Array Value) (i n : Nat) : (vs.extract i (i + n)).toList = (vs.toList.drop i).take n := by
 simp [List.extract_eq_take_drop]
theorem run_part {t : TypeId} {agg : Option Nat} {vs : Array Value} {cs : List AV} {off : Nat} {v : AV} (hr : RepL K cs vs.toList) (hc : chkAgg P agg t = true)
  (hv : partA agg cs off = some v) : ∃ pv, (part t vs off).run P w = .ok pv w ∧ Rep K v pv := by
 unfold chkAgg at hc
 unfold partA at hv
 split at hc
 ·rename_i n
  simp only [Bool.and_eq_true, beq_iff_eq] at hc
  simp only at hv
  split at hv
  ·rename_i hlen
   simp only [Option.some.injEq] at hv
   subst hv
   refine ⟨.agg (vs.extract off (off + n)), by simp [part, run_isAgg hc.1, run_sizeOf hc.2], ?_⟩
   simp only [Rep]
   exact ⟨_, rfl, by rw [toList_extract]; exact RepL.take n (RepL.drop off hr)⟩
  ·simp at hv
 ·simp only [Bool.and_eq_true, beq_iff_eq] at hc
  simp only at hv
  obtain ⟨u, hu, hru⟩ := RepL.get hr hv
  have : vs[off]? = some u := by simpa using hu
  exact ⟨u, by simp [part, run_isAgg hc.1, this], hru⟩
theorem part_not_own {x : Opd} {cs : List AV} {agg : Option Nat} {off : Nat} {v : AV} (hx : getO s.sl x = some (.agg cs))
  (hv : partA agg cs off = some v) : ∀ es, v ≠ .own es := by
 intro es e
 subst e
 unfold partA at hv
 cases agg with
 | none => exact agg_not_own hx _ _ hv
 | some n => simp only at hv; split at hv <;> simp at hv
theorem ok_fld {off f : Nat} {agg : Option Nat} {x : Opd} {y : Operand} {t : TypeId} {o : Oper} {fs : Array Field} {g : Field} {cs : List AV} {v : AV} (ho : o.op = .field t y f) (h : Sim E K s a.tmps w)
  (h1 : chkO x y = true) (ht : P.underlying t = some (.struct fs)) (hf : fs[f]? = some g) (hoff : g.offset = off) (hc : chkAgg P agg g.type = true)
  (hx : getO s.sl x = some (.agg cs)) (hv : partA agg cs off = some v) : OpOK P E K s a w o (.val v s) := by
 have p := getO_rep h h1 hx
 simp only [Rep] at p
 obtain ⟨vs, hvs, hr⟩ := p
 obtain ⟨pv, hrun, hrep⟩ := run_part (P := P) (w := w) hr hc hv
 refine opOK_pure h (pv := pv) ?_ hrep (part_not_own hx hv)
 simp only [execOp, ho, hvs, Instr.field, Sem.run_bind, run_underlying ht, Result.andThen_ok, hf, asAgg, Sem.run_pure, hoff, hrun]
theorem ok_idxV {n sz : Nat} {agg : Option Nat} {x i : Opd} {x' i' : Operand} {t e : TypeId} {o : Oper} {cs : List AV} {k : IntKind} {m : Int} {v : AV} (ho : o.op = .index t x' i') (h : Sim E K s a.tmps w)
  (h1 : chkO x x' = true) (h2 : chkO i i' = true) (ht : arrT P t = some (n, e)) (hsz : sizeT P e = some sz) (hc : chkAgg P agg e = true)
  (hx : getO s.sl x = some (.agg cs)) (hi : getO s.sl i = some (.d (.int k m))) (hm : ¬ (m < 0 ∨ ¬ m < n))
  (hv : partA agg cs (m.toNat * sz) = some v) : OpOK P E K s a w o (.val v s) := by
 have p := getO_rep h h1 hx
 have q := rep_int (getO_rep h h2 hi)
 simp only [Rep] at p
 obtain ⟨vs, hvs, hr⟩ := p
 obtain ⟨pv, hrun, hrep⟩ := run_part (P := P) (w := w) hr hc hv
 refine opOK_pure h (pv := pv) ?_ hrep (part_not_own hx hv)
 have hu := und_arr ht
 simp only [execOp, ho, hvs, q, Instr.index, Sem.run_bind, run_underlying hu, Result.andThen_ok, run_asIntOf]
 rw [if_pos (by omega)]
 simp only [Sem.run_bind, run_sizeOf hsz, Result.andThen_ok, hrun, Sem.run_pure]
theorem ok_idxS {x i : Opd} {x' i' : Operand} {t : TypeId} {o : Oper} {l : List UInt8} {k : IntKind} {n : Int} {b : UInt8} (ho : o.op = .index t x' i') (h : Sim E K s a.tmps w)
  (h1 : chkO x x' = true) (h2 : chkO i i' = true) (ht : isStrT P t = true)
  (hx : getO s.sl x = some (.d (.str l))) (hi : getO s.sl i = some (.d (.int k n))) (hn : ¬ n < 0) (hb : l[n.toNat]? = some b) : OpOK P E K s a w o (.val (.d (.int .u8 b.toNat)) s) := by
 have p := rep_str (getO_rep h h1 hx)
 have q := rep_int (getO_rep h h2 hi)
 have hu := und_str ht
 refine opOK_pure h (pv := .int .u8 b.toNat) ?_ (rep_int' _ _) not_own_int
 have hlt : n.toNat < l.length := (List.getElem?_eq_some_iff.1 hb).1
 have hget : (ByteArray.mk l.toArray)[n.toNat]? = some b := by
  rw [ByteArray.getElem?_lt' _ _ (by rw [size_mk]; exact hlt)]
  congr 1
  have h2 := (List.getElem?_eq_some_iff.1 hb).2
  show (l.toArray)[n.toNat] = b
  simpa using h2
 simp only [execOp, ho, p, q, Instr.index, Sem.run_bind, run_underlying hu, Result.andThen_ok, run_asIntOf]
 rw [if_pos (by omega), hget]
 simp
theorem ok_idxAarr {n sz : Nat} {x i : Opd} {x' i' : Operand} {t e : TypeId} {o : Oper} {k : IntKind} {m : Int} {v v' : AV} (ho : o.op = .indexAddr t x' i') (h : Sim E K s a.tmps w)
  (h1 : chkO x x' = true) (h2 : chkO i i' = true) (ht : arrT P t = some (n, e)) (hsz : sizeT P e = some sz)
  (hi : getO s.sl i = some (.d (.int k m))) (hm : ¬ m < 0) (hm' : m < n)
  (hx : getO s.sl x = some v) (hv : (∃ r o, v = .ptr r o ∧ v' = .ptr r (o + m.toNat * sz)) ∨ (∃ cs o, v = .ept cs o ∧ v' = .ept cs (o + m.toNat * sz))) : OpOK P E K s a w o (.val v' s) := by
 have p := getO_rep h h1 hx
 have q := rep_int (getO_rep h h2 hi)
 have hu := und_arr ht
 rcases hv with ⟨r, o', rfl, rfl⟩ | ⟨cs, o', rfl, rfl⟩
 ·simp only [Rep] at p
  obtain ⟨b, hρ, hv⟩ := p
  refine opOK_pure h (pv := .pointer (some ⟨b, o' + m.toNat * sz, none⟩)) ?_ (by simp only [Rep]; exact ⟨b, hρ, rfl⟩) (fun _ e => by cases e)
  simp only [execOp, ho, hv, q, Instr.indexAt, Sem.run_bind, run_underlying hu, Result.andThen_ok, run_asIntOf, Instr.sureAddr, Sem.run_pure]
  rw [if_pos ⟨by omega, hm'⟩]
  simp [run_sizeOf hsz, add_addr]
 ·simp only [Rep] at p
  obtain ⟨b, o2, hv, hr⟩ := p
  refine opOK_pure h (pv := .pointer (some ⟨b, o2 + (o' + m.toNat * sz), none⟩)) ?_ (by simp only [Rep]; exact ⟨b, o2, rfl, hr⟩) (fun _ e => by cases e)
  simp only [execOp, ho, hv, q, Instr.indexAt, Sem.run_bind, run_underlying hu, Result.andThen_ok, run_asIntOf, Instr.sureAddr, Sem.run_pure]
  rw [if_pos ⟨by omega, hm'⟩]
  simp [run_sizeOf hsz, add_addr, Nat.add_assoc]
theorem ok_idxAlst {sz : Nat} {x i : Opd} {x' i' : Operand} {t e : TypeId} {o : Oper} {k : IntKind} {m : Int} {v : AV} {es : List (List D)} {cs : List D} (ho : o.op = .indexAddr t x' i') (h : Sim E K s a.tmps w)
  (h1 : chkO x x' = true) (h2 : chkO i i' = true) (ht : elemT P t = some e) (hsz : sizeT P e = some sz)
  (hi : getO s.sl i = some (.d (.int k m))) (hm : ¬ m < 0) (hx : getO s.sl x = some v) (hl : v.list? = some es) (hcs : es[m.toNat]? = some cs) (hlen : cs.length = sz) : OpOK P E K s a w o (.val (.ept cs 0) s) := by
 have p := list_rep (getO_rep h h1 hx) hl
 have q := rep_int (getO_rep h h2 hi)
 have hu := und_elem ht
 simp only [RepD] at p
 obtain ⟨ad, cap, hv, hcap, hrows⟩ := p
 have hlt := (List.getElem?_eq_some_iff.1 hcs).1
 obtain ⟨b, off, z, rfl, hr⟩ := hrows (by intro e; subst e; simp at hlt)
 have hg := RepRows.get hr hcs
 refine opOK_pure h (pv := .pointer (some ⟨b, off + m.toNat * z + 0, none⟩)) ?_ (by simp only [Rep]; exact ⟨b, off + m.toNat * z, rfl, hg.2⟩) (fun _ e => by cases e)
 have hz : z = sz := by omega
 subst hz
 simp only [execOp, ho, hv, q, Instr.indexAt, Sem.run_bind, run_underlying hu, Result.andThen_ok, run_asIntOf, Sem.run_pure]
 rw [if_pos ⟨by omega, by omega⟩]
 simp [run_sizeOf hsz, add_addr]
theorem ok_idxAsref {x i : Opd} {x' i' : Operand} {t e : TypeId} {o : Oper} {k : IntKind} {m : Int} {r off n : Nat} (ho : o.op = .indexAddr t x' i') (h : Sim E K s a.tmps w)
  (h1 : chkO x x' = true) (h2 : chkO i i' = true) (ht : elemT P t = some e) (hsz : sizeT P e = some 1)
  (hi : getO s.sl i = some (.d (.int k m))) (hm : ¬ m < 0) (hx : getO s.sl x = some (.sref r off n)) (hlt : m < n) : OpOK P E K s a w o (.val (.ptr r (off + m.toNat)) s) := by
 have p := getO_rep h h1 hx
 have q := rep_int (getO_rep h h2 hi)
 have hu := und_elem ht
 simp only [Rep] at p
 obtain ⟨b, ad, cap, hρ, hv, had⟩ := p
 have had := had (by omega)
 subst had
 refine opOK_pure h (pv := .pointer (some ⟨b, off + m.toNat, none⟩)) ?_ (by simp only [Rep]; exact ⟨b, hρ, rfl⟩) (fun _ e => by cases e)
 simp only [execOp, ho, hv, q, Instr.indexAt, Sem.run_bind, run_underlying hu, Result.andThen_ok, run_asIntOf, Sem.run_pure]
 rw [if_pos ⟨by omega, by omega⟩]
 simp [run_sizeOf hsz, add_addr]
theorem ok_assertT {t xt : TypeId} {zero : AV} {x : Opd} {y : Operand} {o : Oper} {v : AV} {z : Value} (ho : o.op = .typeAssert y xt t true) (h : Sim E K s a.tmps w) (h1 : chkO x y = true)
  (ht : (match P.underlying t with | some (.interface _) | none => false | _ => true) = true) (hz : (P.info? t).bind (·.zero) = some z) (hzc : chkV zero z = true)
  (hx : getO s.sl x = some v) {r : AV} (hv : (∃ t' u, v = .ifc t' u ∧ r = if t' = t then .tup [u, .d (.bool true)] else .tup [zero, .d (.bool false)]) ∨ (v = .d .nilI ∧ r = .tup [zero, .d (.bool false)])) : OpOK P E K s a w o (.val r s) := by
 have p := getO_rep h h1 hx
 have hzrun : (zeroValue t).run P w = .ok z w := by
  cases hi : P.info? t with
  | none => simp [hi] at hz
  | some i => simp [hi] at hz; simp [zeroValue, run_typeInfo hi, hz]
 have hzr : Rep K zero z := chkV_rep _ _ hzc
 obtain ⟨u, hu⟩ : ∃ u, P.underlying t = some u := by
  cases hu : P.underlying t with
  | none => simp [hu] at ht
  | some u => exact ⟨u, rfl⟩
 have hni : ∀ ms, u ≠ .interface ms := fun ms e => by subst e; simp [hu] at ht
 rcases hv with ⟨t', u', rfl, rfl⟩ | ⟨rfl, rfl⟩
 ·simp only [Rep] at p
  obtain ⟨y', hy, hru⟩ := p
  by_cases he : t' = t
  ·rw [if_pos he]
   refine opOK_pure h (pv := .tuple #[y', .bool true]) ?_ ?_ (fun _ e => by cases e)
   ·simp only [execOp, ho, hy, Instr.typeAssert, Sem.run_bind, run_underlying hu, Result.andThen_ok]
    cases u <;> first | exact absurd rfl (hni _) | simp [he]
   ·simp only [Rep]
    exact ⟨_, rfl, by simp [RepL, hru, Rep, RepD]⟩
  ·rw [if_neg he]
   refine opOK_pure h (pv := .tuple #[z, .bool false]) ?_ ?_ (fun _ e => by cases e)
   ·simp only [execOp, ho, hy, Instr.typeAssert, Sem.run_bind, run_underlying hu, Result.andThen_ok]
    cases u <;> first | exact absurd rfl (hni _) | simp [he, hzrun]
   ·simp only [Rep]
    exact ⟨_, rfl, by simp [RepL, hzr, Rep, RepD]⟩
 ·have hy : a.eval y = .nilIface := by simpa [Rep, RepD] using p
  refine opOK_pure h (pv := .tuple #[z, .bool false]) ?_ ?_ (fun _ e => by cases e)
  ·simp only [execOp, ho, hy, Instr.typeAssert, Sem.run_bind, run_underlying hu, Result.andThen_ok]
   cases u <;> first | exact absurd rfl (hni _) | simp [hzrun]
  ·simp only [Rep]
   exact ⟨_, rfl, by simp [RepL, hzr, Rep, RepD]⟩
theorem one_arg {α : Type} {l : Array α} {y : α} (h : l.toList = [y]) : l = #[y] := by rw [← Array.toArray_toList (xs := l), h]
theorem two_args {α : Type} {l : Array α} {y z : α} (h : l.toList = [y, z]) : l = #[y, z] := by rw [← Array.toArray_toList (xs := l), h]
theorem ok_len {c : Call} {o : Oper} {x : Opd} {y : Operand} {t : TypeId} {v : AV} {n : Int} (ho : o.op = .call c) (h : Sim E K s a.tmps w) (hb : c.callee = .builtin .len) (hx' : c.args.toList = [y]) (ht : c.argTypes.toList = [t])
  (h1 : chkO x y = true) (hx : getO s.sl x = some v)
  (hv : (isStrT P t = true ∧ ∃ l, v = .d (.str l) ∧ n = l.length) ∨ ((elemT P t).isSome = true ∧ ((∃ r o m, v = .sref r o m ∧ n = m) ∨ ∃ l, v.list? = some l ∧ n = l.length))) : OpOK P E K s a w o (.val (.d (.int .i64 n)) s) := by
 have p := getO_rep h h1 hx
 refine opOK_pure h (pv := .int .i64 n) ?_ (rep_int' _ _) not_own_int
 have ha := one_arg hx'
 have hta := one_arg ht
 rcases hv with ⟨hs, l, rfl, rfl⟩ | ⟨hs, ⟨r, o', m, rfl, rfl⟩ | ⟨l, hl, rfl⟩⟩
 ·have q := rep_str p
  simp [execOp, ho, resolve, hb, invoke, builtin, Builtin.len_, ha, hta, run_underlying (und_str hs), goInt, q, ByteArray.size_mk']
 ·obtain ⟨e, he⟩ := Option.isSome_iff_exists.1 hs
  simp only [Rep] at p
  obtain ⟨b, ad, cc, _, hv, _⟩ := p
  simp [execOp, ho, resolve, hb, invoke, builtin, Builtin.len_, ha, hta, run_underlying (und_elem he), goInt, hv]
 ·obtain ⟨e, he⟩ := Option.isSome_iff_exists.1 hs
  have q := list_rep p hl
  simp only [RepD] at q
  obtain ⟨ad, cap, hv, _, _⟩ := q
  simp [execOp, ho, resolve, hb, invoke, builtin, Builtin.len_, ha, hta, run_underlying (und_elem he), goInt, hv]
theorem ok_minmax {mx : Bool} {c : Call} {o : Oper} {x y : Opd} {x' y' : Operand} {k : IntKind} {m n : Int} (ho : o.op = .call c) (h : Sim E K s a.tmps w) (hb : c.callee = .builtin (if mx then .max else .min)) (hx' : c.args.toList = [x', y'])
  (h1 : chkO x x' = true) (h2 : chkO y y' = true) (hx : getO s.sl x = some (.d (.int k m))) (hy : getO s.sl y = some (.d (.int k n))) :
  OpOK P E K s a w o (.val (.d (.int k (if mx then (if n > m then n else m) else (if n < m then n else m)))) s) := by
 have p := rep_int (getO_rep h h1 hx)
 have q := rep_int (getO_rep h h2 hy)
 have ha := two_args hx'
 cases mx
 ·refine opOK_pure h (pv := .int k (if n < m then n else m)) ?_ (by simp [Rep, RepD]) not_own_int
  simp only [Bool.false_eq_true, if_false] at hb
  simp [execOp, ho, resolve, hb, invoke, builtin, ha, p, q, run_min_int2]
 ·refine opOK_pure h (pv := .int k (if n > m then n else m)) ?_ (by simp [Rep, RepD]) not_own_int
  simp only [if_true] at hb
  simp [execOp, ho, resolve, hb, invoke, builtin, ha, p, q, run_max_int2]
theorem ok_nilchk {x : Opd} {y : Operand} {o : Oper} {v : AV} (ho : o.op = .nilCheck y) (h : Sim E K s a.tmps w) (h1 : chkO x y = true) (hx : getO s.sl x = some v)
  (hv : (∃ r o, v = .ptr r o) ∨ (∃ cs o, v = .ept cs o) ∨ (∃ id u z, v = .fn (.func id) u z)) : OpOK P E K s a w o (.val v s) := by
 have p := getO_rep h h1 hx
 rcases hv with ⟨r, o', rfl⟩ | ⟨cs, o', rfl⟩ | ⟨id, u, z, rfl⟩
 ·have p' := p
  simp only [Rep] at p
  obtain ⟨b, hρ, hv⟩ := p
  exact opOK_pure h (by simp [execOp, ho, hv]) p' (fun _ e => by cases e)
 ·have p' := p
  simp only [Rep] at p
  obtain ⟨b, o2, hv, hr⟩ := p
  exact opOK_pure h (by simp [execOp, ho, hv]) p' (fun _ e => by cases e)
 ·have p' := p
  simp only [Rep] at p
  obtain ⟨va, vc, hv, _, _⟩ := p
  exact opOK_pure h (by simp [execOp, ho, hv]) p' (fun _ e => by cases e)
theorem ok_panic {x : Opd} {y : Operand} {o : Oper} {t : TypeId} {v : AV} (ho : o.op = .panic y) (h : Sim E K s a.tmps w) (h1 : chkO x y = true) (hx : getO s.sl x = some (.ifc t v)) : OpOK P E K s a w o (.pan (.ifc t v) s) := by
 have p := getO_rep h h1 hx
 have p' := p
 simp only [Rep] at p
 obtain ⟨u, hu, hr⟩ := p
 exact ⟨t, v, a.eval y, rfl, rfl, by simp [execOp, ho, Instr.panic, hu], p'⟩
end
end Go.Ab
namespace Go.Ab
variable [Glb]
section
variable {P : Program} {E : Env} {K : Ctx} {s : St} {a : Act} {w : World}
theorem RepCells.vals {b : Nat} : ∀ {l : List D} {o : Nat}, RepCells K.G b o l → ∃ vs, RepL K (l.map .d) vs ∧ ∀ (j : Nat) v, vs[j]? = some v → K.G b (o + j) = some v
 | [], o, _ => ⟨[], by simp [RepL], fun j v h => by simp at h⟩
 | x :: l, o, h => by
   simp only [RepCells] at h
   obtain ⟨⟨v, hv, hr⟩, hl⟩ := h
   obtain ⟨vs, h1, h2⟩ := RepCells.vals hl
   refine ⟨v :: vs, ?_, fun j u hj => ?_⟩
   ·simp only [List.map_cons, RepL]
    exact ⟨v, vs, rfl, by simpa [Rep] using hr, h1⟩
   ·cases j with
    | zero => simp only [List.getElem?_cons_zero, Option.some.injEq] at hj; subst hj; simpa using hv
    | succ j =>
      simp only [List.getElem?_cons_succ] at hj
      have := h2 j u hj
      rwa [show o + (j + 1) = o + 1 + j by omega]
theorem run_load_cell {ad : Addr} {v : Value} (h : w.cell? ad = some v) : (Go.load ad).run P w = .ok v w := by simp [run_load, h]
theorem run_loadVar {t : TypeId} {agg : Option Nat} {b o : Nat} {cs : List AV} {vs : List Value} {off : Nat} {v : AV} (hc : chkAgg P agg t = true) (hr : RepL K cs vs)
  (hcell : ∀ (j : Nat) u, vs[j]? = some u → w.cell? ⟨b, o + j, none⟩ = some u) (hv : partA agg cs off = some v) : ∃ pv, (loadVar t ⟨b, o + off, none⟩).run P w = .ok pv w ∧ Rep K v pv := by
 unfold chkAgg at hc
 unfold partA at hv
 split at hc
 ·rename_i n
  simp only [Bool.and_eq_true, beq_iff_eq] at hc
  simp only at hv
  split at hv
  ·rename_i hlen
   simp only [Option.some.injEq] at hv
   subst hv
   have hl : ((vs.drop off).take n).length = n := by
    have := hr.length
    simp; omega
   have hrun := run_loadCells_list (P := P) w ⟨b, o + off, none⟩ ((vs.drop off).take n) (fun j u hj => by
    rw [add_addr]
    have : vs[off + j]? = some u := by
     rw [List.getElem?_take] at hj
     split at hj
     ·rwa [List.getElem?_drop] at hj
     ·simp at hj
    rw [show o + off + j = o + (off + j) by omega]
    exact hcell _ _ this)
   rw [hl] at hrun
   refine ⟨.agg ((vs.drop off).take n).toArray, by simp [loadVar, run_isAgg hc.1, run_sizeOf hc.2, hrun], ?_⟩
   simp only [Rep]
   exact ⟨_, rfl, by simpa using RepL.take n (RepL.drop off hr)⟩
  ·simp at hv
 ·simp only [Bool.and_eq_true, beq_iff_eq] at hc
  simp only at hv
  obtain ⟨u, hu, hru⟩ := RepL.get hr hv
  exact ⟨u, by simp only [loadVar, Sem.run_bind, run_isAgg hc.1, Result.andThen_ok, Bool.false_eq_true, if_false]; exact run_load_cell (hcell _ _ hu), hru⟩
theorem loadAt_ptr {rf : Refs} {agg : Option Nat} {r off : Nat} {v : AV} (h : loadAt rf agg (.ptr r off) = some v) : ∃ cs, rf[r]? = some cs ∧ isMp cs = false ∧ partA agg cs off = some v := by
 unfold loadAt at h
 cases agg with
 | none =>
   simp only at h
   split at h
   ·rename_i cs hcs
    split at h
    ·rename_i hmp
     exact ⟨cs, hcs, hmp, h⟩
    ·simp at h
   ·simp at h
 | some n =>
   simp only [Option.map_eq_some_iff] at h
   obtain ⟨l, hl, rfl⟩ := h
   unfold Refs.cellsAt at hl
   split at hl
   ·rename_i cs hcs
    split at hl
    ·rename_i hlen
     simp only [Option.some.injEq] at hl
     subst hl
     exact ⟨cs, hcs, hlen.1, by simp [partA, hlen.2]⟩
    ·simp at hl
   ·simp at hl
theorem loadAt_ept {rf : Refs} {agg : Option Nat} {cs : List D} {off : Nat} {v : AV} (h : loadAt rf agg (.ept cs off) = some v) : partA agg (cs.map .d) off = some v := by
 unfold loadAt at h
 cases agg with
 | none => simpa [partA] using h
 | some n =>
   simp only at h
   split at h
   ·rename_i hlen
    simp only [Option.some.injEq] at h
    subst h
    simp [partA, hlen, List.map_drop, List.map_take]
   ·simp at h
theorem run_load_any (h : Sim E K s a.tmps w) {t : TypeId} {agg : Option Nat} {p : AV} {pv : Value} {v : AV} (hc : chkAgg P agg t = true) (hp : Rep K p pv) (hv : loadAt s.rf agg p = some v) :
  ∃ ad u, pv = .pointer (some ad) ∧ (loadVar t ad).run P w = .ok u w ∧ Rep K v u := by
 cases p <;> try (simp [loadAt] at hv; done)
 ·rename_i r off
  obtain ⟨cs, hcs, hmp, hpart⟩ := loadAt_ptr hv
  obtain ⟨b, vs, el, hρ, hb, hr⟩ := h.refs_cells hcs hmp
  simp only [Rep] at hp
  obtain ⟨b', hρ', rfl⟩ := hp
  rw [hρ] at hρ'
  cases hρ'
  obtain ⟨u, hrun, hru⟩ := run_loadVar (P := P) (w := w) (b := b) (o := 0) hc hr (fun j u hj => by
   rw [cell_of hb, Nat.zero_add]
   simpa using hj) hpart
  exact ⟨⟨b, off, none⟩, u, rfl, by simpa using hrun, hru⟩
 ·rename_i cs off
  have hpart := loadAt_ept hv
  simp only [Rep] at hp
  obtain ⟨b, o, rfl, hcells⟩ := hp
  obtain ⟨vs, hr, hG⟩ := hcells.vals
  obtain ⟨u, hrun, hru⟩ := run_loadVar (P := P) (w := w) (b := b) (o := o) hc hr (fun j u hj => h.cells b (o + j) u (hG j u hj)) hpart
  exact ⟨_, u, rfl, hrun, hru⟩
theorem ok_load {agg : Option Nat} {x : Opd} {y : Operand} {t : TypeId} {o : Oper} {p : AV} {d : Did} (ho : o.op = .load t y) (h : Sim E K s a.tmps w) (h1 : chkO x y = true) (hc : chkAgg P agg t = true)
  (hx : getO s.sl x = some p) (hd : vl s ((loadAt s.rf agg p).map AV.strip) = some d) : OpOK P E K s a w o d := by
 obtain ⟨v, hv, rfl⟩ := vl_of hd
 simp only [Option.map_eq_some_iff] at hv
 obtain ⟨v0, hv0, rfl⟩ := hv
 obtain ⟨ad, u, hpv, hrun, hru⟩ := run_load_any h hc (getO_rep h h1 hx) hv0
 refine opOK_pure h (pv := u) ?_ (Rep.strip _ _ hru) (strip_not_own _)
 simp only [execOp, ho, hpv, Instr.loadAt, Instr.sureAddr, Sem.run_bind, Sem.run_pure, Result.andThen_ok, hrun]
theorem ok_takeload {x : Opd} {y : Operand} {t : TypeId} {o : Oper} {r off : Nat} {v : AV} {cs : List AV} (ho : o.op = .load t y) (h : Sim E K s a.tmps w) (h1 : chkO x y = true) (hc : chkAgg P none t = true)
  (hx : getO s.sl x = some (.ptr r off)) (hv : loadAt s.rf none (.ptr r off) = some v) (hcs : s.rf[r]? = some cs) : OpOK P E K s a w o (.val v { s with rf := s.rf.set r (cs.set off v.strip) }) := by
 obtain ⟨ad, u, hpv, hrun, hru⟩ := run_load_any h hc (getO_rep h h1 hx) hv
 obtain ⟨cs', hcs', hmp, hget⟩ := loadAt_ptr hv
 rw [hcs] at hcs'
 cases hcs'
 have hget : cs[off]? = some v := hget
 obtain ⟨b, vs, el, hρ, hb, hr⟩ := h.refs_cells hcs hmp
 obtain ⟨u', hu', hru'⟩ := RepL.get hr hget
 have hp := getO_rep h h1 hx
 simp only [Rep] at hp
 obtain ⟨b', hρ', hpv'⟩ := hp
 rw [hρ] at hρ'
 cases hρ'
 rw [hpv] at hpv'
 cases hpv'
 have huu : u = u' := by
  simp only [chkAgg, Bool.and_eq_true, beq_iff_eq] at hc
  have h2 : (loadVar t ⟨b, off, none⟩).run P w = .ok u' w := by
   simp only [loadVar, Sem.run_bind, run_isAgg hc.1, Result.andThen_ok, Bool.false_eq_true, if_false]
   exact run_load_cell (by rw [cell_of hb]; simpa using hu')
  rw [h2] at hrun
  cases hrun; rfl
 subst huu
 have hset : RepL K (cs.set off v.strip) vs.toList := by
  have := RepL.set (i := off) hr (Rep.strip _ _ hru)
  rwa [show vs.toList.set off u = vs.toList from by
   apply List.ext_getElem?
   intro j
   by_cases hj : off = j
   ·subst hj
    rw [List.getElem?_set_self (List.getElem?_eq_some_iff.1 hu').1, hu']
   ·rw [List.getElem?_set_ne hj]] at this
 have hsim := h.setRef (w' := w) (i0 := none) hcs hρ hb (isMp_set_strip hmp hget) hset hb (fun _ _ => rfl) rfl rfl rfl rfl (fun i es hi _ => by
  by_cases e : off = i
  ·subst e
   rw [List.getElem?_set_self (List.getElem?_eq_some_iff.1 hget).1] at hi
   simp only [Option.some.injEq] at hi
   exact absurd hi (strip_not_own v es)
  ·rw [List.getElem?_set_ne e] at hi
   exact ⟨hi, rfl⟩) (fun i es v hi => by simp at hi)
 refine ⟨u, w, K, ?_, hsim, hru, fun es e => ?_, Up.refl _ _⟩
 ·simp only [execOp, ho, hpv, Instr.loadAt, Instr.sureAddr, Sem.run_bind, Sem.run_pure, Result.andThen_ok, hrun]
 ·subst e
  have hh : holds K s a.tmps w (.rf r off) (.own es) u := ⟨cs, b, hcs, hget, hρ, by rw [cell_of hb]; simpa using hu'⟩
  refine ⟨h.own _ _ _ hh, fun bb hbb => ⟨h.tO _ _ _ _ hh hbb, fun ℓ es' v' _ h2 hb2 => ?_⟩⟩
  have h2' : holds K s a.tmps w ℓ (.own es') v' ∧ ℓ ≠ .rf r off := by
   cases ℓ with
   | sl t => exact ⟨h2, by simp⟩
   | rf r' i =>
     obtain ⟨cs1, β, g1, g2, g3, g4⟩ := h2
     simp only at g1
     by_cases e : r = r'
     ·subst e
      rw [List.getElem?_set_self (List.getElem?_eq_some_iff.1 hcs).1] at g1
      cases g1
      by_cases e2 : off = i
      ·subst e2
       rw [List.getElem?_set_self (List.getElem?_eq_some_iff.1 hget).1] at g2
       simp only [Option.some.injEq] at g2
       exact absurd g2 (strip_not_own _ _)
      ·rw [List.getElem?_set_ne e2] at g2
       exact ⟨⟨cs, β, hcs, g2, g3, g4⟩, by simp; omega⟩
     ·rw [List.getElem?_set_ne e] at g1
      exact ⟨⟨cs1, β, g1, g2, g3, g4⟩, by simp; omega⟩
  exact h2'.2 (h.uniq ℓ (.rf r off) es' es v' u bb h2'.1 hh hb2 hbb)
theorem cellFree {b o : Nat} {c : Array Value} {el : TypeId} {fz : Nat × Nat} (h : w.heap[b]? = some (.cells c el fz)) (hz : fz.1 = fz.2 ∨ c.size ≤ fz.1) (ho : o < c.size) : w.frozen? ⟨b, o, none⟩ = false := by
 obtain ⟨lo, hi⟩ := fz
 simp only at hz
 simp only [World.frozen?, h, Bool.and_eq_false_imp, decide_eq_true_eq, decide_eq_false_iff_not]
 omega
theorem heap_set {b o : Nat} {c : Array Value} {el : TypeId} {fz : Nat × Nat} {v : Value} (h : w.heap[b]? = some (.cells c el fz)) : (w.setCell ⟨b, o, none⟩ v).heap[b]? = some (.cells (c.setIfInBounds o v) el fz) := by
 simp [World.setCell, Array.getElem?_modify, h]
theorem heap_set_ne {b k o : Nat} {v : Value} (h : k ≠ b) : (w.setCell ⟨b, o, none⟩ v).heap[k]? = w.heap[k]? := by
 simp only [World.setCell, Array.getElem?_modify]
 rw [if_neg (by omega)]
theorem run_storeCells {b : Nat} {el : TypeId} {fz : Nat × Nat} : ∀ (vs : List Value) (off i : Nat) (c : List Value) (w : World), w.heap[b]? = some (.cells c.toArray el fz) → off + i + vs.length ≤ c.length →
  (∀ v, v ∈ vs → v.oneCell' = true) → (fz.1 = fz.2 ∨ c.length ≤ fz.1) →
  ∃ w', (storeCells ⟨b, off, none⟩ vs i).run P w = .ok () w' ∧ w'.heap[b]? = some (.cells (setRangeV c (off + i) vs).toArray el fz) ∧ (∀ k, k ≠ b → w'.heap[k]? = w.heap[k]?) ∧ w'.heap.size = w.heap.size ∧ w'.os = w.os ∧ w'.tape = w.tape ∧ w'.output = w.output
 | [], off, i, c, w, h, _, _, _ => ⟨w, by simp [storeCells], by simpa [setRangeV] using h, fun _ _ => rfl, rfl, rfl, rfl, rfl⟩
 | v :: vs, off, i, c, w, h, hl, hone, hz => by
   simp only [List.length_cons] at hl
   have hcell : w.cell? ⟨b, off + i, none⟩ = some c[off + i] := by
    rw [cell_of h]
    simp
   have hfr : w.frozen? ⟨b, off + i, none⟩ = false := cellFree h (by simpa using hz) (by simp; omega)
   have h1 : (w.setCell ⟨b, off + i, none⟩ v).heap[b]? = some (.cells (c.set (off + i) v).toArray el fz) := by
    rw [heap_set h]; simp
   obtain ⟨w', hr, g1, g2, g3, g4, g5, g6⟩ := run_storeCells vs off (i + 1) (c.set (off + i) v) (w.setCell ⟨b, off + i, none⟩ v) h1 (by simp; omega) (fun u hu => hone u (List.mem_cons_of_mem _ hu)) (by simpa using hz)
   refine ⟨w', ?_, by simpa [setRangeV, Nat.add_assoc] using g1, fun k hk => by rw [g2 k hk, heap_set_ne hk], by rw [g3]; simp, by rw [g4]; rfl, by rw [g5]; rfl, by rw [g6]; rfl⟩
   have hst : (Go.store ⟨b, off + i, none⟩ v).run P w = .ok () (w.setCell ⟨b, off + i, none⟩ v) := by
    rw [run_store P w _ v _ (hone v (by simp)), hcell]
    simp [hfr]
   simp only [storeCells, Sem.run_bind, add_addr, hst, Result.andThen_ok, hr]
theorem one_rep {x : AV} {v : Value} (h : x.one = true) (hr : Rep K x v) : v.oneCell' = true := by
 cases x <;> simp only [AV.one, Bool.false_eq_true] at h <;> simp only [Rep] at hr
 ·rename_i d
  cases d <;> simp only [RepD] at hr
  all_goals first
   | (subst hr; rfl)
   | (obtain ⟨_, _, rfl, _⟩ := hr; rfl)
 ·subst hr; rfl
 ·simp only [RepD] at hr
  obtain ⟨_, _, rfl, _⟩ := hr; rfl
 ·obtain ⟨_, _, rfl⟩ := hr; rfl
 ·obtain ⟨_, _, rfl, _⟩ := hr; rfl
 ·obtain ⟨_, _, _, _, rfl, _⟩ := hr; rfl
 ·obtain ⟨_, _, rfl⟩ := hr; rfl
 ·obtain ⟨_, _, rfl, _⟩ := hr; rfl
 ·obtain ⟨_, rfl, _⟩ := hr; rfl
theorem ones_rep : ∀ {l : List AV} {vs : List Value}, l.all AV.one = true → RepL K l vs → ∀ v, v ∈ vs → v.oneCell' = true
 | [], vs, _, hr, v, hv => by simp only [RepL] at hr; subst hr; simp at hv
 | x :: l, vs, h, hr, v, hv => by
   simp only [List.all_cons, Bool.and_eq_true] at h
   simp only [RepL] at hr
   obtain ⟨u, r, rfl, hx, hl⟩ := hr
   simp only [List.mem_cons] at hv
   rcases hv with rfl | hv
   ·exact one_rep h.1 hx
   ·exact ones_rep h.2 hl v hv
theorem cells_rep {x : AV} {v : Value} (h : Rep K x v) (hone : x.one = true ∨ ∃ cs, x = .agg cs) : RepL K x.cellsO v.cells.toList := by
 rcases hone with h1 | ⟨cs, rfl⟩
 ·have := one_rep h1 h
  have hv : v.cells = #[v] := by cases v <;> simp [Value.oneCell', Value.cells] at this ⊢
  rw [hv]
  cases x <;> simp only [AV.one, Bool.false_eq_true] at h1 <;> (simp only [AV.cellsO, RepL]; exact ⟨v, [], rfl, h, rfl⟩)
 ·simp only [Rep] at h
  obtain ⟨vs, rfl, hr⟩ := h
  simp only [AV.cellsO, Value.cells]
  exact RepL.strips _ _ hr
theorem cells_rep' {x : AV} {v : Value} (h : Rep K x v) (hone : x.one = true ∨ ∃ cs, x = .agg cs) : RepL K x.cells v.cells.toList := by
 rcases hone with h1 | ⟨cs, rfl⟩
 ·have := one_rep h1 h
  have hv : v.cells = #[v] := by cases v <;> simp [Value.oneCell', Value.cells] at this ⊢
  rw [hv]
  cases x <;> simp only [AV.one, Bool.false_eq_true] at h1 <;> (simp only [AV.cells, RepL]; exact ⟨v, [], rfl, h, rfl⟩)
 ·simp only [Rep] at h
  obtain ⟨vs, rfl, hr⟩ := h
  exact hr
theorem setRange_get {l m : List AV} {off : Nat} (h : off + m.length ≤ l.length) (j : Nat) : (setRange l off m)[j]? = if off ≤ j ∧ j < off + m.length then m[j - off]? else l[j]? := by
 induction m generalizing l off with
 | nil => simp [setRange]; omega
 | cons x m ih =>
   simp only [List.length_cons] at h
   simp only [setRange]
   rw [ih (by simp; omega)]
   simp only [List.length_cons]
   by_cases h1 : off + 1 ≤ j ∧ j < off + 1 + m.length
   ·rw [if_pos h1, if_pos (by omega), show j - off = (j - (off + 1)) + 1 by omega, List.getElem?_cons_succ]
   ·rw [if_neg h1]
    by_cases h2 : off = j
    ·subst h2
     rw [List.getElem?_set_self (by omega), if_pos (by omega)]
     simp
    ·rw [List.getElem?_set_ne h2, if_neg (by omega)]
theorem setRangeV_get {l m : List Value} {off : Nat} (h : off + m.length ≤ l.length) (j : Nat) : (setRangeV l off m)[j]? = if off ≤ j ∧ j < off + m.length then m[j - off]? else l[j]? := by
 induction m generalizing l off with
 | nil => simp [setRangeV]; omega
 | cons x m ih =>
   simp only [List.length_cons] at h
   simp only [setRangeV]
   rw [ih (by simp; omega)]
   simp only [List.length_cons]
   by_cases h1 : off + 1 ≤ j ∧ j < off + 1 + m.length
   ·rw [if_pos h1, if_pos (by omega), show j - off = (j - (off + 1)) + 1 by omega, List.getElem?_cons_succ]
   ·rw [if_neg h1]
    by_cases h2 : off = j
    ·subst h2
     rw [List.getElem?_set_self (by omega), if_pos (by omega)]
     simp
    ·rw [List.getElem?_set_ne h2, if_neg (by omega)]
theorem setRangeV_len {l m : List Value} {off : Nat} : (setRangeV l off m).length = l.length := by
 induction m generalizing l off with
 | nil => rfl
 | cons x m ih => simp [setRangeV, ih]
theorem unOwn_set (s : St) (rf : Refs) (x : Opd) : unOwn { s with rf := rf } x = { unOwn s x with rf := rf } := by
 unfold unOwn
 split
 ·simp only
  split <;> rfl
 ·rfl
theorem ok_store {sz : Nat} {x v : Opd} {x' v' : Operand} {t : TypeId} {o : Oper} {p u : AV} {rf : Refs} (ho : o.op = .store t x' v') (h : Sim E K s a.tmps w) (h1 : chkO x x' = true) (h2 : chkO v v' = true) (hsz : sizeT P t = some sz)
  (hx : getO s.sl x = some p) (hu : rawO s.sl v = some u) (hst : storeAt s.rf s.nb sz p u = some rf) : OpOK P E K s a w o (.none_ (unOwn { s with rf := rf } v)) := by
 have hp := getO_rep h h1 hx
 have hur := rawO_rep h h2 hu
 unfold storeAt at hst
 split at hst
 ·rename_i r off
  simp only at hst
  split at hst
  ·simp at hst
  ·rename_i hc
   split at hst
   ·rename_i cs hcs
    split at hst
    ·rename_i hcc
     simp only [Option.some.injEq] at hst
     subst hst
     have hlen : u.cellsO.length = sz := Classical.byContradiction fun e => hc (.inl e)
     have hall : u.cellsO.all AV.one = true := by
      cases hh : u.cellsO.all AV.one with
      | true => rfl
      | false => exact absurd (.inr hh) hc
     have hone : u.one = true ∨ ∃ cs, u = .agg cs := by
      cases u <;> simp_all [AV.one, AV.cellsO]
     have hcr := cells_rep hur hone
     have hvl : (a.eval v').cells.toList.length = sz := by rw [hcr.length]; exact hlen
     simp only [Rep] at hp
     obtain ⟨b, hρ, hpv⟩ := hp
     obtain ⟨b', vs, el, hρ', hb, hr⟩ := h.refs_cells hcs hcc.1
     rw [hρ] at hρ'
     cases hρ'
     have hvsl : vs.toList.length = cs.length := hr.length
     obtain ⟨w', hrun, g1, g2, g3, g4, g5, g6⟩ := run_storeCells (P := P) (b := b) (el := el) (fz := (0, 0)) (a.eval v').cells.toList off 0 vs.toList w (by simpa using hb) (by omega) (ones_rep hall hcr) (.inl rfl)
     have hrep : RepL K (setRange cs off u.cellsO) (setRangeV vs.toList (off + 0) (a.eval v').cells.toList).toArray.toList := by
      simpa using RepL.setRange (off := off) hr hcr
     have hfresh : Fresh E K (unOwn s v) a.tmps w none u (a.eval v') := by
      cases v with
      | t n =>
        cases v' <;> simp [chkO] at h2
        subst h2
        exact h.fresh_raw hu none
      | c av =>
        cases v' <;> simp [chkO] at h2
        simp only [rawO, Option.some.injEq] at hu
        subst hu
        refine fresh_of_not_own fun es e => ?_
        subst e
        exact absurd h2.1 (by unfold chkV; simp)
      | f id =>
        simp only [rawO, Option.some.injEq] at hu
        subst hu
        exact fresh_of_not_own fun es e => by cases e
     have hs1 := h.unOwn v
     have hcs1 : (unOwn s v).rf[r]? = some cs := by rw [unOwn_rf]; exact hcs
     have hnoU : ∀ (j : Nat) es, u.cellsO[j]? = some (.own es) → j = 0 ∧ u = .own es := fun j es hj => by
      cases u <;> simp only [AV.cellsO] at hj
      case agg zs =>
       have : ∀ (l : List AV) (i : Nat), (AV.strips l)[i]? ≠ some (.own es) := fun l => by
        induction l with
        | nil => intro i; simp [AV.strips]
        | cons c l ih =>
          intro i
          cases i with
          | zero => simp only [AV.strips, List.getElem?_cons_zero, ne_eq, Option.some.injEq]; exact strip_not_own c es
          | succ i => simp only [AV.strips, List.getElem?_cons_succ]; exact ih i
       exact absurd hj (this _ _)
      all_goals (cases j <;> simp at hj <;> exact ⟨rfl, by simp [hj]⟩)
     have hsim := hs1.setRef (w' := w') (i0 := some off) hcs1 hρ hb (isMp_setRange hcc.1 hall) hrep g1 g2 g3 g4 g5 g6 (fun i es hi hne => by
      rw [setRange_get (by omega)] at hi
      split at hi
      ·rename_i hin
       have := hnoU _ _ hi
       exact absurd (by congr 1; omega) hne
      ·rename_i hin
       refine ⟨hi, ?_⟩
       rw [List.getElem?_toArray, setRangeV_get (by omega), if_neg (by omega), Array.getElem?_toList]) (fun i es pv hi hown hpv2 => by
      simp only [Option.some.injEq] at hi
      subst hi
      rw [setRange_get (by omega)] at hown
      by_cases hz : off ≤ off ∧ off < off + u.cellsO.length
      ·rw [if_pos hz] at hown
       obtain ⟨_, rfl⟩ := hnoU _ _ hown
       rw [List.getElem?_toArray, setRangeV_get (by omega), if_pos (by omega)] at hpv2
       have hcells : (a.eval v').cells.toList = [a.eval v'] := by
        have := one_rep (K := K) (x := .own es) rfl hur
        cases hev : a.eval v' <;> simp [hev, Value.oneCell', Value.cells] at this ⊢
       rw [hcells] at hpv2
       simp at hpv2
       subst hpv2
       obtain ⟨f1, f2⟩ := hfresh es rfl
       exact ⟨f1, fun bb hbb => ⟨(f2 bb hbb).1, fun ℓ es' uu _ hh => (f2 bb hbb).2 ℓ es' uu (by simp) hh⟩⟩
      ·have hzero : sz = 0 := by omega
       rw [if_neg hz] at hown
       have hl0 : u.cellsO = [] := List.length_eq_zero_iff.1 (by omega)
       rw [List.getElem?_toArray, setRangeV_get (by omega), if_neg (by omega)] at hpv2
       have hh : holds K (unOwn s v) a.tmps w (.rf r off) (.own es) pv := ⟨cs, b, hcs1, hown, hρ, by rw [cell_of hb]; simpa using hpv2⟩
       refine ⟨hs1.own _ _ _ hh, fun bb hbb => ⟨hs1.tO _ _ _ _ hh hbb, fun ℓ es' uu hne h3 hb3 => hne (hs1.uniq ℓ (.rf r off) es' es uu pv bb h3 hh hb3 hbb)⟩⟩)
     refine ⟨w', K, ?_, ?_, Up.refl _ _⟩
     ·simp only [execOp, ho, hpv, Instr.storeAt, Instr.sureAddr, Sem.run_bind, Sem.run_pure, Result.andThen_ok, storeVar, run_sizeOf hsz]
      have hsize : (a.eval v').cells.size = sz := by rw [← hvl, Array.length_toList]
      rw [if_neg (by simp [hsize])]
      simp [hrun]
     ·rw [unOwn_set]
      rw [unOwn_rf] at hsim
      exact hsim
    ·simp at hst
   ·simp at hst
 ·simp at hst
end
end Go.Ab
