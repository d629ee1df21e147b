/- Simplified code and the program's own: which fits which. -/
import Derived.Test.YtpdfcjgehdlheaaA3
import Derived.WalkKit
set_option linter.all false
namespace Go.Ab

mutual
def chkV : AV → Value → Bool
  | .d (.int k n), .int k' n' => k == k' && n == n'
  | .d (.bool b), .bool b' => b == b'
  | .d (.str s), .string t => t.data.toList == s
  | .d .nilp, .pointer none => true
  | .d .nilI, .nilIface => true
  | .d .nilF, .nilFunc => true
  | .nil, .slice none 0 0 => true
  | .agg cs, .agg vs => chkVs cs vs.toList
  | _, _ => false
def chkVs : List AV → List Value → Bool
  | [], [] => true
  | c :: cs, v :: vs => chkV c v && chkVs cs vs
  | _, _ => false
end

mutual
theorem chkV_rep {K : Ctx} : ∀ (x : AV) (v : Value), chkV x v = true → Rep K x v
  | .d (.int k n), v, h => by
    cases v <;> simp [chkV] at h
    simp [Rep, RepD, h]
  | .d (.bool b), v, h => by
    cases v <;> simp [chkV] at h
    simp [Rep, RepD, h]
  | .d (.str s), v, h => by
    cases v <;> simp [chkV] at h
    rename_i t
    obtain ⟨⟨l⟩⟩ := t
    simp only at h
    simp [Rep, RepD, h]
  | .d .nilp, v, h => by
    unfold chkV at h
    split at h <;> simp_all [Rep, RepD]
  | .d .nilI, v, h => by cases v <;> simp [chkV] at h; simp [Rep, RepD]
  | .d .nilF, v, h => by cases v <;> simp [chkV] at h; simp [Rep, RepD]
  | .d (.lst es), v, h => by cases v <;> simp [chkV] at h
  | .nil, v, h => by
    unfold chkV at h
    split at h <;> simp_all [Rep]
  | .own es, v, h => by cases v <;> simp [chkV] at h
  | .ptr r off, v, h => by cases v <;> simp [chkV] at h
  | .ept cs off, v, h => by cases v <;> simp [chkV] at h
  | .sref r off m, v, h => by cases v <;> simp [chkV] at h
  | .fn f a c, v, h => by cases v <;> simp [chkV] at h
  | .ifc t x, v, h => by cases v <;> simp [chkV] at h
  | .agg cs, v, h => by
    cases v <;> simp [chkV] at h
    rename_i vs
    simp only [Rep]
    exact ⟨vs, rfl, chkVs_rep cs _ h⟩
  | .tup cs, v, h => by cases v <;> simp [chkV] at h
theorem chkVs_rep {K : Ctx} : ∀ (l : List AV) (vs : List Value), chkVs l vs = true → RepL K l vs
  | [], vs, h => by
    cases vs <;> simp [chkVs] at h
    simp [RepL]
  | x :: l, vs, h => by
    cases vs <;> simp [chkVs] at h
    rename_i v vs
    simp only [RepL]
    exact ⟨v, vs, rfl, chkV_rep x v h.1, chkVs_rep l vs h.2⟩
end

def chkO : Opd → Operand → Bool
  | .t n, .tmp m => n == m
  | .c av, .const v => chkV av v && av.refB == 0
  | .f a, .func b => a == b
  | _, _ => false

def chkOs : List Opd → List Operand → Bool
  | [], [] => true
  | x :: l, y :: m => chkO x y && chkOs l m
  | _, _ => false

def chkOO : Option Opd → Option Operand → Bool
  | none, none => true
  | some x, some y => chkO x y
  | _, _ => false

def sizeT (P : Program) (t : TypeId) : Option Nat := (P.info? t).map (·.size)

def aggT (P : Program) (t : TypeId) : Option Bool :=
  match P.underlying t with
  | some (.struct _) | some (.array _ _) => some true
  | some _ => some false
  | none => none

/-- how a value of a type is read: whole (its cells' number), or one cell -/
def chkAgg (P : Program) (agg : Option Nat) (t : TypeId) : Bool :=
  match agg with
  | some n => aggT P t == some true && sizeT P t == some n
  | none => aggT P t == some false && sizeT P t == some 1

def zeroT (P : Program) (t : TypeId) : Option (List Value) := (P.info? t).bind fun i => i.zero.map fun z => z.cells.toList

def placesOf (P : Program) (t : TypeId) : Option (Nat → Option (Nat × Nat)) :=
  match P.underlying t with
  | some (.struct fs) => (fs.toList.mapM fun f => (P.info? f.type).map fun i => (f.offset, i.size)).map fun l => fun i => l[i]?
  | some (.array _ e) => (sizeT P e).map fun n => fun i => some (i * n, n)
  | _ => none

def chkParts (place : Nat → Option (Nat × Nat)) : List (Nat × Nat × Opd) → List (Nat × Operand) → Bool
  | [], [] => true
  | (off, size, x) :: l, (i, y) :: m => place i == some (off, size) && chkO x y && chkParts place l m
  | _, _ => false

def kindT (P : Program) (t : TypeId) : Option IntKind :=
  match P.underlying t with
  | some (.int k) => some k
  | _ => none

def isStrT (P : Program) (t : TypeId) : Bool := match P.underlying t with | some .string => true | _ => false
def elemT (P : Program) (t : TypeId) : Option TypeId := match P.underlying t with | some (.slice e) => some e | _ => none
def arrT (P : Program) (t : TypeId) : Option (Nat × TypeId) := match P.underlying t with | some (.array n e) => some (n, e) | _ => none

def plainFs (P : Program) (rec : TypeId → Option (List PK)) (off : Nat) : List Field → Option (List PK)
  | [] => some []
  | f :: fs => if f.name == "_" || f.offset != off then none else
    match rec f.type with
    | some ks => if sizeT P f.type == some ks.length then (plainFs P rec (off + ks.length) fs).map (ks ++ ·) else none
    | none => none

/-- the kinds of a plain type's cells: numbers, bools, texts, in structs and arrays without blank fields -/
def plainK (P : Program) : Nat → TypeId → Option (List PK)
  | 0, _ => none
  | d + 1, t =>
    match P.underlying t with
    | some (.int k) => some [.int k]
    | some .bool => some [.bool]
    | some .string => some [.str]
    | some (.struct fs) => if P.stoodInHeld t then none else plainFs P (plainK P d) 0 fs.toList
    | some (.array n e) => match plainK P d e with
      | some ks => if sizeT P e == some ks.length then some ((List.replicate n ks).flatten) else none
      | none => none
    | _ => none

/-- which nil test is one of a pointer, an interface, a function, a slice -/
def nilT (P : Program) (t : TypeId) : Option Nat :=
  match P.underlying t with
  | some (.pointer _) => some 0
  | some (.interface _) => some 1
  | some (.func ..) => some 2
  | some (.slice _) => some 3
  | _ => none

def isNilC : Nat → Operand → Bool
  | 0, .const (.pointer none) => true
  | 1, .const .nilIface => true
  | 2, .const .nilFunc => true
  | 3, .const (.slice none 0 0) => true
  | _, _ => false

def shape0 (x : AV) : Bool := x.refB == 0

def chkOp (P : Program) (a : AOpk) (o : Oper) : Bool :=
  match a with
  | .mov x => (match o.op with
    | .move y => (chkO x y)
    | _ => false)
  | .take t => (match o.op with
    | .move (.tmp u) => (t == u)
    | _ => false)
  | .asg x => (match o.op with
    | .assign y => (chkO x y)
    | _ => false)
  | .pick c a b => (match o.op with
    | .pick c' a' b' => (chkO c c' && chkO a a' && chkO b b')
    | _ => false)
  | .alloc cells => (match o.op with
    | .alloc t => (match zeroT P t with
    | some z => chkVs cells z && AV.refBs cells == 0
    | none => false)
    | _ => false)
  | .box x => (match o.op with
    | .box _ y => (chkO x y)
    | _ => false)
  | .build zero parts => (match o.op with
    | .build t ps => (match zeroT P t, placesOf P t with
    | some z, some pl => chkVs zero z && AV.refBs zero == 0 && chkParts pl parts ps.toList
    | _, _ => false)
    | _ => false)
  | .mkls sz zero parts => (match o.op with
    | .buildSlice t len ps => (match elemT P t with
    | some e => match sizeT P e, zeroT P e with
      | some n, some z => n == sz && 0 < n && z.length == n && len * n ≤ 2 ^ 24 && chkVs zero ((List.replicate len z).flatten) && AV.refBs zero == 0 && chkParts (fun i => some (i * n, n)) parts ps.toList
      | _, _ => false
    | none => false)
    | _ => false)
  | .load agg a => (match o.op with
    | .load t a' => (chkAgg P agg t && chkO a a')
    | _ => false)
  | .loadB agg a _ => (match o.op with
    | .load t a' => (chkAgg P agg t && chkO a a')
    | _ => false)
  | .takeload a => (match o.op with
    | .load t a' => (chkAgg P none t && chkO a a')
    | _ => false)
  | .store sz a v => (match o.op with
    | .store t a' v' => (sizeT P t == some sz && chkO a a' && chkO v v')
    | _ => false)
  | .storeW sz a v _ => (match o.op with
    | .store t a' v' => (sizeT P t == some sz && chkO a a' && chkO v v')
    | _ => false)
  | .nilchk x => (match o.op with
    | .nilCheck y => (chkO x y)
    | _ => false)
  | .bin op x y => (match o.op with
    | .binOp op' _ x' y' _ => (op == op' && chkO x x' && chkO y y')
    | _ => false)
  | .beq ne x y => (match o.op with
    | .binOp op t x' y' _ => ((op == if ne then BinOp.neq else BinOp.eql) && chkO x x' && chkO y y' && (match P.underlying t with | some .bool => true | _ => false))
    | _ => false)
  | .eqc ne ks x y => (match o.op with
    | .binOp op t x' y' _ => ((op == if ne then BinOp.neq else BinOp.eql) && chkO x x' && chkO y y' && plainK P 50 t == some ks && aggT P t == some true && P.eqGuardType P.depth t == false)
    | _ => false)
  | .eqnil nk ne x => (match o.op with
    | .binOp op t x' y' _ => ((op == if ne then BinOp.neq else BinOp.eql) && nilT P t == some nk && ((chkO x x' && isNilC nk y') || (chkO x y' && isNilC nk x')))
    | _ => false)
  | .un op x => (match o.op with
    | .unOp op' _ y => (op == op' && chkO x y)
    | _ => false)
  | .toInt k x => (match o.op with
    | .convert s t y => (kindT P t == some k && (kindT P s).isSome && chkO x y)
    | _ => false)
  | .ident x => (match o.op with
    | .convert s t y => (isStrT P s && isStrT P t && chkO x y)
    | _ => false)
  | .same x => (match o.op with
    | .convert s t y => (s == t && ((elemT P t).bind (kindT P)) == some .u8 && chkO x y)
    | _ => false)
  | .strBytes x => (match o.op with
    | .convert s t y => (isStrT P s && ((elemT P t).bind (kindT P)) == some .u8 && chkO x y)
    | _ => false)
  | .bytesStr x => (match o.op with
    | .convert s t y => (isStrT P t && ((elemT P s).bind (kindT P)) == some .u8 && chkO x y)
    | _ => false)
  | .mkifc t x => (match o.op with
    | .makeInterface t' y => (t == t' && chkO x y && (match P.underlying t with | some (.interface _) | none => false | _ => true))
    | _ => false)
  | .mkfn f a b => (match o.op with
    | .makeFunc f' a' b' => (fnSame f f' && chkOs a a'.toList && chkOs b b'.toList && (match f with | .func _ => true | _ => false))
    | _ => false)
  | .sliceS x lo hi => (match o.op with
    | .slice t x' lo' hi' mx => (chkO x x' && chkOO lo lo' && chkOO hi hi' && mx.isNone && isStrT P t)
    | _ => false)
  | .slice sz x lo hi => (match o.op with
    | .slice t x' lo' hi' mx => (chkO x x' && chkOO lo lo' && chkOO hi hi' && mx.isNone && (match elemT P t with | some e => sizeT P e == some sz && 0 < sz | none => false))
    | _ => false)
  | .slArr n x lo hi => (match o.op with
    | .slice t x' lo' hi' mx => (chkO x x' && chkOO lo lo' && chkOO hi hi' && mx.isNone && (match arrT P t with | some (m, e) => m == n && sizeT P e == some 1 | none => false))
    | _ => false)
  | .fldA off x => (match o.op with
    | .fieldAddr t y f => (chkO x y && (match P.underlying t with | some (.struct fs) => (fs[f]?).any fun g => g.offset == off && (match sizeT P g.type with | some n => 0 < n | none => false) | _ => false))
    | _ => false)
  | .fld off agg x => (match o.op with
    | .field t y f => (chkO x y && (match P.underlying t with | some (.struct fs) => (fs[f]?).any fun g => g.offset == off && chkAgg P agg g.type | _ => false))
    | _ => false)
  | .idxA arr sz x i => (match o.op with
    | .indexAddr t x' i' => (chkO x x' && chkO i i' && (match arr with
      | some n => (match arrT P t with | some (m, e) => m == n && sizeT P e == some sz | none => false)
      | none => (match elemT P t with | some e => sizeT P e == some sz && 0 < sz | none => false)))
    | _ => false)
  | .idxS x i => (match o.op with
    | .index t x' i' => (chkO x x' && chkO i i' && isStrT P t)
    | _ => false)
  | .idxV n sz agg x i => (match o.op with
    | .index t x' i' => (chkO x x' && chkO i i' && (match arrT P t with | some (m, e) => m == n && sizeT P e == some sz && chkAgg P agg e | none => false))
    | _ => false)
  | .assertT t zero x => (match o.op with
    | .typeAssert y _ t' ok => (ok && t == t' && chkO x y && shape0 zero && (match P.underlying t with | some (.interface _) | none => false | _ => true) &&
      (match (P.info? t).bind (·.zero) with | some z => chkV zero z | none => false))
    | _ => false)
  | .extr x i => (match o.op with
    | .extract y j => (chkO x y && i == j)
    | _ => false)
  | .call f xs => (match o.op with
    | .call c => ((match c.callee with | .value g => chkO f g | _ => false) && chkOs xs c.args.toList)
    | _ => false)
  | .callZ f xs => (match o.op with
    | .call c => ((match c.callee with | .value g => chkO f g | _ => false) && chkOs xs c.args.toList)
    | _ => false)
  | .callQ f xs => (match o.op with
    | .call c => ((match c.callee with | .value g => chkO f g | _ => false) && chkOs xs c.args.toList)
    | _ => false)
  | .defer f xs => (match o.op with
    | .defer c => ((match c.callee with | .value g => chkO f g | _ => false) && chkOs xs c.args.toList)
    | _ => false)
  | .lenS x => (match o.op with
    | .call c => ((match c.callee, c.args.toList, c.argTypes.toList with
      | .builtin .len, [y], [t] => chkO x y && isStrT P t
      | _, _, _ => false))
    | _ => false)
  | .len x => (match o.op with
    | .call c => ((match c.callee, c.args.toList, c.argTypes.toList with
      | .builtin .len, [y], [t] => chkO x y && (elemT P t).isSome
      | _, _, _ => false))
    | _ => false)
  | .lenArr n => (match o.op with
    | .call c => ((match c.callee, c.args.toList, c.argTypes.toList with
      | .builtin .len, [_], [t] => (match arrT P t with | some (m, _) => m == n | none => false)
      | _, _, _ => false))
    | _ => false)
  | .append sz x y => (match o.op with
    | .call c => ((match c.callee, c.args.toList, c.argTypes.toList with
      | .builtin .append, [x', y'], [t, u] => chkO x x' && chkO y y' && (match elemT P t with
          | some e => (match P.info? e with
            | some i => i.size == sz && 0 < sz && i.bytes ≤ 4096 && (match i.zero with | some z => z.cells.size == sz | none => false)
            | none => false)
          | none => false) && (isStrT P u || (elemT P u).isSome)
      | _, _, _ => false))
    | _ => false)
  | .copy x y => (match o.op with
    | .call c => ((match c.callee, c.args.toList, c.argTypes.toList with
      | .builtin .copy, [x', y'], [t, _] => chkO x x' && chkO y y' && (match elemT P t with | some e => sizeT P e == some 1 | none => false)
      | _, _, _ => false))
    | _ => false)
  | .min x y => (match o.op with
    | .call c => ((match c.callee, c.args.toList with
      | .builtin .min, [x', y'] => chkO x x' && chkO y y'
      | _, _ => false))
    | _ => false)
  | .max x y => (match o.op with
    | .call c => ((match c.callee, c.args.toList with
      | .builtin .max, [x', y'] => chkO x x' && chkO y y'
      | _, _ => false))
    | _ => false)
  | .recover => (match o.op with
    | .call c => ((match c.callee with | .builtin .recover => true | _ => false))
    | _ => false)
  | .panic x => (match o.op with
    | .panic y => (chkO x y)
    | _ => false)
  | _ => false

end Go.Ab
