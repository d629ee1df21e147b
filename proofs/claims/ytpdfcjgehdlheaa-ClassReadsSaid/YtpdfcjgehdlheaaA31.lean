/- One operation at a time, the state written out. -/
import Derived.Test.YtpdfcjgehdlheaaA30
set_option linter.all false
namespace Go.Ab

section
variable {T : Tb} {sl : Slots} {rf : Refs} {df : List (AV × List AV)} {pn : Option (Option AV)} {nb : Nat} {N : St → Prop} {X : Ex → St → Prop} {r : List AOp} {d : Nat} {g : Option (Nat × Bool)} {may : Bool}

def wantedL (sl : Slots) : Option (Nat × Bool) → Option Bool
  | none => some true
  | some (t, b) => match sl.get t with
    | some (.d (.bool x)) => some (x == b)
    | some (.tup []) => some false
    | _ => none

theorem wantedL_eq (s : St) : ∀ g, wantedA s g = wantedL s.sl g
  | none => rfl
  | some (_, _) => rfl

theorem o_off {o : AOpk} (hg : wantedL sl g = some false) (h : OP T r ⟨(d, .tup []) :: sl, rf, df, pn, nb⟩ N X) : OP T (⟨some d, o, g, may⟩ :: r) ⟨sl, rf, df, pn, nb⟩ N X :=
  op_off ((wantedL_eq _ _).trans hg) h

theorem o_offn {o : AOpk} (hg : wantedL sl g = some false) (h : OP T r ⟨sl, rf, df, pn, nb⟩ N X) : OP T (⟨none, o, g, may⟩ :: r) ⟨sl, rf, df, pn, nb⟩ N X :=
  op_off ((wantedL_eq _ _).trans hg) h

/-- an operation that leaves all else as it is -/
theorem o_pure {o : AOpk} {v : AV} (hg : wantedL sl g = some true) (hs : stepOp C0 ⟨sl, rf, df, pn, nb⟩ o = some (.val v ⟨sl, rf, df, pn, nb⟩)) (h : OP T r ⟨(d, v) :: sl, rf, df, pn, nb⟩ N X) : OP T (⟨some d, o, g, may⟩ :: r) ⟨sl, rf, df, pn, nb⟩ N X :=
  op_val ((wantedL_eq _ _).trans hg) hs h

theorem o_movd {x : Opd} {y : D} (hg : wantedL sl g = some true) (hx : getO sl x = some (.d y)) (h : OP T r ⟨(d, .d y) :: sl, rf, df, pn, nb⟩ N X) : OP T (⟨some d, .mov x, g, may⟩ :: r) ⟨sl, rf, df, pn, nb⟩ N X :=
  o_pure hg (by simp only [stepOp, hx]; rfl) h

theorem o_movp {x : Opd} {a b : Nat} (hg : wantedL sl g = some true) (hx : getO sl x = some (.ptr a b)) (h : OP T r ⟨(d, .ptr a b) :: sl, rf, df, pn, nb⟩ N X) : OP T (⟨some d, .mov x, g, may⟩ :: r) ⟨sl, rf, df, pn, nb⟩ N X :=
  o_pure hg (by simp only [stepOp, hx]; rfl) h

theorem o_mova {x : Opd} {y : List AV} (hg : wantedL sl g = some true) (hx : getO sl x = some (.agg y)) (h : OP T r ⟨(d, .agg y) :: sl, rf, df, pn, nb⟩ N X) : OP T (⟨some d, .mov x, g, may⟩ :: r) ⟨sl, rf, df, pn, nb⟩ N X :=
  o_pure hg (by simp only [stepOp, hx]; rfl) h

theorem o_mov {x : Opd} {v : AV} (hg : wantedL sl g = some true) (hx : getO sl x = some v) (h : OP T r ⟨(d, v) :: sl, rf, df, pn, nb⟩ N X) : OP T (⟨some d, .mov x, g, may⟩ :: r) ⟨sl, rf, df, pn, nb⟩ N X :=
  o_pure hg (by simp only [stepOp, hx]; rfl) h

theorem o_asgd {x : Opd} {y : D} (hg : wantedL sl g = some true) (hx : rawO sl x = some (.d y)) (h : OP T r ⟨(d, .d y) :: sl, rf, df, pn, nb⟩ N X) : OP T (⟨some d, .asg x, g, may⟩ :: r) ⟨sl, rf, df, pn, nb⟩ N X := by
  refine o_pure hg ?_ h
  simp only [stepOp, hx]
  cases x with
  | t n => simp only [rawO] at hx; simp only [unOwn, hx]
  | _ => rfl

theorem unOwn_ne {s : St} {x : Opd} {v : AV} (hx : rawO s.sl x = some v) (hv : ∀ es, v ≠ .own es) : unOwn s x = s := by
  cases x with
  | t n =>
    simp only [rawO] at hx
    simp only [unOwn, hx]
    split
    · rename_i es e; cases e; exact absurd rfl (hv es)
    · rfl
  | _ => rfl

theorem o_asg {x : Opd} {v : AV} (hg : wantedL sl g = some true) (hx : rawO sl x = some v) (hv : ∀ es, v ≠ .own es) (h : OP T r ⟨(d, v) :: sl, rf, df, pn, nb⟩ N X) : OP T (⟨some d, .asg x, g, may⟩ :: r) ⟨sl, rf, df, pn, nb⟩ N X := by
  refine o_pure hg ?_ h
  simp only [stepOp, hx]
  rw [unOwn_ne hx hv]

theorem o_asgo {t : Nat} {es : List (List D)} (hg : wantedL sl g = some true) (hx : sl.get t = some (.own es)) (h : OP T r ⟨(d, .own es) :: (t, .d (.lst es)) :: sl, rf, df, pn, nb⟩ N X) : OP T (⟨some d, .asg (.t t), g, may⟩ :: r) ⟨sl, rf, df, pn, nb⟩ N X := by
  refine op_val (v := .own es) (s' := ⟨(t, .d (.lst es)) :: sl, rf, df, pn, nb⟩) ((wantedL_eq _ _).trans hg) (by simp only [stepOp, rawO, hx, unOwn]; rfl) h

theorem o_take {t : Nat} {v : AV} (hg : wantedL sl g = some true) (hx : sl.get t = some v) (hv : ∀ es, v ≠ .own es) (h : OP T r ⟨(d, v) :: sl, rf, df, pn, nb⟩ N X) : OP T (⟨some d, .take t, g, may⟩ :: r) ⟨sl, rf, df, pn, nb⟩ N X := by
  refine o_pure hg ?_ h
  simp only [stepOp, hx]
  rw [unOwn_ne (v := v) (by simpa [rawO] using hx) hv]

theorem o_takeo {t : Nat} {es : List (List D)} (hg : wantedL sl g = some true) (hx : sl.get t = some (.own es)) (h : OP T r ⟨(d, .own es) :: (t, .d (.lst es)) :: sl, rf, df, pn, nb⟩ N X) : OP T (⟨some d, .take t, g, may⟩ :: r) ⟨sl, rf, df, pn, nb⟩ N X := by
  refine op_val (v := .own es) (s' := ⟨(t, .d (.lst es)) :: sl, rf, df, pn, nb⟩) ((wantedL_eq _ _).trans hg) (by simp only [stepOp, hx, unOwn]; rfl) h

theorem o_pickt {c a b : Opd} {v : AV} (hg : wantedL sl g = some true) (hc : getO sl c = some (.d (.bool true))) (hx : getO sl a = some v) (h : OP T r ⟨(d, v) :: sl, rf, df, pn, nb⟩ N X) : OP T (⟨some d, .pick c a b, g, may⟩ :: r) ⟨sl, rf, df, pn, nb⟩ N X :=
  o_pure hg (by simp only [stepOp, hc, if_true, hx]; rfl) h
theorem o_pickf {c a b : Opd} {v : AV} (hg : wantedL sl g = some true) (hc : getO sl c = some (.d (.bool false))) (hx : getO sl b = some v) (h : OP T r ⟨(d, v) :: sl, rf, df, pn, nb⟩ N X) : OP T (⟨some d, .pick c a b, g, may⟩ :: r) ⟨sl, rf, df, pn, nb⟩ N X :=
  o_pure hg (by simp only [stepOp, hc, hx]; rfl) h

theorem o_bin {op : BinOp} {x y : Opd} {a b v : AV} (hg : wantedL sl g = some true) (hx : getO sl x = some a) (hy : getO sl y = some b) (hv : binA op a b = some v) (h : OP T r ⟨(d, v) :: sl, rf, df, pn, nb⟩ N X) : OP T (⟨some d, .bin op x y, g, may⟩ :: r) ⟨sl, rf, df, pn, nb⟩ N X :=
  o_pure hg (by simp only [stepOp, hx, hy, hv]; rfl) h

theorem wrap_of {k : IntKind} {x : Int} (h1 : k.min ≤ x) (h2 : x ≤ k.max) : k.wrap x = x := by
  cases k <;> simp [IntKind.min, IntKind.max, IntKind.signed, IntKind.bits, IntKind.wrap] at * <;> (try split) <;> omega

theorem wrap64_of {x : Int} (h1 : -9223372036854775808 ≤ x) (h2 : x ≤ 9223372036854775807) : IntKind.i64.wrap x = x :=
  wrap_of (by simpa [IntKind.min, IntKind.signed, IntKind.bits] using h1) (by simpa [IntKind.max, IntKind.signed, IntKind.bits] using h2)

theorem wrap8_of {x : Int} (h1 : 0 ≤ x) (h2 : x ≤ 255) : IntKind.u8.wrap x = x :=
  wrap_of (by simpa [IntKind.min, IntKind.signed, IntKind.bits] using h1) (by simpa [IntKind.max, IntKind.signed, IntKind.bits] using h2)

theorem wrapU64_of {x : Int} (h1 : 0 ≤ x) (h2 : x ≤ 18446744073709551615) : IntKind.u64.wrap x = x :=
  wrap_of (by simpa [IntKind.min, IntKind.signed, IntKind.bits] using h1) (by simpa [IntKind.max, IntKind.signed, IntKind.bits] using h2)

theorem o_add {x y : Opd} {a b c : Int} (hg : wantedL sl g = some true) (hx : getO sl x = some (.d (.int .i64 a))) (hy : getO sl y = some (.d (.int .i64 b))) (hc : a + b = c) (h1 : -9223372036854775808 ≤ c) (h2 : c ≤ 9223372036854775807)
    (h : OP T r ⟨(d, .d (.int .i64 c)) :: sl, rf, df, pn, nb⟩ N X) : OP T (⟨some d, .bin .add x y, g, may⟩ :: r) ⟨sl, rf, df, pn, nb⟩ N X := by
  refine o_bin hg hx hy (v := .d (.int .i64 c)) ?_ h
  show some _ = _
  rw [hc, wrap64_of h1 h2]

theorem o_sub {x y : Opd} {a b c : Int} (hg : wantedL sl g = some true) (hx : getO sl x = some (.d (.int .i64 a))) (hy : getO sl y = some (.d (.int .i64 b))) (hc : a - b = c) (h1 : -9223372036854775808 ≤ c) (h2 : c ≤ 9223372036854775807)
    (h : OP T r ⟨(d, .d (.int .i64 c)) :: sl, rf, df, pn, nb⟩ N X) : OP T (⟨some d, .bin .sub x y, g, may⟩ :: r) ⟨sl, rf, df, pn, nb⟩ N X := by
  refine o_bin hg hx hy (v := .d (.int .i64 c)) ?_ h
  show some _ = _
  rw [hc, wrap64_of h1 h2]

theorem o_toInt {k k' : IntKind} {x : Opd} {a : Int} (hg : wantedL sl g = some true) (hx : getO sl x = some (.d (.int k' a))) (h1 : k.min ≤ a) (h2 : a ≤ k.max)
    (h : OP T r ⟨(d, .d (.int k a)) :: sl, rf, df, pn, nb⟩ N X) : OP T (⟨some d, .toInt k x, g, may⟩ :: r) ⟨sl, rf, df, pn, nb⟩ N X := by
  refine o_pure hg ?_ h
  simp only [stepOp, hx, vl, Option.map, wrap_of h1 h2]

theorem o_idxS {x i : Opd} {l : List UInt8} {k : IntKind} {n : Int} {m : Nat} {b : UInt8} (hg : wantedL sl g = some true) (hx : getO sl x = some (.d (.str l))) (hi : getO sl i = some (.d (.int k n))) (hn : n = (m : Int)) (hb : l[m]? = some b)
    (h : OP T r ⟨(d, .d (.int .u8 b.toNat)) :: sl, rf, df, pn, nb⟩ N X) : OP T (⟨some d, .idxS x i, g, may⟩ :: r) ⟨sl, rf, df, pn, nb⟩ N X := by
  refine o_pure hg ?_ h
  subst hn
  simp only [stepOp, hx, hi]
  rw [if_neg (by omega)]
  simp only [Int.toNat_natCast, hb, vl, Option.map]

theorem o_lenS {x : Opd} {l : List UInt8} (hg : wantedL sl g = some true) (hx : getO sl x = some (.d (.str l))) (h : OP T r ⟨(d, .d (.int .i64 l.length)) :: sl, rf, df, pn, nb⟩ N X) : OP T (⟨some d, .lenS x, g, may⟩ :: r) ⟨sl, rf, df, pn, nb⟩ N X :=
  o_pure hg (by simp only [stepOp, hx]; rfl) h

theorem o_sliceS {x : Opd} {lo hi : Option Opd} {l : List UInt8} {i j : Nat} (hg : wantedL sl g = some true) (hx : getO sl x = some (.d (.str l))) (hi' : asIdx sl lo 0 = some i) (hj : asIdx sl hi l.length = some j) (h1 : i ≤ j) (h2 : j ≤ l.length)
    (h : OP T r ⟨(d, .d (.str ((l.take j).drop i))) :: sl, rf, df, pn, nb⟩ N X) : OP T (⟨some d, .sliceS x lo hi, g, may⟩ :: r) ⟨sl, rf, df, pn, nb⟩ N X := by
  refine o_pure hg ?_ h
  simp only [stepOp, hx, hi', hj]
  rw [if_pos ⟨h1, h2⟩]
  rfl

theorem o_call {f : Opd} {as : List Opd} {id : FuncId} {vs : List AV} {v : AV} {rf' : Refs} (hg : wantedL sl g = some true) (hf : getO sl f = some (.fn (.func id) [] [])) (ha : (getOs sl as).map AV.bares = some vs)
    (he : Ev T id vs rf (.ret v) rf') (h : OP T r ⟨(d, v) :: sl, rf', df, pn, nb⟩ N X) : OP T (⟨some d, .call f as, g, may⟩ :: r) ⟨sl, rf, df, pn, nb⟩ N X := by
  cases hh : getOs sl as with
  | none => rw [hh] at ha; cases ha
  | some us =>
    rw [hh] at ha
    cases ha
    exact op_call (s := ⟨sl, rf, df, pn, nb⟩) ((wantedL_eq _ _).trans hg) hf hh (by simpa using he) h

theorem o_calln {f : Opd} {as : List Opd} {id : FuncId} {vs : List AV} {v : AV} {rf' : Refs} (hg : wantedL sl g = some true) (hf : getO sl f = some (.fn (.func id) [] [])) (ha : (getOs sl as).map AV.bares = some vs)
    (he : Ev T id vs rf (.ret v) rf') (h : OP T r ⟨sl, rf', df, pn, nb⟩ N X) : OP T (⟨none, .call f as, g, may⟩ :: r) ⟨sl, rf, df, pn, nb⟩ N X := by
  cases hh : getOs sl as with
  | none => rw [hh] at ha; cases ha
  | some us =>
    rw [hh] at ha
    cases ha
    exact op_call (s := ⟨sl, rf, df, pn, nb⟩) (d := none) ((wantedL_eq _ _).trans hg) hf hh (by simpa using he) h

theorem o_split {l : List AOp} {t : Nat} {b : Bool} (ht : sl.get t = some (.d (.bool b))) (h1 : b = true → OP T l ⟨sl, rf, df, pn, nb⟩ N X) (h2 : b = false → OP T l ⟨sl, rf, df, pn, nb⟩ N X) : OP T l ⟨sl, rf, df, pn, nb⟩ N X := by
  cases b
  · exact h2 rfl
  · exact h1 rfl

theorem end_ret {af : AFn} {n : Nat} {v : AV} {rf' : Refs} (hv : resOf ⟨sl, rf, df, pn, nb⟩ af.keep af.res = some v) (hd : df = []) (hb : v.refB ≤ n) (hr : rf.take n = rf') : EndX af n (.ret v) rf' .ret ⟨sl, rf, df, pn, nb⟩ :=
  .ret hd hv hb rfl hr.symm
theorem end_nrm {af : AFn} {n : Nat} {v : AV} {rf' : Refs} (hv : resOf ⟨sl, rf, df, pn, nb⟩ af.keep af.res = some v) (hd : df = []) (hb : v.refB ≤ n) (hr : rf.take n = rf') : EndX af n (.ret v) rf' .nrm ⟨sl, rf, df, pn, nb⟩ :=
  .nrm hd hv hb rfl hr.symm

/-! references -/
theorem o_box {x : Opd} {v : AV} {cs : List AV} (hg : wantedL sl g = some true) (hx : getO sl x = some v) (hs : v.solid = true) (hc : v.cells = cs) (h : OP T r ⟨(d, .ptr rf.length 0) :: sl, rf ++ [cs], df, pn, nb⟩ N X) : OP T (⟨some d, .box x, g, may⟩ :: r) ⟨sl, rf, df, pn, nb⟩ N X := by
  subst hc
  refine op_val (v := .ptr rf.length 0) (s' := ⟨sl, rf ++ [v.cells], df, pn, nb⟩) ((wantedL_eq _ _).trans hg) ?_ h
  simp only [stepOp, hx, hs, if_true]

theorem o_alloc {cs : List AV} (hg : wantedL sl g = some true) (h : OP T r ⟨(d, .ptr rf.length 0) :: sl, rf ++ [cs], df, pn, nb⟩ N X) : OP T (⟨some d, .alloc cs, g, may⟩ :: r) ⟨sl, rf, df, pn, nb⟩ N X :=
  op_val (v := .ptr rf.length 0) (s' := ⟨sl, rf ++ [cs], df, pn, nb⟩) ((wantedL_eq _ _).trans hg) rfl h

theorem o_load {a : Opd} {q off : Nat} {cs : List AV} {y : D} (hg : wantedL sl g = some true) (ha : getO sl a = some (.ptr q off)) (hr : rf[q]? = some cs) (hc : cs[off]? = some (.d y)) (h : OP T r ⟨(d, .d y) :: sl, rf, df, pn, nb⟩ N X) :
    OP T (⟨some d, .load none a, g, may⟩ :: r) ⟨sl, rf, df, pn, nb⟩ N X :=
  o_pure hg (by simp only [stepOp, ha, loadAt, hr, hc]; rfl) h

/-- likewise, of any value -/
theorem o_loadv {a : Opd} {q off : Nat} {cs : List AV} {y z : AV} (hg : wantedL sl g = some true) (ha : getO sl a = some (.ptr q off)) (hr : rf[q]? = some cs) (hc : cs[off]? = some y) (hz : y.strip = z) (h : OP T r ⟨(d, z) :: sl, rf, df, pn, nb⟩ N X) :
    OP T (⟨some d, .load none a, g, may⟩ :: r) ⟨sl, rf, df, pn, nb⟩ N X :=
  o_pure hg (by subst hz; simp only [stepOp, ha, loadAt, hr, hc]; rfl) h

theorem o_loada {a : Opd} {q off n : Nat} {cs zs : List AV} (hg : wantedL sl g = some true) (ha : getO sl a = some (.ptr q off)) (hr : rf[q]? = some cs) (hn : off + n ≤ cs.length) (hz : AV.strips ((cs.drop off).take n) = zs) (h : OP T r ⟨(d, .agg zs) :: sl, rf, df, pn, nb⟩ N X) :
    OP T (⟨some d, .load (some n) a, g, may⟩ :: r) ⟨sl, rf, df, pn, nb⟩ N X :=
  o_pure hg (by subst hz; simp only [stepOp, ha, loadAt, Refs.cellsAt, hr, if_pos hn]; rfl) h

theorem o_loade {a : Opd} {off : Nat} {cs : List D} {y : D} (hg : wantedL sl g = some true) (ha : getO sl a = some (.ept cs off)) (hc : cs[off]? = some y) (h : OP T r ⟨(d, .d y) :: sl, rf, df, pn, nb⟩ N X) :
    OP T (⟨some d, .load none a, g, may⟩ :: r) ⟨sl, rf, df, pn, nb⟩ N X :=
  o_pure hg (by simp only [stepOp, ha, loadAt, hc]; rfl) h

theorem o_loadea {a : Opd} {off n : Nat} {cs : List D} {zs : List AV} (hg : wantedL sl g = some true) (ha : getO sl a = some (.ept cs off)) (hn : off + n ≤ cs.length) (hz : ((cs.drop off).take n).map AV.d = zs) (h : OP T r ⟨(d, .agg zs) :: sl, rf, df, pn, nb⟩ N X) :
    OP T (⟨some d, .load (some n) a, g, may⟩ :: r) ⟨sl, rf, df, pn, nb⟩ N X := by
  refine o_pure hg ?_ h
  subst hz
  have hst : ∀ l : List D, AV.strips (l.map AV.d) = l.map AV.d := fun l => by
    induction l with
    | nil => rfl
    | cons x l ih => simp only [List.map_cons, AV.strips, AV.strip, ih]
  simp only [stepOp, ha, loadAt, if_pos hn, vl, Option.map, AV.strip, hst]

theorem storeAt_of {rf : Refs} {nb sz q off : Nat} {v : AV} {cs zs us : List AV} (hz : v.cellsO = zs) (hl : zs.length = sz) (ho : zs.all AV.one = true) (hr : rf[q]? = some cs) (hn : off + sz ≤ cs.length) (hb : AV.refBs zs ≤ q + 1 ∨ nb ≤ q) (hu : setRange cs off zs = us) :
    storeAt rf nb sz (.ptr q off) v = some (rf.set q us) := by
  subst hz hu
  unfold storeAt
  simp only [hr]
  rw [if_neg (by rw [hl, ho]; simp), if_pos ⟨hn, hb⟩]

theorem o_store {a x : Opd} {sz q off : Nat} {v : AV} {cs zs us : List AV} (hg : wantedL sl g = some true) (ha : getO sl a = some (.ptr q off)) (hx : rawO sl x = some v) (hv : ∀ es, v ≠ .own es) (hz : v.cellsO = zs) (hl : zs.length = sz) (ho : zs.all AV.one = true)
    (hr : rf[q]? = some cs) (hn : off + sz ≤ cs.length) (hb : AV.refBs zs ≤ q + 1 ∨ nb ≤ q) (hu : setRange cs off zs = us) (h : OP T r ⟨sl, rf.set q us, df, pn, nb⟩ N X) :
    OP T (⟨none, .store sz a x, g, may⟩ :: r) ⟨sl, rf, df, pn, nb⟩ N X := by
  refine op_none (s' := ⟨sl, rf.set q us, df, pn, nb⟩) ((wantedL_eq _ _).trans hg) ?_ h
  simp only [stepOp, ha, hx]
  rw [storeAt_of hz hl ho hr hn hb hu]
  simp only
  rw [unOwn_ne (v := v) (by simpa using hx) hv]

theorem o_fldA {off q o' : Nat} {x : Opd} (hg : wantedL sl g = some true) (hx : getO sl x = some (.ptr q o')) (h : OP T r ⟨(d, .ptr q (o' + off)) :: sl, rf, df, pn, nb⟩ N X) : OP T (⟨some d, .fldA off x, g, may⟩ :: r) ⟨sl, rf, df, pn, nb⟩ N X :=
  o_pure hg (by simp only [stepOp, hx]; rfl) h

theorem o_idxA {m sz q o' j : Nat} {x i : Opd} {k : IntKind} {n : Int} (hg : wantedL sl g = some true) (hi : getO sl i = some (.d (.int k n))) (hx : getO sl x = some (.ptr q o')) (hn : n = (j : Int)) (hj : j < m) (h : OP T r ⟨(d, .ptr q (o' + j * sz)) :: sl, rf, df, pn, nb⟩ N X) :
    OP T (⟨some d, .idxA (some m) sz x i, g, may⟩ :: r) ⟨sl, rf, df, pn, nb⟩ N X := by
  refine o_pure hg ?_ h
  subst hn
  simp only [stepOp, hi, hx]
  rw [if_neg (by omega), if_pos (by omega)]
  rfl

/-- a slice's element -/
theorem o_idxL {sz j : Nat} {x i : Opd} {k : IntKind} {n : Int} {v : AV} {es : List (List D)} {cs : List D} (hg : wantedL sl g = some true) (hi : getO sl i = some (.d (.int k n))) (hx : getO sl x = some v) (hl : v.list? = some es) (hn : n = (j : Int)) (hj : es[j]? = some cs) (hc : cs.length = sz)
    (h : OP T r ⟨(d, .ept cs 0) :: sl, rf, df, pn, nb⟩ N X) : OP T (⟨some d, .idxA none sz x i, g, may⟩ :: r) ⟨sl, rf, df, pn, nb⟩ N X := by
  refine o_pure hg ?_ h
  subst hn
  simp only [stepOp, hi, hx]
  rw [if_neg (by omega)]
  simp only [hl, Int.toNat_natCast, hj, hc, if_true]
  rfl

theorem o_len {x : Opd} {v : AV} {es : List (List D)} (hg : wantedL sl g = some true) (hx : getO sl x = some v) (hl : v.list? = some es) (h : OP T r ⟨(d, .d (.int .i64 es.length)) :: sl, rf, df, pn, nb⟩ N X) : OP T (⟨some d, .len x, g, may⟩ :: r) ⟨sl, rf, df, pn, nb⟩ N X := by
  refine o_pure hg ?_ h
  simp only [stepOp, hx]
  cases v <;> simp [AV.list?] at hl <;> first | (subst hl; rfl) | skip
  rename_i x
  cases x <;> simp [AV.list?] at hl
  subst hl
  rfl

theorem end_pan {af : AFn} {n : Nat} {v : AV} {rf' : Refs} (hd : df = []) (hb : v.refB ≤ n) (hr : rf.take n = rf') : EndX af n (.pan v.bare) rf' (.pan v) ⟨sl, rf, df, pn, nb⟩ :=
  .pan hd hb rfl hr.symm

end
end Go.Ab
