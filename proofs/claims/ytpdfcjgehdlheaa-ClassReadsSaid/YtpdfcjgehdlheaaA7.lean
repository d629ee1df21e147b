/- Each operation does what the abstract one says: those that leave memory alone. -/
import Derived.Test.YtpdfcjgehdlheaaA6
set_option linter.all false
namespace Go.Ab

def Up (n : Nat) (K K' : Ctx) : Prop := Le K.G K'.G ∧ ∀ r, r < n → K.ρ r = K'.ρ r

theorem Up.refl (n : Nat) (K : Ctx) : Up n K K := ⟨Le.refl _, fun _ _ => rfl⟩
theorem Up.trans {n : Nat} {A B C : Ctx} (h : Up n A B) (k : Up n B C) : Up n A C := ⟨h.1.trans k.1, fun r hr => (h.2 r hr).trans (k.2 r hr)⟩
theorem Up.le {n m : Nat} {A B : Ctx} (h : Up n A B) (hm : m ≤ n) : Up m A B := ⟨h.1, fun r hr => h.2 r (by omega)⟩

/-- the operation runs, and what it comes to is what the abstract one says -/
def OpOK (P : Program) (E : Env) (K : Ctx) (s : St) (a : Act) (w : World) (o : Oper) : Did → Prop
  | .val v s' => ∃ pv w' K', (execOp a.eval o).run P w = .ok (.value pv) w' ∧ Sim E K' s' a.tmps w' ∧ Rep K' v pv ∧ Fresh E K' s' a.tmps w' none v pv ∧ Up s.rf.length K K'
  | .none_ s' => ∃ w' K', (execOp a.eval o).run P w = .ok .skip w' ∧ Sim E K' s' a.tmps w' ∧ Up s.rf.length K K'
  | .pan v s' => ∃ t v' pv, v = .ifc t v' ∧ s' = s ∧ (execOp a.eval o).run P w = .halt (.panic pv) w ∧ Rep K v pv

section
variable {P : Program} {E : Env} {K : Ctx} {s : St} {a : Act} {w : World}

theorem rawO_rep (h : Sim E K s a.tmps w) {x : Opd} {y : Operand} (hc : chkO x y = true) {v : AV} (hv : rawO s.sl x = some v) : Rep K v (a.eval y) := by
  cases x with
  | t n =>
    cases y <;> simp [chkO] at hc
    subst hc
    exact (h.slots n v hv).2
  | c av =>
    cases y <;> simp [chkO] at hc
    simp only [rawO, Option.some.injEq] at hv
    subst hv
    exact chkV_rep _ _ hc.1
  | f id =>
    cases y <;> simp [chkO] at hc
    simp only [rawO, Option.some.injEq] at hv
    subst hv hc
    simp only [Rep, Act.eval]
    exact ⟨#[], #[], rfl, by simp [RepL], by simp [RepL]⟩

theorem getO_rep (h : Sim E K s a.tmps w) {x : Opd} {y : Operand} (hc : chkO x y = true) {v : AV} (hv : getO s.sl x = some v) : Rep K v (a.eval y) := by
  simp only [getO, Option.map_eq_some_iff] at hv
  obtain ⟨u, hu, rfl⟩ := hv
  exact Rep.strip _ _ (rawO_rep h hc hu)

theorem getOs_rep (h : Sim E K s a.tmps w) : ∀ {l : List Opd} {m : List Operand} {vs : List AV}, chkOs l m = true → getOs s.sl l = some vs → RepL K vs (m.map a.eval)
  | [], m, vs, hc, hv => by
    cases m <;> simp [chkOs] at hc
    simp only [getOs, Option.some.injEq] at hv
    subst hv
    simp [RepL]
  | x :: l, m, vs, hc, hv => by
    cases m <;> simp [chkOs] at hc
    rename_i y m
    simp only [getOs] at hv
    split at hv
    · rename_i v vs' h1 h2
      simp only [Option.some.injEq] at hv
      subst hv
      simp only [RepL, List.map_cons]
      exact ⟨_, _, rfl, getO_rep h hc.1 h1, getOs_rep h hc.2 h2⟩
    · simp at hv

theorem getO_not_own {x : Opd} {v : AV} {sl : Slots} (hv : getO sl x = some v) : ∀ es, v ≠ .own es := by
  simp only [getO, Option.map_eq_some_iff] at hv
  obtain ⟨u, hu, rfl⟩ := hv
  exact strip_not_own u

/-- an operation that leaves memory alone -/
theorem opOK_pure {o : Oper} {v : AV} {pv : Value} (h : Sim E K s a.tmps w) (hr : (execOp a.eval o).run P w = .ok (.value pv) w) (hv : Rep K v pv) (hn : ∀ es, v ≠ .own es) : OpOK P E K s a w o (.val v s) :=
  ⟨pv, w, K, hr, h, hv, fresh_of_not_own hn, Up.refl _ _⟩

theorem vl_of {v : Option AV} {d : Did} (h : vl s v = some d) : ∃ u, v = some u ∧ d = .val u s := by
  unfold vl at h
  simp only [Option.map_eq_some_iff] at h
  obtain ⟨u, hu, rfl⟩ := h
  exact ⟨u, hu, rfl⟩

theorem rep_bool {b : Bool} {v : Value} (h : Rep K (.d (.bool b)) v) : v = .bool b := by simpa [Rep, RepD] using h
theorem rep_int {k : IntKind} {n : Int} {v : Value} (h : Rep K (.d (.int k n)) v) : v = .int k n := by simpa [Rep, RepD] using h
theorem rep_str {l : List UInt8} {v : Value} (h : Rep K (.d (.str l)) v) : v = .string ⟨l.toArray⟩ := by simpa [Rep, RepD] using h
theorem rep_bool' (b : Bool) : Rep K (.d (.bool b)) (.bool b) := by simp [Rep, RepD]
theorem rep_int' (k : IntKind) (n : Int) : Rep K (.d (.int k n)) (.int k n) := by simp [Rep, RepD]
theorem rep_str' (l : List UInt8) : Rep K (.d (.str l)) (.string ⟨l.toArray⟩) := by simp [Rep, RepD]

theorem ok_mov {x : Opd} {o : Oper} {y : Operand} {d : Did} (ho : o.op = .move y) (h : Sim E K s a.tmps w) (hc : chkO x y = true) (hd : vl s (getO s.sl x) = some d) : OpOK P E K s a w o d := by
  obtain ⟨v, hv, rfl⟩ := vl_of hd
  exact opOK_pure h (by simp [execOp, ho]) (getO_rep h hc hv) (getO_not_own hv)

/-- a value taken whole -/
theorem ok_raw {x : Opd} {o : Oper} {y : Operand} {v : AV} (hr : (execOp a.eval o).run P w = .ok (.value (a.eval y)) w) (h : Sim E K s a.tmps w) (hc : chkO x y = true) (hv : rawO s.sl x = some v) : OpOK P E K s a w o (.val v (unOwn s x)) := by
  refine ⟨_, w, K, hr, h.unOwn x, rawO_rep h hc hv, ?_, Up.refl _ _⟩
  cases x with
  | t n =>
    cases y <;> simp [chkO] at hc
    subst hc
    exact h.fresh_raw hv none
  | c av =>
    cases y <;> simp [chkO] at hc
    simp only [rawO, Option.some.injEq] at hv
    subst hv
    refine fresh_of_not_own fun es e => ?_
    subst e
    exact absurd hc.1 (by unfold chkV; simp)
  | f id =>
    simp only [rawO, Option.some.injEq] at hv
    subst hv
    exact fresh_of_not_own fun es e => by cases e

theorem ok_pick {c x y : Opd} {c' x' y' : Operand} {o : Oper} {t : Bool} {d : Did} (ho : o.op = .pick c' x' y') (h : Sim E K s a.tmps w) (h1 : chkO c c' = true) (h2 : chkO x x' = true) (h3 : chkO y y' = true)
    (hc : getO s.sl c = some (.d (.bool t))) (hd : vl s (if t then getO s.sl x else getO s.sl y) = some d) : OpOK P E K s a w o d := by
  obtain ⟨v, hv, rfl⟩ := vl_of hd
  have hcv := rep_bool (getO_rep h h1 hc)
  cases t
  · simp only [Bool.false_eq_true, if_false] at hv
    exact opOK_pure h (by simp [execOp, ho, hcv, asBool]) (getO_rep h h3 hv) (getO_not_own hv)
  · simp only [if_true] at hv
    exact opOK_pure h (by simp [execOp, ho, hcv, asBool]) (getO_rep h h2 hv) (getO_not_own hv)

theorem not_own_int {k : IntKind} {n : Int} : ∀ es, AV.d (.int k n) ≠ .own es := fun _ e => by cases e

theorem run_intBin {op : BinOp} {t : TypeId} {k : IntKind} {x y : Int} {v : AV} (h : intBin op k x y = some v) (hs : op ≠ .shl) (hs' : op ≠ .shr) :
    ∃ pv, (binOp op t (.int k x) (.int k y)).run P w = .ok pv w ∧ Rep K v pv ∧ ∀ es, v ≠ .own es := by
  cases op <;> simp only [intBin] at h <;> first
    | (simp at h; done)
    | exact absurd rfl hs
    | exact absurd rfl hs'
    | (simp only [Option.some.injEq] at h; subst h; refine ⟨_, by simp [binOp, Op.intArith, Op.intBits, Op.intCmp]; rfl, by simp [Rep, RepD], fun _ e => by cases e⟩)
    | (split at h
       · simp at h
       · rename_i hy
         simp only [Option.some.injEq] at h; subst h
         refine ⟨_, by simp [binOp, Op.intDiv, hy]; rfl, by simp [Rep, RepD], fun _ e => by cases e⟩)

theorem run_shift {op : BinOp} {t : TypeId} {k yk : IntKind} {x y : Int} (hs : op = .shl ∨ op = .shr) (hy : ¬ y < 0) :
    (binOp op t (.int k x) (.int yk y)).run P w = .ok (.int k (if op = .shl then k.wrap (x * 2 ^ (Nat.min y.toNat k.bits)) else x.fdiv (2 ^ (Nat.min y.toNat k.bits)))) w := by
  rcases hs with rfl | rfl <;> simp [binOp, Op.shift, hy] <;> rfl

theorem toList_mk (l : List UInt8) : (ByteArray.mk l.toArray).toList = l := ByteArray.toList_mk l

theorem size_mk (l : List UInt8) : (ByteArray.mk l.toArray).size = l.length := by simp [ByteArray.size]

theorem run_strBin {op : BinOp} {t : TypeId} {x y : List UInt8} {v : AV} (h : strBin op x y = some v) :
    ∃ pv, (binOp op t (.string ⟨x.toArray⟩) (.string ⟨y.toArray⟩)).run P w = .ok pv w ∧ Rep K v pv ∧ ∀ es, v ≠ .own es := by
  cases op <;> simp only [strBin] at h <;> first
    | (simp at h; done)
    | (simp only [Option.some.injEq] at h; subst h; refine ⟨_, by simp [binOp, Op.stringOp]; rfl, by simp [Rep, RepD], fun _ e => by cases e⟩)
    | (split at h
       · rename_i hl
         simp only [Option.some.injEq] at h; subst h
         refine ⟨.string ⟨(x ++ y).toArray⟩, ?_, by simp [Rep, RepD], fun _ e => by cases e⟩
         have hb : (ByteArray.mk x.toArray).size + (ByteArray.mk y.toArray).size ≤ 9223372036854775807 := by
           rw [size_mk, size_mk]; unfold lim at hl; omega
         simp only [binOp]
         rw [run_string_add_sum w _ _ hb, ByteArray.mk_append_mk]
       · simp at h)

theorem run_eqGuard {op : BinOp} {t : TypeId} {x y : Operand} {u v : Value} (h : (∀ cs cs', ¬ (u = .agg cs ∧ v = .agg cs')) ∧ ¬ (u = .nilIface ∧ v = .nilIface)) : (eqGuard op t x y u v).run P w = .ok () w := by
  unfold eqGuard
  cases op <;> first
    | rfl
    | (cases u <;> cases v <;> first
        | rfl
        | exact absurd ⟨rfl, rfl⟩ h.2
        | exact absurd ⟨rfl, rfl⟩ (h.1 _ _))

theorem ok_bin {op : BinOp} {t yt : TypeId} {x y : Opd} {x' y' : Operand} {o : Oper} {u v : AV} {d : Did} (ho : o.op = .binOp op t x' y' yt) (h : Sim E K s a.tmps w) (h1 : chkO x x' = true) (h2 : chkO y y' = true)
    (hx : getO s.sl x = some u) (hy : getO s.sl y = some v) (hd : vl s (binA op u v) = some d) : OpOK P E K s a w o d := by
  obtain ⟨r, hr, rfl⟩ := vl_of hd
  have e1 := getO_rep h h1 hx
  have e2 := getO_rep h h2 hy
  unfold binA at hr
  split at hr
  · rename_i k m yk n
    have p1 := rep_int e1
    have p2 := rep_int e2
    have hg : (eqGuard op t x' y' (a.eval x') (a.eval y')).run P w = .ok () w := by rw [p1, p2]; exact run_eqGuard ⟨fun _ _ e => by simp at e, by simp⟩
    split at hr
    · split at hr
      · simp at hr
      · rename_i hn
        simp only [Option.some.injEq] at hr
        subst hr
        refine opOK_pure h (pv := .int k _) ?_ (rep_int' _ _) not_own_int
        simp only [execOp, ho, Sem.run_bind, hg, Result.andThen_ok]
        rw [p1, p2, run_shift (.inl rfl) hn]
        simp
    · split at hr
      · simp at hr
      · rename_i hn
        simp only [Option.some.injEq] at hr
        subst hr
        refine opOK_pure h (pv := .int k _) ?_ (rep_int' _ _) not_own_int
        simp only [execOp, ho, Sem.run_bind, hg, Result.andThen_ok]
        rw [p1, p2, run_shift (.inr rfl) hn]
        simp
    · rename_i hs1 hs2
      split at hr
      · rename_i hk
        subst hk
        obtain ⟨pv, hrun, hrep, hno⟩ := run_intBin (P := P) (w := w) (K := K) (t := t) hr hs1 hs2
        refine opOK_pure h (pv := pv) ?_ hrep hno
        simp only [execOp, ho, Sem.run_bind, hg, Result.andThen_ok]
        rw [p1, p2, hrun]
        simp
      · simp at hr
  · have p1 := rep_str e1
    have p2 := rep_str e2
    obtain ⟨pv, hrun, hrep, hno⟩ := run_strBin (P := P) (w := w) (K := K) (t := t) hr
    refine opOK_pure h (pv := pv) ?_ hrep hno
    have hg : (eqGuard op t x' y' (a.eval x') (a.eval y')).run P w = .ok () w := by rw [p1, p2]; exact run_eqGuard ⟨fun _ _ e => by simp at e, by simp⟩
    simp only [execOp, ho, Sem.run_bind, hg, Result.andThen_ok]
    rw [p1, p2, hrun]
    simp
  · simp at hr


theorem ok_beq {ne : Bool} {op : BinOp} {t yt : TypeId} {x y : Opd} {x' y' : Operand} {o : Oper} {b1 b2 : Bool} (ho : o.op = .binOp op t x' y' yt) (hop : op = if ne then BinOp.neq else BinOp.eql) (h : Sim E K s a.tmps w)
    (h1 : chkO x x' = true) (h2 : chkO y y' = true) (ht : P.underlying t = some .bool)
    (hx : getO s.sl x = some (.d (.bool b1))) (hy : getO s.sl y = some (.d (.bool b2))) : OpOK P E K s a w o (.val (.d (.bool ((b1 == b2) != ne))) s) := by
  have p1 := rep_bool (getO_rep h h1 hx)
  have p2 := rep_bool (getO_rep h h2 hy)
  have hg : (eqGuard op t x' y' (a.eval x') (a.eval y')).run P w = .ok () w := by rw [p1, p2]; exact run_eqGuard ⟨fun _ _ e => by simp at e, by simp⟩
  cases ne <;> simp only [Bool.false_eq_true, if_false, if_true] at hop <;> subst hop
  · refine opOK_pure h (pv := .bool (b1 == b2)) ?_ (by simp [Rep, RepD]) (fun _ e => by cases e)
    simp only [execOp, ho, Sem.run_bind, hg, Result.andThen_ok]
    rw [p1, p2, run_eql_bool w t b1 b2 ht]
    simp
  · refine opOK_pure h (pv := .bool !(b1 == b2)) ?_ (by simp [Rep, RepD]) (fun _ e => by cases e)
    simp only [execOp, ho, Sem.run_bind, hg, Result.andThen_ok]
    rw [p1, p2, run_neq_bool w t b1 b2 ht]
    simp

theorem ok_un {op : UnOp} {t : TypeId} {x : Opd} {y : Operand} {o : Oper} {u : AV} {d : Did} (ho : o.op = .unOp op t y) (h : Sim E K s a.tmps w) (h1 : chkO x y = true)
    (hx : getO s.sl x = some u) (hd : vl s (unA op u) = some d) : OpOK P E K s a w o d := by
  obtain ⟨r, hr, rfl⟩ := vl_of hd
  have e1 := getO_rep h h1 hx
  unfold unA at hr
  split at hr
  · have p := rep_int e1
    simp only [Option.some.injEq] at hr
    subst hr
    exact opOK_pure h (pv := .int _ _) (by simp only [execOp, ho, p]; simp [Op.unary, Op.intArith]) (rep_int' _ _) not_own_int
  · have p := rep_int e1
    simp only [Option.some.injEq] at hr
    subst hr
    exact opOK_pure h (pv := .int _ _) (by simp only [execOp, ho, p]; simp [Op.unary, Op.intBits]) (rep_int' _ _) not_own_int
  · have p := rep_bool e1
    simp only [Option.some.injEq] at hr
    subst hr
    exact opOK_pure h (pv := .bool _) (by simp only [execOp, ho, p]; simp [Op.unary]) (rep_bool' _) (fun _ e => by cases e)
  · simp at hr

theorem ok_toInt {k : IntKind} {src dst : TypeId} {x : Opd} {y : Operand} {o : Oper} {k' : IntKind} {n : Int} (ho : o.op = .convert src dst y) (h : Sim E K s a.tmps w) (h1 : chkO x y = true)
    (hk : kindT P dst = some k) (hs : (kindT P src).isSome = true) (hx : getO s.sl x = some (.d (.int k' n))) : OpOK P E K s a w o (.val (.d (.int k (k.wrap n))) s) := by
  have p := rep_int (getO_rep h h1 hx)
  have hd : P.underlying dst = some (.int k) := by
    unfold kindT at hk; split at hk <;> simp_all
  obtain ⟨j, hj⟩ : ∃ j, P.underlying src = some (.int j) := by
    unfold kindT at hs; split at hs <;> simp_all
  refine opOK_pure h (pv := .int k (k.wrap n)) ?_ (rep_int' _ _) not_own_int
  simp only [execOp, ho, p, convert]
  simp [run_underlying hd, run_underlying hj, Conv.intToInt]

theorem ok_ident {src dst : TypeId} {x : Opd} {y : Operand} {o : Oper} (ho : o.op = .convert src dst y) (h : Sim E K s a.tmps w) (h1 : chkO x y = true)
    (hk : isStrT P dst = true) (hs : isStrT P src = true) {l : List UInt8} (hl : getO s.sl x = some (.d (.str l))) : OpOK P E K s a w o (.val (.d (.str l)) s) := by
  have p := rep_str (getO_rep h h1 hl)
  have hd : P.underlying dst = some .string := by
    unfold isStrT at hk; split at hk <;> simp_all
  have hs' : P.underlying src = some .string := by
    unfold isStrT at hs; split at hs <;> simp_all
  refine opOK_pure h (pv := .string ⟨l.toArray⟩) ?_ (rep_str' _) (fun _ e => by cases e)
  simp only [execOp, ho, p, convert]
  simp [run_underlying hd, run_underlying hs']

theorem ok_mkifc {t : TypeId} {x : Opd} {y : Operand} {o : Oper} {v : AV} (ho : o.op = .makeInterface t y) (h : Sim E K s a.tmps w) (h1 : chkO x y = true)
    (ht : (match P.underlying t with | some (.interface _) | none => false | _ => true) = true) (hx : getO s.sl x = some v) : OpOK P E K s a w o (.val (.ifc t v) s) := by
  have p := getO_rep h h1 hx
  refine opOK_pure h (pv := .iface t (a.eval y)) ?_ (by simp only [Rep]; exact ⟨_, rfl, p⟩) (fun _ e => by cases e)
  simp only [execOp, ho, Instr.makeInterface]
  cases hu : P.underlying t with
  | none => simp [hu] at ht
  | some u => cases u <;> simp [hu] at ht <;> simp [run_underlying hu]

theorem ok_mkfn {f : Fn} {fi ca : List Opd} {fi' ca' : Array Operand} {o : Oper} {u v : List AV} (ho : o.op = .makeFunc f fi' ca') (h : Sim E K s a.tmps w) (h1 : chkOs fi fi'.toList = true) (h2 : chkOs ca ca'.toList = true)
    (hx : getOs s.sl fi = some u) (hy : getOs s.sl ca = some v) : OpOK P E K s a w o (.val (.fn f u v) s) := by
  have p := getOs_rep h h1 hx
  have q := getOs_rep h h2 hy
  refine opOK_pure h (pv := .func f (fi'.map a.eval) (ca'.map a.eval)) ?_ ?_ (fun _ e => by cases e)
  · simp [execOp, ho, Instr.makeFunc]
  · simp only [Rep]
    exact ⟨_, _, rfl, by simpa using p, by simpa using q⟩

theorem ok_extr {x : Opd} {y : Operand} {i : Nat} {o : Oper} {vs : List AV} {d : Did} (ho : o.op = .extract y i) (h : Sim E K s a.tmps w) (h1 : chkO x y = true)
    (hx : getO s.sl x = some (.tup vs)) (hd : vl s (vs[i]?) = some d) : OpOK P E K s a w o d := by
  obtain ⟨v, hv, rfl⟩ := vl_of hd
  have p := getO_rep h h1 hx
  simp only [Rep] at p
  obtain ⟨ws, hw, hr⟩ := p
  obtain ⟨u, hu, hru⟩ := RepL.get hr hv
  refine opOK_pure h (pv := u) ?_ hru ?_
  · have : ws[i]? = some u := by simpa using hu
    simp only [execOp, ho, hw, Instr.extract, this]
    simp
  · intro es e
    subst e
    have := getO_not_own hx
    simp only [getO, Option.map_eq_some_iff] at hx
    obtain ⟨z, _, hz⟩ := hx
    cases z <;> simp [AV.strip] at hz
    rename_i zs
    subst hz
    have : ∀ (l : List AV) (i : Nat), (AV.strips l)[i]? ≠ some (.own es) := fun l => by
      induction l with
      | nil => intro i; simp [AV.strips]
      | cons c l ih =>
        intro i
        cases i with
        | zero => simp only [AV.strips, List.getElem?_cons_zero, ne_eq, Option.some.injEq]; exact strip_not_own c es
        | succ i => simp only [AV.strips, List.getElem?_cons_succ]; exact ih i
    exact this _ _ hv

theorem ok_lenArr {n : Nat} {c : Call} {o : Oper} {y : Operand} {t e : TypeId} (ho : o.op = .call c) (h : Sim E K s a.tmps w) (hb : c.callee = .builtin .len) (hx : c.args.toList = [y]) (ht : c.argTypes.toList = [t])
    (hu : P.underlying t = some (.array n e)) : OpOK P E K s a w o (.val (.d (.int .i64 n)) s) := by
  refine opOK_pure h (pv := .int .i64 n) ?_ (rep_int' _ _) not_own_int
  have ha : c.args = #[y] := by rw [← Array.toArray_toList (xs := c.args), hx]
  have hta : c.argTypes = #[t] := by rw [← Array.toArray_toList (xs := c.argTypes), ht]
  simp [execOp, ho, resolve, hb, invoke, builtin, Builtin.len_, ha, hta, run_underlying hu, goInt]

end
end Go.Ab
