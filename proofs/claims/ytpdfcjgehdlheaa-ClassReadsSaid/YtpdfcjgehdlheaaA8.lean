/- Each operation does what the abstract one says: reads, places, bounds. -/
import Derived.Test.YtpdfcjgehdlheaaA7
set_option linter.all false
namespace Go.Ab
section
variable {P : Program} {E : Env} {K : Ctx} {s : St} {a : Act} {w : World}

theorem und_str {t : TypeId} (h : isStrT P t = true) : P.underlying t = some .string := by
  unfold isStrT at h; split at h <;> simp_all
theorem und_elem {t e : TypeId} (h : elemT P t = some e) : P.underlying t = some (.slice e) := by
  unfold elemT at h; split at h <;> simp_all
theorem und_arr {t : TypeId} {p : Nat × TypeId} (h : arrT P t = some p) : P.underlying t = some (.array p.1 p.2) := by
  unfold arrT at h; split at h <;> simp_all
  subst h; simp
theorem und_kind {t : TypeId} {k : IntKind} (h : kindT P t = some k) : P.underlying t = some (.int k) := by
  unfold kindT at h; split at h <;> simp_all

theorem run_typeInfo {t : TypeId} {i : TypeInfo} (h : P.info? t = some i) : (typeInfo t).run P w = .ok i w := by simp [typeInfo, h]
theorem run_sizeOf {t : TypeId} {n : Nat} (h : sizeT P t = some n) : (sizeOf t).run P w = .ok n w := by
  unfold sizeT at h
  simp only [Option.map_eq_some_iff] at h
  obtain ⟨i, hi, rfl⟩ := h
  simp [sizeOf, run_typeInfo hi]
theorem run_isAgg {t : TypeId} {b : Bool} (h : aggT P t = some b) : (isAgg t).run P w = .ok b w := by
  unfold aggT at h
  split at h
  · rename_i fs hu; cases h; simp [isAgg, run_underlying hu]
  · rename_i n e hu; cases h; simp [isAgg, run_underlying hu]
  · rename_i u h1 h2 hu
    cases h
    simp only [isAgg, Sem.run_bind, run_underlying hu, Result.andThen_ok]
    cases u <;> first | exact absurd rfl (h1 _) | exact absurd rfl (h2 _ _) | rfl
  · simp at h

theorem run_asIntOf (k : IntKind) (n : Int) : (asIntOf (.int k n)).run P w = .ok (k, n) w := rfl

theorem asIdx_rep (h : Sim E K s a.tmps w) {x : Option Opd} {y : Option Operand} {d i : Nat} (hc : chkOO x y = true) (hi : asIdx s.sl x d = some i) :
    (y = none ∧ i = d) ∨ ∃ z k, y = some z ∧ a.eval z = .int k (i : Int) := by
  cases x with
  | none =>
    cases y <;> simp [chkOO] at hc
    simp only [asIdx, Option.some.injEq] at hi
    exact .inl ⟨rfl, hi.symm⟩
  | some x =>
    cases y <;> simp [chkOO] at hc
    rename_i z
    simp only [asIdx] at hi
    split at hi
    · rename_i k n hx
      split at hi
      · rename_i hn
        simp only [Option.some.injEq] at hi
        refine .inr ⟨z, k, rfl, ?_⟩
        rw [rep_int (getO_rep h hc hx)]
        congr 1
        omega
      · simp at hi
    · simp at hi

theorem run_bound {k : IntKind} {i y : Nat} {code : BoundsCode} (h : i ≤ y) : (Instr.sliceBound (.int k (i : Int)) y code).run P w = .ok i w := by
  simp only [Instr.sliceBound, Sem.run_bind, run_asIntOf, Result.andThen_ok]
  rw [if_pos ⟨by omega, by omega⟩]
  simp

theorem run_bounds (h : Sim E K s a.tmps w) {isS : Bool} {len cap : Nat} {lo hi : Option Opd} {lo' hi' : Option Operand} {i j : Nat} (h1 : chkOO lo lo' = true) (h2 : chkOO hi hi' = true)
    (e1 : asIdx s.sl lo 0 = some i) (e2 : asIdx s.sl hi len = some j) (hij : i ≤ j) (hj : j ≤ len) (hlen : len ≤ cap) :
    (Instr.sliceBounds isS len cap (lo'.map a.eval) (hi'.map a.eval) none).run P w = .ok (i, j, cap) w := by
  rcases asIdx_rep h h1 e1 with ⟨rfl, rfl⟩ | ⟨z, k, rfl, hz⟩ <;> rcases asIdx_rep h h2 e2 with ⟨rfl, rfl⟩ | ⟨z', k', rfl, hz'⟩
  · simp [Instr.sliceBounds]
  · simp [Instr.sliceBounds, hz', run_bound (show j ≤ cap by omega)]
  · simp [Instr.sliceBounds, hz, run_bound hij]
  · simp [Instr.sliceBounds, hz, hz', run_bound (show j ≤ cap by omega), run_bound hij]

theorem extract_list (l : List UInt8) (i j : Nat) : (ByteArray.mk l.toArray).extract i j = ⟨((l.take j).drop i).toArray⟩ := by
  rw [ByteArray.extract_mk, List.drop_take]

theorem ok_sliceStr {sz : Nat} {x : Opd} {lo hi : Option Opd} {x' : Operand} {lo' hi' mx : Option Operand} {t : TypeId} {o : Oper} {l : List UInt8} {i j : Nat} (ho : o.op = .slice t x' lo' hi' mx) (h : Sim E K s a.tmps w)
    (h1 : chkO x x' = true) (h2 : chkOO lo lo' = true) (h3 : chkOO hi hi' = true) (hm : mx = none) (ht : isStrT P t = true)
    (hx : getO s.sl x = some (.d (.str l))) (e1 : asIdx s.sl lo 0 = some i) (e2 : asIdx s.sl hi l.length = some j) (hij : i ≤ j ∧ j ≤ l.length) : OpOK P E K s a w o (.val (.d (.str ((l.take j).drop i))) s) := by
  have p := rep_str (getO_rep h h1 hx)
  have hu := und_str ht
  subst hm
  refine opOK_pure h (pv := .string ⟨((l.take j).drop i).toArray⟩) ?_ (rep_str' _) (fun _ e => by cases e)
  have hb := run_bounds (P := P) (isS := false) h h2 h3 e1 e2 hij.1 hij.2 (Nat.le_refl _)
  have hs : (ByteArray.mk l.toArray).size = l.length := size_mk l
  simp only [execOp, ho, p, Instr.sliceAt, Sem.run_bind, run_underlying hu, Result.andThen_ok, Instr.slice, hs, Option.map_none, Option.isSome_none, Bool.false_eq_true, if_false]
  rw [hb]
  simp only [Result.andThen_ok, Sem.run_pure, extract_list]

theorem add_addr (b o n : Nat) : Addr.add ⟨b, o, none⟩ n = ⟨b, o + n, none⟩ := by unfold Addr.add; split <;> simp_all

theorem list_rep {v : AV} {pv : Value} {es : List (List D)} (h : Rep K v pv) (hl : v.list? = some es) : RepD K.G (.lst es) pv := by
  cases v <;> simp [AV.list?] at hl
  · rename_i x
    cases x <;> simp at hl
    subst hl
    simpa [Rep] using h
  · subst hl
    simp only [Rep] at h
    subst h
    simp only [RepD]
    exact ⟨none, 0, rfl, by simp, by simp⟩
  · subst hl
    simpa [Rep] using h

theorem ok_sliceLst {sz : Nat} {x : Opd} {lo hi : Option Opd} {x' : Operand} {lo' hi' mx : Option Operand} {t e : TypeId} {o : Oper} {v : AV} {l : List (List D)} {i j : Nat} (ho : o.op = .slice t x' lo' hi' mx) (h : Sim E K s a.tmps w)
    (h1 : chkO x x' = true) (h2 : chkOO lo lo' = true) (h3 : chkOO hi hi' = true) (hm : mx = none) (ht : elemT P t = some e) (hsz : sizeT P e = some sz)
    (hx : getO s.sl x = some v) (hl : v.list? = some l) (e1 : asIdx s.sl lo 0 = some i) (e2 : asIdx s.sl hi l.length = some j) (hij : i ≤ j ∧ j ≤ l.length) (hs : sizesB sz l = true) :
    OpOK P E K s a w o (.val (.d (.lst ((l.take j).drop i))) s) := by
  have p := list_rep (getO_rep h h1 hx) hl
  have hu := und_elem ht
  subst hm
  simp only [RepD] at p
  obtain ⟨ad, cap, hv, hcap, hrows⟩ := p
  have hb := run_bounds (P := P) (isS := true) h h2 h3 e1 e2 hij.1 hij.2 hcap
  refine opOK_pure h (pv := .slice (if cap = i then ad else ad.map (·.add (i * sz))) (j - i) (cap - i)) ?_ ?_ (fun _ e => by cases e)
  · simp only [execOp, ho, hv, Instr.sliceAt, Sem.run_bind, run_underlying hu, Result.andThen_ok, Instr.slice, Option.map_none]
    rw [hb]
    simp only [Result.andThen_ok, run_sizeOf hsz, Sem.run_pure]
  · simp only [Rep, RepD]
    have hlen : ((l.take j).drop i).length = j - i := by simp; omega
    refine ⟨_, _, by rw [hlen], by omega, fun hne => ?_⟩
    have hji : i < j := by
      rcases Nat.lt_or_ge i j with h' | h'
      · exact h'
      · exact absurd (List.length_eq_zero_iff.1 (by rw [hlen]; omega)) hne
    obtain ⟨b, off, z, ha, hr⟩ := hrows (by intro hn; subst hn; simp at hij; omega)
    have hz : z = sz := by
      cases l with
      | nil => simp at hij; omega
      | cons y l =>
        simp only [sizesB, beq_iff_eq] at hs
        simp only [RepRows] at hr
        omega
    subst hz
    refine ⟨b, off + i * z, z, ?_, RepRows.drop i (RepRows.take j hr)⟩
    rw [if_neg (by omega), ha]
    simp [add_addr]

theorem ok_slArr {n : Nat} {x : Opd} {lo hi : Option Opd} {x' : Operand} {lo' hi' mx : Option Operand} {t e : TypeId} {o : Oper} {r off i j : Nat} (ho : o.op = .slice t x' lo' hi' mx) (h : Sim E K s a.tmps w)
    (h1 : chkO x x' = true) (h2 : chkOO lo lo' = true) (h3 : chkOO hi hi' = true) (hm : mx = none) (ht : arrT P t = some (n, e)) (hsz : sizeT P e = some 1)
    (hx : getO s.sl x = some (.ptr r off)) (e1 : asIdx s.sl lo 0 = some i) (e2 : asIdx s.sl hi n = some j) (hij : i ≤ j ∧ j ≤ n) :
    OpOK P E K s a w o (.val (.sref r (off + i) (j - i)) s) := by
  have p := getO_rep h h1 hx
  have hu := und_arr ht
  subst hm
  simp only [Rep] at p
  obtain ⟨b, hρ, hv⟩ := p
  have hb := run_bounds (P := P) (isS := false) h h2 h3 e1 e2 hij.1 hij.2 (Nat.le_refl _)
  refine opOK_pure h (pv := .slice (some (if n = i then ⟨b, off, none⟩ else (⟨b, off, none⟩ : Addr).add (i * 1))) (j - i) (n - i)) ?_ ?_ (fun _ e => by cases e)
  · simp only [execOp, ho, hv, Instr.sliceAt, Sem.run_bind, run_underlying hu, Result.andThen_ok, Instr.sureAddr, Sem.run_pure, Option.map_none]
    rw [hb]
    simp only [Result.andThen_ok, run_sizeOf hsz, Sem.run_pure]
  · simp only [Rep]
    refine ⟨b, _, _, hρ, rfl, fun hne => ?_⟩
    rw [if_neg (by omega), add_addr]
    simp

theorem ok_fldA {off f : Nat} {x : Opd} {y : Operand} {t : TypeId} {o : Oper} {fs : Array Field} {g : Field} {sz : Nat} {v v' : AV} (ho : o.op = .fieldAddr t y f) (h : Sim E K s a.tmps w)
    (h1 : chkO x y = true) (ht : P.underlying t = some (.struct fs)) (hf : fs[f]? = some g) (hoff : g.offset = off) (hsz : sizeT P g.type = some sz) (hs : 0 < sz)
    (hx : getO s.sl x = some v) (hv : (∃ r o, v = .ptr r o ∧ v' = .ptr r (o + off)) ∨ (∃ cs o, v = .ept cs o ∧ v' = .ept cs (o + off))) : OpOK P E K s a w o (.val v' s) := by
  have p := getO_rep h h1 hx
  rcases hv with ⟨r, o', rfl, rfl⟩ | ⟨cs, o', rfl, rfl⟩
  · simp only [Rep] at p
    obtain ⟨b, hρ, hv⟩ := p
    refine opOK_pure h (pv := .pointer (some ⟨b, o' + off, none⟩)) ?_ (by simp only [Rep]; exact ⟨b, hρ, rfl⟩) (fun _ e => by cases e)
    simp only [execOp, ho, hv, Instr.fieldAt, Sem.run_bind, run_underlying ht, Result.andThen_ok, hf, Instr.sureAddr, Sem.run_pure, fieldPlace, run_sizeOf hsz]
    rw [if_neg (by omega), hoff, add_addr]
    simp
  · simp only [Rep] at p
    obtain ⟨b, o2, hv, hr⟩ := p
    refine opOK_pure h (pv := .pointer (some ⟨b, o2 + (o' + off), none⟩)) ?_ (by simp only [Rep]; exact ⟨b, o2, rfl, hr⟩) (fun _ e => by cases e)
    simp only [execOp, ho, hv, Instr.fieldAt, Sem.run_bind, run_underlying ht, Result.andThen_ok, hf, Instr.sureAddr, Sem.run_pure, fieldPlace, run_sizeOf hsz]
    rw [if_neg (by omega), hoff, add_addr]
    simp [Nat.add_assoc]

theorem agg_not_own {x : Opd} {cs : List AV} (hx : getO s.sl x = some (.agg cs)) : ∀ (i : Nat) es, cs[i]? ≠ some (.own es) := by
  simp only [getO, Option.map_eq_some_iff] at hx
  obtain ⟨z, _, hz⟩ := hx
  cases z <;> simp [AV.strip] at hz
  rename_i zs
  subst hz
  intro i es
  have : ∀ (l : List AV) (i : Nat), (AV.strips l)[i]? ≠ some (.own es) := fun l => by
    induction l with
    | nil => intro i; simp [AV.strips]
    | cons c l ih =>
      intro i
      cases i with
      | zero => simp only [AV.strips, List.getElem?_cons_zero, ne_eq, Option.some.injEq]; exact strip_not_own c es
      | succ i => simp only [AV.strips, List.getElem?_cons_succ]; exact ih i
  exact this _ _

theorem toList_extract (vs : Array Value) (i n : Nat) : (vs.extract i (i + n)).toList = (vs.toList.drop i).take n := by
  simp [List.extract_eq_take_drop]

/-- a part of a struct or an array, by value -/
theorem run_part {t : TypeId} {agg : Option Nat} {vs : Array Value} {cs : List AV} {off : Nat} {v : AV} (hr : RepL K cs vs.toList) (hc : chkAgg P agg t = true)
    (hv : partA agg cs off = some v) : ∃ pv, (part t vs off).run P w = .ok pv w ∧ Rep K v pv := by
  unfold chkAgg at hc
  unfold partA at hv
  split at hc
  · rename_i n
    simp only [Bool.and_eq_true, beq_iff_eq] at hc
    simp only at hv
    split at hv
    · rename_i hlen
      simp only [Option.some.injEq] at hv
      subst hv
      refine ⟨.agg (vs.extract off (off + n)), by simp [part, run_isAgg hc.1, run_sizeOf hc.2], ?_⟩
      simp only [Rep]
      exact ⟨_, rfl, by rw [toList_extract]; exact RepL.take n (RepL.drop off hr)⟩
    · simp at hv
  · simp only [Bool.and_eq_true, beq_iff_eq] at hc
    simp only at hv
    obtain ⟨u, hu, hru⟩ := RepL.get hr hv
    have : vs[off]? = some u := by simpa using hu
    exact ⟨u, by simp [part, run_isAgg hc.1, this], hru⟩

theorem part_not_own {x : Opd} {cs : List AV} {agg : Option Nat} {off : Nat} {v : AV} (hx : getO s.sl x = some (.agg cs))
    (hv : partA agg cs off = some v) : ∀ es, v ≠ .own es := by
  intro es e
  subst e
  unfold partA at hv
  cases agg with
  | none => exact agg_not_own hx _ _ hv
  | some n => simp only at hv; split at hv <;> simp at hv

theorem ok_fld {off f : Nat} {agg : Option Nat} {x : Opd} {y : Operand} {t : TypeId} {o : Oper} {fs : Array Field} {g : Field} {cs : List AV} {v : AV} (ho : o.op = .field t y f) (h : Sim E K s a.tmps w)
    (h1 : chkO x y = true) (ht : P.underlying t = some (.struct fs)) (hf : fs[f]? = some g) (hoff : g.offset = off) (hc : chkAgg P agg g.type = true)
    (hx : getO s.sl x = some (.agg cs)) (hv : partA agg cs off = some v) : OpOK P E K s a w o (.val v s) := by
  have p := getO_rep h h1 hx
  simp only [Rep] at p
  obtain ⟨vs, hvs, hr⟩ := p
  obtain ⟨pv, hrun, hrep⟩ := run_part (P := P) (w := w) hr hc hv
  refine opOK_pure h (pv := pv) ?_ hrep (part_not_own hx hv)
  simp only [execOp, ho, hvs, Instr.field, Sem.run_bind, run_underlying ht, Result.andThen_ok, hf, asAgg, Sem.run_pure, hoff, hrun]

theorem ok_idxV {n sz : Nat} {agg : Option Nat} {x i : Opd} {x' i' : Operand} {t e : TypeId} {o : Oper} {cs : List AV} {k : IntKind} {m : Int} {v : AV} (ho : o.op = .index t x' i') (h : Sim E K s a.tmps w)
    (h1 : chkO x x' = true) (h2 : chkO i i' = true) (ht : arrT P t = some (n, e)) (hsz : sizeT P e = some sz) (hc : chkAgg P agg e = true)
    (hx : getO s.sl x = some (.agg cs)) (hi : getO s.sl i = some (.d (.int k m))) (hm : ¬ (m < 0 ∨ ¬ m < n))
    (hv : partA agg cs (m.toNat * sz) = some v) : OpOK P E K s a w o (.val v s) := by
  have p := getO_rep h h1 hx
  have q := rep_int (getO_rep h h2 hi)
  simp only [Rep] at p
  obtain ⟨vs, hvs, hr⟩ := p
  obtain ⟨pv, hrun, hrep⟩ := run_part (P := P) (w := w) hr hc hv
  refine opOK_pure h (pv := pv) ?_ hrep (part_not_own hx hv)
  have hu := und_arr ht
  simp only [execOp, ho, hvs, q, Instr.index, Sem.run_bind, run_underlying hu, Result.andThen_ok, run_asIntOf]
  rw [if_pos (by omega)]
  simp only [Sem.run_bind, run_sizeOf hsz, Result.andThen_ok, hrun, Sem.run_pure]

theorem ok_idxS {x i : Opd} {x' i' : Operand} {t : TypeId} {o : Oper} {l : List UInt8} {k : IntKind} {n : Int} {b : UInt8} (ho : o.op = .index t x' i') (h : Sim E K s a.tmps w)
    (h1 : chkO x x' = true) (h2 : chkO i i' = true) (ht : isStrT P t = true)
    (hx : getO s.sl x = some (.d (.str l))) (hi : getO s.sl i = some (.d (.int k n))) (hn : ¬ n < 0) (hb : l[n.toNat]? = some b) : OpOK P E K s a w o (.val (.d (.int .u8 b.toNat)) s) := by
  have p := rep_str (getO_rep h h1 hx)
  have q := rep_int (getO_rep h h2 hi)
  have hu := und_str ht
  refine opOK_pure h (pv := .int .u8 b.toNat) ?_ (rep_int' _ _) not_own_int
  have hlt : n.toNat < l.length := (List.getElem?_eq_some_iff.1 hb).1
  have hget : (ByteArray.mk l.toArray)[n.toNat]? = some b := by
    rw [ByteArray.getElem?_lt' _ _ (by rw [size_mk]; exact hlt)]
    congr 1
    have h2 := (List.getElem?_eq_some_iff.1 hb).2
    show (l.toArray)[n.toNat] = b
    simpa using h2
  simp only [execOp, ho, p, q, Instr.index, Sem.run_bind, run_underlying hu, Result.andThen_ok, run_asIntOf]
  rw [if_pos (by omega), hget]
  simp

theorem ok_idxAarr {n sz : Nat} {x i : Opd} {x' i' : Operand} {t e : TypeId} {o : Oper} {k : IntKind} {m : Int} {v v' : AV} (ho : o.op = .indexAddr t x' i') (h : Sim E K s a.tmps w)
    (h1 : chkO x x' = true) (h2 : chkO i i' = true) (ht : arrT P t = some (n, e)) (hsz : sizeT P e = some sz)
    (hi : getO s.sl i = some (.d (.int k m))) (hm : ¬ m < 0) (hm' : m < n)
    (hx : getO s.sl x = some v) (hv : (∃ r o, v = .ptr r o ∧ v' = .ptr r (o + m.toNat * sz)) ∨ (∃ cs o, v = .ept cs o ∧ v' = .ept cs (o + m.toNat * sz))) : OpOK P E K s a w o (.val v' s) := by
  have p := getO_rep h h1 hx
  have q := rep_int (getO_rep h h2 hi)
  have hu := und_arr ht
  rcases hv with ⟨r, o', rfl, rfl⟩ | ⟨cs, o', rfl, rfl⟩
  · simp only [Rep] at p
    obtain ⟨b, hρ, hv⟩ := p
    refine opOK_pure h (pv := .pointer (some ⟨b, o' + m.toNat * sz, none⟩)) ?_ (by simp only [Rep]; exact ⟨b, hρ, rfl⟩) (fun _ e => by cases e)
    simp only [execOp, ho, hv, q, Instr.indexAt, Sem.run_bind, run_underlying hu, Result.andThen_ok, run_asIntOf, Instr.sureAddr, Sem.run_pure]
    rw [if_pos ⟨by omega, hm'⟩]
    simp [run_sizeOf hsz, add_addr]
  · simp only [Rep] at p
    obtain ⟨b, o2, hv, hr⟩ := p
    refine opOK_pure h (pv := .pointer (some ⟨b, o2 + (o' + m.toNat * sz), none⟩)) ?_ (by simp only [Rep]; exact ⟨b, o2, rfl, hr⟩) (fun _ e => by cases e)
    simp only [execOp, ho, hv, q, Instr.indexAt, Sem.run_bind, run_underlying hu, Result.andThen_ok, run_asIntOf, Instr.sureAddr, Sem.run_pure]
    rw [if_pos ⟨by omega, hm'⟩]
    simp [run_sizeOf hsz, add_addr, Nat.add_assoc]

theorem ok_idxAlst {sz : Nat} {x i : Opd} {x' i' : Operand} {t e : TypeId} {o : Oper} {k : IntKind} {m : Int} {v : AV} {es : List (List D)} {cs : List D} (ho : o.op = .indexAddr t x' i') (h : Sim E K s a.tmps w)
    (h1 : chkO x x' = true) (h2 : chkO i i' = true) (ht : elemT P t = some e) (hsz : sizeT P e = some sz)
    (hi : getO s.sl i = some (.d (.int k m))) (hm : ¬ m < 0) (hx : getO s.sl x = some v) (hl : v.list? = some es) (hcs : es[m.toNat]? = some cs) (hlen : cs.length = sz) : OpOK P E K s a w o (.val (.ept cs 0) s) := by
  have p := list_rep (getO_rep h h1 hx) hl
  have q := rep_int (getO_rep h h2 hi)
  have hu := und_elem ht
  simp only [RepD] at p
  obtain ⟨ad, cap, hv, hcap, hrows⟩ := p
  have hlt := (List.getElem?_eq_some_iff.1 hcs).1
  obtain ⟨b, off, z, rfl, hr⟩ := hrows (by intro e; subst e; simp at hlt)
  have hg := RepRows.get hr hcs
  refine opOK_pure h (pv := .pointer (some ⟨b, off + m.toNat * z + 0, none⟩)) ?_ (by simp only [Rep]; exact ⟨b, off + m.toNat * z, rfl, hg.2⟩) (fun _ e => by cases e)
  have hz : z = sz := by omega
  subst hz
  simp only [execOp, ho, hv, q, Instr.indexAt, Sem.run_bind, run_underlying hu, Result.andThen_ok, run_asIntOf, Sem.run_pure]
  rw [if_pos ⟨by omega, by omega⟩]
  simp [run_sizeOf hsz, add_addr]

theorem ok_assertT {t xt : TypeId} {zero : AV} {x : Opd} {y : Operand} {o : Oper} {v : AV} {z : Value} (ho : o.op = .typeAssert y xt t true) (h : Sim E K s a.tmps w) (h1 : chkO x y = true)
    (ht : (match P.underlying t with | some (.interface _) | none => false | _ => true) = true) (hz : (P.info? t).bind (·.zero) = some z) (hzc : chkV zero z = true)
    (hx : getO s.sl x = some v) {r : AV} (hv : (∃ t' u, v = .ifc t' u ∧ r = if t' = t then .tup [u, .d (.bool true)] else .tup [zero, .d (.bool false)]) ∨ (v = .d .nilI ∧ r = .tup [zero, .d (.bool false)])) : OpOK P E K s a w o (.val r s) := by
  have p := getO_rep h h1 hx
  have hzrun : (zeroValue t).run P w = .ok z w := by
    cases hi : P.info? t with
    | none => simp [hi] at hz
    | some i => simp [hi] at hz; simp [zeroValue, run_typeInfo hi, hz]
  have hzr : Rep K zero z := chkV_rep _ _ hzc
  obtain ⟨u, hu⟩ : ∃ u, P.underlying t = some u := by
    cases hu : P.underlying t with
    | none => simp [hu] at ht
    | some u => exact ⟨u, rfl⟩
  have hni : ∀ ms, u ≠ .interface ms := fun ms e => by subst e; simp [hu] at ht
  rcases hv with ⟨t', u', rfl, rfl⟩ | ⟨rfl, rfl⟩
  · simp only [Rep] at p
    obtain ⟨y', hy, hru⟩ := p
    by_cases he : t' = t
    · rw [if_pos he]
      refine opOK_pure h (pv := .tuple #[y', .bool true]) ?_ ?_ (fun _ e => by cases e)
      · simp only [execOp, ho, hy, Instr.typeAssert, Sem.run_bind, run_underlying hu, Result.andThen_ok]
        cases u <;> first | exact absurd rfl (hni _) | simp [he]
      · simp only [Rep]
        exact ⟨_, rfl, by simp [RepL, hru, Rep, RepD]⟩
    · rw [if_neg he]
      refine opOK_pure h (pv := .tuple #[z, .bool false]) ?_ ?_ (fun _ e => by cases e)
      · simp only [execOp, ho, hy, Instr.typeAssert, Sem.run_bind, run_underlying hu, Result.andThen_ok]
        cases u <;> first | exact absurd rfl (hni _) | simp [he, hzrun]
      · simp only [Rep]
        exact ⟨_, rfl, by simp [RepL, hzr, Rep, RepD]⟩
  · have hy : a.eval y = .nilIface := by simpa [Rep, RepD] using p
    refine opOK_pure h (pv := .tuple #[z, .bool false]) ?_ ?_ (fun _ e => by cases e)
    · simp only [execOp, ho, hy, Instr.typeAssert, Sem.run_bind, run_underlying hu, Result.andThen_ok]
      cases u <;> first | exact absurd rfl (hni _) | simp [hzrun]
    · simp only [Rep]
      exact ⟨_, rfl, by simp [RepL, hzr, Rep, RepD]⟩

theorem one_arg {α : Type} {l : Array α} {y : α} (h : l.toList = [y]) : l = #[y] := by rw [← Array.toArray_toList (xs := l), h]
theorem two_args {α : Type} {l : Array α} {y z : α} (h : l.toList = [y, z]) : l = #[y, z] := by rw [← Array.toArray_toList (xs := l), h]

theorem ok_len {c : Call} {o : Oper} {x : Opd} {y : Operand} {t : TypeId} {v : AV} {n : Int} (ho : o.op = .call c) (h : Sim E K s a.tmps w) (hb : c.callee = .builtin .len) (hx' : c.args.toList = [y]) (ht : c.argTypes.toList = [t])
    (h1 : chkO x y = true) (hx : getO s.sl x = some v)
    (hv : (isStrT P t = true ∧ ∃ l, v = .d (.str l) ∧ n = l.length) ∨ ((elemT P t).isSome = true ∧ ((∃ r o m, v = .sref r o m ∧ n = m) ∨ ∃ l, v.list? = some l ∧ n = l.length))) : OpOK P E K s a w o (.val (.d (.int .i64 n)) s) := by
  have p := getO_rep h h1 hx
  refine opOK_pure h (pv := .int .i64 n) ?_ (rep_int' _ _) not_own_int
  have ha := one_arg hx'
  have hta := one_arg ht
  rcases hv with ⟨hs, l, rfl, rfl⟩ | ⟨hs, ⟨r, o', m, rfl, rfl⟩ | ⟨l, hl, rfl⟩⟩
  · have q := rep_str p
    simp [execOp, ho, resolve, hb, invoke, builtin, Builtin.len_, ha, hta, run_underlying (und_str hs), goInt, q, ByteArray.size_mk']
  · obtain ⟨e, he⟩ := Option.isSome_iff_exists.1 hs
    simp only [Rep] at p
    obtain ⟨b, ad, cc, _, hv, _⟩ := p
    simp [execOp, ho, resolve, hb, invoke, builtin, Builtin.len_, ha, hta, run_underlying (und_elem he), goInt, hv]
  · obtain ⟨e, he⟩ := Option.isSome_iff_exists.1 hs
    have q := list_rep p hl
    simp only [RepD] at q
    obtain ⟨ad, cap, hv, _, _⟩ := q
    simp [execOp, ho, resolve, hb, invoke, builtin, Builtin.len_, ha, hta, run_underlying (und_elem he), goInt, hv]

theorem ok_minmax {mx : Bool} {c : Call} {o : Oper} {x y : Opd} {x' y' : Operand} {k : IntKind} {m n : Int} (ho : o.op = .call c) (h : Sim E K s a.tmps w) (hb : c.callee = .builtin (if mx then .max else .min)) (hx' : c.args.toList = [x', y'])
    (h1 : chkO x x' = true) (h2 : chkO y y' = true) (hx : getO s.sl x = some (.d (.int k m))) (hy : getO s.sl y = some (.d (.int k n))) :
    OpOK P E K s a w o (.val (.d (.int k (if mx then (if n > m then n else m) else (if n < m then n else m)))) s) := by
  have p := rep_int (getO_rep h h1 hx)
  have q := rep_int (getO_rep h h2 hy)
  have ha := two_args hx'
  cases mx
  · refine opOK_pure h (pv := .int k (if n < m then n else m)) ?_ (by simp [Rep, RepD]) not_own_int
    simp only [Bool.false_eq_true, if_false] at hb
    simp [execOp, ho, resolve, hb, invoke, builtin, ha, p, q, run_min_int2]
  · refine opOK_pure h (pv := .int k (if n > m then n else m)) ?_ (by simp [Rep, RepD]) not_own_int
    simp only [if_true] at hb
    simp [execOp, ho, resolve, hb, invoke, builtin, ha, p, q, run_max_int2]

theorem ok_nilchk {x : Opd} {y : Operand} {o : Oper} {v : AV} (ho : o.op = .nilCheck y) (h : Sim E K s a.tmps w) (h1 : chkO x y = true) (hx : getO s.sl x = some v)
    (hv : (∃ r o, v = .ptr r o) ∨ (∃ cs o, v = .ept cs o) ∨ (∃ id u z, v = .fn (.func id) u z)) : OpOK P E K s a w o (.val v s) := by
  have p := getO_rep h h1 hx
  rcases hv with ⟨r, o', rfl⟩ | ⟨cs, o', rfl⟩ | ⟨id, u, z, rfl⟩
  · have p' := p
    simp only [Rep] at p
    obtain ⟨b, hρ, hv⟩ := p
    exact opOK_pure h (by simp [execOp, ho, hv]) p' (fun _ e => by cases e)
  · have p' := p
    simp only [Rep] at p
    obtain ⟨b, o2, hv, hr⟩ := p
    exact opOK_pure h (by simp [execOp, ho, hv]) p' (fun _ e => by cases e)
  · have p' := p
    simp only [Rep] at p
    obtain ⟨va, vc, hv, _, _⟩ := p
    exact opOK_pure h (by simp [execOp, ho, hv]) p' (fun _ e => by cases e)

theorem ok_panic {x : Opd} {y : Operand} {o : Oper} {t : TypeId} {v : AV} (ho : o.op = .panic y) (h : Sim E K s a.tmps w) (h1 : chkO x y = true) (hx : getO s.sl x = some (.ifc t v)) : OpOK P E K s a w o (.pan (.ifc t v) s) := by
  have p := getO_rep h h1 hx
  have p' := p
  simp only [Rep] at p
  obtain ⟨u, hu, hr⟩ := p
  exact ⟨t, v, a.eval y, rfl, rfl, by simp [execOp, ho, Instr.panic, hu], p'⟩

end
end Go.Ab
