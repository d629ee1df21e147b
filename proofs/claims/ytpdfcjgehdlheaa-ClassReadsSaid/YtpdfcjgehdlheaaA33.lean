/- One operation at a time: slices, texts, structs, closures. -/
import Derived.Test.YtpdfcjgehdlheaaA32
set_option linter.all false
namespace Go.Ab

theorem sizesB_bytesOf (l : List UInt8) : sizesB 1 (bytesOf l) = true := by cases l <;> rfl
theorem bytesOf_length (l : List UInt8) : (bytesOf l).length = l.length := by simp [bytesOf]
theorem bytesOf_append (l m : List UInt8) : bytesOf (l ++ m) = bytesOf l ++ bytesOf m := by simp [bytesOf]
theorem strOf_bytesOf (l : List UInt8) : strOf (bytesOf l) = some l := by
  induction l with
  | nil => rfl
  | cons b l ih =>
    show (strOf (bytesOf l)).map _ = _
    rw [ih]
    simp
theorem sizesB_append {sz : Nat} {es ys : List (List D)} (h1 : sizesB sz es = true) (h2 : sizesB sz ys = true) : sizesB sz (es ++ ys) = true := by
  cases es with
  | nil => exact h2
  | cons e es => exact h1

section
variable {T : Tb} {sl : Slots} {rf : Refs} {df : List (AV × List AV)} {pn : Option (Option AV)} {nb : Nat} {N : St → Prop} {X : Ex → St → Prop} {r : List AOp} {d : Nat} {g : Option (Nat × Bool)} {may : Bool}

theorem o_mkls {sz : Nat} {zero : List AV} {parts : List (Nat × Nat × Opd)} {cs : List AV} {ds : List D} {es : List (List D)} (hg : wantedL sl g = some true) (hf : fillA sl zero parts = some cs) (hd : toDs cs = some ds) (hs : 0 < sz) (hl : ds.length ≤ lim) (he : chunks sz (ds.length / sz) ds = es)
    (h : OP T r ⟨(d, .own es) :: sl, rf, df, pn, nb⟩ N X) : OP T (⟨some d, .mkls sz zero parts, g, may⟩ :: r) ⟨sl, rf, df, pn, nb⟩ N X := by
  subst he
  refine o_pure hg ?_ h
  simp only [stepOp, hf, hd]
  rw [if_pos ⟨hs, hl⟩]
  rfl

theorem o_mkls1 {z : AV} {x : Opd} {a : D} (hg : wantedL sl g = some true) (hx : getO sl x = some (.d a)) (h : OP T r ⟨(d, .own [[a]]) :: sl, rf, df, pn, nb⟩ N X) : OP T (⟨some d, .mkls 1 [z] [(0, 1, x)], g, may⟩ :: r) ⟨sl, rf, df, pn, nb⟩ N X := by
  refine o_mkls (cs := [.d a]) (ds := [a]) (es := [[a]]) hg ?_ rfl (by decide) (by exact Nat.le_of_ble_eq_true rfl) (by simp [chunks]) h
  simp only [fillA, hx, AV.cells]
  rfl

theorem o_mkls2 {z z' : AV} {x y : Opd} {a b : D} (hg : wantedL sl g = some true) (hx : getO sl x = some (.d a)) (hy : getO sl y = some (.d b)) (h : OP T r ⟨(d, .own [[a], [b]]) :: sl, rf, df, pn, nb⟩ N X) : OP T (⟨some d, .mkls 1 [z, z'] [(0, 1, x), (1, 1, y)], g, may⟩ :: r) ⟨sl, rf, df, pn, nb⟩ N X := by
  refine o_mkls (cs := [.d a, .d b]) (ds := [a, b]) (es := [[a], [b]]) hg ?_ rfl (by decide) (by exact Nat.le_of_ble_eq_true rfl) (by simp [chunks]) h
  simp only [fillA, hx, hy, AV.cells]
  rfl

/-- a slice of one struct -/
theorem o_mklsa {sz : Nat} {zero : List AV} {x : Opd} {cs : List AV} {ds : List D} (hg : wantedL sl g = some true) (hx : getO sl x = some (.agg cs)) (hc : cs.length = sz) (hz : zero.length = sz) (hs : 0 < sz) (hl : sz ≤ lim) (hd : toDs cs = some ds)
    (h : OP T r ⟨(d, .own [ds]) :: sl, rf, df, pn, nb⟩ N X) : OP T (⟨some d, .mkls sz zero [(0, sz, x)], g, may⟩ :: r) ⟨sl, rf, df, pn, nb⟩ N X := by
  have hset : ∀ (l m : List AV) (pre : List AV), l.length = m.length → setRange (pre ++ l) pre.length m = pre ++ m := by
    intro l
    induction l with
    | nil => intro m pre hl; cases m <;> simp at hl; simp [setRange]
    | cons x l ih =>
      intro m pre hl
      cases m with
      | nil => simp at hl
      | cons y m =>
        simp only [setRange]
        have := ih m (pre ++ [y]) (by simpa using hl)
        simp only [List.append_assoc, List.cons_append, List.nil_append, List.length_append, List.length_cons, List.length_nil] at this
        rw [← this]
        congr 1
        simp
  have hlen : ∀ {l : List AV} {m : List D}, toDs l = some m → m.length = l.length := fun {l} => by
    induction l with
    | nil => intro m h; simp [toDs] at h; subst h; rfl
    | cons x l ih =>
      intro m h
      simp only [toDs] at h
      split at h
      · rename_i y ys _ h2; cases h; simp [ih h2]
      · cases h
  have hdl : ds.length = sz := by rw [hlen hd, hc]
  refine o_mkls (cs := cs) (ds := ds) (es := [ds]) hg ?_ hd hs (by omega) ?_ h
  · have := hset zero cs [] (by omega)
    simp only [List.nil_append, List.length_nil] at this
    simp only [fillA, hx, AV.cells, this, AV.solid]
    rw [if_pos ⟨hc, by omega, trivial⟩]
  · rw [hdl, Nat.div_self hs]
    simp only [chunks]
    rw [List.take_of_length_le (by omega)]

theorem o_build {zero : List AV} {parts : List (Nat × Nat × Opd)} {cs : List AV} (hg : wantedL sl g = some true) (hf : fillA sl zero parts = some cs) (h : OP T r ⟨(d, .agg cs) :: sl, rf, df, pn, nb⟩ N X) : OP T (⟨some d, .build zero parts, g, may⟩ :: r) ⟨sl, rf, df, pn, nb⟩ N X :=
  o_pure hg (by simp only [stepOp, hf]; rfl) h

theorem o_same {t : Nat} {e : List D} {es : List (List D)} (hg : wantedL sl g = some true) (hx : sl.get t = some (.own (e :: es))) (h : OP T r ⟨(d, .own (e :: es)) :: (t, .d (.lst (e :: es))) :: sl, rf, df, pn, nb⟩ N X) : OP T (⟨some d, .same (.t t), g, may⟩ :: r) ⟨sl, rf, df, pn, nb⟩ N X := by
  refine op_val (v := .own (e :: es)) (s' := ⟨(t, .d (.lst (e :: es))) :: sl, rf, df, pn, nb⟩) ((wantedL_eq _ _).trans hg) ?_ h
  simp only [stepOp, rawO, hx, unOwn]
  rfl

theorem o_appo {sz t : Nat} {y : Opd} {v : AV} {es ys : List (List D)} (hg : wantedL sl g = some true) (hx : sl.get t = some (.own es)) (hy : getO sl y = some v) (hv : v.elems? = some ys) (hl : es.length + ys.length ≤ lim) (h1 : sizesB sz es = true) (h2 : sizesB sz ys = true)
    (h : OP T r ⟨(d, .own (es ++ ys)) :: (t, .d (.lst es)) :: sl, rf, df, pn, nb⟩ N X) : OP T (⟨some d, .append sz (.t t) y, g, may⟩ :: r) ⟨sl, rf, df, pn, nb⟩ N X := by
  refine op_val (v := .own (es ++ ys)) (s' := ⟨(t, .d (.lst es)) :: sl, rf, df, pn, nb⟩) ((wantedL_eq _ _).trans hg) ?_ h
  simp only [stepOp, rawO, hx, hy, appendA, hv, unOwn]
  rw [if_pos ⟨hl, h1, h2⟩]
  rfl

theorem o_appn {sz t : Nat} {y : Opd} {v : AV} {e : List D} {ys : List (List D)} (hg : wantedL sl g = some true) (hx : sl.get t = some .nil) (hy : getO sl y = some v) (hv : v.elems? = some (e :: ys)) (hl : (e :: ys).length ≤ lim) (h2 : sizesB sz (e :: ys) = true)
    (h : OP T r ⟨(d, .own (e :: ys)) :: sl, rf, df, pn, nb⟩ N X) : OP T (⟨some d, .append sz (.t t) y, g, may⟩ :: r) ⟨sl, rf, df, pn, nb⟩ N X := by
  refine o_pure hg ?_ h
  simp only [stepOp, rawO, hx, hy, appendA, hv, unOwn]
  rw [if_pos ⟨hl, h2⟩]

theorem o_bytesStr {x : Opd} {v : AV} {es : List (List D)} {l : List UInt8} (hg : wantedL sl g = some true) (hx : getO sl x = some v) (hv : v.list? = some es) (hs : strOf es = some l) (h : OP T r ⟨(d, .d (.str l)) :: sl, rf, df, pn, nb⟩ N X) : OP T (⟨some d, .bytesStr x, g, may⟩ :: r) ⟨sl, rf, df, pn, nb⟩ N X :=
  o_pure hg (by simp only [stepOp, hx, hv, hs]; rfl) h

theorem o_strBytes {x : Opd} {c : UInt8} {l : List UInt8} (hg : wantedL sl g = some true) (hx : getO sl x = some (.d (.str (c :: l)))) (h : OP T r ⟨(d, .own (bytesOf (c :: l))) :: sl, rf, df, pn, nb⟩ N X) : OP T (⟨some d, .strBytes x, g, may⟩ :: r) ⟨sl, rf, df, pn, nb⟩ N X :=
  o_pure hg (by simp only [stepOp, hx]; rfl) h

theorem o_cat {x y : Opd} {a b : List UInt8} (hg : wantedL sl g = some true) (hx : getO sl x = some (.d (.str a))) (hy : getO sl y = some (.d (.str b))) (hl : a.length + b.length ≤ lim) (h : OP T r ⟨(d, .d (.str (a ++ b))) :: sl, rf, df, pn, nb⟩ N X) : OP T (⟨some d, .bin .add x y, g, may⟩ :: r) ⟨sl, rf, df, pn, nb⟩ N X :=
  o_bin hg hx hy (v := .d (.str (a ++ b))) (by simp only [binA, strBin]; rw [if_pos hl]) h

theorem o_eqs {x y : Opd} {a b : List UInt8} (hg : wantedL sl g = some true) (hx : getO sl x = some (.d (.str a))) (hy : getO sl y = some (.d (.str b))) (h : OP T r ⟨(d, .d (.bool (decide (a = b)))) :: sl, rf, df, pn, nb⟩ N X) : OP T (⟨some d, .bin .eql x y, g, may⟩ :: r) ⟨sl, rf, df, pn, nb⟩ N X :=
  o_bin hg hx hy (v := .d (.bool (decide (a = b)))) (by
    simp only [binA, strBin]
    congr 3
    rw [Bool.eq_iff_iff]; simp) h

theorem o_nes {x y : Opd} {a b : List UInt8} (hg : wantedL sl g = some true) (hx : getO sl x = some (.d (.str a))) (hy : getO sl y = some (.d (.str b))) (h : OP T r ⟨(d, .d (.bool (decide (a ≠ b)))) :: sl, rf, df, pn, nb⟩ N X) : OP T (⟨some d, .bin .neq x y, g, may⟩ :: r) ⟨sl, rf, df, pn, nb⟩ N X :=
  o_bin hg hx hy (v := .d (.bool (decide (a ≠ b)))) (by
    simp only [binA, strBin]
    congr 3
    rw [Bool.eq_iff_iff]; simp) h

theorem o_extr {x : Opd} {i : Nat} {vs : List AV} {v : AV} (hg : wantedL sl g = some true) (hx : getO sl x = some (.tup vs)) (hv : vs[i]? = some v) (h : OP T r ⟨(d, v) :: sl, rf, df, pn, nb⟩ N X) : OP T (⟨some d, .extr x i, g, may⟩ :: r) ⟨sl, rf, df, pn, nb⟩ N X :=
  o_pure hg (by simp only [stepOp, hx, hv]; rfl) h

/-- a plain value into a cell -/
theorem o_store1 {a x : Opd} {q off : Nat} {y : D} {cs us : List AV} {rf' : Refs} (hg : wantedL sl g = some true) (ha : getO sl a = some (.ptr q off)) (hx : rawO sl x = some (.d y))
    (hr : rf[q]? = some cs) (hn : off < cs.length) (hu : cs.set off (.d y) = us) (hrf : rf.set q us = rf') (h : OP T r ⟨sl, rf', df, pn, nb⟩ N X) :
    OP T (⟨none, .store 1 a x, g, may⟩ :: r) ⟨sl, rf, df, pn, nb⟩ N X := by
  subst hu hrf
  exact o_store hg ha hx (fun _ h => by cases h) rfl rfl rfl hr (by omega) (.inl (by simp [AV.cellsO, AV.refBs, AV.refB])) rfl h

/-- an index that is within the text: whatever byte stands there -/
theorem o_idxSx {x i : Opd} {l : List UInt8} {k : IntKind} {n : Int} {m : Nat} (hg : wantedL sl g = some true) (hx : getO sl x = some (.d (.str l))) (hi : getO sl i = some (.d (.int k n))) (hn : n = (m : Int)) (hm : m < l.length)
    (h : ∀ b : UInt8, l[m]? = some b → OP T r ⟨(d, .d (.int .u8 b.toNat)) :: sl, rf, df, pn, nb⟩ N X) : OP T (⟨some d, .idxS x i, g, may⟩ :: r) ⟨sl, rf, df, pn, nb⟩ N X :=
  o_idxS hg hx hi hn (List.getElem?_eq_getElem hm) (h _ (List.getElem?_eq_getElem hm))

theorem o_sub0 {x : Opd} {lo : Opd} {k : IntKind} {n : Int} {i : Nat} {l : List UInt8} (hg : wantedL sl g = some true) (hx : getO sl x = some (.d (.str l))) (hlo : getO sl lo = some (.d (.int k n))) (hn : n = (i : Int)) (hi : i ≤ l.length)
    (h : OP T r ⟨(d, .d (.str (l.drop i))) :: sl, rf, df, pn, nb⟩ N X) : OP T (⟨some d, .sliceS x (some lo) none, g, may⟩ :: r) ⟨sl, rf, df, pn, nb⟩ N X := by
  have := o_sliceS (T := T) (rf := rf) (df := df) (pn := pn) (nb := nb) (N := N) (X := X) (r := r) (d := d) (may := may) (hi := none) (lo := some lo) (i := i) (j := l.length) hg hx (by subst hn; simp only [asIdx, hlo]; rw [if_pos (by omega)]; simp) rfl hi (Nat.le_refl _)
  rw [List.take_of_length_le (Nat.le_refl _)] at this
  exact this h

theorem o_sub2 {x : Opd} {lo hi : Opd} {k k' : IntKind} {n n' : Int} {i j : Nat} {l : List UInt8} (hg : wantedL sl g = some true) (hx : getO sl x = some (.d (.str l))) (hlo : getO sl lo = some (.d (.int k n))) (hhi : getO sl hi = some (.d (.int k' n'))) (hn : n = (i : Int)) (hn' : n' = (j : Int)) (hij : i ≤ j) (hj : j ≤ l.length)
    (h : OP T r ⟨(d, .d (.str ((l.take j).drop i))) :: sl, rf, df, pn, nb⟩ N X) : OP T (⟨some d, .sliceS x (some lo) (some hi), g, may⟩ :: r) ⟨sl, rf, df, pn, nb⟩ N X :=
  o_sliceS hg hx (by subst hn; simp only [asIdx, hlo]; rw [if_pos (by omega)]; simp) (by subst hn'; simp only [asIdx, hhi]; rw [if_pos (by omega)]; simp) hij hj h

theorem o_subh {x : Opd} {hi : Opd} {k' : IntKind} {n' : Int} {j : Nat} {l : List UInt8} (hg : wantedL sl g = some true) (hx : getO sl x = some (.d (.str l))) (hhi : getO sl hi = some (.d (.int k' n'))) (hn' : n' = (j : Int)) (hj : j ≤ l.length)
    (h : OP T r ⟨(d, .d (.str (l.take j))) :: sl, rf, df, pn, nb⟩ N X) : OP T (⟨some d, .sliceS x none (some hi), g, may⟩ :: r) ⟨sl, rf, df, pn, nb⟩ N X := by
  have := o_sliceS (T := T) (rf := rf) (df := df) (pn := pn) (nb := nb) (N := N) (X := X) (r := r) (d := d) (may := may) (lo := none) (hi := some hi) (i := 0) (j := j) (sl := sl) hg hx rfl (by subst hn'; simp only [asIdx, hhi]; rw [if_pos (by omega)]; simp) (Nat.zero_le _) hj
  exact this h

theorem o_fld {off : Nat} {agg : Option Nat} {x : Opd} {cs : List AV} {v : AV} (hg : wantedL sl g = some true) (hx : getO sl x = some (.agg cs)) (hv : partA agg cs off = some v) (h : OP T r ⟨(d, v) :: sl, rf, df, pn, nb⟩ N X) : OP T (⟨some d, .fld off agg x, g, may⟩ :: r) ⟨sl, rf, df, pn, nb⟩ N X :=
  o_pure hg (by simp only [stepOp, hx, hv]; rfl) h

theorem o_idxV {n sz : Nat} {agg : Option Nat} {x i : Opd} {cs : List AV} {v : AV} {k : IntKind} {m : Int} {j : Nat} (hg : wantedL sl g = some true) (hx : getO sl x = some (.agg cs)) (hi : getO sl i = some (.d (.int k m))) (hm : m = (j : Int)) (hj : j < n) (hv : partA agg cs (j * sz) = some v) (h : OP T r ⟨(d, v) :: sl, rf, df, pn, nb⟩ N X) : OP T (⟨some d, .idxV n sz agg x i, g, may⟩ :: r) ⟨sl, rf, df, pn, nb⟩ N X := by
  refine o_pure hg ?_ h
  subst hm
  simp only [stepOp, hx, hi]
  rw [if_neg (by omega)]
  simp only [Int.toNat_natCast, hv]
  rfl

theorem o_eqc {ne : Bool} {ks : List PK} {x y : Opd} {a b : List AV} {t : Bool} (hg : wantedL sl g = some true) (hx : getO sl x = some (.agg a)) (hy : getO sl y = some (.agg b)) (ht : eqCells ks a b = some t) (h : OP T r ⟨(d, .d (.bool (t != ne))) :: sl, rf, df, pn, nb⟩ N X) : OP T (⟨some d, .eqc ne ks x y, g, may⟩ :: r) ⟨sl, rf, df, pn, nb⟩ N X :=
  o_pure hg (by simp only [stepOp, hx, hy, ht]; rfl) h

theorem o_beq {ne : Bool} {x y : Opd} {a b : Bool} (hg : wantedL sl g = some true) (hx : getO sl x = some (.d (.bool a))) (hy : getO sl y = some (.d (.bool b))) (h : OP T r ⟨(d, .d (.bool ((a == b) != ne))) :: sl, rf, df, pn, nb⟩ N X) : OP T (⟨some d, .beq ne x y, g, may⟩ :: r) ⟨sl, rf, df, pn, nb⟩ N X :=
  o_pure hg (by simp only [stepOp, hx, hy]; rfl) h

theorem o_not {x : Opd} {a : Bool} (hg : wantedL sl g = some true) (hx : getO sl x = some (.d (.bool a))) (h : OP T r ⟨(d, .d (.bool (!a))) :: sl, rf, df, pn, nb⟩ N X) : OP T (⟨some d, .un .not x, g, may⟩ :: r) ⟨sl, rf, df, pn, nb⟩ N X :=
  o_pure hg (by simp only [stepOp, hx]; rfl) h

theorem o_mkfn {f : Fn} {first cap : List Opd} {a b : List AV} (hg : wantedL sl g = some true) (h1 : getOs sl first = some a) (h2 : getOs sl cap = some b) (h : OP T r ⟨(d, .fn f a b) :: sl, rf, df, pn, nb⟩ N X) : OP T (⟨some d, .mkfn f first cap, g, may⟩ :: r) ⟨sl, rf, df, pn, nb⟩ N X :=
  o_pure hg (by simp only [stepOp, h1, h2]; rfl) h

/-- a call of whatever function value -/
theorem o_callc {f : Opd} {as : List Opd} {id : FuncId} {first cap vs : List AV} {v : AV} {rf' : Refs} (hg : wantedL sl g = some true) (hf : getO sl f = some (.fn (.func id) first cap)) (ha : (getOs sl as).map (fun us => AV.bares (first ++ us ++ cap)) = some vs)
    (he : Ev T id vs rf (.ret v) rf') (h : OP T r ⟨(d, v) :: sl, rf', df, pn, nb⟩ N X) : OP T (⟨some d, .call f as, g, may⟩ :: r) ⟨sl, rf, df, pn, nb⟩ N X := by
  cases hh : getOs sl as with
  | none => rw [hh] at ha; cases ha
  | some us =>
    rw [hh] at ha
    cases ha
    exact op_call (s := ⟨sl, rf, df, pn, nb⟩) ((wantedL_eq _ _).trans hg) hf hh he h

theorem o_callz {f : Opd} {as : List Opd} {id : FuncId} {vs : List AV} {v : AV} {rf' : Refs} (hg : wantedL sl g = some true) (hf : getO sl f = some (.fn (.func id) [] [])) (ha : (getOs sl as).map AV.bares = some vs) (hz : AV.refBs vs = 0)
    (he : Ev T id vs [] (.ret v) rf') (h : OP T r ⟨(d, v) :: sl, rf, df, pn, nb⟩ N X) : OP T (⟨some d, .callZ f as, g, may⟩ :: r) ⟨sl, rf, df, pn, nb⟩ N X := by
  cases hh : getOs sl as with
  | none => rw [hh] at ha; cases ha
  | some us =>
    rw [hh] at ha
    cases ha
    exact op_callZ (s := ⟨sl, rf, df, pn, nb⟩) ((wantedL_eq _ _).trans hg) hf hh (by simpa using hz) (by simpa using he) h


inductive KeepN (keep : List Nat) (N : St → Prop) (s : St) : Prop
  | mk (h : N { s with sl := s.sl.keep keep })

theorem wp_keep {keep : List Nat} {b : AC} {s : St} (h : WP T b s (KeepN keep N) X) : WP T (.trim keep b) s N X :=
  wp_trim (h.mono (fun _ h => h.1) (fun _ _ h => h))

theorem keepN {keep : List Nat} {sl' : Slots} (hk : sl.keep keep = sl') (h : N ⟨sl', rf, df, pn, nb⟩) : KeepN keep N ⟨sl, rf, df, pn, nb⟩ := by
  subst hk
  exact ⟨h⟩
end

end Go.Ab
