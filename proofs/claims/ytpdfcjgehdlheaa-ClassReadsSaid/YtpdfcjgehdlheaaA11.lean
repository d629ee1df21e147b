/- Each operation does what the abstract one says: bytes and texts, append, copy. -/
import Derived.Test.YtpdfcjgehdlheaaA10
set_option linter.all false
namespace Go.Ab
section
variable {P : Program} {E : Env} {K : Ctx} {s : St} {a : Act} {w : World}

theorem repD_one {G : Ghost} {x : D} {v : Value} (h : RepD G x v) : v.oneCell' = true := by
  cases x <;> simp only [RepD] at h
  all_goals first
    | (subst h; rfl)
    | (obtain ⟨_, _, rfl, _⟩ := h; rfl)

theorem rows_vals {G : Ghost} {b sz : Nat} {es : List (List D)} {o : Nat} (h : RepRows G b sz o es) :
    ∃ vs : List Value, vs.length = es.length * sz ∧ (∀ (j : Nat) v, vs[j]? = some v → G b (o + j) = some v) ∧ (∀ (j : Nat) x, es.flatten[j]? = some x → ∃ v, vs[j]? = some v ∧ RepD G x v) ∧ ∀ v, v ∈ vs → v.oneCell' = true := by
  have hfl := flat_of_rows h
  have key : ∀ (l : List D) (o' : Nat), (∀ (j : Nat) x, l[j]? = some x → ∃ v, G b (o' + j) = some v ∧ RepD G x v) → ∃ vs : List Value, vs.length = l.length ∧ (∀ (j : Nat) v, vs[j]? = some v → G b (o' + j) = some v) ∧
      (∀ (j : Nat) x, l[j]? = some x → ∃ v, vs[j]? = some v ∧ RepD G x v) ∧ ∀ v, v ∈ vs → v.oneCell' = true := fun l => by
    induction l with
    | nil => intro o' _; exact ⟨[], rfl, fun j v hj => by simp at hj, fun j x hj => by simp at hj, fun v hv => by simp at hv⟩
    | cons x l ih =>
      intro o' hx
      obtain ⟨v, hv, hr⟩ := hx 0 x (by simp)
      obtain ⟨vs, h1, h2, h3, h4⟩ := ih (o' + 1) (fun j y hy => by
        have := hx (j + 1) y (by simpa using hy)
        rwa [show o' + (j + 1) = o' + 1 + j by omega] at this)
      refine ⟨v :: vs, by simp [h1], fun j u hj => ?_, fun j y hj => ?_, fun u hu => ?_⟩
      · cases j with
        | zero => simp only [List.getElem?_cons_zero, Option.some.injEq] at hj; subst hj; exact hv
        | succ j =>
          simp only [List.getElem?_cons_succ] at hj
          have := h2 j u hj
          rwa [show o' + (j + 1) = o' + 1 + j by omega]
      · cases j with
        | zero => simp only [List.getElem?_cons_zero, Option.some.injEq] at hj; subst hj; exact ⟨v, by simp, hr⟩
        | succ j => simp only [List.getElem?_cons_succ] at hj ⊢; exact h3 j y hj
      · simp only [List.mem_cons] at hu
        rcases hu with rfl | hu
        · exact repD_one hr
        · exact h4 u hu
  obtain ⟨vs, h1, h2⟩ := key es.flatten o hfl
  exact ⟨vs, by rw [h1, flat_len (rows_len h)], h2⟩

/-- what is read out of a source that is appended, or copied -/
structure Src (P : Program) (K : Ctx) (w : World) (sz n : Nat) (pv : Value) (ys : List (List D)) (vs : List Value) : Prop where
  cells : (Builtin.firstCells sz n pv).run P w = .ok vs.toArray w
  len : vs.length = n * sz
  rep : ∀ (j : Nat) x, ys.flatten[j]? = some x → ∃ v, vs[j]? = some v ∧ RepD K.G x v
  one : ∀ v, v ∈ vs → v.oneCell' = true
  each : ∀ e, e ∈ ys → e.length = sz
  many : ys.length = n

theorem src_rows {sz n : Nat} {ys : List (List D)} {pv : Value} (hc : ∀ b o v, K.G b o = some v → w.cell? ⟨b, o, none⟩ = some v) (hp : RepD K.G (.lst ys) pv) (hs : sizesB sz ys = true) (hn : n ≤ ys.length) : ∃ vs, Src P K w sz n pv (ys.take n) vs := by
  simp only [RepD] at hp
  obtain ⟨ad, cap, rfl, hcap, hrows⟩ := hp
  cases n with
  | zero =>
    refine ⟨[], ?_, by simp, fun j x hj => by simp at hj, fun v hv => by simp at hv, fun e he => by simp at he, by simp⟩
    cases ad with
    | none => simp [Builtin.firstCells]
    | some ad => simp [Builtin.firstCells, loadCells, loadCellsFrom]
  | succ n =>
    obtain ⟨b, o, z, rfl, hr⟩ := hrows (by intro e; subst e; simp at hn)
    have hz : z = sz := by
      cases ys with
      | nil => simp at hn
      | cons y l =>
        simp only [sizesB, beq_iff_eq] at hs
        simp only [RepRows] at hr
        omega
    subst hz
    have hrt := RepRows.take (n + 1) hr
    obtain ⟨vs, h1, h2, h3, h4⟩ := rows_vals hrt
    have hl : vs.length = (n + 1) * z := by rw [h1]; congr 1; simp; omega
    refine ⟨vs, ?_, hl, h3, h4, rows_len hrt, by simp; omega⟩
    have hrun := run_loadCells_list (P := P) w ⟨b, o, none⟩ vs (fun j u hj => by rw [add_addr]; exact hc _ _ _ (h2 j u hj))
    rw [hl] at hrun
    simpa [Builtin.firstCells] using hrun

theorem bytes_flat (l : List UInt8) : (bytesOf l).flatten = l.map fun b => D.int .u8 b.toNat := by
  induction l with
  | nil => rfl
  | cons b l ih => simp only [bytesOf, List.map_cons, List.flatten_cons] at ih ⊢; rw [ih]; rfl

theorem bytes_get (l : List UInt8) (j : Nat) : (l.map fun b => Value.int .u8 b.toNat)[j]? = (l[j]?).map fun b => Value.int .u8 (b.toNat : Int) := by simp

theorem src_str {sz : Nat} {l : List UInt8} (hs : sizesB sz (bytesOf l) = true) : ∃ vs, Src P K w sz l.length (.string ⟨l.toArray⟩) (bytesOf l) vs := by
  by_cases h0 : l = []
  · subst h0
    refine ⟨[], ?_, by simp, fun j x hj => by simp [bytesOf] at hj, fun v hv => by simp at hv, fun e he => by simp [bytesOf] at he, by simp [bytesOf]⟩
    simp [Builtin.firstCells]
  · have hz : sz = 1 := by
      cases l with
      | nil => exact absurd rfl h0
      | cons b l => simp only [bytesOf, List.map_cons, sizesB, beq_iff_eq] at hs; simpa using hs.symm
    subst hz
    refine ⟨l.map fun b => .int .u8 b.toNat, ?_, by simp, fun j x hj => ?_, fun v hv => ?_, fun e he => ?_, by simp [bytesOf]⟩
    · have he : (ByteArray.mk l.toArray).extract 0 l.length = ⟨l.toArray⟩ := by rw [extract_list]; simp
      simp [Builtin.firstCells, he]
    · rw [bytes_flat] at hj
      rw [bytes_get]
      simp only [List.getElem?_map, Option.map_eq_some_iff] at hj ⊢
      obtain ⟨b, hb, rfl⟩ := hj
      exact ⟨_, ⟨b, hb, rfl⟩, by simp [RepD]⟩
    · simp only [List.mem_map] at hv
      obtain ⟨b, _, rfl⟩ := hv
      rfl
    · simp only [bytesOf, List.mem_map] at he
      obtain ⟨b, _, rfl⟩ := he
      rfl

theorem src_of {sz : Nat} {y : AV} {pv : Value} {ys : List (List D)} (hc : ∀ b o v, K.G b o = some v → w.cell? ⟨b, o, none⟩ = some v) (hp : Rep K y pv) (hy : y.elems? = some ys) (hs : sizesB sz ys = true) :
    ∃ vs, Src P K w sz ys.length pv ys vs ∧ (Builtin.lenOf pv).run P w = .ok ys.length w := by
  by_cases hstr : ∃ l, y = .d (.str l)
  · obtain ⟨l, rfl⟩ := hstr
    simp only [AV.elems?, Option.some.injEq] at hy
    subst hy
    have := rep_str hp
    subst this
    obtain ⟨vs, h1⟩ := src_str (P := P) (K := K) (w := w) hs
    have hl : (bytesOf l).length = l.length := by simp [bytesOf]
    refine ⟨vs, by rw [hl]; exact h1, ?_⟩
    rw [hl]
    simp [Builtin.lenOf, ByteArray.size_mk']
  · have hl : y.list? = some ys := by
      unfold AV.elems? at hy
      split at hy
      · exact absurd ⟨_, rfl⟩ hstr
      · exact hy
    have q := list_rep hp hl
    obtain ⟨vs, h1⟩ := src_rows (P := P) (w := w) hc q hs (Nat.le_refl _)
    rw [List.take_length] at h1
    refine ⟨vs, h1, ?_⟩
    simp only [RepD] at q
    obtain ⟨ad, cap, rfl, _⟩ := q
    simp [Builtin.lenOf]

theorem freeze_alloc (w : World) (c : Array Value) (e : TypeId) (n : Nat) : (w.alloc (.cells c e)).freeze ⟨w.heap.size, n, none⟩ 1 = w.alloc (.cells c e (n, n + 1)) := by
  unfold World.freeze
  rw [if_neg (by omega)]
  unfold World.alloc
  congr 1
  apply Array.ext_getElem?
  intro i
  rw [Array.getElem?_modify, Array.getElem?_push, Array.getElem?_push]
  by_cases h : i = w.heap.size
  · subst h; simp
  · rw [if_neg (fun e => h e.symm), if_neg h, if_neg h]

theorem ok_strBytes {src dst e : TypeId} {x : Opd} {y : Operand} {o : Oper} {l : List UInt8} (ho : o.op = .convert src dst y) (h : Sim E K s a.tmps w) (h1 : chkO x y = true) (hs : isStrT P src = true) (hd : elemT P dst = some e) (hk : kindT P e = some .u8)
    (hx : getO s.sl x = some (.d (.str l))) {v : AV} (hv : v = if l = [] then .d (.lst []) else .own (bytesOf l)) : OpOK P E K s a w o (.val v s) := by
  have p := rep_str (getO_rep h h1 hx)
  have hus := und_str hs
  have hud := und_elem hd
  have huk := und_kind hk
  let q : Question := .appendCap (ByteArray.mk l.toArray).size 0 e
  let cap : Nat := q.cut (w.tape w.drawn q)
  have hcap : l.length ≤ cap := by
    show l.length ≤ (Question.appendCap (ByteArray.mk l.toArray).size 0 e).cut _
    simp only [Question.cut, ByteArray.size_mk', List.size_toArray]
    omega
  let c : Array Value := ((ByteArray.mk l.toArray).data.map fun b => .int .u8 b.toNat) ++ Array.replicate (cap - (ByteArray.mk l.toArray).size) (.int .u8 0)
  have hcs : c.size = cap := by simp [c, ByteArray.size_mk']; omega
  have hrun : (execOp a.eval o).run P w = .ok (.value (.slice (some ⟨w.heap.size, 0, none⟩) l.length cap)) (w.drew.alloc (.cells c e (cap, cap + 1))) := by
    have hf : (Question.appendCap (ByteArray.mk l.toArray).size 0 e).forced = false := rfl
    simp only [execOp, ho, p, convert, Sem.run_bind, run_underlying hus, run_underlying hud, Result.andThen_ok, run_underlying huk, Conv.stringToBytes, run_choose, hf, Bool.false_eq_true, if_false]
    have hsh : ∀ (w' : World), (w'.alloc (.cells c e)).shape? w'.heap.size = some (e, c.size) := fun w' => by
      unfold World.shape?
      rw [alloc_new]
    have hnew : (newRow e c).run P w.drew = .ok ⟨w.heap.size, 0, none⟩ (w.drew.alloc (.cells c e)) := by simp [newRow]
    have hmark : (markStringish ⟨w.heap.size, 0, none⟩).run P (w.drew.alloc (.cells c e)) = .ok () (w.drew.alloc (.cells c e (cap, cap + 1))) := by
      have hsh' := hsh w.drew
      simp only [World.size_drew] at hsh'
      simp only [markStringish, Sem.run_bind, run_shape, Result.andThen_ok, hsh']
      have := freeze_alloc w.drew c e cap
      simp only [World.size_drew] at this
      simp [hcs, this]
    have hw : ({ w with drawn := w.drawn + 1 } : World) = w.drew := rfl
    rw [hw]
    show (((newRow e c).run P w.drew).andThen _).andThen _ = _
    rw [hnew]
    simp only [Result.andThen_ok, hmark, Sem.run_pure, ByteArray.size_mk', List.size_toArray]
    rfl
  have hes : ∀ e', e' ∈ bytesOf l → e'.length = 1 := fun e' he => by
    simp only [bytesOf, List.mem_map] at he
    obtain ⟨b, _, rfl⟩ := he
    rfl
  have hbl : (bytesOf l).length = l.length := by simp [bytesOf]
  obtain ⟨K', hsim, hρ, hle, hrows, hF⟩ := h.drew.newRow (es := bytesOf l) (sz := 1) (c := c) (el := e) (fz := (cap, cap + 1)) hes (fun j x hx => by
    rw [bytes_flat] at hx
    simp only [List.getElem?_map, Option.map_eq_some_iff] at hx
    obtain ⟨b, hb, rfl⟩ := hx
    refine ⟨.int .u8 b.toNat, ?_, by simp [RepD]⟩
    have hj := (List.getElem?_eq_some_iff.1 hb).1
    simp only [c]
    rw [Array.getElem?_append_left (by simpa using hj)]
    simp [hb]) (.inr (by omega))
  have hno := new_not_owned (w' := w.drew.alloc (.cells c e (cap, cap + 1))) h.drew hρ (fun b o hb => cell_alloc hb)
  have hfin := own_new (E := E) (s' := s) (a := a) (n := l.length) (cap := cap) (off := 0) hes hrows (by simpa using hF) (alloc_new w.drew (.cells c e (cap, cap + 1))) hbl.symm hcap (by omega)
  by_cases h0 : l = []
  · rw [if_pos h0] at hv
    subst hv h0
    refine ⟨_, _, K', hrun, hsim, ?_, fresh_of_not_own (fun es e => by cases e), ⟨hle, fun r _ => by rw [hρ]⟩⟩
    simp only [Rep, RepD]
    exact ⟨_, _, rfl, by simp, by simp⟩
  · rw [if_neg h0] at hv
    subst hv
    have hfin := hfin (fun e0 => absurd (by cases l <;> simp [bytesOf] at e0 ⊢) h0) (fun hlt => absurd h.size (by simp at hlt; omega)) hno
    exact ⟨_, _, K', hrun, hsim, hfin.1, hfin.2, ⟨hle, fun r _ => by rw [hρ]⟩⟩

theorem strOf_vals : ∀ {es : List (List D)} {l : List UInt8}, strOf es = some l → ∃ ns : List Int, es = ns.map (fun n => [D.int .u8 n]) ∧ l = ns.map fun n => UInt8.ofNat n.toNat
  | [], l, h => by simp only [strOf, Option.some.injEq] at h; exact ⟨[], rfl, h.symm⟩
  | e :: es, l, h => by
    unfold strOf at h
    split at h
    · rename_i heq; cases heq
    · rename_i n r heq
      cases heq
      simp only [Option.map_eq_some_iff] at h
      obtain ⟨l', hl', rfl⟩ := h
      obtain ⟨ns, h1, h2⟩ := strOf_vals hl'
      exact ⟨n :: ns, by simp [h1], by simp [h2]⟩
    · simp at h

theorem foldl_push : ∀ (l : List UInt8) (b : List UInt8), l.foldl (fun (r : ByteArray) c => r.push c) ⟨b.toArray⟩ = ⟨(b ++ l).toArray⟩
  | [], b => by simp
  | c :: l, b => by
    simp only [List.foldl_cons]
    have : (ByteArray.mk b.toArray).push c = ⟨(b ++ [c]).toArray⟩ := by simp [ByteArray.push]
    rw [this, foldl_push l]
    simp

theorem ok_bytesStr {src dst e : TypeId} {x : Opd} {y : Operand} {o : Oper} {v : AV} {es : List (List D)} {l : List UInt8} (ho : o.op = .convert src dst y) (h : Sim E K s a.tmps w) (h1 : chkO x y = true) (hd : isStrT P dst = true) (hs : elemT P src = some e) (hk : kindT P e = some .u8)
    (hx : getO s.sl x = some v) (hl : v.list? = some es) (hst : strOf es = some l) : OpOK P E K s a w o (.val (.d (.str l)) s) := by
  have q := list_rep (getO_rep h h1 hx) hl
  have hud := und_str hd
  have hus := und_elem hs
  have huk := und_kind hk
  obtain ⟨ns, rfl, rfl⟩ := strOf_vals hst
  have hnl : (ns.map (fun n => [D.int .u8 n])).length = ns.length := by simp
  refine opOK_pure h (pv := .string ⟨(ns.map fun n => UInt8.ofNat n.toNat).toArray⟩) ?_ (rep_str' _) (fun _ e => by cases e)
  obtain ⟨vs, hsrc⟩ := src_rows (P := P) (w := w) (sz := 1) (n := ns.length) h.cells q (by cases ns <;> simp [sizesB]) (by rw [hnl]; exact Nat.le_refl _)
  simp only [RepD] at q
  obtain ⟨ad, cap, hv, hcap, hrows⟩ := q
  rw [hnl] at hv
  have hconv : (convert src dst (a.eval y)).run P w = .ok (.string ⟨(ns.map fun n => UInt8.ofNat n.toNat).toArray⟩) w := by
    rw [hv, run_convert_bytes_string w src dst e ad ns.length cap hus huk hud]
    cases ad with
    | none =>
      have : ns = [] := by
        cases ns with
        | nil => rfl
        | cons n ns =>
          obtain ⟨b, o', z, hh, _⟩ := hrows (by simp)
          simp at hh
      subst this
      simp [Conv.bytesToString]
      rfl
    | some ad =>
      have hvs : vs = ns.map (Value.int .u8) := by
        apply List.ext_getElem?
        intro j
        have hlen : vs.length = ns.length := by rw [hsrc.len]; simp
        by_cases hj : j < ns.length
        · have hfl : ((ns.map (fun n => [D.int .u8 n])).take ns.length).flatten[j]? = some (.int .u8 ns[j]) := by
            rw [List.take_of_length_le (by simp)]
            have : (ns.map (fun n => [D.int .u8 n])).flatten = ns.map (fun n => D.int .u8 n) := by
              clear hsrc hrows hcap hv hst hl hnl hlen hj
              induction ns with
              | nil => rfl
              | cons n ns ih => simp only [List.map_cons, List.flatten_cons, ih]; rfl
            rw [this]
            simp [hj]
          obtain ⟨u, hu, hr⟩ := hsrc.rep j _ hfl
          simp only [RepD] at hr
          rw [hu, hr]
          simp [hj]
        · rw [List.getElem?_eq_none (by omega), List.getElem?_eq_none (by simp; omega)]
      have hload : (loadCells ad ns.length).run P w = .ok (ns.map (Value.int .u8)).toArray w := by
        have := hsrc.cells
        rw [hv] at this
        simpa [Builtin.firstCells, hvs] using this
      rw [run_bytesToString w ad ns.length cap ns hload]
      have : ns.foldl (fun (r : ByteArray) n => r.push (UInt8.ofNat n.toNat)) ByteArray.empty = ⟨(ns.map fun n => UInt8.ofNat n.toNat).toArray⟩ := by
        have h2 := foldl_push (ns.map fun n => UInt8.ofNat n.toNat) []
        rw [List.foldl_map] at h2
        exact h2
      rw [this]
  simp only [execOp, ho, Sem.run_bind, hconv, Result.andThen_ok, Sem.run_pure]

/-- what is said of a value that is taken whole -/
theorem raw_own (h : Sim E K s a.tmps w) {x : Opd} {y : Operand} {es : List (List D)} (hc : chkO x y = true) (hv : rawO s.sl x = some (.own es)) :
    OwnV K w es (a.eval y) ∧ (∀ b, blk (a.eval y) = some b → (b < E.w0.heap.size → E.T b) ∧ ∀ ℓ es' v', holds K (unOwn s x) a.tmps w ℓ (.own es') v' → blk v' ≠ some b) ∧ ∃ n, x = .t n := by
  cases x with
  | t n =>
    cases y <;> simp [chkO] at hc
    subst hc
    have hf := h.fresh_raw hv none es rfl
    exact ⟨hf.1, fun b hb => ⟨(hf.2 b hb).1, fun ℓ es' v' hh => (hf.2 b hb).2 ℓ es' v' (by simp) hh⟩, n, rfl⟩
  | c av =>
    cases y <;> simp [chkO] at hc
    simp only [rawO, Option.some.injEq] at hv
    subst hv
    exact absurd hc.1 (by unfold chkV; simp)
  | f id => simp only [rawO, Option.some.injEq] at hv; cases hv

theorem freeze_other {w : World} {b n k : Nat} (h : k ≠ b) : (w.freeze ⟨b, n, none⟩ 1).heap[k]? = w.heap[k]? := by
  unfold World.freeze
  rw [if_neg (by omega)]
  simp only [Array.getElem?_modify]
  rw [if_neg (by omega)]

theorem freeze_at {w : World} {b n : Nat} {c : Array Value} {el : TypeId} {fz : Nat × Nat} (h : w.heap[b]? = some (.cells c el fz)) (hn : n = c.size) (hz : fz.1 = fz.2 ∨ c.size ≤ fz.1) :
    ∃ fz', (w.freeze ⟨b, n, none⟩ 1).heap[b]? = some (.cells c el fz') ∧ (fz'.1 = fz'.2 ∨ c.size ≤ fz'.1) := by
  unfold World.freeze
  rw [if_neg (by omega)]
  obtain ⟨lo, hi⟩ := fz
  simp only [Array.getElem?_modify, if_true, h, Option.map_some]
  refine ⟨_, rfl, ?_⟩
  simp only at hz
  split
  · exact .inr (by simp [hn])
  · rename_i hne
    right
    simp only [beq_iff_eq] at hne
    simp only
    omega

theorem ok_same {src dst e : TypeId} {x : Opd} {y : Operand} {o : Oper} {e0 : List D} {es : List (List D)} (ho : o.op = .convert src dst y) (h : Sim E K s a.tmps w) (h1 : chkO x y = true) (hsd : src = dst) (hs : elemT P src = some e) (hk : kindT P e = some .u8)
    (hx : rawO s.sl x = some (.own (e0 :: es))) : OpOK P E K s a w o (.val (.own (e0 :: es)) (unOwn s x)) := by
  subst hsd
  have hus := und_elem hs
  have huk := und_kind hk
  obtain ⟨hown, hblk, _, _⟩ := raw_own h h1 hx
  have hrep := rawO_rep h h1 hx
  simp only [OwnV] at hown
  obtain ⟨b, off, n, c, el, fz, hv, hn, hF, hb, hs', hrows⟩ := hown
  obtain ⟨⟨c1, el1, fz1, hc1, hz1⟩, _⟩ := h.rows b _ hF
  rw [hb] at hc1
  cases hc1
  obtain ⟨fz', hb', hz'⟩ := freeze_at hb rfl hz1
  have hbk := hblk b (by rw [hv]; rfl)
  obtain ⟨K', hsim, hρ, hle, _, hF'⟩ := (h.unOwn x).growRow (w' := w.freeze ⟨b, c.size, none⟩ 1) (m := 0) hF hb hb' hz' (fun _ _ => rfl) (fun k hk => freeze_other hk) (by unfold World.freeze; split <;> simp) (by unfold World.freeze; split <;> rfl) (by unfold World.freeze; split <;> rfl) (by unfold World.freeze; split <;> rfl) hbk.1 hbk.2
  have hcellF : ∀ b' o', (w.freeze ⟨b, c.size, none⟩ 1).cell? ⟨b', o', none⟩ = w.cell? ⟨b', o', none⟩ := fun b' o' => by
    by_cases hbb : b' = b
    · subst hbb; rw [cell_of hb', cell_of hb]
    · exact World.cell?_of_block (freeze_other hbb)
  have hno : ∀ ℓ es' v', holds K' (unOwn s x) a.tmps (w.freeze ⟨b, c.size, none⟩ 1) ℓ (.own es') v' → blk v' ≠ some b := fun ℓ es' v' hh => by
    refine hbk.2 ℓ es' v' ?_
    cases ℓ with
    | sl t => exact hh
    | rf r i =>
      obtain ⟨cs, β, g1, g2, g3, g4⟩ := hh
      rw [hρ] at g3
      rw [hcellF] at g4
      exact ⟨cs, β, g1, g2, g3, g4⟩
  have hfin := own_new (E := E) (s' := unOwn s x) (b := b) (off := off) (n := es.length + 1) (cap := n) (rows_len (RepRows.mono hle _ _ _ _ hrows)) (RepRows.mono hle _ _ _ _ hrows) (by rw [hF']; rfl) hb' rfl hn hs' (by simp) hbk.1 hno
  refine ⟨a.eval y, _, K', ?_, hsim, by rw [hv]; exact hfin.1, by rw [hv]; exact hfin.2, ⟨hle, fun r _ => by rw [hρ]⟩⟩
  have hsh : w.shape? b = some (el, c.size) := by simp [World.shape?, hb]
  simp only [execOp, ho, hv, convert, Sem.run_bind, run_underlying hus, Result.andThen_ok, run_underlying huk, beq_self_eq_true]
  simp [markStringish, hsh]

theorem run_growCap {need sCap bytes : Nat} (h : sCap < need) (hn : need ≤ lim) (hb : bytes ≤ 4096) : ¬ Builtin.nextslicecap need sCap * bytes > 2 ^ 48 := by
  have : need * bytes ≤ 140737488355328 := by
    unfold lim at hn
    calc need * bytes ≤ 2 ^ 34 * 4096 := Nat.mul_le_mul hn hb
      _ ≤ 140737488355328 := by decide
  have := growslice_fits h this
  omega

structure AppT (P : Program) (t u e : TypeId) (i : TypeInfo) (z : Value) (sz : Nat) : Prop where
  ht : P.underlying t = some (.slice e)
  hu : P.underlying u = some .string ∨ ∃ e', P.underlying u = some (.slice e')
  hi : P.info? e = some i
  hz : i.zero = some z
  hsz : i.size = sz
  hzs : z.cells.size = sz
  hpos : 0 < sz
  hb : i.bytes ≤ 4096

theorem run_append_room' {t u e : TypeId} {i : TypeInfo} {z : Value} {sz : Nat} (T : AppT P t u e i z sz) {ty : TypeId} {base : Option Addr} {sLen sCap n : Nat} {x : Value} {vs : List Value} {w' : World}
    (hlen : (Builtin.lenOf x).run P w = .ok n w) (hroom : sLen + n ≤ sCap) (hf : (Builtin.firstCells sz n x).run P w = .ok vs.toArray w)
    (hst : ∀ ad, base = some ad → (storeCells (ad.add (sLen * sz)) vs 0).run P w = .ok () w') (hst0 : base = none → w' = w) :
    (Builtin.append_ #[t, u] ty #[.slice base sLen sCap, x]).run P w = .ok (.slice base (sLen + n) sCap) w' := by
  have key : ∀ d, P.underlying u = some d → (d = .string ∨ ∃ e', d = .slice e') → (Builtin.append_ #[t, u] ty #[.slice base sLen sCap, x]).run P w = .ok (.slice base (sLen + n) sCap) w' := fun d hd hdk => by
    rcases hdk with rfl | ⟨e', rfl⟩
    all_goals
      cases base with
      | none => simp [Builtin.append_, run_underlying T.ht, run_underlying hd, sizeOf, run_typeInfo T.hi, T.hsz, hlen, hroom, hf, hst0 rfl]
      | some ad => simp [Builtin.append_, run_underlying T.ht, run_underlying hd, sizeOf, run_typeInfo T.hi, T.hsz, hlen, hroom, hf, hst ad rfl]
  rcases T.hu with h | ⟨e', h⟩
  · exact key _ h (.inl rfl)
  · exact key _ h (.inr ⟨e', rfl⟩)

theorem run_append_grow' {t u e : TypeId} {i : TypeInfo} {z : Value} {sz : Nat} (T : AppT P t u e i z sz) {ty : TypeId} {base : Option Addr} {sLen sCap n : Nat} {x : Value} {vs old : List Value}
    (hlen : (Builtin.lenOf x).run P w = .ok n w) (hroom : sCap < sLen + n) (hlim : sLen + n ≤ lim) (hf : (Builtin.firstCells sz n x).run P w.drew = .ok vs.toArray w.drew)
    (hold : (Builtin.firstCells sz sLen (.slice base sLen sCap)).run P w.drew = .ok old.toArray w.drew) :
    ∃ cap c, sLen + n ≤ cap ∧ c.size = old.length + vs.length + (cap - (sLen + n)) * sz ∧ (∀ j, j < old.length + vs.length → c[j]? = (old ++ vs)[j]?) ∧
      (Builtin.append_ #[t, u] ty #[.slice base sLen sCap, x]).run P w = .ok (.slice (some ⟨w.heap.size, 0, none⟩) (sLen + n) cap) (w.drew.alloc (.cells c e)) := by
  let q : Question := .appendCap (sLen + n) sCap e
  let cap : Nat := q.cut (w.tape w.drawn q)
  have hcap : sLen + n ≤ cap := by
    show sLen + n ≤ (Question.appendCap (sLen + n) sCap e).cut _
    simp only [Question.cut]; omega
  let c : Array Value := old.toArray ++ (vs.toArray ++ Builtin.zeroCells z.cells (cap - (sLen + n)))
  have hrz : (zeroValue e).run P w.drew = .ok z w.drew := by simp [zeroValue, run_typeInfo T.hi, T.hz]
  refine ⟨cap, c, hcap, ?_, fun j hj => ?_, ?_⟩
  · simp only [c, Array.size_append, List.size_toArray, size_zeroCells, T.hzs]; omega
  · simp only [c]
    rw [← Array.append_assoc, Array.getElem?_append_left (by simpa using hj)]
    simp
  · have hf0 : (Question.appendCap (sLen + n) sCap e).forced = false := rfl
    have hbig := run_growCap (bytes := i.bytes) hroom hlim T.hb
    have hmax : ¬ (((sLen + n : Nat) : Int) > IntKind.i64.max ∧ (false = true ∨ i.bytes = 0)) := by
      rintro ⟨h1, _⟩
      unfold lim at hlim
      have : IntKind.i64.max = 9223372036854775807 := by decide
      omega
    have hw : ({ w with drawn := w.drawn + 1 } : World) = w.drew := rfl
    have hnew : (newRow e c).run P w.drew = .ok ⟨w.heap.size, 0, none⟩ (w.drew.alloc (.cells c e)) := by simp [newRow]
    have hmax' : ¬ (9223372036854775807 < (sLen : Int) + n ∧ i.bytes = 0) := by
      unfold lim at hlim; omega
    have hbig' : ¬ 281474976710656 < Builtin.nextslicecap (sLen + n) sCap * i.bytes := by omega
    have key : ∀ d, P.underlying u = some d → (d = .string ∨ ∃ e', d = .slice e') → (Builtin.append_ #[t, u] ty #[.slice base sLen sCap, x]).run P w =
        ((newRow e c).run P w.drew).andThen fun a w' => Result.ok (Value.slice (some a) (sLen + n) cap) w' := fun d hd hdk => by
      rcases hdk with rfl | ⟨e', rfl⟩
      all_goals
        simp [Builtin.append_, run_underlying T.ht, run_underlying hd, sizeOf, run_typeInfo T.hi, T.hsz, hlen, Nat.not_le.2 hroom, hmax', hbig', hf0, hold, hf, hrz, c, cap, q]
    rw [hnew] at key
    rcases T.hu with h | ⟨e', h⟩
    · exact key _ h (.inl rfl)
    · exact key _ h (.inr ⟨e', rfl⟩)

end
end Go.Ab
