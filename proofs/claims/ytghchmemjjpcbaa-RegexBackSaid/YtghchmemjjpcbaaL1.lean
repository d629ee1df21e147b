/- A part of the proof: tools. No condition. -/
import Derived.Test.YtghchmemjjpcbaaL0
import Derived.DeepKeys
import Derived.Recover
import Derived.Orders
import Derived.LoopN
import Derived.ScopeJumps
import Derived.Laws.Sem
set_option linter.all false
namespace Go.Ab
variable [Glb]
section
variable {P : Program} {E : Env} {K : Ctx} {s : St} {a : Act} {w : World}
theorem repD_one {G : Ghost} {x : D} {v : Value} (h : RepD G x v) : v.oneCell' = true := by
 cases x <;> simp only [RepD] at h
 all_goals first
  | (subst h; rfl)
  | (obtain ⟨_, _, rfl, _⟩ := h; rfl)
theorem rows_vals {G : Ghost} {b sz : Nat} {es : List (List D)} {o : Nat} (h : RepRows G b sz o es) :
  ∃ vs : List Value, vs.length = es.length * sz ∧ (∀ (j : Nat) v, vs[j]? = some v → G b (o + j) = some v) ∧ (∀ (j : Nat) x, es.flatten[j]? = some x → ∃ v, vs[j]? = some v ∧ RepD G x v) ∧ ∀ v, v ∈ vs → v.oneCell' = true := by
 have hfl := flat_of_rows h
 have key : ∀ (l : List D) (o' : Nat), (∀ (j : Nat) x, l[j]? = some x → ∃ v, G b (o' + j) = some v ∧ RepD G x v) → ∃ vs : List Value, vs.length = l.length ∧ (∀ (j : Nat) v, vs[j]? = some v → G b (o' + j) = some v) ∧
   (∀ (j : Nat) x, l[j]? = some x → ∃ v, vs[j]? = some v ∧ RepD G x v) ∧ ∀ v, v ∈ vs → v.oneCell' = true := fun l => by
  induction l with
  | nil => intro o' _; exact ⟨[], rfl, fun j v hj => by simp at hj, fun j x hj => by simp at hj, fun v hv => by simp at hv⟩
  | cons x l ih =>
    intro o' hx
    obtain ⟨v, hv, hr⟩ := hx 0 x (by simp)
    obtain ⟨vs, h1, h2, h3, h4⟩ := ih (o' + 1) (fun j y hy => by
     have := hx (j + 1) y (by simpa using hy)
     rwa [show o' + (j + 1) = o' + 1 + j by omega] at this)
    refine ⟨v :: vs, by simp [h1], fun j u hj => ?_, fun j y hj => ?_, fun u hu => ?_⟩
    ·cases j with
     | zero => simp only [List.getElem?_cons_zero, Option.some.injEq] at hj; subst hj; exact hv
     | succ j =>
       simp only [List.getElem?_cons_succ] at hj
       have := h2 j u hj
       rwa [show o' + (j + 1) = o' + 1 + j by omega]
    ·cases j with
     | zero => simp only [List.getElem?_cons_zero, Option.some.injEq] at hj; subst hj; exact ⟨v, by simp, hr⟩
     | succ j => simp only [List.getElem?_cons_succ] at hj ⊢; exact h3 j y hj
    ·simp only [List.mem_cons] at hu
     rcases hu with rfl | hu
     ·exact repD_one hr
     ·exact h4 u hu
 obtain ⟨vs, h1, h2⟩ := key es.flatten o hfl
 exact ⟨vs, by rw [h1, flat_len (rows_len h)], h2⟩
structure Src (P : Program) (K : Ctx) (w : World) (sz n : Nat) (pv : Value) (ys : List (List D)) (vs : List Value) : Prop where
 cells : (Builtin.firstCells sz n pv).run P w = .ok vs.toArray w
 len : vs.length = n * sz
 rep : ∀ (j : Nat) x, ys.flatten[j]? = some x → ∃ v, vs[j]? = some v ∧ RepD K.G x v
 one : ∀ v, v ∈ vs → v.oneCell' = true
 each : ∀ e, e ∈ ys → e.length = sz
 many : ys.length = n
theorem src_rows {sz n : Nat} {ys : List (List D)} {pv : Value} (hc : ∀ b o v, K.G b o = some v → w.cell? ⟨b, o, none⟩ = some v) (hp : RepD K.G (.lst ys) pv) (hs : sizesB sz ys = true) (hn : n ≤ ys.length) : ∃ vs, Src P K w sz n pv (ys.take n) vs := by
 simp only [RepD] at hp
 obtain ⟨ad, cap, rfl, hcap, hrows⟩ := hp
 cases n with
 | zero =>
   refine ⟨[], ?_, by simp, fun j x hj => by simp at hj, fun v hv => by simp at hv, fun e he => by simp at he, by simp⟩
   cases ad with
   | none => simp [Builtin.firstCells]
   | some ad => simp [Builtin.firstCells, loadCells, loadCellsFrom]
 | succ n =>
   obtain ⟨b, o, z, rfl, hr⟩ := hrows (by intro e; subst e; simp at hn)
   have hz : z = sz := by
    cases ys with
    | nil => simp at hn
    | cons y l =>
      simp only [sizesB, beq_iff_eq] at hs
      simp only [RepRows] at hr
      omega
   subst hz
   have hrt := RepRows.take (n + 1) hr
   obtain ⟨vs, h1, h2, h3, h4⟩ := rows_vals hrt
   have hl : vs.length = (n + 1) * z := by rw [h1]; congr 1; simp; omega
   refine ⟨vs, ?_, hl, h3, h4, rows_len hrt, by simp; omega⟩
   have hrun := run_loadCells_list (P := P) w ⟨b, o, none⟩ vs (fun j u hj => by rw [add_addr]; exact hc _ _ _ (h2 j u hj))
   rw [hl] at hrun
   simpa [Builtin.firstCells] using hrun
theorem bytes_flat (l : List UInt8) : (bytesOf l).flatten = l.map fun b => D.int .u8 b.toNat := by
 induction l with
 | nil => rfl
 | cons b l ih => simp only [bytesOf, List.map_cons, List.flatten_cons] at ih ⊢; rw [ih]; rfl
theorem bytes_get (l : List UInt8) (j : Nat) : (l.map fun b => Value.int .u8 b.toNat)[j]? = (l[j]?).map fun b => Value.int .u8 (b.toNat : Int) := by simp
theorem src_str {sz : Nat} {l : List UInt8} (hs : sizesB sz (bytesOf l) = true) : ∃ vs, Src P K w sz l.length (.string ⟨l.toArray⟩) (bytesOf l) vs := by
 by_cases h0 : l = []
 ·subst h0
  refine ⟨[], ?_, by simp, fun j x hj => by simp [bytesOf] at hj, fun v hv => by simp at hv, fun e he => by simp [bytesOf] at he, by simp [bytesOf]⟩
  simp [Builtin.firstCells]
 ·have hz : sz = 1 := by
   cases l with
   | nil => exact absurd rfl h0
   | cons b l => simp only [bytesOf, List.map_cons, sizesB, beq_iff_eq] at hs; simpa using hs.symm
  subst hz
  refine ⟨l.map fun b => .int .u8 b.toNat, ?_, by simp, fun j x hj => ?_, fun v hv => ?_, fun e he => ?_, by simp [bytesOf]⟩
  ·have he : (ByteArray.mk l.toArray).extract 0 l.length = ⟨l.toArray⟩ := by rw [extract_list]; simp
   simp [Builtin.firstCells, he]
  ·rw [bytes_flat] at hj
   rw [bytes_get]
   simp only [List.getElem?_map, Option.map_eq_some_iff] at hj ⊢
   obtain ⟨b, hb, rfl⟩ := hj
   exact ⟨_, ⟨b, hb, rfl⟩, by simp [RepD]⟩
  ·simp only [List.mem_map] at hv
   obtain ⟨b, _, rfl⟩ := hv
   rfl
  ·simp only [bytesOf, List.mem_map] at he
   obtain ⟨b, _, rfl⟩ := he
   rfl
theorem src_of {sz : Nat} {y : AV} {pv : Value} {ys : List (List D)} (hc : ∀ b o v, K.G b o = some v → w.cell? ⟨b, o, none⟩ = some v) (hp : Rep K y pv) (hy : y.elems? = some ys) (hs : sizesB sz ys = true) :
  ∃ vs, Src P K w sz ys.length pv ys vs ∧ (Builtin.lenOf pv).run P w = .ok ys.length w := by
 by_cases hstr : ∃ l, y = .d (.str l)
 ·obtain ⟨l, rfl⟩ := hstr
  simp only [AV.elems?, Option.some.injEq] at hy
  subst hy
  have := rep_str hp
  subst this
  obtain ⟨vs, h1⟩ := src_str (P := P) (K := K) (w := w) hs
  have hl : (bytesOf l).length = l.length := by simp [bytesOf]
  refine ⟨vs, by rw [hl]; exact h1, ?_⟩
  rw [hl]
  simp [Builtin.lenOf, ByteArray.size_mk']
 ·have hl : y.list? = some ys := by
   unfold AV.elems? at hy
   split at hy
   ·exact absurd ⟨_, rfl⟩ hstr
   ·exact hy
  have q := list_rep hp hl
  obtain ⟨vs, h1⟩ := src_rows (P := P) (w := w) hc q hs (Nat.le_refl _)
  rw [List.take_length] at h1
  refine ⟨vs, h1, ?_⟩
  simp only [RepD] at q
  obtain ⟨ad, cap, rfl, _⟩ := q
  simp [Builtin.lenOf]
theorem freeze_alloc (w : World) (c : Array Value) (e : TypeId) (n : Nat) : (w.alloc (.cells c e)).freeze ⟨w.heap.size, n, none⟩ 1 = w.alloc (.cells c e (n, n + 1)) := by
 unfold World.freeze
 rw [if_neg (by omega)]
 unfold World.alloc
 congr 1
 apply Array.ext_getElem?
 intro i
 rw [Array.getElem?_modify, Array.getElem?_push, Array.getElem?_push]
 by_cases h : i = w.heap.size
 ·subst h; simp
 ·rw [if_neg (fun e => h e.symm), if_neg h, if_neg h]
theorem ok_strBytes {src dst e : TypeId} {x : Opd} {y : Operand} {o : Oper} {l : List UInt8} (ho : o.op = .convert src dst y) (h : Sim E K s a.tmps w) (h1 : chkO x y = true) (hs : isStrT P src = true) (hd : elemT P dst = some e) (hk : kindT P e = some .u8)
  (hx : getO s.sl x = some (.d (.str l))) {v : AV} (hv : v = if l = [] then .d (.lst []) else .own (bytesOf l)) : OpOK P E K s a w o (.val v s) := by
 have p := rep_str (getO_rep h h1 hx)
 have hus := und_str hs
 have hud := und_elem hd
 have huk := und_kind hk
 let q : Question := .appendCap (ByteArray.mk l.toArray).size 0 e
 let cap : Nat := q.cut (w.tape w.drawn q)
 have hcap : l.length ≤ cap := by
  show l.length ≤ (Question.appendCap (ByteArray.mk l.toArray).size 0 e).cut _
  simp only [Question.cut, ByteArray.size_mk', List.size_toArray]
  omega
 let c : Array Value := ((ByteArray.mk l.toArray).data.map fun b => .int .u8 b.toNat) ++ Array.replicate (cap - (ByteArray.mk l.toArray).size) (.int .u8 0)
 have hcs : c.size = cap := by simp [c, ByteArray.size_mk']; omega
 have hrun : (execOp a.eval o).run P w = .ok (.value (.slice (some ⟨w.heap.size, 0, none⟩) l.length cap)) (w.drew.alloc (.cells c e (cap, cap + 1))) := by
  have hf : (Question.appendCap (ByteArray.mk l.toArray).size 0 e).forced = false := rfl
  simp only [execOp, ho, p, convert, Sem.run_bind, run_underlying hus, run_underlying hud, Result.andThen_ok, run_underlying huk, Conv.stringToBytes, run_choose, hf, Bool.false_eq_true, if_false]
  have hsh : ∀ (w' : World), (w'.alloc (.cells c e)).shape? w'.heap.size = some (e, c.size) := fun w' => by
   unfold World.shape?
   rw [alloc_new]
  have hnew : (newRow e c).run P w.drew = .ok ⟨w.heap.size, 0, none⟩ (w.drew.alloc (.cells c e)) := by simp [newRow]
  have hmark : (markStringish ⟨w.heap.size, 0, none⟩).run P (w.drew.alloc (.cells c e)) = .ok () (w.drew.alloc (.cells c e (cap, cap + 1))) := by
   have hsh' := hsh w.drew
   simp only [World.size_drew] at hsh'
   simp only [markStringish, Sem.run_bind, run_shape, Result.andThen_ok, hsh']
   have := freeze_alloc w.drew c e cap
   simp only [World.size_drew] at this
   simp [hcs, this]
  have hw : ({ w with drawn := w.drawn + 1 } : World) = w.drew := rfl
  rw [hw]
  show (((newRow e c).run P w.drew).andThen _).andThen _ = _
  rw [hnew]
  simp only [Result.andThen_ok, hmark, Sem.run_pure, ByteArray.size_mk', List.size_toArray]
  rfl
 have hes : ∀ e', e' ∈ bytesOf l → e'.length = 1 := fun e' he => by
  simp only [bytesOf, List.mem_map] at he
  obtain ⟨b, _, rfl⟩ := he
  rfl
 have hbl : (bytesOf l).length = l.length := by simp [bytesOf]
 obtain ⟨K', hsim, hρ, hle, hrows, hF⟩ := h.drew.newRow (es := bytesOf l) (sz := 1) (c := c) (el := e) (fz := (cap, cap + 1)) hes (fun j x hx => by
  rw [bytes_flat] at hx
  simp only [List.getElem?_map, Option.map_eq_some_iff] at hx
  obtain ⟨b, hb, rfl⟩ := hx
  refine ⟨.int .u8 b.toNat, ?_, by simp [RepD]⟩
  have hj := (List.getElem?_eq_some_iff.1 hb).1
  simp only [c]
  rw [Array.getElem?_append_left (by simpa using hj)]
  simp [hb]) (.inr (by omega))
 have hno := new_not_owned (w' := w.drew.alloc (.cells c e (cap, cap + 1))) h.drew hρ (fun b o hb => cell_alloc hb)
 have hfin := own_new (E := E) (s' := s) (a := a) (n := l.length) (cap := cap) (off := 0) hes hrows (by simpa using hF) (alloc_new w.drew (.cells c e (cap, cap + 1))) hbl.symm hcap (by omega)
 by_cases h0 : l = []
 ·rw [if_pos h0] at hv
  subst hv h0
  refine ⟨_, _, K', hrun, hsim, ?_, fresh_of_not_own (fun es e => by cases e), ⟨hle, fun r _ => by rw [hρ]⟩⟩
  simp only [Rep, RepD]
  exact ⟨_, _, rfl, by simp, by simp⟩
 ·rw [if_neg h0] at hv
  subst hv
  have hfin := hfin (fun e0 => absurd (by cases l <;> simp [bytesOf] at e0 ⊢) h0) (fun hlt => absurd h.size (by simp at hlt; omega)) hno
  exact ⟨_, _, K', hrun, hsim, hfin.1, hfin.2, ⟨hle, fun r _ => by rw [hρ]⟩⟩
theorem strOf_vals : ∀ {es : List (List D)} {l : List UInt8}, strOf es = some l → ∃ ns : List Int, es = ns.map (fun n => [D.int .u8 n]) ∧ l = ns.map fun n => UInt8.ofNat n.toNat
 | [], l, h => by simp only [strOf, Option.some.injEq] at h; exact ⟨[], rfl, h.symm⟩
 | e :: es, l, h => by
   unfold strOf at h
   split at h
   ·rename_i heq; cases heq
   ·rename_i n r heq
    cases heq
    simp only [Option.map_eq_some_iff] at h
    obtain ⟨l', hl', rfl⟩ := h
    obtain ⟨ns, h1, h2⟩ := strOf_vals hl'
    exact ⟨n :: ns, by simp [h1], by simp [h2]⟩
   ·simp at h
theorem foldl_push : ∀ (l : List UInt8) (b : List UInt8), l.foldl (fun (r : ByteArray) c => r.push c) ⟨b.toArray⟩ = ⟨(b ++ l).toArray⟩
 | [], b => by simp
 | c :: l, b => by
   simp only [List.foldl_cons]
   have : (ByteArray.mk b.toArray).push c = ⟨(b ++ [c]).toArray⟩ := by simp [ByteArray.push]
   rw [this, foldl_push l]
   simp
theorem ok_bytesStr {src dst e : TypeId} {x : Opd} {y : Operand} {o : Oper} {v : AV} {es : List (List D)} {l : List UInt8} (ho : o.op = .convert src dst y) (h : Sim E K s a.tmps w) (h1 : chkO x y = true) (hd : isStrT P dst = true) (hs : elemT P src = some e) (hk : kindT P e = some .u8)
  (hx : getO s.sl x = some v) (hl : v.list? = some es) (hst : strOf es = some l) : OpOK P E K s a w o (.val (.d (.str l)) s) := by
 have q := list_rep (getO_rep h h1 hx) hl
 have hud := und_str hd
 have hus := und_elem hs
 have huk := und_kind hk
 obtain ⟨ns, rfl, rfl⟩ := strOf_vals hst
 have hnl : (ns.map (fun n => [D.int .u8 n])).length = ns.length := by simp
 refine opOK_pure h (pv := .string ⟨(ns.map fun n => UInt8.ofNat n.toNat).toArray⟩) ?_ (rep_str' _) (fun _ e => by cases e)
 obtain ⟨vs, hsrc⟩ := src_rows (P := P) (w := w) (sz := 1) (n := ns.length) h.cells q (by cases ns <;> simp [sizesB]) (by rw [hnl]; exact Nat.le_refl _)
 simp only [RepD] at q
 obtain ⟨ad, cap, hv, hcap, hrows⟩ := q
 rw [hnl] at hv
 have hconv : (convert src dst (a.eval y)).run P w = .ok (.string ⟨(ns.map fun n => UInt8.ofNat n.toNat).toArray⟩) w := by
  rw [hv, run_convert_bytes_string w src dst e ad ns.length cap hus huk hud]
  cases ad with
  | none =>
    have : ns = [] := by
     cases ns with
     | nil => rfl
     | cons n ns =>
       obtain ⟨b, o', z, hh, _⟩ := hrows (by simp)
       simp at hh
    subst this
    simp [Conv.bytesToString]
    rfl
  | some ad =>
    have hvs : vs = ns.map (Value.int .u8) := by
     apply List.ext_getElem?
     intro j
     have hlen : vs.length = ns.length := by rw [hsrc.len]; simp
     by_cases hj : j < ns.length
     ·have hfl : ((ns.map (fun n => [D.int .u8 n])).take ns.length).flatten[j]? = some (.int .u8 ns[j]) := by
       rw [List.take_of_length_le (by simp)]
       have : (ns.map (fun n => [D.int .u8 n])).flatten = ns.map (fun n => D.int .u8 n) := by
        clear hsrc hrows hcap hv hst hl hnl hlen hj
        induction ns with
        | nil => rfl
        | cons n ns ih => simp only [List.map_cons, List.flatten_cons, ih]; rfl
       rw [this]
       simp [hj]
      obtain ⟨u, hu, hr⟩ := hsrc.rep j _ hfl
      simp only [RepD] at hr
      rw [hu, hr]
      simp [hj]
     ·rw [List.getElem?_eq_none (by omega), List.getElem?_eq_none (by simp; omega)]
    have hload : (loadCells ad ns.length).run P w = .ok (ns.map (Value.int .u8)).toArray w := by
     have := hsrc.cells
     rw [hv] at this
     simpa [Builtin.firstCells, hvs] using this
    rw [run_bytesToString w ad ns.length cap ns hload]
    have : ns.foldl (fun (r : ByteArray) n => r.push (UInt8.ofNat n.toNat)) ByteArray.empty = ⟨(ns.map fun n => UInt8.ofNat n.toNat).toArray⟩ := by
     have h2 := foldl_push (ns.map fun n => UInt8.ofNat n.toNat) []
     rw [List.foldl_map] at h2
     exact h2
    rw [this]
 simp only [execOp, ho, Sem.run_bind, hconv, Result.andThen_ok, Sem.run_pure]
theorem raw_own (h : Sim E K s a.tmps w) {x : Opd} {y : Operand} {es : List (List D)} (hc : chkO x y = true) (hv : rawO s.sl x = some (.own es)) :
  OwnV K w es (a.eval y) ∧ (∀ b, blk (a.eval y) = some b → (b < E.w0.heap.size → E.T b) ∧ ∀ ℓ es' v', holds K (unOwn s x) a.tmps w ℓ (.own es') v' → blk v' ≠ some b) ∧ ∃ n, x = .t n := by
 cases x with
 | t n =>
   cases y <;> simp [chkO] at hc
   subst hc
   have hf := h.fresh_raw hv none es rfl
   exact ⟨hf.1, fun b hb => ⟨(hf.2 b hb).1, fun ℓ es' v' hh => (hf.2 b hb).2 ℓ es' v' (by simp) hh⟩, n, rfl⟩
 | c av =>
   cases y <;> simp [chkO] at hc
   simp only [rawO, Option.some.injEq] at hv
   subst hv
   exact absurd hc.1 (by unfold chkV; simp)
 | f id => simp only [rawO, Option.some.injEq] at hv; cases hv
theorem freeze_other {w : World} {b n k : Nat} (h : k ≠ b) : (w.freeze ⟨b, n, none⟩ 1).heap[k]? = w.heap[k]? := by
 unfold World.freeze
 rw [if_neg (by omega)]
 simp only [Array.getElem?_modify]
 rw [if_neg (by omega)]
theorem freeze_at {w : World} {b n : Nat} {c : Array Value} {el : TypeId} {fz : Nat × Nat} (h : w.heap[b]? = some (.cells c el fz)) (hn : n = c.size) (hz : fz.1 = fz.2 ∨ c.size ≤ fz.1) :
  ∃ fz', (w.freeze ⟨b, n, none⟩ 1).heap[b]? = some (.cells c el fz') ∧ (fz'.1 = fz'.2 ∨ c.size ≤ fz'.1) := by
 unfold World.freeze
 rw [if_neg (by omega)]
 obtain ⟨lo, hi⟩ := fz
 simp only [Array.getElem?_modify, if_true, h, Option.map_some]
 refine ⟨_, rfl, ?_⟩
 simp only at hz
 split
 ·exact .inr (by simp [hn])
 ·rename_i hne
  right
  simp only [beq_iff_eq] at hne
  simp only
  omega
theorem ok_same {src dst e : TypeId} {x : Opd} {y : Operand} {o : Oper} {e0 : List D} {es : List (List D)} (ho : o.op = .convert src dst y) (h : Sim E K s a.tmps w) (h1 : chkO x y = true) (hsd : src = dst) (hs : elemT P src = some e) (hk : kindT P e = some .u8)
  (hx : rawO s.sl x = some (.own (e0 :: es))) : OpOK P E K s a w o (.val (.own (e0 :: es)) (unOwn s x)) := by
 subst hsd
 have hus := und_elem hs
 have huk := und_kind hk
 obtain ⟨hown, hblk, _, _⟩ := raw_own h h1 hx
 have hrep := rawO_rep h h1 hx
 simp only [OwnV] at hown
 obtain ⟨b, off, n, c, el, fz, hv, hn, hF, hb, hs', hrows⟩ := hown
 obtain ⟨⟨c1, el1, fz1, hc1, hz1⟩, _⟩ := h.rows b _ hF
 rw [hb] at hc1
 cases hc1
 obtain ⟨fz', hb', hz'⟩ := freeze_at hb rfl hz1
 have hbk := hblk b (by rw [hv]; rfl)
 obtain ⟨K', hsim, hρ, hle, _, hF'⟩ := (h.unOwn x).growRow (w' := w.freeze ⟨b, c.size, none⟩ 1) (m := 0) hF hb hb' hz' (fun _ _ => rfl) (fun k hk => freeze_other hk) (by unfold World.freeze; split <;> simp) (by unfold World.freeze; split <;> rfl) (by unfold World.freeze; split <;> rfl) (by unfold World.freeze; split <;> rfl) hbk.1 hbk.2
 have hcellF : ∀ b' o', (w.freeze ⟨b, c.size, none⟩ 1).cell? ⟨b', o', none⟩ = w.cell? ⟨b', o', none⟩ := fun b' o' => by
  by_cases hbb : b' = b
  ·subst hbb; rw [cell_of hb', cell_of hb]
  ·exact World.cell?_of_block (freeze_other hbb)
 have hno : ∀ ℓ es' v', holds K' (unOwn s x) a.tmps (w.freeze ⟨b, c.size, none⟩ 1) ℓ (.own es') v' → blk v' ≠ some b := fun ℓ es' v' hh => by
  refine hbk.2 ℓ es' v' ?_
  cases ℓ with
  | sl t => exact hh
  | rf r i =>
    obtain ⟨cs, β, g1, g2, g3, g4⟩ := hh
    rw [hρ] at g3
    rw [hcellF] at g4
    exact ⟨cs, β, g1, g2, g3, g4⟩
 have hfin := own_new (E := E) (s' := unOwn s x) (b := b) (off := off) (n := es.length + 1) (cap := n) (rows_len (RepRows.mono hle _ _ _ _ hrows)) (RepRows.mono hle _ _ _ _ hrows) (by rw [hF']; rfl) hb' rfl hn hs' (by simp) hbk.1 hno
 refine ⟨a.eval y, _, K', ?_, hsim, by rw [hv]; exact hfin.1, by rw [hv]; exact hfin.2, ⟨hle, fun r _ => by rw [hρ]⟩⟩
 have hsh : w.shape? b = some (el, c.size) := by simp [World.shape?, hb]
 simp only [execOp, ho, hv, convert, Sem.run_bind, run_underlying hus, Result.andThen_ok, run_underlying huk, beq_self_eq_true]
 simp [markStringish, hsh]
theorem run_growCap {need sCap bytes : Nat} (h : sCap < need) (hn : need ≤ lim) (hb : bytes ≤ 4096) : ¬ Builtin.nextslicecap need sCap * bytes > 2 ^ 48 := by
 have : need * bytes ≤ 140737488355328 := by
  unfold lim at hn
  calc need * bytes ≤ 2 ^ 34 * 4096 := Nat.mul_le_mul hn hb
   _ ≤ 140737488355328 := by decide
 have := growslice_fits h this
 omega
structure AppT (P : Program) (t u e : TypeId) (i : TypeInfo) (z : Value) (sz : Nat) : Prop where
 ht : P.underlying t = some (.slice e)
 hu : P.underlying u = some .string ∨ ∃ e', P.underlying u = some (.slice e')
 hi : P.info? e = some i
 hz : i.zero = some z
 hsz : i.size = sz
 hzs : z.cells.size = sz
 hpos : 0 < sz
 hb : i.bytes ≤ 4096
theorem run_append_room' {t u e : TypeId} {i : TypeInfo} {z : Value} {sz : Nat} (T : AppT P t u e i z sz) {ty : TypeId} {base : Option Addr} {sLen sCap n : Nat} {x : Value} {vs : List Value} {w' : World}
  (hlen : (Builtin.lenOf x).run P w = .ok n w) (hroom : sLen + n ≤ sCap) (hf : (Builtin.firstCells sz n x).run P w = .ok vs.toArray w)
  (hst : ∀ ad, base = some ad → (storeCells (ad.add (sLen * sz)) vs 0).run P w = .ok () w') (hst0 : base = none → w' = w) :
  (Builtin.append_ #[t, u] ty #[.slice base sLen sCap, x]).run P w = .ok (.slice base (sLen + n) sCap) w' := by
 have key : ∀ d, P.underlying u = some d → (d = .string ∨ ∃ e', d = .slice e') → (Builtin.append_ #[t, u] ty #[.slice base sLen sCap, x]).run P w = .ok (.slice base (sLen + n) sCap) w' := fun d hd hdk => by
  rcases hdk with rfl | ⟨e', rfl⟩
  all_goals
   cases base with
   | none => simp [Builtin.append_, run_underlying T.ht, run_underlying hd, sizeOf, run_typeInfo T.hi, T.hsz, hlen, hroom, hf, hst0 rfl]
   | some ad => simp [Builtin.append_, run_underlying T.ht, run_underlying hd, sizeOf, run_typeInfo T.hi, T.hsz, hlen, hroom, hf, hst ad rfl]
 rcases T.hu with h | ⟨e', h⟩
 ·exact key _ h (.inl rfl)
 ·exact key _ h (.inr ⟨e', rfl⟩)
theorem run_append_grow' {t u e : TypeId} {i : TypeInfo} {z : Value} {sz : Nat} (T : AppT P t u e i z sz) {ty : TypeId} {base : Option Addr} {sLen sCap n : Nat} {x : Value} {vs old : List Value}
  (hlen : (Builtin.lenOf x).run P w = .ok n w) (hroom : sCap < sLen + n) (hlim : sLen + n ≤ lim) (hf : (Builtin.firstCells sz n x).run P w.drew = .ok vs.toArray w.drew)
  (hold : (Builtin.firstCells sz sLen (.slice base sLen sCap)).run P w.drew = .ok old.toArray w.drew) :
  ∃ cap c, sLen + n ≤ cap ∧ c.size = old.length + vs.length + (cap - (sLen + n)) * sz ∧ (∀ j, j < old.length + vs.length → c[j]? = (old ++ vs)[j]?) ∧
   (Builtin.append_ #[t, u] ty #[.slice base sLen sCap, x]).run P w = .ok (.slice (some ⟨w.heap.size, 0, none⟩) (sLen + n) cap) (w.drew.alloc (.cells c e)) := by
 let q : Question := .appendCap (sLen + n) sCap e
 let cap : Nat := q.cut (w.tape w.drawn q)
 have hcap : sLen + n ≤ cap := by
  show sLen + n ≤ (Question.appendCap (sLen + n) sCap e).cut _
  simp only [Question.cut]; omega
 let c : Array Value := old.toArray ++ (vs.toArray ++ Builtin.zeroCells z.cells (cap - (sLen + n)))
 have hrz : (zeroValue e).run P w.drew = .ok z w.drew := by simp [zeroValue, run_typeInfo T.hi, T.hz]
 refine ⟨cap, c, hcap, ?_, fun j hj => ?_, ?_⟩
 ·simp only [c, Array.size_append, List.size_toArray, size_zeroCells, T.hzs]; omega
 ·simp only [c]
  rw [← Array.append_assoc, Array.getElem?_append_left (by simpa using hj)]
  simp
 ·have hf0 : (Question.appendCap (sLen + n) sCap e).forced = false := rfl
  have hbig := run_growCap (bytes := i.bytes) hroom hlim T.hb
  have hmax : ¬ (((sLen + n : Nat) : Int) > IntKind.i64.max ∧ (false = true ∨ i.bytes = 0)) := by
   rintro ⟨h1, _⟩
   unfold lim at hlim
   have : IntKind.i64.max = 9223372036854775807 := by decide
   omega
  have hw : ({ w with drawn := w.drawn + 1 } : World) = w.drew := rfl
  have hnew : (newRow e c).run P w.drew = .ok ⟨w.heap.size, 0, none⟩ (w.drew.alloc (.cells c e)) := by simp [newRow]
  have hmax' : ¬ (9223372036854775807 < (sLen : Int) + n ∧ i.bytes = 0) := by
   unfold lim at hlim; omega
  have hbig' : ¬ 281474976710656 < Builtin.nextslicecap (sLen + n) sCap * i.bytes := by omega
  have key : ∀ d, P.underlying u = some d → (d = .string ∨ ∃ e', d = .slice e') → (Builtin.append_ #[t, u] ty #[.slice base sLen sCap, x]).run P w =
    ((newRow e c).run P w.drew).andThen fun a w' => Result.ok (Value.slice (some a) (sLen + n) cap) w' := fun d hd hdk => by
   rcases hdk with rfl | ⟨e', rfl⟩
   all_goals
    simp [Builtin.append_, run_underlying T.ht, run_underlying hd, sizeOf, run_typeInfo T.hi, T.hsz, hlen, Nat.not_le.2 hroom, hmax', hbig', hf0, hold, hf, hrz, c, cap, q]
  rw [hnew] at key
  rcases T.hu with h | ⟨e', h⟩
  ·exact key _ h (.inl rfl)
  ·exact key _ h (.inr ⟨e', rfl⟩)
end
end Go.Ab
namespace Go.Ab
variable [Glb]
section
variable {P : Program} {E : Env} {K : Ctx} {s : St} {a : Act} {w : World}
theorem exec_builtin {o : Oper} {c : Call} {b : Builtin} (ho : o.op = .call c) (hb : c.callee = .builtin b) : (execOp a.eval o).run P w = (builtin b c.argTypes o.type (c.args.map fun | .const _ => true | _ => false) (c.args.map a.eval)).run P w := by
 simp [execOp, ho, resolve, hb, invoke]
 rfl
theorem exec_append {o : Oper} {c : Call} {x' y' : Operand} {t u : TypeId} {r : Value} {w' : World} (ho : o.op = .call c) (hb : c.callee = .builtin .append) (hx : c.args.toList = [x', y']) (ht : c.argTypes.toList = [t, u])
  (h : (Builtin.append_ #[t, u] o.type #[a.eval x', a.eval y']).run P w = .ok r w') : (execOp a.eval o).run P w = .ok (.value r) w' := by
 rw [exec_builtin ho hb, two_args hx, two_args ht]
 simp [builtin, h]
theorem append_new (h : Sim E K s a.tmps w) {t u e : TypeId} {i : TypeInfo} {z : Value} {sz : Nat} (T : AppT P t u e i z sz) {ty : TypeId} {base : Option Addr} {sCap : Nat} {pv : Value} {es ys : List (List D)} {old : List Value} {y : AV}
  (hy : Rep K y pv) (hel : y.elems? = some ys) (hys : sizesB sz ys = true) (hroom : sCap < es.length + ys.length) (hlim : es.length + ys.length ≤ lim) (hne : es ++ ys ≠ [])
  (hold : Src P K w.drew sz es.length (.slice base es.length sCap) es old) :
  ∃ r w' K', (Builtin.append_ #[t, u] ty #[.slice base es.length sCap, pv]).run P w = .ok r w' ∧ Sim E K' s a.tmps w' ∧ Rep K' (.own (es ++ ys)) r ∧ Fresh E K' s a.tmps w' none (.own (es ++ ys)) r ∧ Up s.rf.length K K' := by
 obtain ⟨vs, hsrc, _⟩ := src_of (P := P) (w := w.drew) h.drew.cells hy hel hys
 obtain ⟨_, _, hlen⟩ := src_of (P := P) (w := w) h.cells hy hel hys
 obtain ⟨cap, c, hcap, hcs, hcg, hrun⟩ := run_append_grow' T (ty := ty) (x := pv) hlen hroom hlim hsrc.cells hold.cells
 have heach : ∀ e', e' ∈ es ++ ys → e'.length = sz := fun e' he => by
  simp only [List.mem_append] at he
  rcases he with he | he
  ·exact hold.each e' he
  ·exact hsrc.each e' he
 have hfl : es.flatten.length = es.length * sz := flat_len hold.each
 have hol : old.length = es.length * sz := hold.len
 have hvl : vs.length = ys.length * sz := hsrc.len
 obtain ⟨K', hsim, hρ, hle, hrows, hF⟩ := h.drew.newRow (es := es ++ ys) (sz := sz) (c := c) (el := e) (fz := (0, 0)) heach (fun j x hx => by
  have hj := (List.getElem?_eq_some_iff.1 hx).1
  rw [flat_len heach, List.length_append, Nat.add_mul] at hj
  rw [hcg j (by omega)]
  rw [List.flatten_append] at hx
  by_cases hjo : j < es.flatten.length
  ·rw [List.getElem?_append_left hjo] at hx
   rw [List.getElem?_append_left (by omega)]
   exact hold.rep j x hx
  ·rw [List.getElem?_append_right (by omega)] at hx
   rw [List.getElem?_append_right (by omega), hol, ← hfl]
   exact hsrc.rep _ x hx) (.inl rfl)
 have hno := new_not_owned (w' := w.drew.alloc (.cells c e)) h.drew hρ (fun b o hb => cell_alloc hb)
 have hfin := own_new (E := E) (s' := s) (a := a) (n := es.length + ys.length) (cap := cap) (off := 0) heach hrows (by simpa using hF) (alloc_new w.drew (.cells c e)) (by simp) hcap
  (by rw [hcs, hol, hvl, ← Nat.add_mul, ← Nat.add_mul]; simp only [Nat.zero_add]; exact Nat.mul_le_mul (by omega) (Nat.le_refl _)) (fun e0 => absurd e0 hne) (fun hlt => absurd h.size (by simp at hlt; omega)) hno
 exact ⟨_, _, K', hrun, hsim, hfin.1, hfin.2, ⟨hle, fun r _ => by rw [hρ]⟩⟩
theorem append_room (h : Sim E K s a.tmps w) {t u e : TypeId} {i : TypeInfo} {z : Value} {sz : Nat} (T : AppT P t u e i z sz) {ty : TypeId} {b off n : Nat} {pv : Value} {e0 : List D} {es ys : List (List D)} {y : AV} {c : Array Value} {el : TypeId} {fz : Nat × Nat}
  (hy : Rep K y pv) (hel : y.elems? = some ys) (hys : sizesB sz ys = true) (hroom : es.length + 1 + ys.length ≤ n) (hF : K.F b = some (off + (es.length + 1) * sz)) (hb : w.heap[b]? = some (.cells c el fz)) (hc : off + n * sz ≤ c.size)
  (hrows : RepRows K.G b sz off (e0 :: es)) (hT : b < E.w0.heap.size → E.T b) (hno : ∀ ℓ es' v', holds K s a.tmps w ℓ (.own es') v' → blk v' ≠ some b) :
  ∃ w' K', (Builtin.append_ #[t, u] ty #[.slice (some ⟨b, off, none⟩) (es.length + 1) n, pv]).run P w = .ok (.slice (some ⟨b, off, none⟩) (es.length + 1 + ys.length) n) w' ∧ Sim E K' s a.tmps w' ∧
   Rep K' (.own (e0 :: es ++ ys)) (.slice (some ⟨b, off, none⟩) (es.length + 1 + ys.length) n) ∧ Fresh E K' s a.tmps w' none (.own (e0 :: es ++ ys)) (.slice (some ⟨b, off, none⟩) (es.length + 1 + ys.length) n) ∧ Up s.rf.length K K' := by
 obtain ⟨vs, hsrc, hlen⟩ := src_of (P := P) (w := w) h.cells hy hel hys
 obtain ⟨⟨c1, el1, fz1, hc1, hz1⟩, _⟩ := h.rows b _ hF
 rw [hb] at hc1
 cases hc1
 have hvl : vs.length = ys.length * sz := hsrc.len
 have hmul : (es.length + 1) * sz + ys.length * sz ≤ n * sz := by rw [← Nat.add_mul]; exact Nat.mul_le_mul hroom (Nat.le_refl _)
 obtain ⟨w', hst, g1, g2, g3, g4, g5, g6⟩ := run_storeCells (P := P) (b := b) (el := el) (fz := fz) vs (off + (es.length + 1) * sz) 0 c.toList w (by simpa using hb) (by simp; omega) hsrc.one (by simpa using hz1)
 have hrun := run_append_room' T (ty := ty) (base := some ⟨b, off, none⟩) (x := pv) hlen hroom hsrc.cells (fun ad had => by
  simp only [Option.some.injEq] at had
  subst had
  rw [add_addr]
  exact hst) (fun hh => by cases hh)
 obtain ⟨K', hsim, hρ, hle, hG', hF'⟩ := h.growRow (w' := w') (m := ys.length * sz) hF hb g1 (by simp only [List.size_toArray, setRangeV_len, Array.length_toList]; exact hz1) (fun o ho => by
  rw [List.getElem?_toArray, setRangeV_get (by simp; omega), if_neg (by omega), Array.getElem?_toList]) g2 g3 g4 g5 g6 hT hno
 have hrows' : RepRows K'.G b sz off (e0 :: es ++ ys) := by
  refine RepRows.append (RepRows.mono hle _ _ _ _ hrows) (rows_of_flat hsrc.each fun j x hx => ?_)
  have hj := (List.getElem?_eq_some_iff.1 hx).1
  rw [flat_len hsrc.each] at hj
  obtain ⟨v, hv, hr⟩ := hsrc.rep j x hx
  refine ⟨v, ?_, RepD.mono hle x v hr⟩
  simp only [List.length_cons]
  rw [hG' _ (by omega) (by omega), List.getElem?_toArray, setRangeV_get (by simp; omega), if_pos (by omega)]
  rw [show off + (es.length + 1) * sz + j - (off + (es.length + 1) * sz + 0) = j by omega]
  exact hv
 have hno' : ∀ ℓ es' v', holds K' s a.tmps w' ℓ (.own es') v' → blk v' ≠ some b := fun ℓ es' v' hh => by
  refine hno ℓ es' v' ?_
  cases ℓ with
  | sl t => exact hh
  | rf r i =>
    obtain ⟨cs, β, q1, q2, q3, q4⟩ := hh
    rw [hρ] at q3
    have hne : β ≠ b := fun e => by
     subst e
     have := (h.refG r β (List.getElem?_eq_some_iff.1 q1).1 q3).1
     rw [this] at hF; cases hF
    rw [World.cell?_of_block (w := w) (a := ⟨β, i, none⟩) (g2 β hne)] at q4
    exact ⟨cs, β, q1, q2, q3, q4⟩
 have hfin := own_new (E := E) (s' := s) (a := a) (n := es.length + 1 + ys.length) (cap := n) (off := off) (rows_len hrows') hrows' (by rw [hF']; congr 1; simp only [List.cons_append, List.length_cons, List.length_append]; rw [show es.length + ys.length + 1 = (es.length + 1) + ys.length by omega, Nat.add_mul (es.length + 1)]; omega) g1 (by simp; omega) hroom (by simp only [List.size_toArray, setRangeV_len, Array.length_toList]; exact hc) (by simp) hT hno'
 exact ⟨w', K', hrun, hsim, hfin.1, hfin.2, ⟨hle, fun r _ => by rw [hρ]⟩⟩
theorem src_nil {sz : Nat} {ad : Option Addr} {w : World} : Src P K w sz 0 (.slice ad 0 0) [] [] := by
 refine ⟨?_, by simp, fun j x hj => by simp at hj, fun v hv => by simp at hv, fun e he => by simp at he, rfl⟩
 cases ad with
 | none => simp [Builtin.firstCells]
 | some ad => simp [Builtin.firstCells, loadCells, loadCellsFrom]
theorem append_empty {t u e : TypeId} {i : TypeInfo} {z : Value} {sz : Nat} (T : AppT P t u e i z sz) {ty : TypeId} {base : Option Addr} {pv : Value} {y : AV} (h : Sim E K s a.tmps w) (hy : Rep K y pv) (hel : y.elems? = some []) :
  (Builtin.append_ #[t, u] ty #[.slice base 0 0, pv]).run P w = .ok (.slice base 0 0) w := by
 obtain ⟨vs, hsrc, hlen⟩ := src_of (P := P) (w := w) (sz := sz) h.cells hy hel rfl
 have hv : vs = [] := List.length_eq_zero_iff.1 (by rw [hsrc.len]; simp)
 subst hv
 exact run_append_room' T (ty := ty) (base := base) (x := pv) hlen (by simp) hsrc.cells (fun ad _ => by simp [storeCells]) (fun _ => rfl)
theorem ok_append {sz : Nat} {c : Call} {o : Oper} {x y : Opd} {x' y' : Operand} {t u e : TypeId} {i : TypeInfo} {z : Value} {xv yv r : AV} (ho : o.op = .call c) (h : Sim E K s a.tmps w) (hb : c.callee = .builtin .append) (hx' : c.args.toList = [x', y']) (ht : c.argTypes.toList = [t, u])
  (T : AppT P t u e i z sz) (h1 : chkO x x' = true) (h2 : chkO y y' = true) (hx : rawO s.sl x = some xv) (hy : getO s.sl y = some yv) (hr : appendA sz xv yv = some r) : OpOK P E K s a w o (.val r (unOwn s x)) := by
 have hyr := getO_rep h h2 hy
 have hxr := rawO_rep h h1 hx
 have hsu := h.unOwn x
 unfold appendA at hr
 split at hr
 ·simp at hr
 ·rename_i ys hys
  split at hr
  ·simp only [Rep] at hxr
   split at hr
   ·rename_i hc
    split at hr
    ·simp only [Option.some.injEq] at hr
     subst hr
     refine ⟨_, w, K, exec_append ho hb hx' ht (by rw [hxr]; exact append_empty (w := w) T h hyr hys), hsu, by simp [Rep], fresh_of_not_own (fun es e => by cases e), Up.refl _ _⟩
    ·rename_i hne
     simp only [Option.some.injEq] at hr
     subst hr
     have hlen : 0 < ys.length := by cases ys with
      | nil => exact absurd rfl (hne)
      | cons _ _ => simp
     obtain ⟨rv, w', K', hrun, g1, g2, g3, g4⟩ := append_new (sCap := 0) (base := none) (es := []) (old := []) (ty := o.type) hsu T hyr hys hc.2 (by simpa using hlen) (by simpa using hc.1) (by simpa using hne) src_nil
     refine ⟨rv, w', K', exec_append ho hb hx' ht (by rw [hxr]; exact hrun), g1, by simpa using g2, by simpa using g3, ?_⟩
     rwa [unOwn_rf] at g4
   ·simp at hr
  ·rename_i es
   split at hr
   ·rename_i hc
    simp only [Option.some.injEq] at hr
    subst hr
    obtain ⟨hown, hblk, _⟩ := raw_own h h1 hx
    cases es with
    | nil =>
      obtain ⟨ad, had⟩ := hown
      cases ys with
      | nil =>
        refine ⟨_, w, K, exec_append ho hb hx' ht (by rw [had]; exact append_empty (w := w) T h hyr hys), hsu, ?_, fun es e => ?_, Up.refl _ _⟩
        ·rw [had] at hxr; exact hxr
        ·cases e
         exact ⟨⟨ad, rfl⟩, fun b hb => by simp [blk] at hb⟩
      | cons y0 ys =>
        obtain ⟨rv, w', K', hrun, g1, g2, g3, g4⟩ := append_new (sCap := 0) (base := ad) (es := []) (old := []) (ty := o.type) hsu T hyr hys hc.2.2 (by simp) (by simpa using hc.1) (by simp) src_nil
        refine ⟨rv, w', K', exec_append ho hb hx' ht (by rw [had]; exact hrun), g1, by simpa using g2, by simpa using g3, ?_⟩
        rwa [unOwn_rf] at g4
    | cons e0 es =>
      simp only [OwnV] at hown
      obtain ⟨b, off, n, cc, el, fz, hv, hn, hF, hbb, hcs, hrows⟩ := hown
      have he0 : e0.length = sz := by simpa [sizesB] using hc.2.1
      rw [he0] at hF hcs hrows
      have hbk := hblk b (by rw [hv]; rfl)
      by_cases hroom : es.length + 1 + ys.length ≤ n
      ·obtain ⟨w', K', hrun, g1, g2, g3, g4⟩ := append_room (ty := o.type) hsu T hyr hys hc.2.2 hroom hF hbb hcs hrows hbk.1 hbk.2
       refine ⟨_, w', K', exec_append ho hb hx' ht (by rw [hv]; exact hrun), g1, g2, g3, ?_⟩
       rwa [unOwn_rf] at g4
      ·rw [hv] at hxr
       have hold := src_rows (P := P) (K := K) (w := w.drew) (sz := sz) (n := (e0 :: es).length) hsu.drew.cells (by simpa [Rep] using hxr) hc.2.1 (Nat.le_refl _)
       obtain ⟨old, hold⟩ := hold
       rw [List.take_length] at hold
       obtain ⟨rv, w', K', hrun, g1, g2, g3, g4⟩ := append_new (ty := o.type) hsu T hyr hys hc.2.2 (by simp; omega) hc.1 (by simp) hold
       refine ⟨rv, w', K', exec_append ho hb hx' ht (by rw [hv]; exact hrun), g1, g2, g3, ?_⟩
       rwa [unOwn_rf] at g4
   ·simp at hr
  ·simp at hr
theorem heads_map {es : List (List D)} (h : es.all (fun e => e.length == 1) = true) : es.map (fun e => AV.d (e.headD .nilp)) = es.flatten.map .d := by
 induction es with
 | nil => rfl
 | cons e es ih =>
   simp only [List.all_cons, Bool.and_eq_true, beq_iff_eq] at h
   obtain ⟨x, rfl⟩ : ∃ x, e = [x] := List.length_eq_one_iff.1 h.1
   simp only [List.map_cons, List.flatten_cons, ih h.2]
   rfl
theorem repL_of_vals : ∀ {l : List D} {vs : List Value}, vs.length = l.length → (∀ (j : Nat) x, l[j]? = some x → ∃ v, vs[j]? = some v ∧ RepD K.G x v) → RepL K (l.map .d) vs
 | [], vs, hl, _ => by
   have : vs = [] := List.length_eq_zero_iff.1 (by simpa using hl)
   subst this
   simp [RepL]
 | x :: l, vs, hl, h => by
   cases vs with
   | nil => simp at hl
   | cons v vs =>
     obtain ⟨u, hu, hr⟩ := h 0 x (by simp)
     simp only [List.getElem?_cons_zero, Option.some.injEq] at hu
     subst hu
     simp only [List.map_cons, RepL]
     exact ⟨v, vs, rfl, by simpa [Rep] using hr, repL_of_vals (by simpa using hl) fun j y hy => by simpa using h (j + 1) y (by simpa using hy)⟩
theorem ok_copy {c : Call} {o : Oper} {x y : Opd} {x' y' : Operand} {t u e : TypeId} {r off n : Nat} {yv : AV} {es : List (List D)} {cs : List AV} (ho : o.op = .call c) (h : Sim E K s a.tmps w) (hb : c.callee = .builtin .copy) (hx' : c.args.toList = [x', y']) (ht : c.argTypes.toList = [t, u])
  (hte : elemT P t = some e) (hsz : sizeT P e = some 1) (h1 : chkO x x' = true) (h2 : chkO y y' = true) (hx : getO s.sl x = some (.sref r off n)) (hy : getO s.sl y = some yv) (hl : yv.list? = some es) (hcs : s.rf[r]? = some cs)
  (hfit : off + Nat.min es.length n ≤ cs.length ∧ (es.all fun e => e.length == 1) = true) :
  OpOK P E K s a w o (.val (.d (.int .i64 (Nat.min es.length n : Nat))) { s with rf := s.rf.set r (setRange cs off ((es.take (Nat.min es.length n)).map fun e => AV.d (e.headD .nilp))) }) := by
 have hyr := list_rep (getO_rep h h2 hy) hl
 have hxr := getO_rep h h1 hx
 have hu := und_elem hte
 simp only [Rep] at hxr
 obtain ⟨b, ad, cap, hρ, hxv, had⟩ := hxr
 obtain ⟨b', vs, el, hρ', hbk, hr⟩ := h.refs r cs hcs
 rw [hρ] at hρ'
 cases hρ'
 have hs1 : sizesB 1 es = true := by
  cases es with
  | nil => rfl
  | cons e0 es => simp only [List.all_cons, Bool.and_eq_true] at hfit; simpa [sizesB] using hfit.2.1
 let m := Nat.min es.length n
 have hm : m ≤ es.length := Nat.min_le_left _ _
 obtain ⟨src, hsrc⟩ := src_rows (P := P) (w := w) (n := m) h.cells hyr hs1 hm
 have hsl : src.length = m := by rw [hsrc.len]; simp
 have hvl : vs.toList.length = cs.length := hr.length
 have hall : (es.take m).all (fun e => e.length == 1) = true := by
  rw [List.all_eq_true] at hfit ⊢
  exact fun e he => hfit.2 e (List.mem_of_mem_take he)
 have hrepS : RepL K ((es.take m).map fun e => AV.d (e.headD .nilp)) src := by
  rw [heads_map hall]
  refine repL_of_vals ?_ hsrc.rep
  rw [hsl, flat_len (sz := 1) (fun e he => by
   rw [List.all_eq_true] at hall
   simpa using hall e he)]
  simp; omega
 have hsimp : ∀ (w' : World), (storeCells ⟨b, off, none⟩ src 0).run P w = .ok () w' → (execOp a.eval o).run P w = .ok (.value (.int .i64 (m : Nat))) w' := fun w' hst => by
  rw [exec_builtin ho hb, two_args hx', two_args ht]
  obtain ⟨ya, yc, hyv, hyc, hyrows⟩ := (by simpa only [RepD] using hyr : ∃ a' n, a.eval y' = Value.slice a' es.length n ∧ es.length ≤ n ∧ _)
  have hlen : (Builtin.lenOf (a.eval y')).run P w = .ok es.length w := by rw [hyv]; simp [Builtin.lenOf]
  simp only [builtin, List.map_toArray, List.map_cons, List.map_nil, Builtin.copy_, List.getElem?_toArray, List.getElem?_cons_zero, List.getElem?_cons_succ, Sem.run_bind, run_underlying hu, Result.andThen_ok, hxv, hlen, run_sizeOf hsz, Sem.run_pure]
  have hcells := hsrc.cells
  show (((Builtin.firstCells 1 m (a.eval y')).run P w).andThen _).andThen _ = _
  rw [hcells]
  simp only [Result.andThen_ok]
  by_cases hn : n = 0
  ·have hm0 : m = 0 := by subst hn; exact Nat.min_zero _
   have : src = [] := List.length_eq_zero_iff.1 (by omega)
   subst this
   simp only [storeCells, Sem.run_pure, Result.ok.injEq, true_and] at hst
   subst hst
   simp [storeCells, goInt]
   rfl
  ·have := had hn
   subst this
   simp [hst, goInt]
   rfl
 obtain ⟨w', hst, g1, g2, g3, g4, g5, g6⟩ := run_storeCells (P := P) (b := b) (el := el) (fz := (0, 0)) src off 0 vs.toList w (by simpa using hbk) (by rw [hvl, hsl]; have := hfit.1; omega) hsrc.one (.inl rfl)
 have hrep : RepL K (setRange cs off ((es.take m).map fun e => AV.d (e.headD .nilp))) (setRangeV vs.toList (off + 0) src).toArray.toList := by
  simpa using RepL.setRange (off := off) hr hrepS
 have hml : ((es.take m).map fun e => AV.d (e.headD .nilp)).length = m := by simp; omega
 have hsim := h.setRef (w' := w') (i0 := none) hcs hρ hbk hrep g1 g2 g3 g4 g5 g6 (fun i es' hi _ => by
  have hb2 : off + ((es.take m).map fun e => AV.d (e.headD .nilp)).length ≤ cs.length := by rw [hml]; exact hfit.1
  rw [setRange_get hb2] at hi
  split at hi
  ·rename_i hin
   simp only [List.getElem?_map, Option.map_eq_some_iff] at hi
   obtain ⟨_, _, he⟩ := hi
   cases he
  ·rename_i hin
   refine ⟨hi, ?_⟩
   rw [hml] at hin
   rw [List.getElem?_toArray, setRangeV_get (by rw [hvl, hsl]; have := hfit.1; omega), if_neg (by omega), Array.getElem?_toList]) (fun i es v hi => by simp at hi)
 exact ⟨_, w', K, hsimp w' hst, hsim, rep_int' _ _, fresh_of_not_own (fun es e => by cases e), Up.refl _ _⟩
theorem eqn {t : TypeId} {u v : Value} {b : Bool} (h : ∀ d, (Op.equalIn (d + 1) t u v).run P w = .ok b w) : (Op.equal t u v).run P w = .ok b w := h 9999
theorem nil0 {u : AV} {pv : Value} {b : Bool} (hb : eqNilA 0 u = some b) (hr : Rep K u pv) : (pv = .pointer none ∧ b = true) ∨ ∃ ad, pv = .pointer (some ad) ∧ b = false := by
 unfold eqNilA at hb
 split at hb <;> first | omega | (simp at hb; done) | skip
 ·simp only [Option.some.injEq] at hb
  exact .inl ⟨by simpa [Rep, RepD] using hr, hb.symm⟩
 ·simp only [Option.some.injEq] at hb
  simp only [Rep] at hr
  obtain ⟨b1, _, rfl⟩ := hr
  exact .inr ⟨_, rfl, hb.symm⟩
 ·simp only [Option.some.injEq] at hb
  simp only [Rep] at hr
  obtain ⟨b1, o1, rfl, _⟩ := hr
  exact .inr ⟨_, rfl, hb.symm⟩
theorem nil1 {u : AV} {pv : Value} {b : Bool} (hb : eqNilA 1 u = some b) (hr : Rep K u pv) : (pv = .nilIface ∧ b = true) ∨ ∃ t' v', pv = .iface t' v' ∧ b = false := by
 unfold eqNilA at hb
 split at hb <;> first | omega | (simp at hb; done) | skip
 ·simp only [Option.some.injEq] at hb
  exact .inl ⟨by simpa [Rep, RepD] using hr, hb.symm⟩
 ·simp only [Option.some.injEq] at hb
  simp only [Rep] at hr
  obtain ⟨y1, rfl, _⟩ := hr
  exact .inr ⟨_, _, rfl, hb.symm⟩
theorem nil2 {u : AV} {pv : Value} {b : Bool} (hb : eqNilA 2 u = some b) (hr : Rep K u pv) : (pv = .nilFunc ∧ b = true) ∨ ∃ f a1 a2, pv = .func f a1 a2 ∧ b = false := by
 unfold eqNilA at hb
 split at hb <;> first | omega | (simp at hb; done) | skip
 ·simp only [Option.some.injEq] at hb
  exact .inl ⟨by simpa [Rep, RepD] using hr, hb.symm⟩
 ·simp only [Option.some.injEq] at hb
  simp only [Rep] at hr
  obtain ⟨y1, y2, rfl, _⟩ := hr
  exact .inr ⟨_, _, _, rfl, hb.symm⟩
theorem nil3 {u : AV} {pv : Value} {b : Bool} (hb : eqNilA 3 u = some b) (hr : Rep K u pv) : (pv = .slice none 0 0 ∧ b = true) ∨ ∃ ad n m, pv = .slice (some ad) n m ∧ b = false := by
 unfold eqNilA at hb
 split at hb <;> first | omega | (simp at hb; done) | skip
 ·simp only [Option.some.injEq] at hb
  exact .inl ⟨by simpa [Rep] using hr, hb.symm⟩
 ·simp only [Option.some.injEq] at hb
  simp only [Rep, RepD] at hr
  obtain ⟨ad, n, rfl, _, hrr⟩ := hr
  obtain ⟨b1, o1, z1, rfl, _⟩ := hrr (by simp)
  exact .inr ⟨_, _, _, rfl, hb.symm⟩
def NilPair (P : Program) (w : World) (t : TypeId) (b : Bool) (pv nv : Value) : Prop :=
 (Op.equal t pv nv).run P w = .ok b w ∧ (Op.equal t nv pv).run P w = .ok b w ∧
 (∀ op, binOp .eql op pv nv = (do pure (.bool (← Op.equal op pv nv))) ∧ binOp .neq op pv nv = (do pure (.bool (!(← Op.equal op pv nv)))) ∧
  binOp .eql op nv pv = (do pure (.bool (← Op.equal op nv pv))) ∧ binOp .neq op nv pv = (do pure (.bool (!(← Op.equal op nv pv))))) ∧
 (∀ cs, pv ≠ .agg cs) ∧ ∀ cs, nv ≠ .agg cs
theorem nilPair {t : TypeId} {nk : Nat} {u : AV} {pv nv : Value} {b : Bool} (ht : nilT P t = some nk) (hb : eqNilA nk u = some b) (hr : Rep K u pv)
  (hn : nk = 0 ∧ nv = .pointer none ∨ nk = 1 ∧ nv = .nilIface ∨ nk = 2 ∧ nv = .nilFunc ∨ nk = 3 ∧ nv = .slice none 0 0) : NilPair P w t b pv nv := by
 rcases hn with ⟨rfl, rfl⟩ | ⟨rfl, rfl⟩ | ⟨rfl, rfl⟩ | ⟨rfl, rfl⟩
 ·obtain ⟨e, hu⟩ : ∃ e, P.underlying t = some (.pointer e) := by unfold nilT at ht; split at ht <;> first | exact ⟨_, by assumption⟩ | (simp at ht; done)
  rcases nil0 hb hr with ⟨rfl, rfl⟩ | ⟨ad, rfl, rfl⟩ <;>
   exact ⟨eqn fun d => by simp [Op.equalIn, run_underlying hu], eqn fun d => by simp [Op.equalIn, run_underlying hu], fun op => ⟨rfl, rfl, rfl, rfl⟩, by simp, by simp⟩
 ·obtain ⟨e, hu⟩ : ∃ e, P.underlying t = some (.interface e) := by unfold nilT at ht; split at ht <;> first | exact ⟨_, by assumption⟩ | (simp at ht; done)
  rcases nil1 hb hr with ⟨rfl, rfl⟩ | ⟨t', v', rfl, rfl⟩ <;>
   exact ⟨eqn fun d => by simp [Op.equalIn, run_underlying hu], eqn fun d => by simp [Op.equalIn, run_underlying hu], fun op => ⟨rfl, rfl, rfl, rfl⟩, by simp, by simp⟩
 ·obtain ⟨x1, x2, x3, hu⟩ : ∃ x1 x2 x3, P.underlying t = some (.func x1 x2 x3) := by unfold nilT at ht; split at ht <;> first | exact ⟨_, _, _, by assumption⟩ | (simp at ht; done)
  rcases nil2 hb hr with ⟨rfl, rfl⟩ | ⟨t', v', z', rfl, rfl⟩ <;>
   exact ⟨eqn fun d => by simp [Op.equalIn, run_underlying hu], eqn fun d => by simp [Op.equalIn, run_underlying hu], fun op => ⟨rfl, rfl, rfl, rfl⟩, by simp, by simp⟩
 ·obtain ⟨e, hu⟩ : ∃ e, P.underlying t = some (.slice e) := by unfold nilT at ht; split at ht <;> first | exact ⟨_, by assumption⟩ | (simp at ht; done)
  rcases nil3 hb hr with ⟨rfl, rfl⟩ | ⟨ad, n, m, rfl, rfl⟩ <;>
   exact ⟨eqn fun d => by simp [Op.equalIn, run_underlying hu], eqn fun d => by simp [Op.equalIn, run_underlying hu], fun op => ⟨rfl, rfl, rfl, rfl⟩, by simp, by simp⟩
theorem isNil_cases {nk : Nat} {z : Operand} (hz : isNilC nk z = true) : ∃ nv, z = .const nv ∧ (nk = 0 ∧ nv = .pointer none ∨ nk = 1 ∧ nv = .nilIface ∨ nk = 2 ∧ nv = .nilFunc ∨ nk = 3 ∧ nv = .slice none 0 0) := by
 unfold isNilC at hz
 split at hz <;> first | exact ⟨_, rfl, by simp⟩ | simp at hz
theorem guard_const {op : BinOp} {t : TypeId} {p q : Operand} {u v : Value} (hc : (∃ c, p = .const c) ∨ ∃ c, q = .const c) (hu : ∀ cs, u ≠ .agg cs) : (eqGuard op t p q u v).run P w = .ok () w := by
 by_cases hnn : u = .nilIface ∧ v = .nilIface
 ·obtain ⟨rfl, rfl⟩ := hnn
  unfold eqGuard
  rcases hc with ⟨c, rfl⟩ | ⟨c, rfl⟩ <;> cases op <;> simp
 ·exact run_eqGuard ⟨fun cs cs' hh => hu cs hh.1, hnn⟩
theorem ok_eqnil {nk : Nat} {ne : Bool} {op : BinOp} {t yt : TypeId} {x : Opd} {p q : Operand} {o : Oper} {u : AV} {d : Did} (ho : o.op = .binOp op t p q yt) (hop : op = if ne then BinOp.neq else BinOp.eql) (h : Sim E K s a.tmps w)
  (ht : nilT P t = some nk) (hpq : (chkO x p = true ∧ isNilC nk q = true) ∨ (chkO x q = true ∧ isNilC nk p = true)) (hx : getO s.sl x = some u) (hd : vl s ((eqNilA nk u).map fun b => .d (.bool (b != ne))) = some d) : OpOK P E K s a w o d := by
 obtain ⟨r, hr, rfl⟩ := vl_of hd
 simp only [Option.map_eq_some_iff] at hr
 obtain ⟨b, hb, rfl⟩ := hr
 rcases hpq with ⟨h1, h2⟩ | ⟨h1, h2⟩
 ·obtain ⟨nv, rfl, hnv⟩ := isNil_cases h2
  obtain ⟨k1, k2, k3, k4, k5⟩ := nilPair (w := w) ht hb (getO_rep h h1 hx) hnv
  refine opOK_pure h (pv := .bool (b != ne)) ?_ (rep_bool' _) (fun _ e => by cases e)
  have e1 : (binOp op t (a.eval p) nv).run P w = .ok (.bool (b != ne)) w := by
   cases ne <;> simp only [Bool.false_eq_true, if_false, if_true] at hop <;> subst hop
   ·rw [(k3 t).1]; simp [k1]
   ·rw [(k3 t).2.1]; simp [k1]
  simp only [execOp, ho, Sem.run_bind]
  rw [guard_const (.inr ⟨nv, rfl⟩) k4]
  simp only [Result.andThen_ok]
  show ((binOp op t (a.eval p) nv).run P w).andThen _ = _
  rw [e1]
  simp
 ·obtain ⟨nv, rfl, hnv⟩ := isNil_cases h2
  obtain ⟨k1, k2, k3, k4, k5⟩ := nilPair (w := w) ht hb (getO_rep h h1 hx) hnv
  refine opOK_pure h (pv := .bool (b != ne)) ?_ (rep_bool' _) (fun _ e => by cases e)
  have e1 : (binOp op t nv (a.eval q)).run P w = .ok (.bool (b != ne)) w := by
   cases ne <;> simp only [Bool.false_eq_true, if_false, if_true] at hop <;> subst hop
   ·rw [(k3 t).2.2.1]; simp [k2]
   ·rw [(k3 t).2.2.2]; simp [k2]
  simp only [execOp, ho, Sem.run_bind]
  rw [guard_const (.inl ⟨nv, rfl⟩) (show ∀ cs, a.eval (.const nv) ≠ .agg cs from k5)]
  simp only [Result.andThen_ok]
  show ((binOp op t nv (a.eval q)).run P w).andThen _ = _
  rw [e1]
  simp
end
end Go.Ab
namespace Go.Ab
variable [Glb]
section
variable {P : Program} {E : Env} {K : Ctx} {s : St} {a : Act} {w : World}
theorem eqCells_append : ∀ {k1 k2 : List PK} {x1 x2 y1 y2 : List AV} {r : Bool}, x1.length = k1.length → y1.length = k1.length → eqCells (k1 ++ k2) (x1 ++ x2) (y1 ++ y2) = some r →
  ∃ r1 r2, eqCells k1 x1 y1 = some r1 ∧ eqCells k2 x2 y2 = some r2 ∧ r = (r1 && r2)
 | [], k2, x1, x2, y1, y2, r, h1, h2, h => by
   have e1 : x1 = [] := List.length_eq_zero_iff.1 (by simpa using h1)
   have e2 : y1 = [] := List.length_eq_zero_iff.1 (by simpa using h2)
   subst e1 e2
   exact ⟨true, r, rfl, by simpa using h, by simp⟩
 | k :: k1, k2, x1, x2, y1, y2, r, h1, h2, h => by
   cases x1 with
   | nil => simp at h1
   | cons x x1 =>
     cases y1 with
     | nil => simp at h2
     | cons y y1 =>
       simp only [List.cons_append] at h
       cases x <;> try (simp [eqCells] at h; done)
       cases y <;> try (simp [eqCells] at h; done)
       rename_i dx dy
       simp only [eqCells] at h
       split at h
       ·rename_i hk
        simp only [Option.map_eq_some_iff] at h
        obtain ⟨q, hq, rfl⟩ := h
        obtain ⟨r1, r2, g1, g2, rfl⟩ := eqCells_append (by simpa using h1) (by simpa using h2) hq
        exact ⟨dx.eqP dy && r1, r2, by simp [eqCells, hk, g1], g2, by rw [Bool.and_assoc]⟩
       ·simp at h
theorem eqCells_len : ∀ {ks : List PK} {xs ys : List AV} {r : Bool}, eqCells ks xs ys = some r → xs.length = ks.length ∧ ys.length = ks.length
 | [], xs, ys, r, h => by
   cases xs <;> cases ys <;> simp [eqCells] at h
   simp
 | k :: ks, xs, ys, r, h => by
   cases xs with
   | nil => simp [eqCells] at h
   | cons x xs =>
     cases ys with
     | nil => cases x <;> simp [eqCells] at h
     | cons y ys =>
       cases x <;> try (simp [eqCells] at h; done)
       cases y <;> try (simp [eqCells] at h; done)
       simp only [eqCells] at h
       split at h
       ·simp only [Option.map_eq_some_iff] at h
        obtain ⟨q, hq, _⟩ := h
        have := eqCells_len hq
        simp [this.1, this.2]
       ·simp at h
def EqP (P : Program) (d : Nat) (t : TypeId) (ks : List PK) : Prop := ∀ (K : Ctx) (w : World) (x y : Value) (cx cy : List AV) (r : Bool) (n : Nat), d ≤ n → RepL K cx x.cells.toList → RepL K cy y.cells.toList → eqCells ks cx cy = some r →
 (aggT P t = some true → (∃ c, x = .agg c) ∧ ∃ c, y = .agg c) → (aggT P t = some false → x.oneCell' = true ∧ y.oneCell' = true) → (Op.equalIn n t x y).run P w = .ok r w
theorem cells_agg (c : Array Value) : (Value.agg c).cells = c := rfl
theorem cells_one {v : Value} (h : v.oneCell' = true) : v.cells = #[v] := by cases v <;> simp [Value.oneCell', Value.cells] at h ⊢
theorem eq_part {t : TypeId} {ks : List PK} {d n off : Nat} {xs ys : Array Value} {cx cy : List AV} {r : Bool} (IH : EqP P d t ks) (hd : d ≤ n) (hsz : sizeT P t = some ks.length) (hag : ∃ b, aggT P t = some b) (h1 : aggT P t = some false → ks.length = 1)
  (hx : RepL K cx ((xs.toList.drop off).take ks.length)) (hy : RepL K cy ((ys.toList.drop off).take ks.length)) (he : eqCells ks cx cy = some r) :
  ∃ u v, (part t xs off).run P w = .ok u w ∧ (part t ys off).run P w = .ok v w ∧ (Op.equalIn n t u v).run P w = .ok r w := by
 obtain ⟨b, hb⟩ := hag
 have hlen := eqCells_len he
 cases b with
 | true =>
   refine ⟨.agg (xs.extract off (off + ks.length)), .agg (ys.extract off (off + ks.length)), by simp [part, run_isAgg hb, run_sizeOf hsz], by simp [part, run_isAgg hb, run_sizeOf hsz], ?_⟩
   exact IH K w _ _ cx cy r n hd (by rw [cells_agg, toList_extract]; exact hx) (by rw [cells_agg, toList_extract]; exact hy) he (fun _ => ⟨⟨_, rfl⟩, ⟨_, rfl⟩⟩) (fun hh => by rw [hb] at hh; cases hh)
 | false =>
   have hl1 := h1 hb
   rw [hl1] at hx hy hlen
   obtain ⟨ux, hux⟩ : ∃ u, cx = [u] := List.length_eq_one_iff.1 hlen.1
   obtain ⟨uy, huy⟩ : ∃ u, cy = [u] := List.length_eq_one_iff.1 hlen.2
   subst hux huy
   simp only [RepL] at hx hy
   obtain ⟨vx, rx, hvx, hrx, hnx⟩ := hx
   obtain ⟨vy, ry, hvy, hry, hny⟩ := hy
   subst hnx hny
   have gx : xs[off]? = some vx := by
    have : ((xs.toList.drop off).take 1)[0]? = some vx := by rw [hvx]; rfl
    rw [List.getElem?_take, if_pos (by omega), List.getElem?_drop] at this
    simpa using this
   have gy : ys[off]? = some vy := by
    have : ((ys.toList.drop off).take 1)[0]? = some vy := by rw [hvy]; rfl
    rw [List.getElem?_take, if_pos (by omega), List.getElem?_drop] at this
    simpa using this
   have hk : ∃ dx dy, ux = .d dx ∧ uy = .d dy := by
    obtain ⟨k, rfl⟩ : ∃ k, ks = [k] := List.length_eq_one_iff.1 hl1
    cases ux <;> try (simp [eqCells] at he; done)
    cases uy <;> try (simp [eqCells] at he; done)
    exact ⟨_, _, rfl, rfl⟩
   obtain ⟨dx, dy, rfl, rfl⟩ := hk
   have ox : vx.oneCell' = true := repD_one (by simpa [Rep] using hrx)
   have oy : vy.oneCell' = true := repD_one (by simpa [Rep] using hry)
   refine ⟨vx, vy, by simp [part, run_isAgg hb, gx], by simp [part, run_isAgg hb, gy], ?_⟩
   exact IH K w vx vy [.d dx] [.d dy] r n hd (by rw [cells_one ox]; simp [RepL, hrx]) (by rw [cells_one oy]; simp [RepL, hry]) he (fun hh => by rw [hb] at hh; cases hh) (fun _ => ⟨ox, oy⟩)
theorem eq_fields {d n : Nat} (IH : ∀ t ks, plainK P d t = some ks → EqP P d t ks ∧ (∃ b, aggT P t = some b) ∧ (aggT P t = some false → ks.length = 1)) (hd : d ≤ n) {xs ys : Array Value} : ∀ {fs : List Field} {off : Nat} {ks : List PK} {cx cy : List AV} {r : Bool}, plainFs P (plainK P d) off fs = some ks →
  RepL K cx ((xs.toList.drop off).take ks.length) → RepL K cy ((ys.toList.drop off).take ks.length) → eqCells ks cx cy = some r → (Op.eqFields n xs ys fs).run P w = .ok r w
 | [], off, ks, cx, cy, r, hp, hx, hy, he => by
   simp only [plainFs, Option.some.injEq] at hp
   subst hp
   simp only [List.length_nil, List.take_zero] at hx hy
   have e1 : cx = [] := List.length_eq_zero_iff.1 hx.length.symm
   have e2 : cy = [] := List.length_eq_zero_iff.1 hy.length.symm
   subst e1 e2
   simp only [eqCells, Option.some.injEq] at he
   subst he
   simp [Op.eqFields]
 | f :: fs, off, ks, cx, cy, r, hp, hx, hy, he => by
   simp only [plainFs] at hp
   split at hp
   ·simp at hp
   ·rename_i hno
    simp only [Bool.or_eq_true, not_or, Bool.not_eq_true, beq_eq_false_iff_ne, bne_eq_false_iff_eq] at hno
    split at hp
    ·rename_i k1 hk1
     split at hp
     ·rename_i hsz
      simp only [beq_iff_eq] at hsz
      simp only [Option.map_eq_some_iff] at hp
      obtain ⟨k2, hk2, rfl⟩ := hp
      obtain ⟨ih1, ih2, ih3⟩ := IH _ _ hk1
      have hlen := eqCells_len he
      simp only [List.length_append] at hx hy hlen
      have sx : RepL K (cx.take k1.length) ((xs.toList.drop off).take k1.length) := by
       have := RepL.take k1.length hx
       rwa [List.take_take, Nat.min_eq_left (by omega)] at this
      have sy : RepL K (cy.take k1.length) ((ys.toList.drop off).take k1.length) := by
       have := RepL.take k1.length hy
       rwa [List.take_take, Nat.min_eq_left (by omega)] at this
      have tx : RepL K (cx.drop k1.length) ((xs.toList.drop (off + k1.length)).take k2.length) := by
       have := RepL.drop k1.length hx
       rwa [List.drop_take, List.drop_drop, show k1.length + k2.length - k1.length = k2.length by omega] at this
      have ty : RepL K (cy.drop k1.length) ((ys.toList.drop (off + k1.length)).take k2.length) := by
       have := RepL.drop k1.length hy
       rwa [List.drop_take, List.drop_drop, show k1.length + k2.length - k1.length = k2.length by omega] at this
      rw [← List.take_append_drop k1.length cx, ← List.take_append_drop k1.length cy] at he
      obtain ⟨r1, r2, g1, g2, rfl⟩ := eqCells_append (by simp; omega) (by simp; omega) he
      obtain ⟨u, v, p1, p2, p3⟩ := eq_part (w := w) ih1 hd hsz ih2 ih3 sx sy g1
      have hrest := eq_fields IH hd (xs := xs) (ys := ys) hk2 tx ty g2
      have hn : f.name ≠ "_" := hno.1
      have ho : f.offset = off := hno.2
      simp only [Op.eqFields, hn, ne_eq, not_false_eq_true, if_true, Sem.run_bind, ho, p1, p2, p3, Result.andThen_ok]
      cases r1
      ·simp
      ·simpa using hrest
     ·simp at hp
    ·simp at hp
theorem eq_items {d n : Nat} {e : TypeId} {ks : List PK} (IH : EqP P d e ks) (hag : ∃ b, aggT P e = some b) (h1 : aggT P e = some false → ks.length = 1) (hsz : sizeT P e = some ks.length) (hd : d ≤ n) {xs ys : Array Value} : ∀ {m i : Nat} {cx cy : List AV} {r : Bool},
  RepL K cx ((xs.toList.drop (i * ks.length)).take (m * ks.length)) → RepL K cy ((ys.toList.drop (i * ks.length)).take (m * ks.length)) → eqCells ((List.replicate m ks).flatten) cx cy = some r → (Op.eqItems n e ks.length xs ys (List.range' i m)).run P w = .ok r w
 | 0, i, cx, cy, r, hx, hy, he => by
   simp only [Nat.zero_mul, List.take_zero] at hx hy
   have e1 : cx = [] := List.length_eq_zero_iff.1 hx.length.symm
   have e2 : cy = [] := List.length_eq_zero_iff.1 hy.length.symm
   subst e1 e2
   simp only [List.replicate_zero, List.flatten_nil, eqCells, Option.some.injEq] at he
   subst he
   simp [Op.eqItems]
 | m + 1, i, cx, cy, r, hx, hy, he => by
   simp only [List.replicate_succ, List.flatten_cons] at he
   have hlen := eqCells_len he
   have hfl : (List.replicate m ks).flatten.length = m * ks.length := by simp
   simp only [List.length_append, hfl] at hlen
   rw [Nat.add_mul, Nat.one_mul] at hx hy
   have sx : RepL K (cx.take ks.length) ((xs.toList.drop (i * ks.length)).take ks.length) := by
    have := RepL.take ks.length hx
    rwa [List.take_take, Nat.min_eq_left (by omega)] at this
   have sy : RepL K (cy.take ks.length) ((ys.toList.drop (i * ks.length)).take ks.length) := by
    have := RepL.take ks.length hy
    rwa [List.take_take, Nat.min_eq_left (by omega)] at this
   have tx : RepL K (cx.drop ks.length) ((xs.toList.drop ((i + 1) * ks.length)).take (m * ks.length)) := by
    have := RepL.drop ks.length hx
    rwa [List.drop_take, List.drop_drop, show m * ks.length + ks.length - ks.length = m * ks.length by omega, show i * ks.length + ks.length = (i + 1) * ks.length by rw [Nat.add_mul]; omega] at this
   have ty : RepL K (cy.drop ks.length) ((ys.toList.drop ((i + 1) * ks.length)).take (m * ks.length)) := by
    have := RepL.drop ks.length hy
    rwa [List.drop_take, List.drop_drop, show m * ks.length + ks.length - ks.length = m * ks.length by omega, show i * ks.length + ks.length = (i + 1) * ks.length by rw [Nat.add_mul]; omega] at this
   rw [← List.take_append_drop ks.length cx, ← List.take_append_drop ks.length cy] at he
   obtain ⟨r1, r2, g1, g2, rfl⟩ := eqCells_append (by simp; omega) (by simp; omega) he
   obtain ⟨u, v, p1, p2, p3⟩ := eq_part (w := w) IH hd hsz hag h1 sx sy g1
   have hrest := eq_items IH hag h1 hsz hd (xs := xs) (ys := ys) (m := m) (i := i + 1) tx ty g2
   simp only [List.range'_succ, Op.eqItems, Sem.run_bind, p1, p2, p3, Result.andThen_ok]
   cases r1
   ·simp
   ·simpa using hrest
theorem one_of_kind {k : PK} {cx cy : List AV} {r : Bool} (he : eqCells [k] cx cy = some r) : ∃ dx dy, cx = [.d dx] ∧ cy = [.d dy] ∧ dx.kind? = some k ∧ dy.kind? = some k ∧ r = dx.eqP dy := by
 have hlen := eqCells_len he
 obtain ⟨ux, rfl⟩ : ∃ u, cx = [u] := List.length_eq_one_iff.1 hlen.1
 obtain ⟨uy, rfl⟩ : ∃ u, cy = [u] := List.length_eq_one_iff.1 hlen.2
 cases ux <;> try (simp [eqCells] at he; done)
 cases uy <;> try (simp [eqCells] at he; done)
 rename_i dx dy
 simp only [eqCells] at he
 split at he
 ·rename_i hk
  simp only [Option.map_some, Option.some.injEq] at he
  exact ⟨dx, dy, rfl, rfl, hk.1, hk.2, by rw [← he]; simp⟩
 ·simp at he
theorem cells_single {x : Value} {u : Value} (h : x.oneCell' = true) (hc : x.cells.toList = [u]) : x = u := by
 rw [cells_one h] at hc
 simpa using hc
theorem plain_eq : ∀ (d : Nat) (t : TypeId) (ks : List PK), plainK P d t = some ks → EqP P d t ks ∧ (∃ b, aggT P t = some b) ∧ (aggT P t = some false → ks.length = 1)
 | 0, t, ks, h => by simp [plainK] at h
 | d + 1, t, ks, h => by
   have IH := plain_eq d
   unfold plainK at h
   split at h
   ·rename_i k hu
    cases h
    have hag : aggT P t = some false := by simp [aggT, hu]
    refine ⟨fun K w x y cx cy r n hn hx hy he _ h2 => ?_, ⟨_, hag⟩, fun _ => rfl⟩
    obtain ⟨dx, dy, rfl, rfl, kx, ky, rfl⟩ := one_of_kind he
    obtain ⟨ox, oy⟩ := h2 hag
    simp only [RepL] at hx hy
    obtain ⟨vx, rx, hvx, hrx, rfl⟩ := hx
    obtain ⟨vy, ry, hvy, hry, rfl⟩ := hy
    have := cells_single ox hvx
    subst this
    have := cells_single oy hvy
    subst this
    cases dx <;> simp [D.kind?] at kx
    cases dy <;> simp [D.kind?] at ky
    subst kx ky
    obtain ⟨m, rfl⟩ : ∃ m, n = m + 1 := ⟨n - 1, by omega⟩
    rw [rep_int hrx, rep_int hry]
    exact run_equalIn_int w m t _ _ _ _ hu
   ·rename_i hu
    cases h
    have hag : aggT P t = some false := by simp [aggT, hu]
    refine ⟨fun K w x y cx cy r n hn hx hy he _ h2 => ?_, ⟨_, hag⟩, fun _ => rfl⟩
    obtain ⟨dx, dy, rfl, rfl, kx, ky, rfl⟩ := one_of_kind he
    obtain ⟨ox, oy⟩ := h2 hag
    simp only [RepL] at hx hy
    obtain ⟨vx, rx, hvx, hrx, rfl⟩ := hx
    obtain ⟨vy, ry, hvy, hry, rfl⟩ := hy
    have := cells_single ox hvx
    subst this
    have := cells_single oy hvy
    subst this
    cases dx <;> simp [D.kind?] at kx
    cases dy <;> simp [D.kind?] at ky
    obtain ⟨m, rfl⟩ : ∃ m, n = m + 1 := ⟨n - 1, by omega⟩
    rw [rep_bool hrx, rep_bool hry]
    exact run_equalIn_bool' w m t _ _ hu
   ·rename_i hu
    cases h
    have hag : aggT P t = some false := by simp [aggT, hu]
    refine ⟨fun K w x y cx cy r n hn hx hy he _ h2 => ?_, ⟨_, hag⟩, fun _ => rfl⟩
    obtain ⟨dx, dy, rfl, rfl, kx, ky, rfl⟩ := one_of_kind he
    obtain ⟨ox, oy⟩ := h2 hag
    simp only [RepL] at hx hy
    obtain ⟨vx, rx, hvx, hrx, rfl⟩ := hx
    obtain ⟨vy, ry, hvy, hry, rfl⟩ := hy
    have := cells_single ox hvx
    subst this
    have := cells_single oy hvy
    subst this
    cases dx <;> simp [D.kind?] at kx
    cases dy <;> simp [D.kind?] at ky
    obtain ⟨m, rfl⟩ : ∃ m, n = m + 1 := ⟨n - 1, by omega⟩
    rw [rep_str hrx, rep_str hry, run_equalIn_string w m t _ _ hu]
    simp [D.eqP]
   ·rename_i fs hu
    split at h
    ·simp at h
    ·rename_i hst
     have hag : aggT P t = some true := by simp [aggT, hu]
     refine ⟨fun K w x y cx cy r n hn hx hy he h1 _ => ?_, ⟨_, hag⟩, fun hh => by rw [hag] at hh; cases hh⟩
     obtain ⟨⟨xs, rfl⟩, ⟨ys, rfl⟩⟩ := h1 hag
     obtain ⟨m, rfl⟩ : ∃ m, n = m + 1 := ⟨n - 1, by omega⟩
     have hfs : P.fieldsOf t = fs := by simp [Program.fieldsOf, hu]
     rw [run_equalIn_struct w m t xs ys (by rw [hfs]; exact hu) (by simpa using hst), hfs]
     have hlen := eqCells_len he
     rw [cells_agg] at hx hy
     refine eq_fields IH (by omega) h (cx := cx) (cy := cy) (K := K) ?_ ?_ he
     ·rw [List.drop_zero, List.take_of_length_le (by rw [hx.length]; omega)]; exact hx
     ·rw [List.drop_zero, List.take_of_length_le (by rw [hy.length]; omega)]; exact hy
   ·rename_i n0 e hu
    split at h
    ·rename_i k1 hk1
     split at h
     ·rename_i hsz
      simp only [beq_iff_eq] at hsz
      cases h
      obtain ⟨ih1, ih2, ih3⟩ := IH _ _ hk1
      have hag : aggT P t = some true := by simp [aggT, hu]
      refine ⟨fun K w x y cx cy r n hn hx hy he h1 _ => ?_, ⟨_, hag⟩, fun hh => by rw [hag] at hh; cases hh⟩
      obtain ⟨⟨xs, rfl⟩, ⟨ys, rfl⟩⟩ := h1 hag
      obtain ⟨m, rfl⟩ : ∃ m, n = m + 1 := ⟨n - 1, by omega⟩
      have hlen := eqCells_len he
      have hfl : (List.replicate n0 k1).flatten.length = n0 * k1.length := by simp
      rw [hfl] at hlen
      rw [cells_agg] at hx hy
      obtain ⟨i, hi⟩ : ∃ i, P.info? e = some i := by
       unfold sizeT at hsz
       simp only [Option.map_eq_some_iff] at hsz
       obtain ⟨i, hi, _⟩ := hsz
       exact ⟨i, hi⟩
      have hco : P.cellsOf e = k1.length := by
       unfold sizeT at hsz
       simp [Program.cellsOf, hsz]
      rw [run_equalIn_array w m xs ys hu hi, hco, List.range_eq_range']
      refine eq_items ih1 ih2 ih3 hsz (by omega) (cx := cx) (cy := cy) (K := K) ?_ ?_ he
      ·rw [Nat.zero_mul, List.drop_zero, List.take_of_length_le (by rw [hx.length]; omega)]; exact hx
      ·rw [Nat.zero_mul, List.drop_zero, List.take_of_length_le (by rw [hy.length]; omega)]; exact hy
     ·simp at h
    ·simp at h
   ·simp at h
theorem ok_eqc {ne : Bool} {ks : List PK} {op : BinOp} {t yt : TypeId} {x y : Opd} {x' y' : Operand} {o : Oper} {cx cy : List AV} {d : Did} (ho : o.op = .binOp op t x' y' yt) (hop : op = if ne then BinOp.neq else BinOp.eql) (h : Sim E K s a.tmps w)
  (h1 : chkO x x' = true) (h2 : chkO y y' = true) (hp : plainK P 50 t = some ks) (hag : aggT P t = some true) (hg : P.eqGuardType P.depth t = false)
  (hx : getO s.sl x = some (.agg cx)) (hy : getO s.sl y = some (.agg cy)) (hd : vl s ((eqCells ks cx cy).map fun t => .d (.bool (t != ne))) = some d) : OpOK P E K s a w o d := by
 obtain ⟨r, hr, rfl⟩ := vl_of hd
 simp only [Option.map_eq_some_iff] at hr
 obtain ⟨b, hb, rfl⟩ := hr
 have p := getO_rep h h1 hx
 have q := getO_rep h h2 hy
 simp only [Rep] at p q
 obtain ⟨xs, hxs, hrx⟩ := p
 obtain ⟨ys, hys, hry⟩ := q
 have heq : (Op.equalIn 10000 t (.agg xs) (.agg ys)).run P w = .ok b w := (plain_eq 50 t ks hp).1 K w _ _ cx cy b 10000 (by omega) hrx hry hb (fun _ => ⟨⟨_, rfl⟩, ⟨_, rfl⟩⟩) (fun hh => by rw [hag] at hh; cases hh)
 refine opOK_pure h (pv := .bool (b != ne)) ?_ (rep_bool' _) (fun _ e => by cases e)
 simp only [execOp, ho, Sem.run_bind, hxs, hys, run_eqGuard_agg w op t x' y' xs ys hg, Result.andThen_ok]
 cases ne <;> simp only [Bool.false_eq_true, if_false, if_true] at hop <;> subst hop
 ·rw [run_eql_struct, heq]; simp
 ·rw [run_neq_struct, heq]; simp
end
end Go.Ab
namespace Go.Ab
variable [Glb]
section
variable {P : Program} {E : Env} {K : Ctx} {s : St} {a : Act} {w : World}
theorem cok_of_chkO {x : Opd} {y : Operand} (h : chkO x y = true) : x.cok = true := by
 cases x <;> cases y <;> simp_all [chkO, Opd.cok]
def AOpk.quiet : AOpk → Bool
 | .call _ _ | .callZ _ _ | .callQ _ _ | .defer _ _ | .recover => false
 | _ => true
set_option maxHeartbeats 1600000 in
theorem step_ok {C : CallFn} {ao : AOpk} {o : Oper} {d : Did} (h : Sim E K s a.tmps w) (hw : WF E.rf0 s) (hc : chkOp P ao o = true) (hs : stepOp C s ao = some d) (hq : ao.quiet = true) : OpOK P E K s a w o d := by
 cases ao <;> simp only [AOpk.quiet, Bool.false_eq_true] at hq <;> simp only [chkOp] at hc <;> simp only [stepOp] at hs
 case mov x =>
  split at hc
  ·rename_i y ho
   exact ok_mov ho h hc hs
  ·simp at hc
 case take t =>
  split at hc
  ·rename_i u ho
   simp only [beq_iff_eq] at hc
   subst hc
   split at hs
   ·rename_i v hv
    simp only [Option.some.injEq] at hs; subst hs
    exact ok_raw (x := .t t) (y := .tmp t) (by simp [execOp, ho]) h (by simp [chkO]) hv
   ·simp at hs
  ·simp at hc
 case asg x =>
  split at hc
  ·rename_i y ho
   split at hs
   ·rename_i v hv
    simp only [Option.some.injEq] at hs; subst hs
    exact ok_raw (by simp [execOp, ho]) h hc hv
   ·simp at hs
  ·simp at hc
 case pick c x y =>
  split at hc
  ·rename_i c' x' y' ho
   simp only [Bool.and_eq_true] at hc
   split at hs
   ·rename_i t ht
    exact ok_pick ho h hc.1.1 hc.1.2 hc.2 ht hs
   ·simp at hs
  ·simp at hc
 case alloc cells =>
  split at hc
  ·rename_i t ho
   split at hc <;> first | exact absurd hc Bool.false_ne_true | skip
   rename_i z hz
   simp only [Bool.and_eq_true, beq_iff_eq] at hc
   simp only [Option.some.injEq] at hs; subst hs
   exact ok_alloc ho h hw hz hc.1 hc.2
  ·simp at hc
 case box x =>
  split at hc
  ·rename_i t y ho
   split at hs
   ·rename_i v hv
    split at hs
    ·rename_i hsol
     simp only [Option.some.injEq] at hs; subst hs
     exact ok_box ho h hw hc (cok_of_chkO hc) hv hsol
    ·simp at hs
   ·simp at hs
  ·simp at hc
 case build zero parts =>
  split at hc
  ·rename_i t ps ho
   split at hc
   ·rename_i z pl hz hp
    simp only [Bool.and_eq_true, beq_iff_eq] at hc
    obtain ⟨v, hv, rfl⟩ := vl_of hs
    simp only [Option.map_eq_some_iff] at hv
    obtain ⟨cs, hcs, rfl⟩ := hv
    exact ok_build ho h hz hp hc.1.1 hc.2 hcs
   ·simp at hc
  ·simp at hc
 case mkls sz zero parts =>
  split at hc
  ·rename_i t len ps ho
   split at hc <;> first | exact absurd hc Bool.false_ne_true | skip
   rename_i e he
   split at hc
   ·rename_i n z hn hz
    simp only [Bool.and_eq_true, beq_iff_eq, decide_eq_true_eq] at hc
    obtain ⟨⟨⟨⟨⟨⟨c1, c2⟩, c3⟩, c4⟩, c5⟩, c6⟩, c7⟩ := hc
    subst c1
    split at hs
    ·rename_i cs hcs
     split at hs
     ·rename_i ds hds
      split at hs
      ·obtain ⟨v, hv, rfl⟩ := vl_of hs
       simp only [Option.some.injEq] at hv; subst hv
       exact ok_mkls ho h he hn hz c3 c2 c4 c5 c7 hcs hds
      ·simp at hs
     ·simp at hs
    ·simp at hs
   ·simp at hc
  ·simp at hc
 case load agg x =>
  split at hc
  ·rename_i t y ho
   simp only [Bool.and_eq_true] at hc
   split at hs
   ·rename_i p hp
    exact ok_load ho h hc.2 hc.1 hp hs
   ·simp at hs
  ·simp at hc
 case loadB agg x b =>
  split at hc
  ·rename_i t y ho
   simp only [Bool.and_eq_true] at hc
   split at hs
   ·rename_i r off q off' hp hq'
    split at hs
    ·exact ok_load ho h hc.2 hc.1 hp hs
    ·simp at hs
   ·simp at hs
  ·simp at hc
 case storeW sz x v ws =>
  split at hc
  ·rename_i t x' v' ho
   simp only [Bool.and_eq_true, beq_iff_eq] at hc
   split at hs
   ·rename_i r off u hp hu
    split at hs
    ·split at hs
     ·rename_i rf hrf
      simp only [Option.some.injEq] at hs; subst hs
      exact ok_store ho h hc.1.2 hc.2 hc.1.1 hp hu hrf
     ·simp at hs
    ·simp at hs
   ·simp at hs
  ·simp at hc
 case takeload x =>
  split at hc
  ·rename_i t y ho
   simp only [Bool.and_eq_true] at hc
   split at hs
   ·rename_i r off hp
    split at hs
    ·rename_i v hv
     split at hs
     ·rename_i cs hcs
      simp only [Option.some.injEq] at hs; subst hs
      exact ok_takeload ho h hc.2 hc.1 hp hv hcs
     ·simp at hs
    ·simp at hs
   ·simp at hs
  ·simp at hc
 case recheck => simp at hs
 case store sz x v =>
  split at hc
  ·rename_i t x' v' ho
   simp only [Bool.and_eq_true, beq_iff_eq] at hc
   split at hs
   ·rename_i p u hp hu
    split at hs
    ·rename_i rf hrf
     simp only [Option.some.injEq] at hs; subst hs
     exact ok_store ho h hc.1.2 hc.2 hc.1.1 hp hu hrf
    ·simp at hs
   ·simp at hs
  ·simp at hc
 case nilchk x =>
  split at hc
  ·rename_i y ho
   split at hs
   ·rename_i r off hp
    obtain ⟨v, hv, rfl⟩ := vl_of hs
    simp only [Option.some.injEq] at hv; subst hv
    exact ok_nilchk ho h hc hp (.inl ⟨_, _, rfl⟩)
   ·rename_i cs off hp
    obtain ⟨v, hv, rfl⟩ := vl_of hs
    simp only [Option.some.injEq] at hv; subst hv
    exact ok_nilchk ho h hc hp (.inr (.inl ⟨_, _, rfl⟩))
   ·rename_i f x1 x2 hp
    split at hs
    ·obtain ⟨v, hv, rfl⟩ := vl_of hs
     simp only [Option.some.injEq] at hv; subst hv
     exact ok_nilchk ho h hc hp (.inr (.inr ⟨_, _, _, rfl⟩))
    ·simp at hs
   ·simp at hs
  ·simp at hc
 case bin op x y =>
  split at hc
  ·rename_i op' t x' y' yt ho
   simp only [Bool.and_eq_true, beq_iff_eq] at hc
   obtain ⟨⟨c1, c2⟩, c3⟩ := hc
   split at hs
   ·rename_i u v hu hv
    exact ok_bin (op := op) (by rw [ho, c1]) h c2 c3 hu hv hs
   ·simp at hs
  ·simp at hc
 case beq ne x y =>
  split at hc
  ·rename_i op' t x' y' yt ho
   simp only [Bool.and_eq_true, beq_iff_eq] at hc
   obtain ⟨⟨⟨c1, c2⟩, c3⟩, c4⟩ := hc
   have ht : P.underlying t = some .bool := by split at c4 <;> first | assumption | simp at c4
   split at hs
   ·rename_i b1 b2 hu hv
    obtain ⟨v, hv', rfl⟩ := vl_of hs
    simp only [Option.some.injEq] at hv'; subst hv'
    exact ok_beq ho c1 h c2 c3 ht hu hv
   ·simp at hs
  ·simp at hc
 case eqc ne ks x y =>
  split at hc
  ·rename_i op' t x' y' yt ho
   simp only [Bool.and_eq_true, beq_iff_eq] at hc
   obtain ⟨⟨⟨⟨⟨c1, c2⟩, c3⟩, c4⟩, c5⟩, c6⟩ := hc
   split at hs
   ·rename_i u v hu hv
    exact ok_eqc ho c1 h c2 c3 c4 c5 c6 hu hv hs
   ·simp at hs
  ·simp at hc
 case eqnil nk ne x =>
  split at hc
  ·rename_i op' t x' y' yt ho
   simp only [Bool.and_eq_true, beq_iff_eq, Bool.or_eq_true] at hc
   obtain ⟨⟨c1, c2⟩, c3⟩ := hc
   split at hs
   ·rename_i u hu
    exact ok_eqnil ho c1 h c2 c3 hu hs
   ·simp at hs
  ·simp at hc
 case un op x =>
  split at hc
  ·rename_i op' t y ho
   simp only [Bool.and_eq_true, beq_iff_eq] at hc
   split at hs
   ·rename_i u hu
    exact ok_un (op := op) (by rw [ho, hc.1]) h hc.2 hu hs
   ·simp at hs
  ·simp at hc
 case toInt k x =>
  split at hc
  ·rename_i s1 t y ho
   simp only [Bool.and_eq_true, beq_iff_eq] at hc
   split at hs
   ·rename_i k' n hu
    obtain ⟨v, hv, rfl⟩ := vl_of hs
    simp only [Option.some.injEq] at hv; subst hv
    exact ok_toInt ho h hc.2 hc.1.1 hc.1.2 hu
   ·simp at hs
  ·simp at hc
 case ident x =>
  split at hc
  ·rename_i s1 t y ho
   simp only [Bool.and_eq_true] at hc
   split at hs
   ·rename_i l hu
    obtain ⟨v, hv, rfl⟩ := vl_of hs
    simp only [Option.some.injEq] at hv; subst hv
    exact ok_ident ho h hc.2 hc.1.2 hc.1.1 hu
   ·simp at hs
  ·simp at hc
 case same x =>
  split at hc
  ·rename_i s1 t y ho
   simp only [Bool.and_eq_true, beq_iff_eq, Option.bind_eq_some_iff] at hc
   obtain ⟨⟨c1, e, c2, c3⟩, c4⟩ := hc
   split at hs
   ·rename_i e0 es hu
    simp only [Option.some.injEq] at hs; subst hs
    exact ok_same ho h c4 c1 (by rw [c1]; exact c2) c3 hu
   ·simp at hs
  ·simp at hc
 case strBytes x =>
  split at hc
  ·rename_i s1 t y ho
   simp only [Bool.and_eq_true, beq_iff_eq, Option.bind_eq_some_iff] at hc
   obtain ⟨⟨c1, e, c2, c3⟩, c4⟩ := hc
   split at hs
   ·rename_i hu
    obtain ⟨v, hv, rfl⟩ := vl_of hs
    simp only [Option.some.injEq] at hv; subst hv
    exact ok_strBytes ho h c4 c1 c2 c3 hu (by simp)
   ·rename_i c l hu
    obtain ⟨v, hv, rfl⟩ := vl_of hs
    simp only [Option.some.injEq] at hv; subst hv
    exact ok_strBytes ho h c4 c1 c2 c3 hu (by simp)
   ·simp at hs
  ·simp at hc
 case bytesStr x =>
  split at hc
  ·rename_i s1 t y ho
   simp only [Bool.and_eq_true, beq_iff_eq, Option.bind_eq_some_iff] at hc
   obtain ⟨⟨c1, e, c2, c3⟩, c4⟩ := hc
   split at hs
   ·rename_i v hu
    split at hs
    ·rename_i es hes
     obtain ⟨r, hr, rfl⟩ := vl_of hs
     simp only [Option.map_eq_some_iff] at hr
     obtain ⟨l, hl, rfl⟩ := hr
     exact ok_bytesStr ho h c4 c1 c2 c3 hu hes hl
    ·simp at hs
   ·simp at hs
  ·simp at hc
 case mkifc t x =>
  split at hc
  ·rename_i t' y ho
   simp only [Bool.and_eq_true, beq_iff_eq] at hc
   obtain ⟨⟨c1, c2⟩, c3⟩ := hc
   subst c1
   split at hs
   ·rename_i v hu
    obtain ⟨r, hr, rfl⟩ := vl_of hs
    simp only [Option.some.injEq] at hr; subst hr
    exact ok_mkifc ho h c2 c3 hu
   ·simp at hs
  ·simp at hc
 case mkfn f fi ca =>
  split at hc
  ·rename_i f' fi' ca' ho
   simp only [Bool.and_eq_true, beq_iff_eq] at hc
   obtain ⟨⟨⟨c1, c2⟩, c3⟩, _⟩ := hc
   have c1 := fnSame_eq c1
   subst c1
   split at hs
   ·rename_i u v hu hv
    obtain ⟨r, hr, rfl⟩ := vl_of hs
    simp only [Option.some.injEq] at hr; subst hr
    exact ok_mkfn ho h c2 c3 hu hv
   ·simp at hs
  ·simp at hc
 case sliceS x lo hi =>
  split at hc
  ·rename_i t x' lo' hi' mx ho
   simp only [Bool.and_eq_true, Option.isNone_iff_eq_none] at hc
   obtain ⟨⟨⟨⟨c1, c2⟩, c3⟩, c4⟩, c5⟩ := hc
   split at hs
   ·rename_i l hu
    split at hs
    ·rename_i i j e1 e2
     split at hs
     ·rename_i hij
      obtain ⟨r, hr, rfl⟩ := vl_of hs
      simp only [Option.some.injEq] at hr; subst hr
      exact ok_sliceStr (sz := 0) ho h c1 c2 c3 c4 c5 hu e1 e2 hij
     ·simp at hs
    ·simp at hs
   ·simp at hs
  ·simp at hc
 case slice sz x lo hi =>
  split at hc
  ·rename_i t x' lo' hi' mx ho
   simp only [Bool.and_eq_true, Option.isNone_iff_eq_none] at hc
   obtain ⟨⟨⟨⟨c1, c2⟩, c3⟩, c4⟩, c5⟩ := hc
   split at hs
   ·rename_i v hu
    split at hs
    ·rename_i l hl
     split at hs
     ·rename_i i j e1 e2
      split at hs
      ·rename_i hij
       obtain ⟨r, hr, rfl⟩ := vl_of hs
       simp only [Option.some.injEq] at hr; subst hr
       split at c5 <;> first | exact absurd c5 Bool.false_ne_true | skip
       rename_i e he
       simp only [Bool.and_eq_true, beq_iff_eq] at c5
       exact ok_sliceLst ho h c1 c2 c3 c4 he c5.1 hu hl e1 e2 ⟨hij.1, hij.2.1⟩ hij.2.2
      ·simp at hs
     ·simp at hs
    ·simp at hs
   ·simp at hs
  ·simp at hc
 case slArr n x lo hi =>
  split at hc
  ·rename_i t x' lo' hi' mx ho
   simp only [Bool.and_eq_true, Option.isNone_iff_eq_none] at hc
   obtain ⟨⟨⟨⟨c1, c2⟩, c3⟩, c4⟩, c5⟩ := hc
   split at c5 <;> first | exact absurd c5 Bool.false_ne_true | skip
   rename_i p1 p2 hp
   simp only [Bool.and_eq_true, beq_iff_eq] at c5
   obtain ⟨rfl, c6⟩ := c5
   split at hs
   ·rename_i r off hu
    split at hs
    ·rename_i i j e1 e2
     split at hs
     ·rename_i hij
      obtain ⟨q, hq', rfl⟩ := vl_of hs
      simp only [Option.some.injEq] at hq'; subst hq'
      exact ok_slArr ho h c1 c2 c3 c4 hp c6 hu e1 e2 hij
     ·simp at hs
    ·simp at hs
   ·simp at hs
  ·simp at hc
 case fldA off x =>
  split at hc
  ·rename_i t y f ho
   simp only [Bool.and_eq_true] at hc
   obtain ⟨c1, c2⟩ := hc
   split at c2
   ·rename_i fs hu
    cases hf : fs[f]? with
    | none => simp [hf] at c2
    | some g =>
      simp only [hf, Option.any_some, Bool.and_eq_true, beq_iff_eq] at c2
      obtain ⟨c2a, c3⟩ := c2
      split at c3 <;> first | exact absurd c3 Bool.false_ne_true | skip
      rename_i n hn
      simp only [decide_eq_true_eq] at c3
      split at hs
      ·rename_i r o' hx
       obtain ⟨q, hq', rfl⟩ := vl_of hs
       simp only [Option.some.injEq] at hq'; subst hq'
       exact ok_fldA ho h c1 hu hf c2a hn c3 hx (.inl ⟨_, _, rfl, rfl⟩)
      ·rename_i cs o' hx
       obtain ⟨q, hq', rfl⟩ := vl_of hs
       simp only [Option.some.injEq] at hq'; subst hq'
       exact ok_fldA ho h c1 hu hf c2a hn c3 hx (.inr ⟨_, _, rfl, rfl⟩)
      ·simp at hs
   ·simp at c2
  ·simp at hc
 case fld off agg x =>
  split at hc
  ·rename_i t y f ho
   simp only [Bool.and_eq_true] at hc
   obtain ⟨c1, c2⟩ := hc
   split at c2
   ·rename_i fs hu
    cases hf : fs[f]? with
    | none => simp [hf] at c2
    | some g =>
      simp only [hf, Option.any_some, Bool.and_eq_true, beq_iff_eq] at c2
      split at hs
      ·rename_i cs hx
       obtain ⟨q, hq', rfl⟩ := vl_of hs
       exact ok_fld ho h c1 hu hf c2.1 c2.2 hx hq'
      ·simp at hs
   ·simp at c2
  ·simp at hc
 case idxA arr sz x i =>
  split at hc
  ·rename_i t x' i' ho
   simp only [Bool.and_eq_true] at hc
   obtain ⟨⟨c1, c2⟩, c3⟩ := hc
   split at hs
   ·rename_i k m hi
    split at hs
    ·simp at hs
    ·rename_i hm
     split at hs
     ·rename_i n r off hx
      dsimp only at c3
      split at c3 <;> first | exact absurd c3 Bool.false_ne_true | skip
      rename_i p1 p2 hp
      simp only [Bool.and_eq_true, beq_iff_eq] at c3
      obtain ⟨rfl, c4⟩ := c3
      split at hs
      ·rename_i hlt
       obtain ⟨q, hq', rfl⟩ := vl_of hs
       simp only [Option.some.injEq] at hq'; subst hq'
       exact ok_idxAarr ho h c1 c2 hp c4 hi hm hlt hx (.inl ⟨_, _, rfl, rfl⟩)
      ·simp at hs
     ·rename_i n cs off hx
      dsimp only at c3
      split at c3 <;> first | exact absurd c3 Bool.false_ne_true | skip
      rename_i p1 p2 hp
      simp only [Bool.and_eq_true, beq_iff_eq] at c3
      obtain ⟨rfl, c4⟩ := c3
      split at hs
      ·rename_i hlt
       obtain ⟨q, hq', rfl⟩ := vl_of hs
       simp only [Option.some.injEq] at hq'; subst hq'
       exact ok_idxAarr ho h c1 c2 hp c4 hi hm hlt hx (.inr ⟨_, _, rfl, rfl⟩)
      ·simp at hs
     ·rename_i v hx
      dsimp only at c3
      split at c3 <;> first | exact absurd c3 Bool.false_ne_true | skip
      rename_i e he
      simp only [Bool.and_eq_true, beq_iff_eq] at c3
      split at hs
      ·rename_i es hes
       split at hs
       ·rename_i cs hcs
        split at hs
        ·rename_i hlen
         obtain ⟨q, hq', rfl⟩ := vl_of hs
         simp only [Option.some.injEq] at hq'; subst hq'
         exact ok_idxAlst ho h c1 c2 he c3.1 hi hm hx hes hcs hlen
        ·simp at hs
       ·simp at hs
      ·simp at hs
     ·simp at hs
   ·simp at hs
  ·simp at hc
 case idxS x i =>
  split at hc
  ·rename_i t x' i' ho
   simp only [Bool.and_eq_true] at hc
   obtain ⟨⟨c1, c2⟩, c3⟩ := hc
   split at hs
   ·rename_i l k n hx hi
    split at hs
    ·simp at hs
    ·rename_i hn
     obtain ⟨q, hq', rfl⟩ := vl_of hs
     simp only [Option.map_eq_some_iff] at hq'
     obtain ⟨b, hb, rfl⟩ := hq'
     exact ok_idxS ho h c1 c2 c3 hx hi hn hb
   ·simp at hs
  ·simp at hc
 case idxV n sz agg x i =>
  split at hc
  ·rename_i t x' i' ho
   simp only [Bool.and_eq_true] at hc
   obtain ⟨⟨c1, c2⟩, c3⟩ := hc
   split at c3 <;> first | exact absurd c3 Bool.false_ne_true | skip
   rename_i p1 p2 hp
   simp only [Bool.and_eq_true, beq_iff_eq] at c3
   obtain ⟨⟨rfl, c4⟩, c5⟩ := c3
   split at hs
   ·rename_i cs k m hx hi
    split at hs
    ·simp at hs
    ·rename_i hm
     obtain ⟨q, hq', rfl⟩ := vl_of hs
     exact ok_idxV ho h c1 c2 hp c4 c5 hx hi hm hq'
   ·simp at hs
  ·simp at hc
 case assertT t zero x =>
  split at hc
  ·rename_i y xt t' ok ho
   simp only [Bool.and_eq_true, beq_iff_eq] at hc
   obtain ⟨⟨⟨⟨⟨c1, c2⟩, c3⟩, c4⟩, c5⟩, c6⟩ := hc
   subst c1 c2
   split at c6 <;> first | exact absurd c6 Bool.false_ne_true | skip
   rename_i z hz
   split at hs
   ·rename_i t'' v hx
    obtain ⟨q, hq', rfl⟩ := vl_of hs
    simp only [Option.some.injEq] at hq'
    exact ok_assertT ho h c3 c5 hz c6 hx (.inl ⟨t'', v, rfl, hq'.symm⟩)
   ·rename_i hx
    obtain ⟨q, hq', rfl⟩ := vl_of hs
    simp only [Option.some.injEq] at hq'
    exact ok_assertT ho h c3 c5 hz c6 hx (.inr ⟨rfl, hq'.symm⟩)
   ·simp at hs
  ·simp at hc
 case extr x i =>
  split at hc
  ·rename_i y j ho
   simp only [Bool.and_eq_true, beq_iff_eq] at hc
   obtain ⟨c1, rfl⟩ := hc
   split at hs
   ·rename_i vs hx
    exact ok_extr ho h c1 hx hs
   ·simp at hs
  ·simp at hc
 case lenS x =>
  split at hc
  ·rename_i c ho
   split at hc
   ·rename_i y t hb hx' ht
    simp only [Bool.and_eq_true] at hc
    obtain ⟨c1, c2⟩ := hc
    split at hs
    ·rename_i l hx
     obtain ⟨q, hq', rfl⟩ := vl_of hs
     simp only [Option.some.injEq] at hq'; subst hq'
     exact ok_len ho h hb hx' ht c1 hx (.inl ⟨c2, l, rfl, rfl⟩)
    ·simp at hs
   ·simp at hc
  ·simp at hc
 case len x =>
  split at hc
  ·rename_i c ho
   split at hc
   ·rename_i y t hb hx' ht
    simp only [Bool.and_eq_true] at hc
    obtain ⟨c1, c2⟩ := hc
    split at hs
    ·rename_i r o' m hx
     obtain ⟨q, hq', rfl⟩ := vl_of hs
     simp only [Option.some.injEq] at hq'; subst hq'
     exact ok_len ho h hb hx' ht c1 hx (.inr ⟨c2, .inl ⟨_, _, _, rfl, rfl⟩⟩)
    ·rename_i v hn1 hx
     obtain ⟨q, hq', rfl⟩ := vl_of hs
     simp only [Option.map_eq_some_iff] at hq'
     obtain ⟨l, hl, rfl⟩ := hq'
     exact ok_len ho h hb hx' ht c1 hx (.inr ⟨c2, .inr ⟨l, hl, rfl⟩⟩)
    ·simp at hs
   ·simp at hc
  ·simp at hc
 case lenArr n =>
  split at hc
  ·rename_i c ho
   split at hc
   ·rename_i y t hb hx' ht
    split at hc <;> first | exact absurd hc Bool.false_ne_true | skip
    rename_i p1 p2 hp
    simp only [beq_iff_eq] at hc
    subst hc
    obtain ⟨q, hq', rfl⟩ := vl_of hs
    simp only [Option.some.injEq] at hq'; subst hq'
    exact ok_lenArr ho h hb hx' ht (und_arr hp)
   ·simp at hc
  ·simp at hc
 case append sz x y =>
  split at hc
  ·rename_i c ho
   split at hc
   ·rename_i x' y' t u hb hx' ht
    simp only [Bool.and_eq_true, Bool.or_eq_true] at hc
    obtain ⟨⟨⟨c1, c2⟩, c3⟩, c4⟩ := hc
    split at c3 <;> first | exact absurd c3 Bool.false_ne_true | skip
    rename_i e he
    split at c3 <;> first | exact absurd c3 Bool.false_ne_true | skip
    rename_i i hi
    simp only [Bool.and_eq_true, beq_iff_eq, decide_eq_true_eq] at c3
    obtain ⟨⟨⟨c5, c6⟩, c7⟩, c8⟩ := c3
    split at c8 <;> first | exact absurd c8 Bool.false_ne_true | skip
    rename_i z hz
    simp only [beq_iff_eq] at c8
    have T : AppT P t u e i z sz := ⟨und_elem he, by
     rcases c4 with c4 | c4
     ·exact .inl (und_str c4)
     ·obtain ⟨e', he'⟩ := Option.isSome_iff_exists.1 c4
      exact .inr ⟨e', und_elem he'⟩, hi, hz, c5, c8, c6, c7⟩
    split at hs
    ·rename_i xv yv hx hy
     split at hs
     ·rename_i r hr
      simp only [Option.some.injEq] at hs; subst hs
      exact ok_append ho h hb hx' ht T c1 c2 hx hy hr
     ·simp at hs
    ·simp at hs
   ·simp at hc
  ·simp at hc
 case copy x y =>
  split at hc
  ·rename_i c ho
   split at hc
   ·rename_i x' y' t u hb hx' ht
    simp only [Bool.and_eq_true] at hc
    obtain ⟨⟨c1, c2⟩, c3⟩ := hc
    split at c3 <;> first | exact absurd c3 Bool.false_ne_true | skip
    rename_i e he
    simp only [beq_iff_eq] at c3
    split at hs
    ·rename_i r off n yv hx hy
     split at hs
     ·rename_i es cs hes hcs
      split at hs
      ·rename_i hfit
       simp only [Option.some.injEq] at hs; subst hs
       exact ok_copy ho h hb hx' ht he c3 c1 c2 hx hy hes hcs hfit
      ·simp at hs
     ·simp at hs
    ·simp at hs
   ·simp at hc
  ·simp at hc
 case min x y =>
  split at hc
  ·rename_i c ho
   split at hc
   ·rename_i x' y' hb hx'
    simp only [Bool.and_eq_true] at hc
    split at hs
    ·rename_i k m k' n hx hy
     split at hs
     ·rename_i hk
      subst hk
      obtain ⟨q, hq', rfl⟩ := vl_of hs
      simp only [Option.some.injEq] at hq'; subst hq'
      exact ok_minmax (mx := false) ho h (by simpa using hb) hx' hc.1 hc.2 hx hy
     ·simp at hs
    ·simp at hs
   ·simp at hc
  ·simp at hc
 case max x y =>
  split at hc
  ·rename_i c ho
   split at hc
   ·rename_i x' y' hb hx'
    simp only [Bool.and_eq_true] at hc
    split at hs
    ·rename_i k m k' n hx hy
     split at hs
     ·rename_i hk
      subst hk
      obtain ⟨q, hq', rfl⟩ := vl_of hs
      simp only [Option.some.injEq] at hq'; subst hq'
      exact ok_minmax (mx := true) ho h (by simpa using hb) hx' hc.1 hc.2 hx hy
     ·simp at hs
    ·simp at hs
   ·simp at hc
  ·simp at hc
 case panic x =>
  split at hc
  ·rename_i y ho
   split at hs
   ·rename_i t v hx
    simp only [Option.some.injEq] at hs; subst hs
    exact ok_panic ho h hc hx
   ·simp at hs
  ·simp at hc
end
end Go.Ab
namespace Go.Ab
variable [Glb]
def Does (P : Program) (f : FuncId) (args : Array Value) (w : World) (R : Ending → World → Prop) : Prop :=
 match (callFunc f args).run P w with
 | .ok (.enter f' args') w' => Calls P f' args' w' R
 | .ok (.value v) w' => R (.returned v) w'
 | .ok (.row row args) w' => Rows P row args w' fun v w'' => R (.returned v) w''
 | _ => False
def Chain (pv : Value) (ch : List PanicEntry) : Prop :=
 ∃ older, ch = { v := pv, recovered := false, goexit := false } :: older ∧ ∀ e ∈ older, e.goexit = false
def CallRes (K : Ctx) (out : Out) : Ending → Prop
 | .returned v => ∃ av, out = .ret av ∧ Rep K av v ∧ ∀ es, av ≠ .own es
 | .panicked ch => ∃ av pv, out = .pan av ∧ Rep K av pv ∧ Chain pv ch
 | .outgrown => False
def CallSound (P : Program) (C : CallFn) : Prop := ∀ f args rf out rf', C f args rf = some (out, rf') → ∀ (E : Env) (K : Ctx) (s : St) (tm : Array Value) (w : World) (vs : Array Value),
 s.rf = rf → Sim E K s tm w → WF E.rf0 s → AV.refBs args ≤ rf.length → (∀ x ∈ args, ∀ es, x ≠ .own es) → RepL K args vs.toList →
 Does P f vs w fun e w' => ∃ K', Sim E K' { s with rf := rf' } tm w' ∧ Up rf.length K K' ∧ CallRes K' out e
theorem bares_not_own : ∀ (l : List AV) (x : AV), x ∈ AV.bares l → ∀ es, x ≠ .own es
 | [], x, h => by simp [AV.bares] at h
 | y :: l, x, h => by
   simp only [AV.bares, List.mem_cons] at h
   rcases h with rfl | h
   ·intro es e
    cases y <;> simp [AV.bare] at e
   ·exact bares_not_own l x h
theorem bargs_not_own : ∀ (l : List AV) (x : AV), x ∈ AV.bargs l → ∀ es, x ≠ .own es
 | [], x, h => by simp [AV.bargs] at h
 | y :: l, x, h => by
   simp only [AV.bargs, List.mem_cons] at h
   rcases h with rfl | h
   ·intro es e
    cases y <;> simp [AV.barg, AV.bare] at e
   ·exact bargs_not_own l x h
def Did.st : Did → St
 | .val _ s => s
 | .none_ s => s
 | .pan _ s => s
def AOpk.plain : AOpk → Bool
 | .defer _ _ | .recover => false
 | _ => true
theorem unOwn_df (s : St) (x : Opd) : (unOwn s x).df = s.df ∧ (unOwn s x).pn = s.pn := by
 unfold unOwn
 split
 ·split <;> exact ⟨rfl, rfl⟩
 ·exact ⟨rfl, rfl⟩
theorem vl_st {s : St} {v : Option AV} {d : Did} (h : vl s v = some d) : d.st = s := by
 unfold vl at h
 simp only [Option.map_eq_some_iff] at h
 obtain ⟨_, _, rfl⟩ := h
 rfl
set_option maxHeartbeats 1000000 in
theorem stepOp_same {C : CallFn} {s : St} {o : AOpk} {d : Did} (h : stepOp C s o = some d) (ho : o.plain = true) : d.st.df = s.df ∧ d.st.pn = s.pn := by
 cases o <;> simp only [AOpk.plain, Bool.false_eq_true] at ho <;> simp only [stepOp] at h
 all_goals first
  | (rw [vl_st h]; exact ⟨rfl, rfl⟩)
  | (repeat' first
    | (rw [vl_st h]; exact ⟨rfl, rfl⟩)
    | (simp at h; done)
    | (simp only [Option.some.injEq] at h; subst h; simp [Did.st, unOwn_df]; done)
    | split at h)
theorem Fresh.none {E : Env} {K : Ctx} {s : St} {tm : Array Value} {w : World} {av : AV} {v : Value} (h : Fresh E K s tm w none av v) (d : Option Nat) : Fresh E K s tm w d av v :=
 fun es e => ⟨(h es e).1, fun b hb => ⟨((h es e).2 b hb).1, fun ℓ es' v' _ h' => ((h es e).2 b hb).2 ℓ es' v' (fun _ ht => by cases ht) h'⟩⟩
def Put1 (K : Ctx) (p : AV × List AV) (d : Deferred) : Prop :=
 ∃ id first cap vs cv av, p = (.fn (.func id) first cap, vs) ∧ d = { target := .fn (.func id) cv, args := av } ∧ RepL K cap cv.toList ∧ RepL K (first ++ vs) av.toList
def PutR (K : Ctx) : List (AV × List AV) → List Deferred → Prop
 | [], ds => ds = []
 | p :: r, ds => ∃ d rest, ds = d :: rest ∧ Put1 K p d ∧ PutR K r rest
theorem Put1.mono {K K' : Ctx} {n : Nat} (hu : Up n K K') {p : AV × List AV} {d : Deferred} (hb : p.1.refB ≤ n ∧ AV.refBs p.2 ≤ n) (h : Put1 K p d) : Put1 K' p d := by
 obtain ⟨id, first, cap, vs, cv, av, rfl, rfl, h1, h2⟩ := h
 simp only [AV.refB] at hb
 exact ⟨id, first, cap, vs, cv, av, rfl, rfl, RepL.mono hu.1 hu.2 _ _ (by omega) h1, RepL.mono hu.1 hu.2 _ _ (refBs_append_le (by omega) hb.2) h2⟩
theorem PutR.mono {K K' : Ctx} {n : Nat} (hu : Up n K K') : ∀ {l : List (AV × List AV)} {ds : List Deferred}, (∀ p, p ∈ l → p.1.refB ≤ n ∧ AV.refBs p.2 ≤ n) → PutR K l ds → PutR K' l ds
 | [], ds, _, h => h
 | p :: r, ds, hb, h => by
   obtain ⟨d, rest, rfl, h1, h2⟩ := h
   exact ⟨d, rest, rfl, h1.mono hu (hb p (by simp)), PutR.mono hu (fun q hq => hb q (by simp [hq])) h2⟩
structure Inv (E : Env) (K : Ctx) (s : St) (a : Act) (w : World) (N : Nat) : Prop where
 sim : Sim E K s a.tmps w
 wf : WF E.rf0 s
 df : PutR K s.df a.defers
 size : N ≤ a.tmps.size
def ExR (K : Ctx) : Ex → Exit → Prop
 | .nrm, .normal => True
 | .exit i, .exit j => i = j
 | .goto i, .goto j => i = j
 | .ret, .ret => True
 | .pan v, .panic ch => ∃ pv, Rep K v pv ∧ Chain pv ch
 | _, _ => False
def After (E : Env) (K : Ctx) (s : St) (a : Act) (dst : Option Nat) (next : Act → World → Prop) (Q : Exit → Act → World → Prop) : Did → Prop
 | .val v s' => ∀ pv w' K', Sim E K' s' a.tmps w' → Rep K' v pv → Fresh E K' s' a.tmps w' none v pv → Up s.rf.length K K' → next (a.put dst pv) w'
 | .none_ s' => ∀ w' K', Sim E K' s' a.tmps w' → Up s.rf.length K K' → next (a.put dst undef) w'
 | .pan v s' => ∀ pv ch w' K', Sim E K' s' a.tmps w' → Rep K' v pv → Chain pv ch → Up s.rf.length K K' → Q (.panic ch) a w'
section
variable {P : Program} {E : Env} {K : Ctx} {s : St} {a : Act} {w : World} {next : Act → World → Prop} {Q : Exit → Act → World → Prop}
theorem wp_of_ok {o : Oper} {d : Did} (hs : Sim E K s a.tmps w) (h : OpOK P E K s a w o d) (k : After E K s a o.dst next Q d) : o.wp P a w next Q := by
 unfold Oper.wp
 cases d with
 | val v s' =>
   obtain ⟨pv, w', K', hr, h1, h2, h3, h4⟩ := h
   rw [hr, Oper.upon_value]
   exact k pv w' K' h1 h2 h3 h4
 | none_ s' =>
   obtain ⟨w', K', hr, h1, h4⟩ := h
   rw [hr, Oper.upon_skip]
   exact k w' K' h1 h4
 | pan v s' =>
   obtain ⟨t, v', pv, rfl, rfl, hr, h1⟩ := h
   rw [hr, Oper.upon_panic]
   exact k pv _ w K hs h1 ⟨[], rfl, by simp⟩ (Up.refl _ _)
theorem upon_does {o : Oper} {f : FuncId} {args : Array Value} {R : Ending → World → Prop} (h : Does P f args w R)
  (hr : ∀ e w', R e w' → match e with
   | .returned v => next (a.put o.dst v) w'
   | .panicked ch => Q (.panic ch) a w'
   | .outgrown => False) : o.upon P a next Q ((callFunc f args).run P w) := by
 unfold Does at h
 split at h
 ·rename_i f' args' w' he
  rw [he, Oper.upon_enter]
  exact Calls.mono h fun e w'' hR => by
   have := hr e w'' hR
   cases e with
   | returned v => exact this
   | panicked ch => exact this
   | outgrown => exact this.elim
 ·rename_i v w' he
  rw [he, Oper.upon_value]
  exact hr (.returned v) w' h
 ·rename_i row args' w' he
  rw [he, Oper.upon_row]
  exact Rows.mono h fun v w'' hR => hr (.returned v) w'' hR
 ·exact h.elim
theorem exec_call {c : Call} {o : Oper} (ho : o.op = .call c) {f : Opd} {xs : List Opd} {id : FuncId} {first cap vs : List AV}
  (h : Sim E K s a.tmps w) (hc : (match c.callee with | .value g => chkO f g | _ => false) = true) (hx : chkOs xs c.args.toList = true)
  (hf : getO s.sl f = some (.fn (.func id) first cap)) (hv : getOs s.sl xs = some vs) :
  ∃ args : Array Value, (execOp a.eval o).run P w = (callFunc id args).run P w ∧ RepL K (AV.bargs (first ++ vs ++ cap)) args.toList := by
 cases hcl : c.callee with
 | value g =>
   rw [hcl] at hc
   have hF := getO_rep h hc hf
   simp only [Rep] at hF
   obtain ⟨va, vc, hF, h1, h2⟩ := hF
   have h3 := getOs_rep h hx hv
   refine ⟨va ++ c.args.map a.eval ++ vc, ?_, ?_⟩
   ·simp only [execOp, ho, resolve, hcl, hF, Deferred.ofValue, Sem.run_bind, Sem.run_pure, Result.andThen_ok, invoke]
   ·apply RepL.bargs
    simp only [Array.toList_append, Array.toList_map]
    exact RepL.append (RepL.append h1 h3) h2
 | builtin b => rw [hcl] at hc; simp at hc
 | invoke r m => rw [hcl] at hc; simp at hc
end
end Go.Ab
namespace Go.Ab
variable [Glb]
theorem blk_lt {E : Env} {K : Ctx} {s : St} {tm : Array Value} {w : World} (h : Sim E K s tm w) {ℓ : Loc} {es : List (List D)} {v : Value} (hh : holds K s tm w ℓ (.own es) v) {b : Nat} (hb : blk v = some b) :
  b < w.heap.size ∧ ∃ f, K.F b = some f := by
 have := h.own ℓ es v hh
 cases es with
 | nil =>
   obtain ⟨a, rfl⟩ := this
   cases a <;> simp [blk] at hb
 | cons e r =>
   obtain ⟨b', o, n, c, el, fz, hv, hn, hf, hh', hs, hr⟩ := this
   rw [hv] at hb
   simp only [blk, Option.some.injEq] at hb
   subst hb
   exact ⟨heap_lt hh', _, hf⟩
theorem OwnV.kept {K K' : Ctx} {w w' : World} {es : List (List D)} {v : Value} (h : OwnV K w es v) (hG : Le K.G K'.G)
  (hk : ∀ b, blk v = some b → w'.heap[b]? = w.heap[b]? ∧ K'.F b = K.F b) : OwnV K' w' es v :=
 h.mono hG (fun b f hf hb => by rw [(hk b hb).2]; exact hf) (fun b hb c el fz hc => ⟨c, by rw [(hk b hb).1]; exact hc, rfl⟩)
theorem Sim.frame {E : Env} {K : Ctx} {s : St} {tm : Array Value} {w : World} (h : Sim E K s tm w) (hw : WF E.rf0 s) {K' : Ctx} {w' : World}
  (hsz : w.heap.size ≤ w'.heap.size) (hos : w'.os = w.os) (htape : w'.tape = w.tape) (hout : w'.output = w.output)
  (hb : ∀ b, b < w.heap.size → w'.heap[b]? = w.heap[b]? ∧ K'.F b = K.F b ∧ ∀ o, K'.G b o = K.G b o) (hle : Le K.G K'.G) (hρ : K'.ρ = K.ρ)
  (hcells : ∀ b o v, K'.G b o = some v → w'.cell? ⟨b, o, none⟩ = some v)
  (hrows : ∀ b f, K'.F b = some f → (∃ c el fz, w'.heap[b]? = some (.cells c el fz) ∧ (fz.1 = fz.2 ∨ c.size ≤ fz.1)) ∧ ∀ o, f ≤ o → K'.G b o = none) : Sim E K' s tm w' := by
 have hup : ∀ r, r < s.rf.length → K.ρ r = K'.ρ r := fun r _ => by rw [hρ]
 have hbl : ∀ r b, r < s.rf.length → K.ρ r = some b → b < w.heap.size := fun r b hr hb => by
  obtain ⟨cs, hcs⟩ : ∃ cs, s.rf[r]? = some cs := ⟨_, List.getElem?_eq_getElem hr⟩
  obtain ⟨b', vs', el', h1, h2, _⟩ := h.refs r cs hcs
  rw [h1] at hb
  cases hb
  exact heap_lt h2
 have hh : ∀ ℓ es v, holds K' s tm w' ℓ (.own es) v → holds K s tm w ℓ (.own es) v := fun ℓ es v h' => by
  cases ℓ with
  | sl t => exact h'
  | rf r i =>
    obtain ⟨cs', β, h1, h2, h3, h4⟩ := h'
    rw [hρ] at h3
    have := hbl r β (List.getElem?_eq_some_iff.1 h1).1 h3
    refine ⟨cs', β, h1, h2, h3, ?_⟩
    rw [← h4]
    exact (World.cell?_of_block (hb β this).1).symm
 refine ⟨Nat.le_trans h.size hsz, hos.trans h.os, htape.trans h.tape, hout.trans h.output, fun b hb' hT => ?_, h.gle.trans hle, fun r hr => by rw [hρ]; exact h.rho r hr, hcells, fun r cs hr => ?_,
  fun r b hr hb' => ?_, fun r r' b hr hr' h1 h2 => h.inj r r' b hr hr' (by rw [← hρ]; exact h1) (by rw [← hρ]; exact h2), hrows, fun t av ha => ⟨(h.slots t av ha).1, Rep.mono hle hup _ _ (hw.sb t av ha) (h.slots t av ha).2⟩,
  fun ℓ es v h1 => ?_, fun ℓ ℓ' es es' v v' b h1 h2 => h.uniq ℓ ℓ' es es' v v' b (hh _ _ _ h1) (hh _ _ _ h2), fun ℓ es v b h1 => h.tO ℓ es v b (hh _ _ _ h1), fun r b hr hb' => h.tR r b hr (by rw [← hρ]; exact hb')⟩
 ·have h1 := h.keep b hb' hT
  have h2 := hb b (Nat.lt_of_lt_of_le hb' h.size)
  exact ⟨h2.1.trans h1.1, h2.2.1.trans h1.2.1, fun o => (h2.2.2 o).trans (h1.2.2 o)⟩
 ·obtain ⟨b, vs, el, h1, h2, h3⟩ := h.refs r cs hr
  exact ⟨b, vs, el, by rw [hρ]; exact h1, by rw [(hb b (heap_lt h2)).1]; exact h2, RepL.mono hle hup _ _ (hw.rb.get hr) h3⟩
 ·rw [hρ] at hb'
  have h1 := h.refG r b hr hb'
  have h2 := hb b (hbl r b hr hb')
  exact ⟨h2.2.1.trans h1.1, fun o => (h2.2.2 o).trans (h1.2 o)⟩
 ·have h2 := hh _ _ _ h1
  refine (h.own ℓ es v h2).kept hle fun b hb' => ?_
  have h3 := hb b (blk_lt h h2 hb').1
  exact ⟨h3.1, h3.2.1⟩
def St.blank : St := { sl := [], rf := [] }
theorem Sim.blank {E : Env} {K : Ctx} {s : St} {tm : Array Value} {w : World} (h : Sim E K s tm w) : Sim ⟨w, K, [], fun _ => False⟩ K St.blank #[] w := by
 have hno : ∀ ℓ es v, ¬ holds K St.blank #[] w ℓ (.own es) v := fun ℓ es v hh => by
  cases ℓ with
  | sl t => simp [holds, St.blank, Slots.get] at hh
  | rf r i => simp [holds, St.blank] at hh
 exact ⟨Nat.le_refl _, rfl, rfl, rfl, fun b _ _ => ⟨rfl, rfl, fun _ => rfl⟩, ⟨Le.refl _, h.gle.g⟩, fun r hr => by simp at hr, h.cells, fun r cs hr => by simp [St.blank] at hr, fun r b hr => by simp [St.blank] at hr,
  fun r r' b hr => by simp [St.blank] at hr, h.rows, fun t av ht => by simp [St.blank, Slots.get] at ht, fun ℓ es v hh => absurd hh (hno _ _ _), fun ℓ _ es _ v _ b hh => absurd hh (hno _ _ _),
  fun ℓ es v b hh => absurd hh (hno _ _ _), fun r b hr => by simp [St.blank] at hr⟩
theorem blank_wf : WF [] St.blank :=
 ⟨rfl, by simp, fun n v h => by simp [St.blank, Slots.get] at h, fun r cs h => by simp [St.blank] at h, fun m _ _ r cs _ h => by simp [St.blank] at h, fun p h => by simp [St.blank] at h, fun v h => by simp [St.blank] at h⟩
section
variable {P : Program} {E : Env} {K : Ctx} {s : St} {a : Act} {w : World} {next : Act → World → Prop} {Q : Exit → Act → World → Prop} {C : CallFn}
theorem wp_call (hC : CallSound P C) {o : Oper} {f : Opd} {xs : List Opd} {d : Did} (h : Sim E K s a.tmps w) (hw : WF E.rf0 s) (hc : chkOp P (.call f xs) o = true)
  (hk : (AOpk.call f xs).cok = true) (hs : stepOp C s (.call f xs) = some d) (k : After E K s a o.dst next Q d) : o.wp P a w next Q := by
 simp only [chkOp] at hc
 split at hc
 ·rename_i c ho
  rw [Bool.and_eq_true] at hc
  simp only [stepOp] at hs
  split at hs
  ·rename_i id first cap vs hf hvs
   obtain ⟨args, he, hr⟩ := exec_call (P := P) ho h hc.1 hc.2 hf hvs
   unfold Oper.wp
   rw [he]
   simp only [AOpk.cok, Bool.and_eq_true] at hk
   have hb := getO_b hw hk.1 hf
   have hb2 := getOs_b hw hk.2 hvs
   simp only [AV.refB] at hb
   have hargs : AV.refBs (AV.bargs (first ++ vs ++ cap)) ≤ s.rf.length := by
    rw [refBs_bargs]; exact refBs_append_le (refBs_append_le (by omega) hb2) (by omega)
   have key : ∀ out rf', C id (AV.bargs (first ++ vs ++ cap)) s.rf = some (out, rf') → Does P id args w fun e w' => ∃ K', Sim E K' { s with rf := rf' } a.tmps w' ∧ Up s.rf.length K K' ∧ CallRes K' out e :=
    fun out rf' hcall => hC _ _ _ _ _ hcall E K s a.tmps w args rfl h hw hargs (bargs_not_own _) hr
   split at hs
   ·rename_i v rf hcall
    simp only [Option.some.injEq] at hs; subst hs
    refine upon_does (key _ _ hcall) fun e w' hR => ?_
    obtain ⟨K', h1, h2, h3⟩ := hR
    cases e with
    | returned u =>
      obtain ⟨av, e1, h4, h5⟩ := h3
      cases e1
      exact k u w' K' h1 h4 (fresh_of_not_own h5) h2
    | panicked ch => obtain ⟨av, pv, e1, _⟩ := h3; cases e1
    | outgrown => exact h3
   ·rename_i v rf hcall
    simp only [Option.some.injEq] at hs; subst hs
    refine upon_does (key _ _ hcall) fun e w' hR => ?_
    obtain ⟨K', h1, h2, h3⟩ := hR
    cases e with
    | returned u => obtain ⟨av, e1, _⟩ := h3; cases e1
    | panicked ch =>
      obtain ⟨av, pv, e1, h4, h5⟩ := h3
      cases e1
      exact k pv ch w' K' h1 h4 h5 h2
    | outgrown => exact h3
   ·simp at hs
  ·simp at hs
 ·simp at hc
theorem wp_callQ (hC : CallSound P C) {o : Oper} {f : Opd} {xs : List Opd} {d : Did} (h : Sim E K s a.tmps w) (hw : WF E.rf0 s) (hc : chkOp P (.callQ f xs) o = true)
  (hk : (AOpk.callQ f xs).cok = true) (hs : stepOp C s (.callQ f xs) = some d) (k : After E K s a o.dst next Q d) : o.wp P a w next Q := by
 refine wp_call (f := f) (xs := xs) (d := d) hC h hw hc hk ?_ k
 simp only [stepOp] at hs ⊢
 split at hs
 ·rename_i id first cap vs hf hvs
  split at hs
  ·rename_i v rf hcall
   split at hs
   ·rename_i hsame
    simp only [Option.some.injEq] at hs; subst hs
    have := sameRf_eq _ _ hsame
    subst this
    simp only [hcall]
   ·simp at hs
  ·simp at hs
 ·simp at hs
theorem wp_callZ (hC : CallSound P C) {o : Oper} {f : Opd} {xs : List Opd} {d : Did} (h : Sim E K s a.tmps w) (hw : WF E.rf0 s) (hc : chkOp P (.callZ f xs) o = true)
  (hs : stepOp C s (.callZ f xs) = some d) (k : After E K s a o.dst next Q d) (hCW : CallWF C) : o.wp P a w next Q := by
 simp only [chkOp] at hc
 split at hc
 ·rename_i c ho
  rw [Bool.and_eq_true] at hc
  simp only [stepOp] at hs
  split at hs
  ·rename_i id first cap vs hf hvs
   obtain ⟨args, he, hr⟩ := exec_call (P := P) ho h hc.1 hc.2 hf hvs
   unfold Oper.wp
   rw [he]
   split at hs
   ·rename_i hz
    split at hs
    ·rename_i v rf hcall
     simp only [Option.some.injEq] at hs; subst hs
     have hwf := hCW _ _ _ _ _ hcall (fun r cs hr => by simp at hr) (by rw [hz]; exact Nat.le_refl _)
     have hl : rf = [] := List.eq_nil_of_length_eq_zero hwf.1
     subst hl
     refine upon_does (hC _ _ _ _ _ hcall _ K St.blank #[] w args rfl h.blank blank_wf (by rw [hz]; exact Nat.le_refl _) (bargs_not_own _) hr) fun e w' hR => ?_
     obtain ⟨K', h1, h2, h3⟩ := hR
     cases e with
     | returned u =>
       obtain ⟨av, e1, h4, h5⟩ := h3
       cases e1
       have hb : v.refB ≤ 0 := hwf.2.2.1
       let K'' : Ctx := ⟨K'.G, K'.F, K.ρ⟩
       have hsim : Sim E K'' s a.tmps w' := h.frame hw h1.size h1.os h1.tape h1.output (fun b hb => h1.keep b hb (fun hf => hf)) h1.gle.le rfl h1.cells h1.rows
       exact k u w' K'' hsim (Rep.mono (K := K') (K' := K'') (n := 0) (Le.refl _) (fun r hr => by omega) _ _ hb h4) (fresh_of_not_own h5) ⟨h1.gle.le, fun r _ => rfl⟩
     | panicked ch => obtain ⟨av, pv, e1, _⟩ := h3; cases e1
     | outgrown => exact h3
    ·simp at hs
   ·simp at hs
  ·simp at hs
 ·simp at hc
end
end Go.Ab
namespace Go.Ab
variable [Glb]
def AOpk.voids : AOpk → Bool
 | .store _ _ _ | .storeW _ _ _ _ | .defer _ _ => true
 | _ => false
def AOpk.isRec : AOpk → Bool
 | .recover => true
 | _ => false
def chkGuard (ops : Array Oper) : Option (Nat × Bool) → Option (Nat × Bool) → Bool
 | none, none => true
 | some (t, b), some (j, b') => b == b' && ((ops[j]?).bind (·.dst)) == some t
 | _, _ => false
def chk1 (P : Program) (N : Nat) (ops : Array Oper) (ao : AOp) (o : Oper) : Bool :=
 chkOp P ao.op o && ao.op.cok && !ao.op.isRec && ao.dst == o.dst && (match ao.dst with | some d => decide (d < N) && !ao.op.voids | none => true) && chkGuard ops ao.guard o.guard
def chkL (P : Program) (N : Nat) (ops : Array Oper) : List AOp → List Oper → Bool
 | [], [] => true
 | x :: l, o :: m => chk1 P N ops x o && chkL P N ops l m
 | _, _ => false
theorem chkL_get {P : Program} {N : Nat} {ops : Array Oper} : ∀ {l : List AOp} {m : List Oper}, chkL P N ops l m = true → ∀ i : Nat, (l[i]? = none ∧ m[i]? = none) ∨ ∃ x o, l[i]? = some x ∧ m[i]? = some o ∧ chk1 P N ops x o = true
 | [], [], _, i => .inl ⟨by simp, by simp⟩
 | [], _ :: _, h, i => by simp [chkL] at h
 | _ :: _, [], h, i => by simp [chkL] at h
 | x :: l, o :: m, h, i => by
   simp only [chkL, Bool.and_eq_true] at h
   cases i with
   | zero => exact .inr ⟨x, o, by simp, by simp, h.1⟩
   | succ i => simpa using chkL_get h.2 i
section
variable {P : Program} {E : Env} {K : Ctx} {s : St} {a : Act} {w : World} {next : Act → World → Prop} {Q : Exit → Act → World → Prop} {C : CallFn} {N : Nat} {ops : Array Oper}
theorem guard_ok (h : Sim E K s a.tmps w) {x y : Option (Nat × Bool)} (hc : chkGuard ops x y = true) {b : Bool} (hb : wantedA s x = some b) {o : Oper} (ho : o.guard = y) : Region.wanted o (yielded ops a.tmps) = b := by
 cases x with
 | none =>
   cases y with
   | none =>
     simp only [wantedA, Option.some.injEq] at hb
     subst hb
     simp [Region.wanted, ho]
   | some q => simp [chkGuard] at hc
 | some p =>
   cases y with
   | none => simp [chkGuard] at hc
   | some q =>
     obtain ⟨t, b1⟩ := p
     obtain ⟨j, b2⟩ := q
     simp only [chkGuard, Bool.and_eq_true, beq_iff_eq] at hc
     obtain ⟨rfl, hd⟩ := hc
     simp only [wantedA] at hb
     split at hb
     ·rename_i x hx
      simp only [Option.some.injEq] at hb
      subst hb
      obtain ⟨ht, hr⟩ := h.slots t _ hx
      simp only [Rep, RepD] at hr
      have hg : a.tmps[t]? = some (.bool x) := by
       rw [Array.getElem?_eq_getElem ht]
       simp only [Array.getD, ht, dif_pos] at hr
       rw [← hr]; rfl
      simp only [Region.wanted, ho, yielded, hd, Option.bind_some, hg]
      cases x <;> cases b1 <;> rfl
     ·rename_i hx
      simp only [Option.some.injEq] at hb
      subst hb
      obtain ⟨ht, hr⟩ := h.slots t _ hx
      simp only [Rep, RepL] at hr
      obtain ⟨vs, hr, hvs⟩ := hr
      have hg : a.tmps[t]? = some (.tuple vs) := by
       rw [Array.getElem?_eq_getElem ht]
       simp only [Array.getD, ht, dif_pos] at hr
       rw [← hr]; rfl
      simp [Region.wanted, ho, yielded, hd, hg]
     ·simp at hb
theorem Inv.put (h : Inv E K s a w N) {s1 : St} {w1 : World} {K1 : Ctx} {dst : Option Nat} {v : AV} {pv : Value} (hsim : Sim E K1 s1 a.tmps w1) (hw : WF E.rf0 s1) (hu : Up s.rf.length K K1)
  (hdf : s1.df = s.df) (hv : Rep K1 v pv) (hb : v.refB ≤ s1.rf.length) (hf : Fresh E K1 s1 a.tmps w1 none v pv) (hd : ∀ d, dst = some d → d < N) : Inv E K1 (putO s1 dst v) (a.put dst pv) w1 N := by
 have hput : PutR K1 s1.df a.defers := by rw [hdf]; exact h.df.mono hu h.wf.db
 cases dst with
 | none => exact ⟨hsim, hw, hput, h.size⟩
 | some d =>
   have hlt : d < a.tmps.size := Nat.lt_of_lt_of_le (hd d rfl) h.size
   exact ⟨hsim.put hlt hv (hf.none _), putO_wf (dst := some d) hw hb, hput, by simp only [Act.put, Array.size_setIfInBounds]; exact h.size⟩
def AfterI (E : Env) (K : Ctx) (s : St) (N : Nat) (dst : Option Nat) (next : Act → World → Prop) (Q : Exit → Act → World → Prop) : Did → Prop
 | .val v s' => ∀ a' w' K', Inv E K' (putO s' dst v) a' w' N → Up s.rf.length K K' → next a' w'
 | .none_ s' => ∀ a' w' K', Inv E K' s' a' w' N → Up s.rf.length K K' → next a' w'
 | .pan v s' => ∀ a' pv ch w' K', Inv E K' s' a' w' N → Rep K' v pv → Chain pv ch → Up s.rf.length K K' → Q (.panic ch) a' w'
theorem after_of (h : Inv E K s a w N) {ao : AOp} {o : Oper} (hdst : ao.dst = o.dst) (hd : ∀ d, ao.dst = some d → d < N ∧ ao.op.voids = false) {d : Did} (hwf : d.wf E.rf0) (hsame : d.st.df = s.df ∧ d.st.pn = s.pn)
  (hv : ∀ s', d = .none_ s' → ao.op.voids = true) (k : AfterI E K s N ao.dst next Q d) : After E K s a o.dst next Q d := by
 cases d with
 | val v s1 =>
   intro pv w' K' h1 h2 h3 h4
   rw [← hdst]
   exact k _ _ _ (h.put h1 hwf.1 h4 hsame.1 h2 hwf.2 h3 fun d hd' => (hd d hd').1) h4
 | none_ s1 =>
   intro w' K' h1 h4
   have hn : ao.dst = none := by
    cases hao : ao.dst with
    | none => rfl
    | some d => have := (hd d hao).2; rw [hv _ rfl] at this; cases this
   rw [← hdst, hn]
   exact k _ _ _ ⟨h1, hwf, by simp only [Did.st] at hsame; rw [hsame.1]; exact h.df.mono h4 h.wf.db, h.size⟩ h4
 | pan v s1 =>
   intro pv ch w' K' h1 h2 h3 h4
   exact k _ _ _ _ _ ⟨h1, hwf.1, by simp only [Did.st] at hsame; rw [hsame.1]; exact h.df.mono h4 h.wf.db, h.size⟩ h2 h3 h4
theorem vl_val {s : St} {v : Option AV} {d : Did} (h : vl s v = some d) : ∀ s', d ≠ .none_ s' := by
 unfold vl at h
 simp only [Option.map_eq_some_iff] at h
 obtain ⟨_, _, rfl⟩ := h
 intro s' e
 cases e
set_option maxHeartbeats 1000000 in
theorem stepOp_voids {C : CallFn} {s : St} {o : AOpk} {s' : St} (h : stepOp C s o = some (.none_ s')) : o.voids = true := by
 cases o <;> simp only [AOpk.voids] <;> simp only [stepOp] at h
 all_goals first
  | exact absurd rfl (vl_val h s')
  | (exfalso; repeat' first
    | exact absurd rfl (vl_val h s')
    | (simp at h; done)
    | split at h)
theorem step_wp (hC : CallSound P C) (hCW : CallWF C) (h : Inv E K s a w N) {ao : AOp} {o : Oper} (hc : chk1 P N ops ao o = true) {d : Did} (hs : stepOp C s ao.op = some d)
  (k : AfterI E K s N ao.dst next Q d) : o.wp P a w next Q := by
 simp only [chk1, Bool.and_eq_true, beq_iff_eq] at hc
 obtain ⟨⟨⟨⟨⟨c1, c2⟩, c0⟩, c3⟩, c4⟩, c5⟩ := hc
 have hd : ∀ d, ao.dst = some d → d < N ∧ ao.op.voids = false := fun d e => by
  rw [e] at c4
  simpa using c4
 have hwf := stepOp_wf hCW hs h.wf c2
 have hv : ∀ s', d = .none_ s' → ao.op.voids = true := fun s' e => by subst e; exact stepOp_voids hs
 by_cases hq : ao.op.quiet = true
 ·have hp : ao.op.plain = true := by revert hq; cases ao.op <;> simp [AOpk.quiet, AOpk.plain]
  exact wp_of_ok h.sim (step_ok h.sim h.wf c1 hs hq) (after_of h c3 hd hwf (stepOp_same hs hp) hv k)
 ·obtain ⟨dst, op, gd, may⟩ := ao
  simp only at *
  cases op <;> simp only [AOpk.quiet, not_true_eq_false] at hq
  case call f xs => exact wp_call hC h.sim h.wf c1 c2 hs (after_of (ao := ⟨dst, .call f xs, gd, may⟩) h c3 hd hwf (stepOp_same hs rfl) hv k)
  case callZ f xs => exact wp_callZ hC h.sim h.wf c1 hs (after_of (ao := ⟨dst, .callZ f xs, gd, may⟩) h c3 hd hwf (stepOp_same hs rfl) hv k) hCW
  case callQ f xs => exact wp_callQ hC h.sim h.wf c1 c2 hs (after_of (ao := ⟨dst, .callQ f xs, gd, may⟩) h c3 hd hwf (stepOp_same hs rfl) hv k)
  case recover => simp [AOpk.isRec] at c0
  case defer f xs =>
   simp only [chkOp] at c1
   split at c1
   ·rename_i c ho
    rw [Bool.and_eq_true] at c1
    simp only [stepOp] at hs
    split at hs
    ·rename_i id first cap vs hf hvs
     simp only [Option.some.injEq] at hs; subst hs
     have hn : dst = none := by
      cases hao : dst with
      | none => rfl
      | some d => have := (hd d hao).2; simp [AOpk.voids] at this
     subst hn
     cases hcl : c.callee with
     | value g =>
       rw [hcl] at c1
       have hF := getO_rep h.sim c1.1 hf
       simp only [Rep] at hF
       obtain ⟨va, vc, hF, h1, h2⟩ := hF
       have h3 := getOs_rep h.sim c1.2 hvs
       have hr : (execOp a.eval o).run P w = .ok (.defer { target := .fn (.func id) vc, args := va ++ c.args.map a.eval }) w := by
        simp only [execOp, ho, resolve, hcl, hF, Deferred.ofValue, Sem.run_bind, Sem.run_pure, Result.andThen_ok]
       unfold Oper.wp
       rw [hr, Oper.upon_defer, ← c3]
       refine k _ _ K ⟨?_, hwf, ⟨_, _, rfl, ⟨id, first, cap, _, vc, _, rfl, rfl, h2, ?_⟩, h.df⟩, h.size⟩ (Up.refl _ _)
       ·have := h.sim
        exact ⟨this.size, this.os, this.tape, this.output, this.keep, this.gle, this.rho, this.cells, this.refs, this.refG, this.inj, this.rows, this.slots, this.own, this.uniq, this.tO, this.tR⟩
       ·simp only [Array.toList_append, Array.toList_map]
        exact RepL.append h1 (RepL.bares _ _ h3)
     | builtin b => rw [hcl] at c1; simp at c1
     | invoke r m => rw [hcl] at c1; simp at c1
    ·simp at hs
   ·simp at c1
def pickL (l : List AOp) (ord : List Nat) : List AOp := ord.filterMap (l[·]?)
theorem ops_wp (hC : CallSound P C) (hCW : CallWF C) {l : List AOp} (hc : chkL P N ops l ops.toList = true) : ∀ (ord : List Nat) (s : St) (a : Act) (w : World) (K : Ctx) (e : Ex) (s' : St),
  Inv E K s a w N → runOps C (pickL l ord) s = some (e, s') → (∀ ex a' w' K', ExR K' e ex → Inv E K' s' a' w' N → Up s.rf.length K K' → Q ex a' w') → wpOps P ops Q ord a w
 | [], s, a, w, K, e, s', h, hr, hQ => by
   simp only [pickL, List.filterMap_nil, runOps, Option.some.injEq, Prod.mk.injEq] at hr
   obtain ⟨rfl, rfl⟩ := hr
   exact hQ .normal a w K trivial h (Up.refl _ _)
 | i :: ord, s, a, w, K, e, s', h, hr, hQ => by
   rcases chkL_get hc i with ⟨h1, h2⟩ | ⟨ao, o, h1, h2, h3⟩
   ·rw [Array.getElem?_toList] at h2
    simp only [pickL, List.filterMap_cons, h1] at hr
    rw [wpOps_cons]
    simp only [wpOp, h2]
    exact ops_wp hC hCW hc ord s a w K e s' h hr hQ
   ·rw [Array.getElem?_toList] at h2
    simp only [pickL, List.filterMap_cons, h1, runOps] at hr
    rw [wpOps_cons]
    simp only [wpOp, h2]
    have h3' := h3
    simp only [chk1, Bool.and_eq_true, beq_iff_eq] at h3'
    obtain ⟨⟨⟨⟨⟨c1, c2⟩, _⟩, c3⟩, c4⟩, c5⟩ := h3'
    split at hr
    ·simp at hr
    ·rename_i hwant
     rw [guard_ok h.sim c5 hwant rfl]
     simp only [Bool.false_eq_true, if_false]
     have hI : Inv E K (putO s ao.dst (.tup [])) (a.put ao.dst undef) w N :=
      h.put h.sim h.wf (Up.refl _ _) rfl (by simp only [Rep, RepL]; exact ⟨#[], rfl, rfl⟩) (by simp [AV.refB, AV.refBs]) (fresh_of_not_own (by intro es e; cases e)) (fun d hd => by rw [hd] at c4; simp at c4; exact c4.1)
     rw [← c3]
     refine ops_wp hC hCW hc ord _ _ w K e s' hI hr fun ex a' w' K' h5 h6 h7 => hQ ex a' w' K' h5 h6 (by rwa [putO_rf] at h7)
    ·rename_i hwant
     rw [guard_ok h.sim c5 hwant rfl]
     simp only [if_true]
     refine .inl ?_
     split at hr
     ·rename_i v s1 hs
      refine step_wp hC hCW h h3 hs ?_
      intro a' w' K' h5 h6
      have hl := stepOp_len hCW hs h.wf c2
      refine ops_wp hC hCW hc ord _ _ w' K' e s' h5 hr fun ex a'' w'' K'' h7 h8 h9 => hQ ex a'' w'' K'' h7 h8 (h6.trans (h9.le ?_))
      rw [putO_rf]; exact hl
     ·rename_i s1 hs
      refine step_wp hC hCW h h3 hs ?_
      intro a' w' K' h5 h6
      have hl := stepOp_len hCW hs h.wf c2
      exact ops_wp hC hCW hc ord _ _ w' K' e s' h5 hr fun ex a'' w'' K'' h7 h8 h9 => hQ ex a'' w'' K'' h7 h8 (h6.trans (h9.le hl))
     ·rename_i v s1 hs
      refine step_wp hC hCW h h3 hs ?_
      intro a' pv ch w' K' h5 h6 h7 h8
      split at hr
      ·simp only [Option.some.injEq, Prod.mk.injEq] at hr
       obtain ⟨rfl, rfl⟩ := hr
       exact hQ (.panic ch) a' w' K' ⟨pv, h6, h7⟩ h5 h8
      ·simp at hr
     ·simp at hr
end
end Go.Ab
namespace Go.Ab
def AOpk.gets : AOpk → List Opd
 | .mov x | .box x | .nilchk x | .eqnil _ _ x | .un _ x | .toInt _ x | .ident x | .strBytes x | .bytesStr x | .mkifc _ x
 | .fldA _ x | .fld _ _ x | .extr x _ | .lenS x | .len x | .panic x | .load _ x | .takeload x | .assertT _ _ x => [x]
 | .take _ | .lenArr _ | .recover | .asg _ | .same _ | .alloc _ | .recheck _ _ _ => []
 | .pick c a b => [c, a, b]
 | .build _ parts | .mkls _ _ parts => parts.map (·.2.2)
 | .store _ a _ => [a]
 | .storeW _ a _ ws => a :: ws
 | .loadB _ a b => [a, b]
 | .bin _ x y | .beq _ x y | .eqc _ _ x y | .idxA _ _ x y | .idxS x y | .idxV _ _ _ x y | .copy x y | .min x y | .max x y => [x, y]
 | .append _ _ y => [y]
 | .mkfn _ first cap => first ++ cap
 | .sliceS x lo hi | .slice _ x lo hi | .slArr _ x lo hi => x :: (lo.toList ++ hi.toList)
 | .call f args | .callZ f args | .callQ f args | .defer f args => f :: args
def AOpk.raw : AOpk → Option Opd
 | .take t => some (.t t)
 | .asg x | .same x | .append _ x _ | .store _ _ x | .storeW _ _ x _ => some x
 | _ => none
def AOpk.cls : AOpk → Nat
 | .load _ _ | .loadB _ _ _ => 1
 | .callQ _ _ => 2
 | .alloc _ | .box _ => 3
 | .takeload _ => 5
 | .storeW _ _ _ _ => 6
 | .store _ _ _ | .call _ _ | .defer _ _ | .recover | .copy _ _ | .recheck _ _ _ | .panic _ => 4
 | _ => 0
def unOwnS (sl : Slots) : Option Opd → Slots
 | some (.t n) => match sl.get n with
   | some (.own es) => sl.put n (.d (.lst es))
   | _ => sl
 | _ => sl
def Did.mapSt (f : St → St) : Did → Did
 | .val v s => .val v (f s)
 | .none_ s => .none_ (f s)
 | .pan v s => .pan v (f s)
theorem unOwn_sl (s : St) (x : Opd) : unOwn s x = { s with sl := unOwnS s.sl (some x) } := by
 unfold unOwn unOwnS
 cases x with
 | t n =>
   simp only
   split
   ·rename_i es h; simp only [h]
   ·rename_i h; split
    ·rename_i es h'; exact absurd h' (h es)
    ·rfl
 | c v => rfl
 | f id => rfl
theorem getOs_congr {sl sl2 : Slots} : ∀ {l : List Opd}, (∀ x, x ∈ l → getO sl2 x = getO sl x) → getOs sl2 l = getOs sl l
 | [], _ => rfl
 | x :: r, h => by
   simp only [getOs]
   rw [h x (by simp), getOs_congr fun y hy => h y (by simp [hy])]
theorem fillA_congr {sl sl2 : Slots} : ∀ {l : List (Nat × Nat × Opd)} {cs : List AV}, (∀ x, x ∈ l.map (·.2.2) → getO sl2 x = getO sl x) → fillA sl2 cs l = fillA sl cs l
 | [], _, _ => rfl
 | (off, size, x) :: r, cs, h => by
   simp only [fillA]
   rw [h x (by simp)]
   cases getO sl x with
   | none => rfl
   | some v =>
     simp only
     rw [fillA_congr fun y hy => h y (by simp only [List.map_cons, List.mem_cons]; exact .inr hy)]
theorem apartB_congr {sl sl2 : Slots} {r : Nat} : ∀ {l : List Opd}, (∀ x, x ∈ l → getO sl2 x = getO sl x) → apartB sl2 r l = apartB sl r l
 | [], _ => rfl
 | x :: l, h => by
   simp only [apartB]
   rw [h x (by simp), apartB_congr fun y hy => h y (by simp [hy])]
theorem asIdx_congr {sl sl2 : Slots} {o : Option Opd} {d : Nat} (h : ∀ x, x ∈ o.toList → getO sl2 x = getO sl x) : asIdx sl2 o d = asIdx sl o d := by
 cases o with
 | none => rfl
 | some x => simp only [asIdx]; rw [h x (by simp)]
set_option maxHeartbeats 2000000 in
theorem step_slots {C : CallFn} {s : St} {o : AOpk} {sl2 : Slots} (hg : ∀ x, x ∈ o.gets → getO sl2 x = getO s.sl x) (hr : ∀ x, o.raw = some x → rawO sl2 x = rawO s.sl x) :
  stepOp C { s with sl := sl2 } o = (stepOp C s o).map (Did.mapSt fun st => { st with sl := unOwnS sl2 o.raw }) := by
 have vlm : ∀ v : Option AV, vl { s with sl := sl2 } v = (vl s v).map (Did.mapSt fun st => { st with sl := sl2 }) := fun v => by cases v <;> rfl
 cases o
 case pick c a b =>
  have h1 := hg c (by simp [AOpk.gets]); have h2 := hg a (by simp [AOpk.gets]); have h3 := hg b (by simp [AOpk.gets])
  simp only [stepOp, AOpk.raw, unOwnS, h1, h2, h3]
  split
  ·exact vlm _
  ·rfl
 case take t =>
  have h1 := hr _ rfl
  simp only [rawO] at h1
  simp only [stepOp, AOpk.raw, unOwn_sl, h1]
  cases s.sl.get t <;> rfl
 case build zero parts =>
  have h1 := fillA_congr (cs := zero) (sl := s.sl) (sl2 := sl2) (l := parts) hg
  simp only [stepOp, AOpk.raw, unOwnS, h1]
  exact vlm _
 case mkls sz zero parts =>
  have h1 := fillA_congr (cs := zero) (sl := s.sl) (sl2 := sl2) (l := parts) hg
  simp only [stepOp, AOpk.raw, unOwnS, h1]
  repeat' split
  all_goals first | exact vlm _ | rfl
 case mkfn f first cap =>
  have h1 := getOs_congr (sl := s.sl) (sl2 := sl2) (l := first) fun x hx => hg x (by simp [AOpk.gets, hx])
  have h2 := getOs_congr (sl := s.sl) (sl2 := sl2) (l := cap) fun x hx => hg x (by simp [AOpk.gets, hx])
  simp only [stepOp, AOpk.raw, unOwnS, h1, h2]
  repeat' split
  all_goals first | exact vlm _ | rfl
 case sliceS x lo hi =>
  have h1 := hg x (by simp [AOpk.gets])
  have h2 := fun d => asIdx_congr (sl := s.sl) (sl2 := sl2) (o := lo) (d := d) fun x hx => hg x (by simp only [AOpk.gets, List.mem_cons, List.mem_append]; exact .inr (.inl hx))
  have h3 := fun d => asIdx_congr (sl := s.sl) (sl2 := sl2) (o := hi) (d := d) fun x hx => hg x (by simp only [AOpk.gets, List.mem_cons, List.mem_append]; exact .inr (.inr hx))
  simp only [stepOp, AOpk.raw, unOwnS, h1, h2, h3]
  repeat' split
  all_goals first | exact vlm _ | rfl
 case slice sz x lo hi =>
  have h1 := hg x (by simp [AOpk.gets])
  have h2 := fun d => asIdx_congr (sl := s.sl) (sl2 := sl2) (o := lo) (d := d) fun x hx => hg x (by simp only [AOpk.gets, List.mem_cons, List.mem_append]; exact .inr (.inl hx))
  have h3 := fun d => asIdx_congr (sl := s.sl) (sl2 := sl2) (o := hi) (d := d) fun x hx => hg x (by simp only [AOpk.gets, List.mem_cons, List.mem_append]; exact .inr (.inr hx))
  simp only [stepOp, AOpk.raw, unOwnS, h1, h2, h3]
  repeat' split
  all_goals first | exact vlm _ | rfl
 case slArr n x lo hi =>
  have h1 := hg x (by simp [AOpk.gets])
  have h2 := fun d => asIdx_congr (sl := s.sl) (sl2 := sl2) (o := lo) (d := d) fun x hx => hg x (by simp only [AOpk.gets, List.mem_cons, List.mem_append]; exact .inr (.inl hx))
  have h3 := fun d => asIdx_congr (sl := s.sl) (sl2 := sl2) (o := hi) (d := d) fun x hx => hg x (by simp only [AOpk.gets, List.mem_cons, List.mem_append]; exact .inr (.inr hx))
  simp only [stepOp, AOpk.raw, unOwnS, h1, h2, h3]
  repeat' split
  all_goals first | exact vlm _ | rfl
 case call f xs =>
  have h1 := hg f (by simp [AOpk.gets])
  have h2 := getOs_congr (sl := s.sl) (sl2 := sl2) (l := xs) fun x hx => hg x (by simp [AOpk.gets, hx])
  simp only [stepOp, AOpk.raw, unOwnS, h1, h2]
  repeat' split
  all_goals rfl
 case callZ f xs =>
  have h1 := hg f (by simp [AOpk.gets])
  have h2 := getOs_congr (sl := s.sl) (sl2 := sl2) (l := xs) fun x hx => hg x (by simp [AOpk.gets, hx])
  simp only [stepOp, AOpk.raw, unOwnS, h1, h2]
  repeat' split
  all_goals rfl
 case callQ f xs =>
  have h1 := hg f (by simp [AOpk.gets])
  have h2 := getOs_congr (sl := s.sl) (sl2 := sl2) (l := xs) fun x hx => hg x (by simp [AOpk.gets, hx])
  simp only [stepOp, AOpk.raw, unOwnS, h1, h2]
  repeat' split
  all_goals rfl
 case defer f xs =>
  have h1 := hg f (by simp [AOpk.gets])
  have h2 := getOs_congr (sl := s.sl) (sl2 := sl2) (l := xs) fun x hx => hg x (by simp [AOpk.gets, hx])
  simp only [stepOp, AOpk.raw, unOwnS, h1, h2]
  repeat' split
  all_goals rfl
 case store sz x v =>
  have h1 := hg x (by simp [AOpk.gets]); have h2 := hr v rfl
  simp only [stepOp, AOpk.raw, unOwn_sl, h1, h2]
  repeat' split
  all_goals rfl
 case storeW sz x v ws =>
  have h1 := hg x (by simp [AOpk.gets]); have h2 := hr v rfl
  have h3 := fun r => apartB_congr (sl := s.sl) (sl2 := sl2) (r := r) (l := ws) fun x hx => hg x (by simp [AOpk.gets, hx])
  simp only [stepOp, AOpk.raw, unOwn_sl, h1, h2, h3]
  repeat' split
  all_goals rfl
 case append sz x y =>
  have h1 := hg y (by simp [AOpk.gets]); have h2 := hr x rfl
  simp only [stepOp, AOpk.raw, unOwn_sl, h1, h2]
  repeat' split
  all_goals rfl
 case asg x =>
  have h2 := hr x rfl
  simp only [stepOp, AOpk.raw, unOwn_sl, h2]
  repeat' split
  all_goals rfl
 case same x =>
  have h2 := hr x rfl
  simp only [stepOp, AOpk.raw, unOwn_sl, h2]
  repeat' split
  all_goals rfl
 all_goals simp only [AOpk.gets, List.mem_cons, List.not_mem_nil, or_false, forall_eq_or_imp, forall_eq] at hg
 all_goals simp only [stepOp, AOpk.raw, unOwnS, hg]
 all_goals first
  | exact vlm _
  | rfl
  | (repeat' split
     all_goals first | exact vlm _ | rfl)
end Go.Ab
namespace Go.Ab
def Opd.isT (n : Nat) : Opd → Bool
 | .t m => m == n
 | _ => false
def isG (n : Nat) : Option (Nat × Bool) → Bool
 | some (t, _) => t == n
 | none => false
def AOp.uses (o : AOp) (n : Nat) : Bool := o.op.gets.any (Opd.isT n) || o.op.raw.any (Opd.isT n) || isG n o.guard
def sep : AOpk → AOpk → Bool
 | .loadB _ _ (.t n), .storeW _ _ _ ws => ws.any (Opd.isT n)
 | _, _ => false
def compat (y x : AOp) : Bool :=
 !y.may && !x.may &&
 (match y.dst with | some d => !x.uses d && x.dst != some d | none => true) &&
 (match x.dst with | some d => !y.uses d | none => true) &&
 (match y.op.raw with | some (.t n) => !x.op.raw.any (Opd.isT n) && !isG n x.guard | _ => true) &&
 (match x.op.raw with | some (.t n) => !isG n y.guard | _ => true) &&
 (x.op.cls == 0 || y.op.cls == 0 || (decide (y.op.cls ≤ 2) && decide (x.op.cls ≤ 2)) || (y.op.cls == 1 && x.op.cls == 3) || (y.op.cls == 1 && x.op.cls == 5) || (y.op.cls == 5 && x.op.cls == 1) || sep y.op x.op || sep x.op y.op)
def Agr (o : AOp) (sl sl2 : Slots) : Prop :=
 (∀ x, x ∈ o.op.gets → getO sl2 x = getO sl x) ∧ (∀ x, o.op.raw = some x → rawO sl2 x = rawO sl x) ∧ (∀ t b, o.guard = some (t, b) → sl2.get t = sl.get t)
theorem get_unOwnS {sl : Slots} {r : Option Opd} {t : Nat} : (unOwnS sl r).get t = sl.get t ∨ (r = some (.t t) ∧ ∃ es, sl.get t = some (.own es) ∧ (unOwnS sl r).get t = some (.d (.lst es))) := by
 unfold unOwnS
 split
 ·rename_i n
  split
  ·rename_i es h
   by_cases hn : n = t
   ·subst hn
    exact .inr ⟨rfl, es, h, by simp [Slots.put, Slots.get]⟩
   ·exact .inl (by simp [Slots.put, Slots.get, hn])
  ·exact .inl rfl
 ·exact .inl rfl
theorem getO_unOwnS {sl : Slots} {r : Option Opd} {x : Opd} : getO (unOwnS sl r) x = getO sl x := by
 cases x with
 | t n =>
   simp only [getO, rawO]
   rcases get_unOwnS (sl := sl) (r := r) (t := n) with h | ⟨_, es, h1, h2⟩
   ·rw [h]
   ·rw [h1, h2]; rfl
 | c v => rfl
 | f id => rfl
theorem get_put_ne {sl : Slots} {n m : Nat} {v : AV} (h : n ≠ m) : (sl.put n v).get m = sl.get m := by simp [Slots.put, Slots.get, h]
def slAfter (o : AOp) (b : Bool) (v : Option AV) (sl : Slots) : Slots :=
 let sl' := if b then unOwnS sl o.op.raw else sl
 match v, o.dst with
 | some v, some d => sl'.put d v
 | _, _ => sl'
theorem isT_false {n m : Nat} (h : Opd.isT n (.t m) = false) : n ≠ m := by
 simp [Opd.isT] at h; omega
theorem agr_of {y x : AOp} {b : Bool} {v : Option AV} {sl : Slots} (h1 : ∀ d, y.dst = some d → x.uses d = false)
  (h2 : ∀ n, y.op.raw = some (.t n) → x.op.raw.any (Opd.isT n) = false ∧ isG n x.guard = false) : Agr x sl (slAfter y b v sl) := by
 have hput : ∀ (sl' : Slots) (t : Nat), (∀ d, y.dst = some d → d ≠ t) → Slots.get (match v, y.dst with | some v, some d => sl'.put d v | _, _ => sl') t = sl'.get t := fun sl' t ht => by
  split
  ·rename_i d _ hd
   exact get_put_ne (ht _ (by assumption))
  ·rfl
 refine ⟨fun z hz => ?_, fun z hz => ?_, fun t b' hg => ?_⟩
 ·cases z with
  | t n =>
    have hn : ∀ d, y.dst = some d → d ≠ n := fun d hd e => by
     subst e
     have := h1 d hd
     simp only [AOp.uses, Bool.or_eq_false_iff, List.any_eq_false] at this
     exact this.1.1 _ hz (by simp [Opd.isT])
    have : getO (slAfter y b v sl) (.t n) = getO (if b then unOwnS sl y.op.raw else sl) (.t n) := by
     simp only [getO, rawO, slAfter]
     rw [hput _ _ hn]
    rw [this]
    cases b
    ·rfl
    ·exact getO_unOwnS
  | c c => rfl
  | f id => rfl
 ·cases z with
  | t n =>
    have hu : ∀ d, y.dst = some d → d ≠ n := fun d hd e => by
     subst e
     have := h1 d hd
     simp only [AOp.uses, Bool.or_eq_false_iff] at this
     rw [hz] at this
     simp [Opd.isT] at this
    simp only [rawO, slAfter]
    rw [hput _ _ hu]
    cases b
    ·rfl
    ·simp only [if_true]
     rcases get_unOwnS (sl := sl) (r := y.op.raw) (t := n) with h | ⟨hr, _⟩
     ·exact h
     ·have := (h2 n hr).1
      rw [hz] at this
      simp [Opd.isT] at this
  | c c => rfl
  | f id => rfl
 ·have hu : ∀ d, y.dst = some d → d ≠ t := fun d hd e => by
   subst e
   have := h1 d hd
   simp only [AOp.uses, Bool.or_eq_false_iff] at this
   rw [hg] at this
   simp [isG] at this
  simp only [slAfter]
  rw [hput _ _ hu]
  cases b
  ·rfl
  ·simp only [if_true]
   rcases get_unOwnS (sl := sl) (r := y.op.raw) (t := t) with h | ⟨hr, _⟩
   ·exact h
   ·have := (h2 t hr).2
    rw [hg] at this
    simp [isG] at this
def eff (C : CallFn) (o : AOp) (s : St) : Option (Option AV × Bool × St) :=
 match wantedA s o.guard with
 | none => none
 | some false => some (some (.tup []), false, { s with sl := [] })
 | some true =>
   match stepOp C s o.op with
   | some (.val v s') => some (some v, true, { s' with sl := [] })
   | some (.none_ s') => some (none, true, { s' with sl := [] })
   | _ => none
def fin (o : AOp) (sl : Slots) : Option AV × Bool × St → St
 | (v, b, m) => { m with sl := slAfter o b v sl }
theorem runOps_eff {C : CallFn} {o : AOp} (hm : o.may = false) {r : List AOp} {s : St} : runOps C (o :: r) s = (eff C o s).bind fun x => runOps C r (fin o s.sl x) := by
 simp only [runOps, eff]
 cases hg : wantedA s o.guard with
 | none => rfl
 | some b =>
   cases b with
   | false =>
     simp only [Option.bind_some, fin, slAfter]
     cases o.dst <;> rfl
   | true =>
     have hss := step_slots (C := C) (s := s) (o := o.op) (sl2 := s.sl) (fun _ _ => rfl) (fun _ _ => rfl)
     have hs0 : ({ s with sl := s.sl } : St) = s := rfl
     rw [hs0] at hss
     cases hs : stepOp C s o.op with
     | none => rfl
     | some d =>
       rw [hs] at hss
       simp only [Option.map_some, Option.some.injEq] at hss
       cases d with
       | val v s' =>
         simp only [Did.mapSt, Did.val.injEq, true_and] at hss
         simp only [Option.bind_some, fin, slAfter]
         rw [hss]
         cases o.dst <;> rfl
       | none_ s' =>
         simp only [Did.mapSt, Did.none_.injEq] at hss
         simp only [Option.bind_some, fin, slAfter]
         rw [hss]
         rfl
       | pan v s' => simp [hm]
theorem eff_agr {C : CallFn} {o : AOp} {s : St} {sl2 : Slots} (h : Agr o s.sl sl2) : eff C o { s with sl := sl2 } = eff C o s := by
 have hw : wantedA { s with sl := sl2 } o.guard = wantedA s o.guard := by
  cases hg : o.guard with
  | none => rfl
  | some p =>
    obtain ⟨t, b⟩ := p
    simp only [wantedA]
    rw [h.2.2 t b hg]
 simp only [eff, hw, step_slots h.1 h.2.1]
 split
 ·rfl
 ·rfl
 ·cases stepOp C s o.op with
  | none => rfl
  | some d => cases d <;> rfl
def St.mem (s m : St) : St := { m with sl := s.sl }
theorem step_mem0 {C : CallFn} {s m : St} {o : AOpk} (h : o.cls = 0) : stepOp C (s.mem m) o = (stepOp C s o).map (Did.mapSt fun st => st.mem m) := by
 have vlm : ∀ v : Option AV, vl (s.mem m) v = (vl s v).map (Did.mapSt fun st => st.mem m) := fun v => by cases v <;> rfl
 cases o <;> (try (simp [AOpk.cls] at h; done)) <;> simp only [stepOp, unOwn_sl, St.mem]
 all_goals first
  | exact vlm _
  | rfl
  | (repeat' split
     all_goals first | exact vlm _ | rfl)
def Loads (m m' : St) : Prop := ∀ agg p v, loadAt m.rf agg p = some v → loadAt m'.rf agg p = some v
theorem step_mem1 {C : CallFn} {s m : St} {o : AOpk} (h : o.cls = 1) (hl : Loads s m) {d : Did} (hd : stepOp C s o = some d) : stepOp C (s.mem m) o = some (d.mapSt fun st => st.mem m) := by
 cases o <;> (try (simp [AOpk.cls] at h; done)) <;> simp only [stepOp] at hd ⊢
 case load agg x =>
  have : getO (s.mem m).sl x = getO s.sl x := rfl
  rw [this]
  split at hd
  ·rename_i p hp
   unfold vl at hd ⊢
   simp only [Option.map_map, Option.map_eq_some_iff, Function.comp] at hd
   obtain ⟨v, hv, rfl⟩ := hd
   have : (s.mem m).rf = m.rf := rfl
   rw [this, hl _ _ _ hv]
   rfl
  ·simp at hd
 case loadB agg x b =>
  have h1 : getO (s.mem m).sl x = getO s.sl x := rfl
  have h2 : getO (s.mem m).sl b = getO s.sl b := rfl
  rw [h1, h2]
  split at hd
  ·split at hd
   ·rename_i r off q o' hp hq hrq
    rw [if_pos hrq]
    unfold vl at hd ⊢
    simp only [Option.map_map, Option.map_eq_some_iff, Function.comp] at hd
    obtain ⟨v, hv, rfl⟩ := hd
    have : (s.mem m).rf = m.rf := rfl
    rw [this, hl _ _ _ hv]
    rfl
   ·simp at hd
  ·simp at hd
theorem unOwnS_mem {s : St} {x : Opd} : (unOwn s x).rf = s.rf ∧ (unOwn s x).df = s.df ∧ (unOwn s x).pn = s.pn ∧ (unOwn s x).nb = s.nb := by
 rw [unOwn_sl]; exact ⟨rfl, rfl, rfl, rfl⟩
theorem step_mem2 {C : CallFn} {s : St} {o : AOpk} (h : o.cls ≤ 2) {d : Did} (hd : stepOp C s o = some d) : ({ d.st with sl := [] } : St) = { s with sl := [] } := by
 by_cases h0 : o.cls = 0
 ·have := step_mem0 (C := C) (s := s) (m := s) h0
  have hs : s.mem s = s := rfl
  rw [hs, hd] at this
  simp only [Option.map_some, Option.some.injEq] at this
  cases d with
  | val v s' => simp only [Did.mapSt, Did.val.injEq, true_and] at this; simp only [Did.st]; rw [this]; rfl
  | none_ s' => simp only [Did.mapSt, Did.none_.injEq] at this; simp only [Did.st]; rw [this]; rfl
  | pan v s' => simp only [Did.mapSt, Did.pan.injEq, true_and] at this; simp only [Did.st]; rw [this]; rfl
 ·cases o <;> (try (simp [AOpk.cls] at h h0; done)) <;> simp only [stepOp] at hd
  case load agg x =>
   split at hd
   ·rw [vl_st hd]
   ·simp at hd
  case loadB agg x b =>
   split at hd
   ·split at hd
    ·rw [vl_st hd]
    ·simp at hd
   ·simp at hd
  case callQ f xs =>
   split at hd
   ·split at hd
    ·split at hd
     ·simp only [Option.some.injEq] at hd; subst hd; rfl
     ·simp at hd
    ·simp at hd
   ·simp at hd
theorem loads_push {m : St} {cs : List AV} {m' : St} (h : m'.rf = m.rf ++ [cs]) : Loads m m' := by
 intro agg p v hv
 unfold loadAt at hv ⊢
 cases p with
 | ptr r off =>
   simp only at hv ⊢
   rw [h]
   cases agg with
   | none =>
     simp only at hv ⊢
     split at hv
     ·rename_i c hc
      rw [List.getElem?_append_left (List.getElem?_eq_some_iff.1 hc).1, hc]
      exact hv
     ·simp at hv
   | some n =>
     simp only [Refs.cellsAt] at hv ⊢
     cases hc : m.rf[r]? with
     | none => simp [hc] at hv
     | some c =>
       rw [hc] at hv
       rw [List.getElem?_append_left (List.getElem?_eq_some_iff.1 hc).1, hc]
       exact hv
 | ept c o => exact hv
 | _ => simp at hv
theorem step_mem3 {C : CallFn} {s : St} {o : AOpk} (h : o.cls = 3) {d : Did} (hd : stepOp C s o = some d) : Loads s d.st := by
 cases o <;> (try (simp [AOpk.cls] at h; done)) <;> simp only [stepOp] at hd
 case alloc cells =>
  simp only [Option.some.injEq] at hd; subst hd
  exact loads_push rfl
 case box x =>
  split at hd
  ·split at hd
   ·simp only [Option.some.injEq] at hd; subst hd
    exact loads_push rfl
   ·simp at hd
  ·simp at hd
theorem eff_mem0 {C : CallFn} {s m : St} {o : AOp} (h : o.op.cls = 0) {v : Option AV} {b : Bool} {m' : St} (he : eff C o s = some (v, b, m')) : eff C o (s.mem m) = some (v, b, { m with sl := [] }) := by
 have hw : wantedA (s.mem m) o.guard = wantedA s o.guard := by cases o.guard <;> rfl
 simp only [eff, hw, step_mem0 h] at he ⊢
 split at he
 ·simp at he
 ·simp only [Option.some.injEq, Prod.mk.injEq] at he ⊢
  obtain ⟨rfl, rfl, rfl⟩ := he
  exact ⟨rfl, rfl, rfl⟩
 ·cases hs : stepOp C s o.op with
  | none => rw [hs] at he; simp at he
  | some d =>
    rw [hs] at he
    cases d with
    | val u s' =>
      simp only [Option.some.injEq, Prod.mk.injEq] at he
      obtain ⟨rfl, rfl, rfl⟩ := he
      rfl
    | none_ s' =>
      simp only [Option.some.injEq, Prod.mk.injEq] at he
      obtain ⟨rfl, rfl, rfl⟩ := he
      rfl
    | pan u s' => simp at he
theorem eff_mem1 {C : CallFn} {s m : St} {o : AOp} (h : o.op.cls = 1) (hl : Loads s m) {v : Option AV} {b : Bool} {m' : St} (he : eff C o s = some (v, b, m')) : eff C o (s.mem m) = some (v, b, { m with sl := [] }) := by
 have hw : wantedA (s.mem m) o.guard = wantedA s o.guard := by cases o.guard <;> rfl
 simp only [eff, hw] at he ⊢
 split at he
 ·simp at he
 ·simp only [Option.some.injEq, Prod.mk.injEq] at he ⊢
  obtain ⟨rfl, rfl, rfl⟩ := he
  exact ⟨rfl, rfl, rfl⟩
 ·cases hs : stepOp C s o.op with
  | none => rw [hs] at he; simp at he
  | some d =>
    rw [hs] at he
    rw [step_mem1 h hl hs]
    cases d with
    | val u s' =>
      simp only [Option.some.injEq, Prod.mk.injEq] at he
      obtain ⟨rfl, rfl, rfl⟩ := he
      rfl
    | none_ s' =>
      simp only [Option.some.injEq, Prod.mk.injEq] at he
      obtain ⟨rfl, rfl, rfl⟩ := he
      rfl
    | pan u s' => simp at he
theorem eff_mem2 {C : CallFn} {s : St} {o : AOp} (h : o.op.cls ≤ 2) {v : Option AV} {b : Bool} {m' : St} (he : eff C o s = some (v, b, m')) : m' = { s with sl := [] } := by
 simp only [eff] at he
 split at he
 ·simp at he
 ·simp only [Option.some.injEq, Prod.mk.injEq] at he
  exact he.2.2.symm
 ·cases hs : stepOp C s o.op with
  | none => rw [hs] at he; simp at he
  | some d =>
    have := step_mem2 h hs
    rw [hs] at he
    cases d with
    | val u s' =>
      simp only [Option.some.injEq, Prod.mk.injEq] at he
      obtain ⟨rfl, rfl, rfl⟩ := he
      exact this
    | none_ s' =>
      simp only [Option.some.injEq, Prod.mk.injEq] at he
      obtain ⟨rfl, rfl, rfl⟩ := he
      exact this
    | pan u s' => simp at he
theorem eff_mem3 {C : CallFn} {s : St} {o : AOp} (h : o.op.cls = 3) {v : Option AV} {b : Bool} {m' : St} (he : eff C o s = some (v, b, m')) : Loads s m' := by
 simp only [eff] at he
 split at he
 ·simp at he
 ·simp only [Option.some.injEq, Prod.mk.injEq] at he
  obtain ⟨_, _, rfl⟩ := he
  exact fun _ _ _ h => h
 ·cases hs : stepOp C s o.op with
  | none => rw [hs] at he; simp at he
  | some d =>
    have := step_mem3 h hs
    rw [hs] at he
    cases d with
    | val u s' =>
      simp only [Option.some.injEq, Prod.mk.injEq] at he
      obtain ⟨rfl, rfl, rfl⟩ := he
      exact this
    | none_ s' =>
      simp only [Option.some.injEq, Prod.mk.injEq] at he
      obtain ⟨rfl, rfl, rfl⟩ := he
      exact this
    | pan u s' => simp at he
def SameL (m m' : St) : Prop := ∀ agg p, (loadAt m.rf agg p).map AV.strip = (loadAt m'.rf agg p).map AV.strip
theorem SameL.symm {m m' : St} (h : SameL m m') : SameL m' m := fun agg p => (h agg p).symm
theorem step_memL {C : CallFn} {s m : St} {o : AOpk} (h : o.cls = 1) (hl : SameL s m) : stepOp C (s.mem m) o = (stepOp C s o).map (Did.mapSt fun st => st.mem m) := by
 cases o <;> (try (simp [AOpk.cls] at h; done)) <;> simp only [stepOp]
 case load agg x =>
  have h1 : getO (s.mem m).sl x = getO s.sl x := rfl
  rw [h1]
  split
  ·rename_i p hp
   have h2 : (s.mem m).rf = m.rf := rfl
   rw [h2, ← hl agg p]
   unfold vl
   cases (loadAt s.rf agg p).map AV.strip <;> rfl
  ·rfl
 case loadB agg x b =>
  have h1 : getO (s.mem m).sl x = getO s.sl x := rfl
  have h3 : getO (s.mem m).sl b = getO s.sl b := rfl
  rw [h1, h3]
  split
  ·rename_i r off q o' hp hq
   split
   ·have h2 : (s.mem m).rf = m.rf := rfl
    rw [h2, ← hl agg _]
    unfold vl
    cases (loadAt s.rf agg (.ptr r off)).map AV.strip <;> rfl
   ·rfl
  ·rfl
theorem eff_memL {C : CallFn} {s m : St} {o : AOp} (h : o.op.cls = 1) (hl : SameL s m) {v : Option AV} {b : Bool} {m' : St} (he : eff C o s = some (v, b, m')) : eff C o (s.mem m) = some (v, b, { m with sl := [] }) := by
 have hw : wantedA (s.mem m) o.guard = wantedA s o.guard := by cases o.guard <;> rfl
 simp only [eff, hw, step_memL h hl] at he ⊢
 split at he
 ·simp at he
 ·simp only [Option.some.injEq, Prod.mk.injEq] at he ⊢
  obtain ⟨rfl, rfl, rfl⟩ := he
  exact ⟨rfl, rfl, rfl⟩
 ·cases hs : stepOp C s o.op with
  | none => rw [hs] at he; simp at he
  | some d =>
    rw [hs] at he
    cases d with
    | val u s' =>
      simp only [Option.some.injEq, Prod.mk.injEq] at he
      obtain ⟨rfl, rfl, rfl⟩ := he
      rfl
    | none_ s' =>
      simp only [Option.some.injEq, Prod.mk.injEq] at he
      obtain ⟨rfl, rfl, rfl⟩ := he
      rfl
    | pan u s' => simp at he
mutual
theorem strip_strip : ∀ x : AV, x.strip.strip = x.strip
 | .own es => rfl
 | .agg cs => by simp only [AV.strip, strips_strips cs]
 | .ifc t v => by simp only [AV.strip, strip_strip v]
 | .tup vs => by simp only [AV.strip, strips_strips vs]
 | .d x => rfl
 | .nil => rfl
 | .ptr r o => rfl
 | .ept cs o => rfl
 | .sref r o n => rfl
 | .fn f a b => rfl
theorem strips_strips : ∀ l : List AV, AV.strips (AV.strips l) = AV.strips l
 | [] => rfl
 | x :: l => by simp only [AV.strips, strip_strip x, strips_strips l]
end
theorem strips_map : ∀ l : List AV, AV.strips l = l.map AV.strip
 | [] => rfl
 | x :: l => by simp [AV.strips, strips_map l]
theorem strips_set {l : List AV} {i : Nat} {v : AV} (h : l[i]? = some v) : AV.strips (l.set i v.strip) = AV.strips l := by
 rw [strips_map, strips_map, List.map_set, strip_strip]
 apply List.ext_getElem?
 intro j
 rw [List.getElem?_set]
 split
 ·rename_i hij
  subst hij
  have := (List.getElem?_eq_some_iff.1 h).1
  rw [List.length_map, if_pos this, List.getElem?_map, h]
  rfl
 ·rfl
theorem sameL_set {m m' : St} {r off : Nat} {cs : List AV} {v : AV} (hcs : m.rf[r]? = some cs) (hv : cs[off]? = some v) (h : m'.rf = m.rf.set r (cs.set off v.strip)) : SameL m m' := by
 have hlt := (List.getElem?_eq_some_iff.1 hcs).1
 have hget : ∀ q, m'.rf[q]? = if r = q then some (cs.set off v.strip) else m.rf[q]? := fun q => by
  rw [h, List.getElem?_set]
  split
  ·first | rfl | rw [if_pos hlt]
  ·rfl
 intro agg p
 cases p with
 | ptr q o =>
   cases agg with
   | none =>
     simp only [loadAt, hget]
     by_cases hq : r = q
     ·subst hq
      simp only [if_true, hcs]
      rw [List.getElem?_set]
      by_cases ho : off = o
      ·subst ho
       rw [if_pos rfl, if_pos (List.getElem?_eq_some_iff.1 hv).1, hv]
       simp [strip_strip]
      ·rw [if_neg ho]
     ·rw [if_neg hq]
   | some n =>
     simp only [loadAt, Refs.cellsAt, hget]
     by_cases hq : r = q
     ·subst hq
      simp only [if_true, hcs, List.length_set]
      split
      ·simp only [Option.map_some, AV.strip, Option.some.injEq, AV.agg.injEq]
       have := strips_set hv
       rw [strips_map, strips_map] at this
       rw [strips_map, strips_map, List.map_take, List.map_drop, List.map_take, List.map_drop, this]
      ·rfl
     ·rw [if_neg hq]
 | ept cs o => rfl
 | _ => rfl
theorem eff_mem5 {C : CallFn} {s : St} {o : AOp} (h : o.op.cls = 5) {v : Option AV} {b : Bool} {m' : St} (he : eff C o s = some (v, b, m')) : SameL s m' := by
 simp only [eff] at he
 split at he
 ·simp at he
 ·simp only [Option.some.injEq, Prod.mk.injEq] at he
  obtain ⟨_, _, rfl⟩ := he
  exact fun _ _ => rfl
 ·rename_i hwant
  obtain ⟨dst, op, gd, may⟩ := o
  simp only at h he
  clear hwant
  cases op <;> (try (simp [AOpk.cls] at h; done))
  case takeload a =>
   cases hs : stepOp C s (.takeload a) with
   | none => rw [hs] at he; simp at he
   | some d =>
     rw [hs] at he
     simp only [stepOp] at hs
     split at hs
     ·rename_i r off hp
      split at hs
      ·rename_i u hu
       split at hs
       ·rename_i cs hcs
        simp only [Option.some.injEq] at hs
        subst hs
        simp only [Option.some.injEq, Prod.mk.injEq] at he
        obtain ⟨_, _, rfl⟩ := he
        simp only [loadAt, hcs] at hu
        exact sameL_set hcs hu rfl
       ·simp at hs
      ·simp at hs
     ·simp at hs
theorem apartB_get {s : Slots} {r n q off : Nat} : ∀ {l : List Opd}, apartB s r l = true → l.any (Opd.isT n) = true → getO s (.t n) = some (.ptr q off) → q ≠ r
 | [], _, h, _ => by simp at h
 | x :: l, h, hm, hg => by
   simp only [apartB, Bool.and_eq_true] at h
   simp only [List.any_cons, Bool.or_eq_true] at hm
   rcases hm with hm | hm
   ·cases x <;> simp [Opd.isT] at hm
    subst hm
    have := h.1
    rw [hg] at this
    simpa using this
   ·exact apartB_get h.2 hm hg
theorem eff_memW {C : CallFn} {s : St} {x y : AOp} (h : sep y.op x.op = true) {v : Option AV} {b : Bool} {m' : St} (he : eff C x s = some (v, b, m')) :
  ∀ agg a n, y.op = .loadB agg a (.t n) → ∀ q off, getO s.sl (.t n) = some (.ptr q off) → m'.rf[q]? = s.rf[q]? := by
 intro agg a n hy q off hg
 rw [hy] at h
 obtain ⟨dst, op, gd, may⟩ := x
 cases op <;> simp only [sep, Bool.false_eq_true] at h
 rename_i sz ad va ws
 simp only [eff] at he
 split at he
 ·simp at he
 ·simp only [Option.some.injEq, Prod.mk.injEq] at he
  obtain ⟨_, _, rfl⟩ := he
  rfl
 ·cases hs : stepOp C s (.storeW sz ad va ws) with
  | none => rw [hs] at he; simp at he
  | some d =>
    rw [hs] at he
    simp only [stepOp] at hs
    split at hs
    ·rename_i r off' u hp hu
     split at hs
     ·rename_i hap
      split at hs
      ·rename_i rf hrf
       simp only [Option.some.injEq] at hs
       subst hs
       simp only [Option.some.injEq, Prod.mk.injEq] at he
       obtain ⟨_, _, rfl⟩ := he
       have hne := apartB_get hap h hg
       simp only [unOwn_rf]
       simp only [storeAt] at hrf
       split at hrf
       ·simp at hrf
       ·split at hrf
        ·split at hrf
         ·simp only [Option.some.injEq] at hrf
          subst hrf
          rw [List.getElem?_set_ne (fun e => hne e.symm)]
         ·simp at hrf
        ·simp at hrf
      ·simp at hs
     ·simp at hs
    ·simp at hs
theorem loadAt_same {rf rf' : Refs} {r : Nat} (h : rf'[r]? = rf[r]?) (agg : Option Nat) (off : Nat) : loadAt rf' agg (.ptr r off) = loadAt rf agg (.ptr r off) := by
 cases agg with
 | none => simp only [loadAt, h]
 | some n => simp only [loadAt, Refs.cellsAt, h]
theorem eff_memR {C : CallFn} {s m : St} {y : AOp} {agg : Option Nat} {a : Opd} {n : Nat} (hy : y.op = .loadB agg a (.t n)) (hm : ∀ q off, getO s.sl (.t n) = some (.ptr q off) → m.rf[q]? = s.rf[q]?)
  {v : Option AV} {b : Bool} {m' : St} (he : eff C y s = some (v, b, m')) : eff C y (s.mem m) = some (v, b, { m with sl := [] }) := by
 have hw : wantedA (s.mem m) y.guard = wantedA s y.guard := by cases y.guard <;> rfl
 have hstep : stepOp C (s.mem m) y.op = (stepOp C s y.op).map (Did.mapSt fun st => st.mem m) := by
  rw [hy]
  simp only [stepOp]
  have h1 : getO (s.mem m).sl a = getO s.sl a := rfl
  have h3 : getO (s.mem m).sl (.t n) = getO s.sl (.t n) := rfl
  rw [h1, h3]
  split
  ·rename_i r off q o' hp hq
   split
   ·rename_i hrq
    subst hrq
    have h2 : (s.mem m).rf = m.rf := rfl
    rw [h2, loadAt_same (hm _ _ hq)]
    unfold vl
    cases (loadAt s.rf agg (.ptr r off)).map AV.strip <;> rfl
   ·rfl
  ·rfl
 simp only [eff, hw, hstep] at he ⊢
 split at he
 ·simp at he
 ·simp only [Option.some.injEq, Prod.mk.injEq] at he ⊢
  obtain ⟨rfl, rfl, rfl⟩ := he
  exact ⟨rfl, rfl, rfl⟩
 ·cases hs : stepOp C s y.op with
  | none => rw [hs] at he; simp at he
  | some d =>
    rw [hs] at he
    cases d with
    | val u s' =>
      simp only [Option.some.injEq, Prod.mk.injEq] at he
      obtain ⟨rfl, rfl, rfl⟩ := he
      rfl
    | none_ s' =>
      simp only [Option.some.injEq, Prod.mk.injEq] at he
      obtain ⟨rfl, rfl, rfl⟩ := he
      rfl
    | pan u s' => simp at he
theorem sep_form {x y : AOpk} (h : sep y x = true) : y.cls = 1 ∧ ∃ agg a n, y = .loadB agg a (.t n) := by
 unfold sep at h
 split at h
 ·exact ⟨rfl, _, _, _, rfl⟩
 ·cases h
theorem eff_norm {C : CallFn} {o : AOp} {s : St} {v : Option AV} {b : Bool} {m : St} (he : eff C o s = some (v, b, m)) : m = { m with sl := [] } := by
 simp only [eff] at he
 split at he
 ·simp at he
 ·simp only [Option.some.injEq, Prod.mk.injEq] at he; rw [← he.2.2]
 ·split at he <;> first | (simp at he; done) | (simp only [Option.some.injEq, Prod.mk.injEq] at he; rw [← he.2.2])
end Go.Ab
namespace Go.Ab
def Alike (s s' : St) : Prop := (∀ t, s.sl.get t = s'.sl.get t) ∧ ({ s with sl := [] } : St) = { s' with sl := [] }
theorem Alike.refl (s : St) : Alike s s := ⟨fun _ => rfl, rfl⟩
theorem Alike.trans {a b c : St} (h : Alike a b) (k : Alike b c) : Alike a c := ⟨fun t => (h.1 t).trans (k.1 t), h.2.trans k.2⟩
theorem Alike.eq {s s' : St} (h : Alike s s') : s' = { s with sl := s'.sl } := by
 obtain ⟨sl, rf, df, pn, nb⟩ := s
 obtain ⟨sl', rf', df', pn', nb'⟩ := s'
 have := h.2
 simp only [St.mk.injEq, true_and] at this
 simp [this]
theorem Alike.agr {s s' : St} (h : Alike s s') (o : AOp) : Agr o s.sl s'.sl := by
 have hraw : ∀ x, rawO s'.sl x = rawO s.sl x := fun x => by
  cases x with
  | t n => exact (h.1 n).symm
  | c v => rfl
  | f id => rfl
 exact ⟨fun x _ => by simp only [getO]; rw [hraw], fun x _ => hraw x, fun t _ _ => (h.1 t).symm⟩
theorem unOwnS_congr {sl sl' : Slots} (h : ∀ t, sl.get t = sl'.get t) (r : Option Opd) (t : Nat) : (unOwnS sl r).get t = (unOwnS sl' r).get t := by
 unfold unOwnS
 split
 ·rename_i n
  rw [← h n]
  split
  ·simp only [Slots.put, Slots.get]
   rw [h t]
  ·exact h t
 ·exact h t
theorem slAfter_congr {o : AOp} {b : Bool} {v : Option AV} {sl sl' : Slots} (h : ∀ t, sl.get t = sl'.get t) (t : Nat) : (slAfter o b v sl).get t = (slAfter o b v sl').get t := by
 have h1 : ∀ t, Slots.get (if b then unOwnS sl o.op.raw else sl) t = Slots.get (if b then unOwnS sl' o.op.raw else sl') t := fun t => by
  cases b
  ·exact h t
  ·exact unOwnS_congr h _ t
 simp only [slAfter]
 split
 ·simp only [Slots.put, Slots.get]
  rw [h1 t]
 ·exact h1 t
theorem fin_alike {o : AOp} {sl sl' : Slots} (h : ∀ t, sl.get t = sl'.get t) (x : Option AV × Bool × St) : Alike (fin o sl x) (fin o sl' x) :=
 ⟨fun t => slAfter_congr h t, rfl⟩
theorem step_alike {C : CallFn} {s s' : St} (h : Alike s s') (o : AOpk) : stepOp C s' o = (stepOp C s o).map (Did.mapSt fun st => { st with sl := unOwnS s'.sl o.raw }) := by
 have hraw : ∀ x, rawO s'.sl x = rawO s.sl x := fun x => by
  cases x with
  | t n => exact (h.1 n).symm
  | c v => rfl
  | f id => rfl
 rw [h.eq]
 exact step_slots (fun x _ => by simp only [getO]; rw [hraw]) (fun x _ => hraw x)
theorem wanted_alike {s s' : St} (h : Alike s s') (g : Option (Nat × Bool)) : wantedA s' g = wantedA s g := by
 cases g with
 | none => rfl
 | some p =>
   obtain ⟨t, b⟩ := p
   simp only [wantedA]
   rw [← h.1 t]
theorem putO_alike {s s' : St} (h : Alike s s') (d : Option Nat) (v : AV) : Alike (putO s d v) (putO s' d v) := by
 cases d with
 | none => exact h
 | some d => exact ⟨fun t => by simp only [putO, Slots.put, Slots.get]; rw [h.1 t], h.2⟩
theorem runOps_alike {C : CallFn} : ∀ {l : List AOp} {s s' : St} {e : Ex} {t : St}, Alike s s' → runOps C l s = some (e, t) → ∃ t', runOps C l s' = some (e, t') ∧ Alike t t'
 | [], s, s', e, t, h, hr => by
   simp only [runOps, Option.some.injEq, Prod.mk.injEq] at hr ⊢
   obtain ⟨rfl, rfl⟩ := hr
   exact ⟨s', ⟨rfl, rfl⟩, h⟩
 | o :: l, s, s', e, t, h, hr => by
   simp only [runOps] at hr ⊢
   rw [wanted_alike h]
   split at hr
   ·simp at hr
   ·exact runOps_alike (putO_alike h _ _) hr
   ·have hss := step_slots (C := C) (s := s) (o := o.op) (sl2 := s.sl) (fun _ _ => rfl) (fun _ _ => rfl)
    have hs0 : ({ s with sl := s.sl } : St) = s := rfl
    rw [hs0] at hss
    have hal : ∀ s1 : St, s1 = { s1 with sl := unOwnS s.sl o.op.raw } → Alike s1 { s1 with sl := unOwnS s'.sl o.op.raw } := fun s1 h1 =>
     ⟨fun t => by rw [h1]; exact unOwnS_congr h.1 _ t, rfl⟩
    rw [step_alike h]
    split at hr
    ·rename_i v s1 hs
     rw [hs] at hss ⊢
     simp only [Option.map_some, Did.mapSt, Option.some.injEq, Did.val.injEq, true_and] at hss ⊢
     exact runOps_alike (putO_alike (hal s1 hss) _ _) hr
    ·rename_i s1 hs
     rw [hs] at hss ⊢
     simp only [Option.map_some, Did.mapSt, Option.some.injEq, Did.none_.injEq] at hss ⊢
     exact runOps_alike (hal s1 hss) hr
    ·rename_i v s1 hs
     rw [hs] at hss ⊢
     simp only [Option.map_some, Did.mapSt, Option.some.injEq, Did.pan.injEq, true_and] at hss ⊢
     split at hr
     ·rename_i hm
      simp only [Option.some.injEq, Prod.mk.injEq] at hr
      obtain ⟨rfl, rfl⟩ := hr
      rw [if_pos hm]
      exact ⟨_, rfl, hal s1 hss⟩
     ·simp at hr
    ·simp at hr
def deown : Option AV → Option AV
 | some (.own es) => some (.d (.lst es))
 | z => z
def rOf (o : AOp) (b : Bool) (n : Nat) : Bool := b && o.op.raw.any (Opd.isT n)
def dOf (o : AOp) (v : Option AV) (n : Nat) : Option AV := if o.dst = some n then v else none
theorem get_unOwnS' {sl : Slots} {r : Option Opd} {n : Nat} : (unOwnS sl r).get n = if r.any (Opd.isT n) then deown (sl.get n) else sl.get n := by
 cases r with
 | none => rfl
 | some x =>
   cases x with
   | t m =>
     simp only [unOwnS, Option.any_some, Opd.isT]
     by_cases hm : m = n
     ·subst hm
      simp only [beq_self_eq_true, if_true]
      split
      ·rename_i es h
       rw [h]
       simp [Slots.put, Slots.get, deown]
      ·rename_i h
       unfold deown
       split
       ·rename_i es h'; exact absurd h' (h es)
       ·rfl
     ·have : (m == n) = false := by simp [hm]
      simp only [this, Bool.false_eq_true, if_false]
      split
      ·simp [Slots.put, Slots.get, hm]
      ·rfl
   | c v => rfl
   | f id => rfl
theorem get_slAfter {o : AOp} {b : Bool} {v : Option AV} {sl : Slots} {n : Nat} :
  (slAfter o b v sl).get n = match dOf o v n with
   | some u => some u
   | none => if rOf o b n then deown (sl.get n) else sl.get n := by
 have h1 : Slots.get (if b then unOwnS sl o.op.raw else sl) n = if rOf o b n then deown (sl.get n) else sl.get n := by
  cases b
  ·rfl
  ·simp only [if_true, rOf, Bool.true_and]
   exact get_unOwnS'
 simp only [slAfter, dOf]
 cases v with
 | none =>
   simp only [ite_self]
   exact h1
 | some u =>
   cases hd : o.dst with
   | none =>
     simp only [reduceCtorEq, if_false]
     exact h1
   | some d =>
     simp only [Slots.put, Slots.get, Option.some.injEq]
     by_cases hdn : d = n
     ·simp [hdn]
     ·simp only [if_neg hdn]
      exact h1
theorem swap2 {C : CallFn} {y x : AOp} (hc : compat y x = true) {l : List AOp} {s : St} {e : Ex} {t : St} (hr : runOps C (y :: x :: l) s = some (e, t)) : ∃ t', runOps C (x :: y :: l) s = some (e, t') ∧ Alike t t' := by
 simp only [compat, Bool.and_eq_true, Bool.not_eq_true', Bool.or_eq_true, beq_iff_eq, decide_eq_true_eq] at hc
 obtain ⟨⟨⟨⟨⟨⟨hym, hxm⟩, c1⟩, c2⟩, c3⟩, c4⟩, c5⟩ := hc
 have c1' : ∀ d, y.dst = some d → x.uses d = false ∧ x.dst ≠ some d := fun d hd => by
  rw [hd] at c1
  simpa using c1
 have c2' : ∀ d, x.dst = some d → y.uses d = false := fun d hd => by
  rw [hd] at c2
  simpa using c2
 have c3' : ∀ n, y.op.raw = some (.t n) → x.op.raw.any (Opd.isT n) = false ∧ isG n x.guard = false := fun n hn => by
  rw [hn] at c3
  simpa using c3
 have c4' : ∀ n, x.op.raw = some (.t n) → y.op.raw.any (Opd.isT n) = false ∧ isG n y.guard = false := fun n hn => by
  refine ⟨?_, ?_⟩
  ·cases hy : y.op.raw with
   | none => rfl
   | some z =>
     cases z with
     | t m =>
       have := (c3' m hy).1
       rw [hn] at this
       simp [Opd.isT] at this ⊢
       omega
     | c v => rfl
     | f id => rfl
  ·rw [hn] at c4
   simpa using c4
 rw [runOps_eff hym] at hr
 obtain ⟨⟨vy, by', my⟩, hy, hr⟩ := Option.bind_eq_some_iff.1 hr
 rw [runOps_eff hxm] at hr
 obtain ⟨⟨vx, bx, mx⟩, hx, hr⟩ := Option.bind_eq_some_iff.1 hr
 have hxs : eff C x (St.mem s my) = some (vx, bx, mx) := by
  rw [← hx]
  exact (eff_agr (s := St.mem s my) (agr_of (y := y) (x := x) (b := by') (v := vy) (sl := s.sl) (fun d hd => (c1' d hd).1) c3')).symm
 have mem_self : ∀ m : St, m = { s with sl := [] } → St.mem s m = s := fun m hm => by rw [hm]; rfl
 have first : ∃ mx', eff C x s = some (vx, bx, mx') ∧ eff C y (St.mem s mx') = some (vy, by', mx) := by
  have hmx := eff_norm hxs
  have y2 : y.op.cls ≤ 2 → eff C x s = some (vx, bx, mx) ∧ my = { s with sl := [] } := fun hy2 => by
   have hmy := eff_mem2 hy2 hy
   rw [mem_self my hmy] at hxs
   exact ⟨hxs, hmy⟩
  have back : x.op.cls ≤ 2 → eff C x (St.mem (St.mem s my) s) = some (vx, bx, { s with sl := [] }) → ∃ mx', eff C x s = some (vx, bx, mx') ∧ eff C y (St.mem s mx') = some (vy, by', mx) := fun hx2 h1 => by
   have hms : St.mem (St.mem s my) s = s := rfl
   rw [hms] at h1
   refine ⟨_, h1, ?_⟩
   have h2 : mx = { St.mem s my with sl := [] } := eff_mem2 hx2 hxs
   have h3 : St.mem s { s with sl := [] } = s := rfl
   rw [h3, hy, h2]
   simp only [St.mem]
   rw [← eff_norm hy]
  rcases c5 with ((((((h | h) | h) | h) | h) | h) | h) | h
  ·exact back (by omega) (eff_mem0 (m := s) h hxs)
  ·obtain ⟨h1, h2⟩ := y2 (by omega)
   exact ⟨mx, h1, by rw [eff_mem0 h hy, ← hmx]⟩
  ·obtain ⟨h1, h2⟩ := y2 h.1
   refine ⟨mx, h1, ?_⟩
   have h3 := eff_mem2 h.2 h1
   rw [mem_self mx h3, hy, h2, h3]
  ·obtain ⟨h1, h2⟩ := y2 (by omega)
   exact ⟨mx, h1, by rw [eff_mem1 h.1 (eff_mem3 h.2 h1) hy, ← hmx]⟩
  ·obtain ⟨h1, h2⟩ := y2 (by omega)
   exact ⟨mx, h1, by rw [eff_memL h.1 (eff_mem5 h.2 h1) hy, ← hmx]⟩
  ·exact back (by omega) (eff_memL (m := s) h.2 (show SameL (St.mem s my) s from (eff_mem5 h.1 hy).symm) hxs)
  ·obtain ⟨hcl, agg, a, n, hop⟩ := sep_form h
   obtain ⟨h1, h2⟩ := y2 (by omega)
   exact ⟨mx, h1, by rw [eff_memR hop (eff_memW h h1 agg a n hop) hy, ← hmx]⟩
  ·obtain ⟨hcl, agg, a, n, hop⟩ := sep_form h
   exact back (by omega) (eff_memR (s := St.mem s my) (m := s) hop (fun q off hg => (eff_memW h hy agg a n hop q off hg).symm) hxs)
 obtain ⟨mx', h1, h2⟩ := first
 have h3 : eff C y (fin x s.sl (vx, bx, mx')) = some (vy, by', mx) := by
  rw [← h2]
  exact eff_agr (s := St.mem s mx') (agr_of (y := x) (x := y) (b := bx) (v := vx) (sl := s.sl) c2' c4')
 have hal : Alike (fin x (fin y s.sl (vy, by', my)).sl (vx, bx, mx)) (fin y (fin x s.sl (vx, bx, mx')).sl (vy, by', mx)) := by
  refine ⟨fun n => ?_, rfl⟩
  simp only [fin]
  rw [get_slAfter, get_slAfter, get_slAfter, get_slAfter]
  have d1 : ∀ u, dOf y vy n = some u → dOf x vx n = none ∧ rOf x bx n = false := fun u hu => by
   unfold dOf at hu
   split at hu
   ·rename_i hd
    have := c1' n hd
    refine ⟨by simp [dOf, this.2], ?_⟩
    have hh := this.1
    simp only [AOp.uses, Bool.or_eq_false_iff] at hh
    simp [rOf, hh.1.2]
   ·simp at hu
  have d2 : ∀ u, dOf x vx n = some u → rOf y by' n = false := fun u hu => by
   unfold dOf at hu
   split at hu
   ·rename_i hd
    have hh := c2' n hd
    simp only [AOp.uses, Bool.or_eq_false_iff] at hh
    simp [rOf, hh.1.2]
   ·simp at hu
  cases hdy : dOf y vy n with
  | some u =>
    obtain ⟨e1, e2⟩ := d1 u hdy
    rw [e1, e2]
    rfl
  | none =>
    cases hdx : dOf x vx n with
    | some u =>
      rw [d2 u hdx]
      rfl
    | none =>
      simp only
      cases rOf x bx n <;> cases rOf y by' n <;> rfl
 obtain ⟨t', h4, h5⟩ := runOps_alike hal hr
 refine ⟨t', ?_, h5⟩
 rw [runOps_eff hxm, h1]
 simp only [Option.bind_some]
 rw [runOps_eff hym, h3]
 exact h4
theorem front {C : CallFn} {x : AOp} {l2 : List AOp} : ∀ {l1 : List AOp} {s : St} {e : Ex} {t : St}, (∀ y, y ∈ l1 → compat y x = true) → runOps C (l1 ++ x :: l2) s = some (e, t) →
  ∃ t', runOps C (x :: (l1 ++ l2)) s = some (e, t') ∧ Alike t t'
 | [], s, e, t, _, hr => ⟨t, hr, Alike.refl t⟩
 | y :: l1, s, e, t, hc, hr => by
   have hym : y.may = false := by
    have := hc y (by simp)
    simp only [compat, Bool.and_eq_true, Bool.not_eq_true'] at this
    exact this.1.1.1.1.1.1
   simp only [List.cons_append] at hr
   rw [runOps_eff hym] at hr
   obtain ⟨v, hv, hr⟩ := Option.bind_eq_some_iff.1 hr
   obtain ⟨t1, h1, a1⟩ := front (fun z hz => hc z (by simp [hz])) hr
   have h2 : runOps C (y :: x :: (l1 ++ l2)) s = some (e, t1) := by
    rw [runOps_eff hym, hv]
    exact h1
   obtain ⟨t2, h3, a2⟩ := swap2 (hc y (by simp)) h2
   exact ⟨t2, h3, a1.trans a2⟩
def waits (o : Oper) : List Nat := o.after.toList.filterMap fun e => if Region.binds .any e then some e.on else none
inductive Must (ops : Array Oper) : Nat → Nat → Prop
 | one {j i : Nat} {o : Oper} : ops[i]? = some o → j ∈ waits o → Must ops j i
 | more {j k i : Nat} {o : Oper} : ops[i]? = some o → k ∈ waits o → Must ops j k → Must ops j i
def maskOf (acc : List Nat) : List Nat → Nat
 | [] => 0
 | k :: r => (2 ^ k ||| acc.getD k 0) ||| maskOf acc r
def masks : List Oper → List Nat → List Nat
 | [], acc => acc
 | o :: r, acc => masks r (acc ++ [maskOf acc (waits o)])
theorem maskOf_bit {acc : List Nat} : ∀ {d : List Nat} {j : Nat}, (maskOf acc d).testBit j = true → ∃ k, k ∈ d ∧ (j = k ∨ (acc.getD k 0).testBit j = true)
 | [], j, h => by simp [maskOf] at h
 | k :: r, j, h => by
   simp only [maskOf, Nat.testBit_or, Bool.or_eq_true, Nat.testBit_two_pow, decide_eq_true_eq] at h
   rcases h with (h | h) | h
   ·exact ⟨k, by simp, .inl h.symm⟩
   ·exact ⟨k, by simp, .inr h⟩
   ·obtain ⟨k', h1, h2⟩ := maskOf_bit h
    exact ⟨k', by simp [h1], h2⟩
theorem masks_must {ops : Array Oper} : ∀ {r : List Oper} {acc : List Nat}, (∀ m : Nat, r[m]? = ops[acc.length + m]?) → (∀ i j, (acc.getD i 0).testBit j = true → Must ops j i) →
  ∀ i j, ((masks r acc).getD i 0).testBit j = true → Must ops j i
 | [], acc, _, h, i, j, hb => h i j hb
 | o :: r, acc, hr, h, i, j, hb => by
   refine masks_must (r := r) (acc := acc ++ [maskOf acc (waits o)]) (fun m => ?_) (fun i j hb => ?_) i j hb
   ·have := hr (m + 1)
    simp only [List.getElem?_cons_succ] at this
    rw [this]
    simp only [List.length_append, List.length_cons, List.length_nil]
    congr 1; omega
   ·have ho : ops[acc.length]? = some o := by
     have := hr 0
     simpa using this.symm
    rw [List.getD_eq_getElem?_getD] at hb
    by_cases hi : i < acc.length
    ·rw [List.getElem?_append_left hi, ← List.getD_eq_getElem?_getD] at hb
     exact h i j hb
    ·rw [List.getElem?_append_right (by omega)] at hb
     by_cases hz : i = acc.length
     ·subst hz
      simp only [Nat.sub_self, List.getElem?_cons_zero, Option.getD_some] at hb
      obtain ⟨k, hk, hj⟩ := maskOf_bit hb
      rcases hj with rfl | hj
      ·exact .one ho hk
      ·exact .more ho hk (h k j hj)
     ·have : ([maskOf acc (waits o)] : List Nat)[i - acc.length]? = none := by
       rw [List.getElem?_eq_none]; simp; omega
      rw [this] at hb
      simp at hb
def freeOf (m : Nat) (x : AOp) : Nat → List AOp → Bool
 | _, [] => true
 | j, y :: r => (m.testBit j || compat y x) && freeOf m x (j + 1) r
def frees : List AOp → List AOp → List Nat → Bool
 | _, [], _ => true
 | pre, x :: r, ms => freeOf (ms.getD pre.length 0) x 0 pre && frees (pre ++ [x]) r ms
def backs : Nat → List Oper → Bool
 | _, [] => true
 | i, o :: r => (waits o).all (fun k => decide (k < i)) && backs (i + 1) r
def drawOK (ops : Array Oper) (l : List AOp) : Bool :=
 backs 0 ops.toList && frees [] l (masks ops.toList [])
theorem freeOf_get {m : Nat} {x : AOp} : ∀ {l : List AOp} {n j : Nat} {y : AOp}, freeOf m x n l = true → l[j]? = some y → m.testBit (n + j) = true ∨ compat y x = true
 | [], n, j, y, _, h => by simp at h
 | z :: r, n, j, y, h, hj => by
   simp only [freeOf, Bool.and_eq_true, Bool.or_eq_true] at h
   cases j with
   | zero =>
     simp only [List.getElem?_cons_zero, Option.some.injEq] at hj
     subst hj
     exact h.1
   | succ j =>
     simp only [List.getElem?_cons_succ] at hj
     have := freeOf_get h.2 hj
     rwa [show n + 1 + j = n + (j + 1) by omega] at this
theorem frees_get {ms : List Nat} : ∀ {l pre : List AOp}, frees pre l ms = true → ∀ {i j : Nat} {x y : AOp}, pre.length ≤ i → j < i → (pre ++ l)[i]? = some x → (pre ++ l)[j]? = some y → (ms.getD i 0).testBit j = true ∨ compat y x = true
 | [], pre, _, i, j, x, y, hi, _, hx, _ => by
   rw [List.append_nil, List.getElem?_eq_none hi] at hx
   cases hx
 | z :: r, pre, h, i, j, x, y, hi, hj, hx, hy => by
   simp only [frees, Bool.and_eq_true] at h
   by_cases he : i = pre.length
   ·subst he
    simp only [List.getElem?_append_right (Nat.le_refl _), Nat.sub_self, List.getElem?_cons_zero, Option.some.injEq] at hx
    subst hx
    rw [List.getElem?_append_left hj] at hy
    have := freeOf_get h.1 hy
    simpa using this
   ·have e1 : pre ++ z :: r = (pre ++ [z]) ++ r := by simp
    rw [e1] at hx hy
    exact frees_get h.2 (by simp; omega) hj hx hy
theorem backs_get : ∀ {l : List Oper} {n i : Nat} {o : Oper}, backs n l = true → l[i]? = some o → ∀ k, k ∈ waits o → k < n + i
 | [], n, i, o, _, h => by simp at h
 | z :: r, n, i, o, h, hi => by
   simp only [backs, Bool.and_eq_true, List.all_eq_true, decide_eq_true_eq] at h
   cases i with
   | zero =>
     simp only [List.getElem?_cons_zero, Option.some.injEq] at hi
     subst hi
     exact h.1
   | succ i =>
     simp only [List.getElem?_cons_succ] at hi
     intro k hk
     have := backs_get h.2 hi k hk
     omega
theorem cons_congr {C : CallFn} {x : AOp} {l l' : List AOp} {s : St} {e : Ex} {t : St} (hr : runOps C (x :: l) s = some (e, t))
  (h : ∀ s1 e1 t1, runOps C l s1 = some (e1, t1) → ∃ t2, runOps C l' s1 = some (e1, t2) ∧ Alike t1 t2) : ∃ t', runOps C (x :: l') s = some (e, t') ∧ Alike t t' := by
 simp only [runOps] at hr ⊢
 split at hr
 ·simp at hr
 ·exact h _ _ _ hr
 ·split at hr
  ·exact h _ _ _ hr
  ·exact h _ _ _ hr
  ·split at hr
   ·rename_i hm
    rw [if_pos hm]
    exact ⟨t, hr, Alike.refl t⟩
   ·simp at hr
  ·simp at hr
theorem pickL_append (l : List AOp) (a b : List Nat) : pickL l (a ++ b) = pickL l a ++ pickL l b := by simp [pickL]
theorem pickL_range (l : List AOp) : ∀ n k, n + k = l.length → pickL l ((List.range' k n)) = l.drop k
 | 0, k, h => by
   simp [pickL, List.drop_eq_nil_of_le (show l.length ≤ k by omega)]
 | n + 1, k, h => by
   have hk : k < l.length := by omega
   have := pickL_range l n (k + 1) (by omega)
   simp only [pickL, List.range'_succ, List.filterMap_cons, List.getElem?_eq_getElem hk] at this ⊢
   rw [this]
   exact (List.drop_eq_getElem_cons hk).symm
def Closed (ops : Array Oper) (listed : Array Bool) : Prop := ∀ i o, ops[i]? = some o → listed.getD i false = true → ∀ k, k ∈ waits o → listed.getD k false = true
theorem must_listed {ops : Array Oper} {listed : Array Bool} (hc : Closed ops listed) {j i : Nat} (h : Must ops j i) : (∀ o, ops[i]? = some o → ∀ k, k ∈ waits o → listed.getD k false = true) → listed.getD j false = true := by
 induction h with
 | one ho hj => intro hi; exact hi _ ho _ hj
 | more ho hk _ ih => intro hi; exact ih fun o' ho' k' hk' => hc _ _ ho' (hi _ ho _ hk) _ hk'
theorem listed_conv {listed : Array Bool} {k : Nat} (h : listed.getD k false = true) : listed.getD k true = true := by
 rw [Array.getD_eq_getD_getElem?] at h ⊢
 cases hk : listed[k]? with
 | none => rfl
 | some b => rw [hk] at h; exact h
section
variable {ops : Array Oper} {l : List AOp}
theorem go_runs {C : CallFn} (hl : l.length = ops.size) (hd : drawOK ops l = true) : ∀ (fuel t : Nat) (listed : Array Bool) (rem : List Nat) (s : St) (e : Ex) (u : St), listed.size = ops.size → Closed ops listed →
  rem.Pairwise (· < ·) → (∀ j, j ∈ rem ↔ j < ops.size ∧ listed.getD j true = false) → rem.length ≤ fuel → runOps C (pickL l rem) s = some (e, u) →
  ∃ u', runOps C (pickL l (Region.linearise.go .any ops fuel t listed [])) s = some (e, u') ∧ Alike u u'
 | 0, t, listed, rem, s, e, u, _, _, _, _, hf, hr => by
   have : rem = [] := List.eq_nil_of_length_eq_zero (by omega)
   subst this
   simp only [Region.linearise.go]
   exact ⟨u, hr, Alike.refl u⟩
 | fuel + 1, t, listed, rem, s, e, u, hsz, hcl, hsort, hrem, hf, hr => by
   have hd' := hd
   simp only [drawOK, Bool.and_eq_true] at hd'
   obtain ⟨hback, hfree⟩ := hd'
   have hready : ∀ i, i ∈ Region.ready .any ops listed ↔ listed.getD i true = false ∧ ∃ o, ops[i]? = some o ∧ ∀ k, k ∈ waits o → listed.getD k false = true := fun i => by
    rw [mem_ready]
    refine and_congr Iff.rfl (exists_congr fun o => and_congr Iff.rfl ?_)
    constructor
    ·intro h k hk
     simp only [waits, List.mem_filterMap] at hk
     obtain ⟨e, he, hb⟩ := hk
     split at hb
     ·rename_i hb'
      simp only [Option.some.injEq] at hb
      subst hb
      exact h e (by simpa using he) hb'
     ·simp at hb
    ·intro h e he hb
     exact h e.on (by simp only [waits, List.mem_filterMap]; exact ⟨e, by simpa using he, by simp [hb]⟩)
   simp only [Region.linearise.go]
   change ∃ u', runOps C (pickL l (match (Region.ready .any ops listed)[t % (Region.ready .any ops listed).length]? with
    | some i => Region.linearise.go .any ops fuel (t / (Region.ready .any ops listed).length) (listed.setIfInBounds i true) [i]
    | none => [].reverse)) s = some (e, u') ∧ Alike u u'
   cases hi : (Region.ready .any ops listed)[t % (Region.ready .any ops listed).length]? with
   | none =>
     have hnil : Region.ready .any ops listed = [] := by
      cases hrr : Region.ready .any ops listed with
      | nil => rfl
      | cons x xs =>
        rw [hrr] at hi
        have hlt : t % (x :: xs).length < (x :: xs).length := Nat.mod_lt _ (by simp)
        simp at hi
        simp at hlt
        omega
     have : rem = [] := by
      cases rem with
      | nil => rfl
      | cons i0 r =>
        exfalso
        have h0 := (hrem i0).1 (by simp)
        have : i0 ∈ Region.ready .any ops listed := by
         rw [hready]
         refine ⟨h0.2, ops[i0]'h0.1, Array.getElem?_eq_getElem h0.1, fun k hk => ?_⟩
         have hlt := backs_get (i := i0) hback (by rw [Array.getElem?_toList]; exact Array.getElem?_eq_getElem h0.1) k hk
         have hk' : k < i0 := by omega
         cases hkk : listed.getD k false with
         | true => rfl
         | false =>
           exfalso
           have hkt : listed.getD k true = false := by
            have hks : k < listed.size := by omega
            simpa [Array.getD, hks] using hkk
           have := (hrem k).2 ⟨by omega, hkt⟩
           rcases List.mem_cons.1 this with e1 | e1
           ·omega
           ·have := (List.pairwise_cons.1 hsort).1 k e1
            omega
        rw [hnil] at this
        simp at this
     subst this
     exact ⟨u, hr, Alike.refl u⟩
   | some i =>
     simp only []
     have him := List.mem_of_getElem? hi
     obtain ⟨h1, o, ho, h2⟩ := (hready i).1 him
     have hlt : i < ops.size := (Array.getElem?_eq_some_iff.1 ho).1
     have hir : i ∈ rem := (hrem i).2 ⟨hlt, h1⟩
     obtain ⟨r1, r2, rfl⟩ := List.append_of_mem hir
     have hx : l[i]? = some (l[i]'(by omega)) := List.getElem?_eq_getElem _
     have hpick : ∀ r, pickL l (i :: r) = l[i]'(by omega) :: pickL l r := fun r => by simp only [pickL, List.filterMap_cons, hx]
     rw [pickL_append, hpick] at hr
     have hs2 := List.pairwise_append.1 hsort
     have hs3 := List.pairwise_cons.1 hs2.2.1
     obtain ⟨u1, hr1, a1⟩ := front (fun y hy => by
      simp only [pickL, List.mem_filterMap] at hy
      obtain ⟨j, hj, hyj⟩ := hy
      have hji : j < i := hs2.2.2 j hj i (by simp)
      have hjl := (hrem j).1 (by simp [hj])
      rcases frees_get hfree (i := i) (j := j) (by simp) hji (by rw [List.nil_append]; exact hx) (by rw [List.nil_append]; exact hyj) with hm | hm
      ·exfalso
       have hmust := masks_must (ops := ops) (r := ops.toList) (acc := []) (fun m => by simp) (fun i j h => by simp at h) i j hm
       have := listed_conv (must_listed hcl hmust fun o' ho' k hk => by
        rw [ho] at ho'
        cases ho'
        exact h2 k hk)
       rw [hjl.2] at this
       cases this
      ·exact hm) hr
     rw [linearise_go_acc, List.reverse_singleton, List.singleton_append, hpick]
     have hset : ∀ j d, (listed.setIfInBounds i true).getD j d = if i = j then true else listed.getD j d := fun j d => by
      by_cases hij : i = j
      ·subst hij
       have : i < listed.size := by omega
       simp [Array.getD, this]
      ·rw [if_neg hij]; exact getD_set_ne d hij
     have hc := cons_congr (l' := pickL l (Region.linearise.go .any ops fuel (t / (Region.ready .any ops listed).length) (listed.setIfInBounds i true) [])) hr1 fun s1 e1 t1 hr2 => by
      rw [← pickL_append] at hr2
      refine go_runs hl hd fuel _ (listed.setIfInBounds i true) (r1 ++ r2) s1 e1 t1 (by simpa using hsz) ?_ ?_ ?_ (by simp at hf ⊢; omega) hr2
      ·intro i' o' ho' hl' k hk
       rw [hset] at hl' ⊢
       split
       ·rfl
       ·split at hl'
        ·rename_i hii
         subst hii
         rw [ho] at ho'
         cases ho'
         exact h2 k hk
        ·exact hcl i' o' ho' hl' k hk
      ·exact List.pairwise_append.2 ⟨hs2.1, hs3.2, fun a ha b hb => hs2.2.2 a ha b (by simp [hb])⟩
      ·intro j
       rw [hset]
       have hj := hrem j
       simp only [List.mem_append, List.mem_cons] at hj ⊢
       by_cases hij : i = j
       ·subst hij
        simp only [if_true]
        constructor
        ·rintro (h | h)
         ·exact absurd (hs2.2.2 i h i (by simp)) (by omega)
         ·exact absurd (hs3.1 i h) (by omega)
        ·rintro ⟨_, h⟩; cases h
       ·rw [if_neg hij, ← hj]
        constructor
        ·rintro (h | h)
         ·exact .inl h
         ·exact .inr (.inr h)
        ·rintro (h | h | h)
         ·exact .inl h
         ·exact absurd h.symm hij
         ·exact .inr h
     obtain ⟨u2, hr3, a2⟩ := hc
     exact ⟨u2, hr3, a1.trans a2⟩
theorem schedule_runs {C : CallFn} (hl : l.length = ops.size) (hd : drawOK ops l = true) (t : Nat) {s : St} {e : Ex} {u : St} (hr : runOps C l s = some (e, u)) :
  ∃ u', runOps C (pickL l (Region.schedule true ops t)) s = some (e, u') ∧ Alike u u' := by
 have hs : Region.schedule true ops t = Region.linearise .any ops t := by simp [Region.schedule]
 rw [hs]
 have hgd : ∀ j d, (Array.replicate ops.size false).getD j d = if j < ops.size then false else d := fun j d => by
  by_cases h : j < ops.size
  ·simp [Array.getD, h]
  ·simp [Array.getD, h]
 refine go_runs hl hd ops.size t (Array.replicate ops.size false) (List.range ops.size) s e u (by simp) (fun i o ho h => ?_) List.pairwise_lt_range (fun j => ?_) (by simp) ?_
 ·rw [hgd] at h
  split at h <;> cases h
 ·rw [hgd, List.mem_range]
  constructor
  ·intro h; exact ⟨h, by simp [h]⟩
  ·intro h; exact h.1
 ·have := pickL_range l ops.size 0 (by omega)
  rw [List.drop_zero] at this
  rw [List.range_eq_range', this]
  exact hr
end
end Go.Ab
namespace Go.Ab
variable [Glb]
def chkC (P : Program) (N : Nat) : AC → Code → Bool
 | .trim _ b, x => chkC P N b x
 | .skip, .skip => true
 | .ops l, .region _ ops draw => chkL P N ops l ops.toList && (!draw || (P.follows .mixedOrders && drawOK ops l))
 | .seq a b, .seq x y => chkC P N a x && chkC P N b y
 | .cond c t e, .cond c' x y => chkO c c' && chkC P N t x && chkC P N e y
 | .block i b, .block j x => i == j && chkC P N b x
 | .loop _ b, .loop x => chkC P N b x
 | .exit i, .exit j => i == j
 | .ret, .ret => true
 | .hole, _ => true
 | .label, .label _ => true
 | .goto i, .goto j => i == j
 | .scope l b r, .scope c => chkC P N b c && (match findLabel c l with | some rest => chkC P N r rest | none => false)
 | _, _ => false
theorem Sim.cut {E : Env} {K : Ctx} {s : St} {tm : Array Value} {w : World} (h : Sim E K s tm w) (n : Nat) : Sim E K { s with rf := s.rf.take n } tm w := by
 have hget : ∀ r cs, (s.rf.take n)[r]? = some cs → s.rf[r]? = some cs := fun r cs hr => by
  rw [List.getElem?_take] at hr
  split at hr
  ·exact hr
  ·simp at hr
 have hlen : ∀ r, r < (s.rf.take n).length → r < s.rf.length := fun r hr => by
  simp only [List.length_take] at hr; omega
 have hh : ∀ ℓ av v, holds K { s with rf := s.rf.take n } tm w ℓ av v → holds K s tm w ℓ av v := fun ℓ av v h' => by
  cases ℓ with
  | sl t => exact h'
  | rf r i =>
    obtain ⟨cs, β, h1, h2⟩ := h'
    exact ⟨cs, β, hget r cs h1, h2⟩
 exact ⟨h.size, h.os, h.tape, h.output, h.keep, h.gle, h.rho, h.cells, fun r cs hr => h.refs r cs (hget r cs hr), fun r b hr => h.refG r b (hlen r hr), fun r r' b hr hr' => h.inj r r' b (hlen r hr) (hlen r' hr'), h.rows, h.slots,
  fun ℓ es v h1 => h.own ℓ es v (hh _ _ _ h1), fun ℓ ℓ' es es' v v' b h1 h2 => h.uniq ℓ ℓ' es es' v v' b (hh _ _ _ h1) (hh _ _ _ h2), fun ℓ es v b h1 => h.tO ℓ es v b (hh _ _ _ h1), fun r b hr => h.tR r b (hlen r hr)⟩
section
variable {P : Program} {E : Env} {K : Ctx} {s : St} {a : Act} {w : World} {Q : Exit → Act → World → Prop} {C : CallFn} {N : Nat}
theorem Inv.alike {s' : St} (h : Inv E K s a w N) (ha : Alike s s') : Inv E K s' a w N := by
 have hk : ∀ t av, s'.sl.get t = some av → s.sl.get t = some av := fun t av ht => by rw [ha.1 t]; exact ht
 rw [ha.eq]
 exact ⟨h.sim.forget hk, h.wf.withSl fun n v hv => h.wf.sb n v (hk n v hv), h.df, h.size⟩
theorem Inv.keep (h : Inv E K s a w N) (keep : List Nat) : Inv E K { s with sl := s.sl.keep keep } a w N :=
 ⟨h.sim.forget fun t av ht => keep_get ht, h.wf.withSl fun n v hv => h.wf.sb n v (keep_get hv), h.df, h.size⟩
theorem Inv.trimLoop (h0 : RB E.rf0.length E.rf0) (h : Inv E K s a w N) (keep : List Nat) {n : Nat} (hn : E.rf0.length ≤ n) (hn' : n ≤ s.rf.length) : Inv E K (s.trimLoop keep n) a w N := by
 have hw := trimLoop_wf h0 h.wf keep hn hn'
 have hk := h.keep keep
 unfold St.trimLoop at hw ⊢
 simp only at hw ⊢
 split
 ·rename_i hc
  rw [if_pos hc] at hw
  exact ⟨hk.sim.cut n, hw, h.df, h.size⟩
 ·exact hk
theorem run_wp (hC : CallSound P C) (hCW : CallWF C) (h0 : RB E.rf0.length E.rf0) (kk : Nat) : ∀ (c : AC) (code : Code) (s : St) (a : Act) (w : World) (K : Ctx) (Q : Exit → Act → World → Prop) (e : Ex) (s' : St),
  chkC P N c code = true → c.cok = true → Inv E K s a w N → run C kk c s = some (e, s') → (∀ ex a' w' K', ExR K' e ex → Inv E K' s' a' w' N → Q ex a' w') → code.wp P Q a w
 | .skip, code, s, a, w, K, Q, e, s', hc, _, h, hr, hQ => by
   cases code <;> simp [chkC] at hc
   simp only [run, Option.some.injEq, Prod.mk.injEq] at hr
   obtain ⟨rfl, rfl⟩ := hr
   exact wp_skip (hQ .normal a w K trivial h)
 | .label, code, s, a, w, K, Q, e, s', hc, _, h, hr, hQ => by
   cases code <;> simp [chkC] at hc
   simp only [run, Option.some.injEq, Prod.mk.injEq] at hr
   obtain ⟨rfl, rfl⟩ := hr
   exact wp_label (hQ .normal a w K trivial h)
 | .ops l, code, s, a, w, K, Q, e, s', hc, hk, h, hr, hQ => by
   cases code <;> simp [chkC] at hc
   rename_i id ops draw
   simp only [run] at hr
   have hlen : l.length = ops.size := by
    have : ∀ {l : List AOp} {m : List Oper}, chkL P N ops l m = true → l.length = m.length := fun {l m} => by
     induction l generalizing m with
     | nil => intro h; cases m <;> simp [chkL] at h ⊢
     | cons x l ih =>
       intro h
       cases m with
       | nil => simp [chkL] at h
       | cons o m =>
         simp only [chkL, Bool.and_eq_true] at h
         simp [ih h.2]
    simpa using this hc.1
   cases draw with
   | false =>
     refine wp_region ?_
     have hp := pickL_range l ops.size 0 (by omega)
     rw [List.drop_zero, ← List.range_eq_range'] at hp
     exact ops_wp hC hCW hc.1 _ s a w K e s' h (by rw [hp]; exact hr) fun ex a' w' K' h1 h2 _ => hQ ex a' w' K' h1 h2
   | true =>
     refine wp_region_draw fun t => ?_
     have hd : P.follows .mixedOrders = true ∧ drawOK ops l = true := by
      rcases hc.2 with h | h
      ·cases h
      ·exact h
     rw [hd.1]
     obtain ⟨u', h1, h2⟩ := schedule_runs hlen hd.2 t hr
     have h' : Inv E K s a { w with drawn := w.drawn + 1 } N := ⟨h.sim.drew, h.wf, h.df, h.size⟩
     refine ops_wp hC hCW hc.1 _ s a _ K e u' h' h1 fun ex a' w' K' h3 h4 _ => hQ ex a' w' K' h3 (h4.alike ⟨fun t => (h2.1 t).symm, h2.2.symm⟩)
 | .seq x y, code, s, a, w, K, Q, e, s', hc, hk, h, hr, hQ => by
   cases code <;> simp [chkC] at hc
   rename_i cx cy
   simp only [AC.cok, Bool.and_eq_true] at hk
   simp only [run] at hr
   refine wp_seq ?_
   split at hr
   ·rename_i s1 hr1
    refine run_wp hC hCW h0 kk x cx s a w K _ _ s1 hc.1 hk.1 h hr1 fun ex a' w' K' h1 h2 => ?_
    cases ex <;> simp only [ExR] at h1
    exact run_wp hC hCW h0 kk y cy s1 a' w' K' Q e s' hc.2 hk.2 h2 hr hQ
   ·rename_i hne
    refine run_wp hC hCW h0 kk x cx s a w K _ e s' hc.1 hk.1 h hr fun ex a' w' K' h1 h2 => ?_
    have hq := hQ ex a' w' K' h1 h2
    cases ex with
    | normal =>
      cases e <;> simp only [ExR] at h1
      exact absurd hr (hne s')
    | _ => exact hq
 | .cond c t f, code, s, a, w, K, Q, e, s', hc, hk, h, hr, hQ => by
   cases code <;> simp [chkC] at hc
   rename_i c' ct cf
   simp only [AC.cok, Bool.and_eq_true] at hk
   simp only [run] at hr
   split at hr
   ·rename_i hg
    have := getO_rep h.sim hc.1.1 hg
    simp only [Rep, RepD] at this
    exact wp_cond_true this (run_wp hC hCW h0 kk t ct s a w K Q e s' hc.1.2 hk.1.2 h hr hQ)
   ·rename_i hg
    have := getO_rep h.sim hc.1.1 hg
    simp only [Rep, RepD] at this
    exact wp_cond_false this (run_wp hC hCW h0 kk f cf s a w K Q e s' hc.2 hk.2 h hr hQ)
   ·simp at hr
 | .block i b, code, s, a, w, K, Q, e, s', hc, hk, h, hr, hQ => by
   cases code <;> simp [chkC] at hc
   rename_i j cb
   obtain ⟨rfl, hc⟩ := hc
   simp only [AC.cok] at hk
   simp only [run] at hr
   refine wp_block ?_
   split at hr
   ·rename_i j s1 hr1
    refine run_wp hC hCW h0 kk b cb s a w K _ _ s1 hc hk h hr1 fun ex a' w' K' h1 h2 => ?_
    cases ex <;> simp only [ExR] at h1
    subst h1
    simp only [Exit.inBlock]
    split at hr
    ·rename_i hij
     simp only [Option.some.injEq, Prod.mk.injEq] at hr
     obtain ⟨rfl, rfl⟩ := hr
     rw [if_pos hij]
     exact hQ .normal a' w' K' trivial h2
    ·rename_i hij
     simp only [Option.some.injEq, Prod.mk.injEq] at hr
     obtain ⟨rfl, rfl⟩ := hr
     rw [if_neg hij]
     exact hQ (.exit j) a' w' K' rfl h2
   ·rename_i hne
    refine run_wp hC hCW h0 kk b cb s a w K _ e s' hc hk h hr fun ex a' w' K' h1 h2 => ?_
    have hq := hQ ex a' w' K' h1 h2
    cases ex with
    | exit j =>
      cases e <;> simp only [ExR] at h1
      subst h1
      exact absurd hr (hne _ s')
    | _ => exact hq
 | .loop keep b, code, s, a, w, K, Q, e, s', hc, hk, h, hr, hQ => by
   cases code <;> simp [chkC] at hc
   rename_i cb
   simp only [AC.cok] at hk
   simp only [run] at hr
   have key : ∀ (m : Nat) (n : Nat) (s : St) (a : Act) (w : World) (K : Ctx), E.rf0.length ≤ n → n ≤ s.rf.length → Inv E K s a w N → runLoop (run C kk b) keep n m s = some (e, s') → Code.rounds P cb Q m a w := by
    intro m
    induction m with
    | zero => intro n s a w K _ _ _ hr; simp [runLoop] at hr
    | succ m ih =>
      intro n s a w K hn hn' h hr
      simp only [runLoop] at hr
      rw [rounds_succ]
      split at hr
      ·rename_i s1 hr1
       have hlen := (run_wf hCW kk h0 hr1 hk h.wf).2.2
       refine run_wp hC hCW h0 kk b cb s a w K _ _ s1 hc hk h hr1 fun ex a' w' K' h1 h2 => ?_
       cases ex <;> simp only [ExR] at h1
       exact ih n (s1.trimLoop keep n) a' w' K' hn (trimLoop_len keep (by omega)) (h2.trimLoop h0 keep hn (by omega)) hr
      ·rename_i hne
       refine run_wp hC hCW h0 kk b cb s a w K _ e s' hc hk h hr fun ex a' w' K' h1 h2 => ?_
       have hq := hQ ex a' w' K' h1 h2
       cases ex with
       | normal =>
         cases e <;> simp only [ExR] at h1
         exact absurd hr (hne s')
       | _ => exact hq
   refine wp_loop_rounds kk (key kk s.rf.length (s.trimLoop keep s.rf.length) a w K h.wf.le (trimLoop_len keep (Nat.le_refl _)) (h.trimLoop h0 keep h.wf.le (Nat.le_refl _)) hr)
 | .exit i, code, s, a, w, K, Q, e, s', hc, _, h, hr, hQ => by
   cases code <;> simp [chkC] at hc
   subst hc
   simp only [run, Option.some.injEq, Prod.mk.injEq] at hr
   obtain ⟨rfl, rfl⟩ := hr
   exact wp_exit (hQ (.exit i) a w K rfl h)
 | .ret, code, s, a, w, K, Q, e, s', hc, _, h, hr, hQ => by
   cases code <;> simp [chkC] at hc
   simp only [run, Option.some.injEq, Prod.mk.injEq] at hr
   obtain ⟨rfl, rfl⟩ := hr
   exact wp_ret (hQ .ret a w K trivial h)
 | .hole, code, s, a, w, K, Q, e, s', hc, _, h, hr, hQ => by simp [run] at hr
 | .goto i, code, s, a, w, K, Q, e, s', hc, _, h, hr, hQ => by
   cases code <;> simp [chkC] at hc
   subst hc
   simp only [run, Option.some.injEq, Prod.mk.injEq] at hr
   obtain ⟨rfl, rfl⟩ := hr
   exact wp_goto (hQ (.goto i) a w K rfl h)
 | .scope l b r, code, s, a, w, K, Q, e, s', hc, hk, h, hr, hQ => by
   cases code <;> simp [chkC] at hc
   rename_i c
   obtain ⟨hc1, hc2⟩ := hc
   split at hc2
   ·rename_i rest hf
    simp only [AC.cok, Bool.and_eq_true] at hk
    simp only [run] at hr
    refine wp_scope_jumps l (fun a1 w1 => e ≠ .goto l ∧ ∃ K1 s1, Inv E K1 s1 a1 w1 N ∧ (∀ j, e ≠ .goto j) ∧ run C kk r s1 = some (e, s')) (fun _ _ => 0) hf ?_ ?_
    ·split at hr
     ·rename_i i s1 hr1
      split at hr
      ·rename_i hi
       subst hi
       refine run_wp hC hCW h0 kk b c s a w K _ _ s1 hc1 hk.1 h hr1 fun ex a' w' K' h1 h2 => ?_
       cases ex <;> simp only [ExR] at h1
       subst h1
       split at hr
       ·cases hr
       ·rename_i hng
        have hne : ∀ j, e ≠ .goto j := fun j hj => hng j s' (by rw [hr, hj])
        exact ⟨rfl, hne _, K', s1, h2, hne, hr⟩
      ·cases hr
     ·rename_i hng
      refine run_wp hC hCW h0 kk b c s a w K _ e s' hc1 hk.1 h hr fun ex a' w' K' h1 h2 => ?_
      have hq := hQ ex a' w' K' h1 h2
      cases ex with
      | goto j =>
        cases e <;> simp only [ExR] at h1
        exact absurd hr (hng _ _)
      | _ => exact hq
    ·intro a1 w1 ⟨_, K1, s1, h3, hne, h4⟩
     refine run_wp hC hCW h0 kk r rest s1 a1 w1 K1 _ e s' hc2 hk.2 h3 h4 fun ex a' w' K' h1 h2 => ?_
     have hq := hQ ex a' w' K' h1 h2
     cases ex with
     | goto j =>
       cases e <;> simp only [ExR] at h1
       exact absurd rfl (hne _)
     | _ => exact hq
   ·cases hc2
 | .trim keep b, code, s, a, w, K, Q, e, s', hc, hk, h, hr, hQ => by
   simp only [chkC] at hc
   simp only [AC.cok] at hk
   simp only [run] at hr
   split at hr
   ·rename_i s1 hr1
    simp only [Option.some.injEq, Prod.mk.injEq] at hr
    obtain ⟨rfl, rfl⟩ := hr
    exact run_wp hC hCW h0 kk b code s a w K Q _ s1 hc hk h hr1 fun ex a' w' K' h1 h2 => hQ ex a' w' K' h1 (h2.keep keep)
   ·exact run_wp hC hCW h0 kk b code s a w K Q e s' hc hk h hr hQ
end
end Go.Ab
namespace Go.Ab
variable [Glb]
def chkRes (P : Program) : List ResV → List ResultVar → Bool
 | [], [] => true
 | .tmp t :: l, .tmp u :: m => t == u && chkRes P l m
 | .cell a agg :: l, .cell b ty :: m => a == b && chkAgg P agg ty && chkRes P l m
 | _, _ => false
def chkBody (P : Program) (af : AFn) (fn : Func) : Bool :=
 match fn.body with
 | some code => chkC P fn.ntmps af.body code
 | none => false
def resF (tmps : Array Value) : ResultVar → Sem Value
 | .tmp t => pure (tmps.getD t undef)
 | .cell b t => do loadVar t (← asAddr (tmps.getD b undef))
theorem results_eq (fn : Func) (tmps : Array Value) : results fn tmps = (do let vs ← fn.results.mapM (resF tmps); pure (if h : vs.size = 1 then vs[0] else .tuple vs)) := by
 unfold results
 congr 1
section
variable {P : Program} {E : Env} {K : Ctx} {s : St} {a : Act} {w : World} {N : Nat}
theorem run_res (h : Sim E K s a.tmps w) : ∀ {l : List ResV} {m : List ResultVar} {vs : List AV}, chkRes P l m = true → resAs s l = some vs →
  ∃ ws, (m.mapM (resF a.tmps)).run P w = .ok ws w ∧ RepL K vs ws
 | [], m, vs, hc, hv => by
   cases m with
   | cons x m => simp [chkRes] at hc
   | nil =>
     simp only [resAs, Option.some.injEq] at hv
     subst hv
     exact ⟨[], by simp, by simp [RepL]⟩
 | r :: l, m, vs, hc, hv => by
   simp only [resAs] at hv
   split at hv
   ·rename_i v vs' h1 h2
    simp only [Option.some.injEq] at hv
    subst hv
    cases m with
    | nil => cases r <;> simp [chkRes] at hc
    | cons x m =>
      cases r with
      | tmp t =>
        cases x <;> simp [chkRes] at hc
        obtain ⟨rfl, hc⟩ := hc
        obtain ⟨ws, hws, hr⟩ := run_res h hc h2
        refine ⟨a.tmps.getD t undef :: ws, ?_, ?_⟩
        ·simp only [List.mapM_cons, resF, Sem.run_bind, Sem.run_pure, Result.andThen_ok, hws]
        ·simp only [RepL]
         exact ⟨_, _, rfl, (h.slots t v h1).2, hr⟩
      | cell b agg =>
        cases x <;> simp [chkRes] at hc
        rename_i b' ty
        obtain ⟨⟨rfl, hagg⟩, hc⟩ := hc
        obtain ⟨ws, hws, hr⟩ := run_res h hc h2
        simp only [resA] at h1
        split at h1
        ·rename_i p hp
         obtain ⟨ad, u, e1, e2, e3⟩ := run_load_any (P := P) h hagg (h.slots b p hp).2 h1
         refine ⟨u :: ws, ?_, ?_⟩
         ·have he : asAddr (a.tmps.getD b undef) = pure ad := by rw [e1]; rfl
          simp only [List.mapM_cons, resF, Sem.run_bind, he, Sem.run_pure, Result.andThen_ok, e2, hws]
         ·simp only [RepL]
          exact ⟨_, _, rfl, e3, hr⟩
        ·simp at h1
   ·simp at hv
theorem run_results (h : Sim E K s a.tmps w) {fn : Func} {l : List ResV} {v : AV} (hc : chkRes P l fn.results.toList = true) (hv : resOf s false l = some v) :
  ∃ pv, (results fn a.tmps).run P w = .ok pv w ∧ Rep K v pv ∧ ∀ es, v ≠ .own es := by
 unfold resOf at hv
 have mk : ∀ vs, resAs s l = some vs → ∃ ws : List Value, (results fn a.tmps).run P w = .ok (if h : ws.toArray.size = 1 then ws.toArray[0] else .tuple ws.toArray) w ∧ RepL K vs ws := fun vs hvs => by
  obtain ⟨ws, hws, hr⟩ := run_res h hc hvs
  refine ⟨ws, ?_, hr⟩
  rw [results_eq, Array.mapM_eq_mapM_toList]
  simp only [map_eq_pure_bind, Sem.run_bind, Sem.run_pure, hws, Result.andThen_ok]
 split at hv
 ·rename_i v' hvs
  obtain ⟨ws, h1, h2⟩ := mk _ hvs
  simp only [Option.some.injEq, Bool.false_eq_true, if_false] at hv
  subst hv
  simp only [RepL] at h2
  obtain ⟨u, r, rfl, h3, rfl⟩ := h2
  refine ⟨u, by simpa using h1, Rep.bare _ _ h3, fun es e => ?_⟩
  cases v' <;> simp [AV.bare] at e
 ·rename_i vs hne hvs
  obtain ⟨ws, h1, h2⟩ := mk _ hvs
  simp only [Option.some.injEq] at hv
  subst hv
  have hlen := h2.length
  have hn1 : ws.length ≠ 1 := fun e => by
   have : vs.length = 1 := by omega
   match vs, this with
   | [x], _ => exact hne x rfl
  refine ⟨.tuple ws.toArray, ?_, ?_, fun es e => by cases e⟩
  ·rw [h1]
   have : ¬ ws.toArray.size = 1 := by simpa using hn1
   rw [dif_neg this]
  ·simp only [Rep]
   exact ⟨ws.toArray, rfl, RepL.bares _ _ h2⟩
 ·simp at hv
def callEnv (K : Ctx) (s : St) (tm : Array Value) (w : World) : Env :=
 ⟨w, K, s.rf, fun b => (∃ r, r < s.rf.length ∧ K.ρ r = some b) ∨ (∃ r i es v, holds K s tm w (.rf r i) (.own es) v ∧ blk v = some b)⟩
theorem enterS_idx : ∀ {args : List AV} {i n : Nat} {v : AV}, (enterS args i).get n = some v → i ≤ n ∧ args[n - i]? = some v
 | [], i, n, v, h => by simp [enterS, Slots.get] at h
 | x :: r, i, n, v, h => by
   simp only [enterS, Slots.get] at h
   split at h
   ·rename_i hin
    subst hin
    simp only [Option.some.injEq] at h
    subst h
    simp
   ·obtain ⟨h1, h2⟩ := enterS_idx h
    refine ⟨by omega, ?_⟩
    rw [show n - i = (n - (i + 1)) + 1 by omega, List.getElem?_cons_succ]
    exact h2
theorem Sim.enter {tm : Array Value} (h : Sim E K s tm w) {args : List AV} {vs : Array Value} (hno : ∀ x ∈ args, ∀ es, x ≠ .own es) (hr : RepL K args vs.toList) (n : Nat) (df : List (AV × List AV)) (pn : Option (Option AV)) :
  Sim (callEnv K s tm w) K { sl := enterS args 0, rf := s.rf, df := df, pn := pn, nb := s.rf.length } (vs ++ Array.replicate n undef) w := by
 have hslot : ∀ t av, (enterS args 0).get t = some av → av ∈ args := fun t av ht => List.mem_of_getElem? (enterS_idx ht).2
 have hh : ∀ ℓ es v, holds K { sl := enterS args 0, rf := s.rf, df := df, pn := pn, nb := s.rf.length } (vs ++ Array.replicate n undef) w ℓ (.own es) v → (∃ r i, ℓ = .rf r i) ∧ holds K s tm w ℓ (.own es) v := fun ℓ es v hh => by
  cases ℓ with
  | sl t => exact absurd rfl (hno _ (hslot t _ hh.1) es)
  | rf r i => exact ⟨⟨r, i, rfl⟩, hh⟩
 refine ⟨Nat.le_refl _, rfl, rfl, rfl, fun b _ _ => ⟨rfl, rfl, fun _ => rfl⟩, ⟨Le.refl _, h.gle.g⟩, fun r hr => rfl, h.cells, h.refs, h.refG, h.inj, h.rows, fun t av ht => ?_, fun ℓ es v h1 => h.own ℓ es v (hh _ _ _ h1).2,
  fun ℓ ℓ' es es' v v' b h1 h2 => h.uniq ℓ ℓ' es es' v v' b (hh _ _ _ h1).2 (hh _ _ _ h2).2, fun ℓ es v b h1 hb _ => ?_, fun r b hr hb _ => .inl ⟨r, hr, hb⟩⟩
 ·obtain ⟨_, h2⟩ := enterS_idx ht
  obtain ⟨v, hv, hrv⟩ := hr.get h2
  rw [Nat.sub_zero, Array.getElem?_toList] at hv
  have hlt := (Array.getElem?_eq_some_iff.1 hv).1
  refine ⟨by simp; omega, ?_⟩
  have : (vs ++ Array.replicate n undef).getD t undef = v := by
   rw [Array.getD_eq_getD_getElem?, Array.getElem?_append_left hlt, hv]; rfl
  rw [this]
  exact hrv
 ·obtain ⟨⟨r, i, rfl⟩, h3⟩ := hh _ _ _ h1
  exact .inr ⟨r, i, es, v, h3, hb⟩
theorem Sim.back {tm : Array Value} (h : Sim E K s tm w) (hw : WF E.rf0 s) {K' : Ctx} {s' : St} {tm' : Array Value} {w' : World} (hc : Sim (callEnv K s tm w) K' s' tm' w') {rf' : Refs} (hrf : rf' = s'.rf.take s.rf.length) (hlen : rf'.length = s.rf.length) :
  Sim E K' { s with rf := rf' } tm w' ∧ Up s.rf.length K K' := by
 subst hrf
 have hc := hc.cut s.rf.length
 have hρ : ∀ r, r < s.rf.length → K'.ρ r = K.ρ r := fun r hr => hc.rho r hr
 have hρ' : ∀ r, r < s.rf.length → K.ρ r = K'.ρ r := fun r hr => (hρ r hr).symm
 have hsz : w.heap.size ≤ w'.heap.size := hc.size
 have hlt : ∀ r, r < (s'.rf.take s.rf.length).length ↔ r < s.rf.length := fun r => by rw [hlen]
 have old : ∀ t es v b, holds K s tm w (.sl t) (.own es) v → blk v = some b → b < w.heap.size ∧ ¬ (callEnv K s tm w).T b := fun t es v b hh hb => by
  obtain ⟨h1, f, hf⟩ := blk_lt h hh hb
  refine ⟨h1, ?_⟩
  rintro (⟨r, hr, hrb⟩ | ⟨r, i, es', v', hh', hb'⟩)
  ·rw [(h.refG r b hr hrb).1] at hf
   cases hf
  ·exact absurd (h.uniq _ _ _ _ _ _ b hh hh' hb hb') (by simp)
 refine ⟨⟨Nat.le_trans h.size hsz, hc.os.trans h.os, hc.tape.trans h.tape, hc.output.trans h.output, fun b hb hT => ?_, h.gle.trans hc.gle.le, fun r hr => ?_, hc.cells, hc.refs, hc.refG, hc.inj, hc.rows, fun t av ha => ?_, fun ℓ es v h1 => ?_, fun ℓ ℓ' es es' v v' b h1 h2 b1 b2 => ?_, fun ℓ es v b h1 hb hlt' => ?_, fun r b hr hb hlt' => ?_⟩, ⟨hc.gle.le, hρ'⟩⟩
 ·have hT' : ¬ (callEnv K s tm w).T b := by
   rintro (⟨r, hr, hrb⟩ | ⟨r, i, es, v, hh, hb'⟩)
   ·exact hT (h.tR r b hr hrb hb)
   ·exact hT (h.tO _ _ _ b hh hb' hb)
  have h1 := h.keep b hb hT
  have h2 := hc.keep b (Nat.lt_of_lt_of_le hb h.size) hT'
  exact ⟨h2.1.trans h1.1, h2.2.1.trans h1.2.1, fun o => (h2.2.2 o).trans (h1.2.2 o)⟩
 ·rw [hρ r (Nat.lt_of_lt_of_le hr hw.le)]
  exact h.rho r hr
 ·exact ⟨(h.slots t av ha).1, Rep.mono hc.gle.le hρ' _ _ (hw.sb t av ha) (h.slots t av ha).2⟩
 ·cases ℓ with
  | sl t =>
    refine (h.own (.sl t) es v h1).kept hc.gle.le fun b hb => ?_
    have := old t es v b h1 hb
    have h2 := hc.keep b this.1 this.2
    exact ⟨h2.1, h2.2.1⟩
  | rf r i => exact hc.own (.rf r i) es v h1
 ·cases ℓ with
  | sl t =>
    cases ℓ' with
    | sl t' => exact h.uniq (.sl t) (.sl t') es es' v v' b h1 h2 b1 b2
    | rf r i =>
      have := old t es v b h1 b1
      exact absurd (hc.tO (.rf r i) es' v' b h2 b2 this.1) this.2
  | rf r i =>
    cases ℓ' with
    | sl t' =>
      have := old t' es' v' b h2 b2
      exact absurd (hc.tO (.rf r i) es v b h1 b1 this.1) this.2
    | rf r' i' => exact hc.uniq (.rf r i) (.rf r' i') es es' v v' b h1 h2 b1 b2
 ·cases ℓ with
  | sl t => exact h.tO (.sl t) es v b h1 hb hlt'
  | rf r i =>
    rcases hc.tO (.rf r i) es v b h1 hb (Nat.lt_of_lt_of_le hlt' h.size) with ⟨r', hr', hrb⟩ | ⟨r', i', es', v', hh, hb'⟩
    ·exact h.tR r' b hr' hrb hlt'
    ·exact h.tO _ _ _ b hh hb' hlt'
 ·have hr' := (hlt r).1 hr
  exact h.tR r b hr' (by rw [← hρ r hr']; exact hb) hlt'
end
end Go.Ab
namespace Go.Ab
variable [Glb]
def chk1R (P : Program) (N : Nat) (ops : Array Oper) (ao : AOp) (o : Oper) : Bool :=
 chk1 P N ops ao o || (ao.op.isRec && chkOp P ao.op o && ao.dst == o.dst && (match ao.dst with | some d => decide (d < N) | none => true) && chkGuard ops ao.guard o.guard)
def chkLR (P : Program) (N : Nat) (ops : Array Oper) : List AOp → List Oper → Bool
 | [], [] => true
 | x :: l, o :: m => chk1R P N ops x o && chkLR P N ops l m
 | _, _ => false
def chkS (P : Program) (N : Nat) : AC → Code → Bool
 | .trim _ b, x => chkS P N b x
 | .seq a b, .seq x y => chkS P N a x && chkS P N b y
 | .cond c t e, .cond c' x y => chkO c c' && chkS P N t x && chkS P N e y
 | .ops l, .region _ ops false => chkLR P N ops l ops.toList
 | c, x => chkC P N c x
theorem chkLR_get {P : Program} {N : Nat} {ops : Array Oper} : ∀ {l : List AOp} {m : List Oper}, chkLR P N ops l m = true → ∀ i : Nat, (l[i]? = none ∧ m[i]? = none) ∨ ∃ x o, l[i]? = some x ∧ m[i]? = some o ∧ chk1R P N ops x o = true
 | [], [], _, i => .inl ⟨by simp, by simp⟩
 | [], _ :: _, h, i => by simp [chkLR] at h
 | _ :: _, [], h, i => by simp [chkLR] at h
 | x :: l, o :: m, h, i => by
   simp only [chkLR, Bool.and_eq_true] at h
   cases i with
   | zero => exact .inr ⟨x, o, by simp, by simp, h.1⟩
   | succ i => simpa using chkLR_get h.2 i
theorem chkLR_length {P : Program} {N : Nat} {ops : Array Oper} : ∀ {l : List AOp} {m : List Oper}, chkLR P N ops l m = true → l.length = m.length
 | [], [], _ => rfl
 | [], _ :: _, h => by simp [chkLR] at h
 | _ :: _, [], h => by simp [chkLR] at h
 | x :: l, o :: m, h => by
   simp only [chkLR, Bool.and_eq_true] at h
   simp [chkLR_length h.2]
theorem stepOp_pn {C : CallFn} {s : St} {o : AOpk} {d : Did} (h : stepOp C s o = some d) (ho : o.isRec = false) : d.st.pn = s.pn := by
 by_cases hp : o.plain = true
 ·exact (stepOp_same h hp).2
 ·cases o <;> simp [AOpk.plain, AOpk.isRec] at hp ho
  simp only [stepOp] at h
  split at h
  ·simp only [Option.some.injEq] at h; subst h; rfl
  ·simp at h
theorem putO_pn (s : St) (d : Option Nat) (v : AV) : (putO s d v).pn = s.pn := by cases d <;> rfl
theorem runOps_pn {P : Program} {N : Nat} {ops : Array Oper} {C : CallFn} : ∀ {l : List AOp} {m : List Oper} {s : St} {e : Ex} {s' : St}, chkL P N ops l m = true → runOps C l s = some (e, s') → s'.pn = s.pn
 | [], m, s, e, s', _, h => by
   simp only [runOps, Option.some.injEq, Prod.mk.injEq] at h
   rw [h.2]
 | o :: l, m, s, e, s', hc, h => by
   cases m with
   | nil => simp [chkL] at hc
   | cons x m =>
     simp only [chkL, Bool.and_eq_true] at hc
     have hn : o.op.isRec = false := by
      have := hc.1
      simp only [chk1, Bool.and_eq_true, Bool.not_eq_true'] at this
      exact this.1.1.1.2
     simp only [runOps] at h
     split at h
     ·simp at h
     ·rw [runOps_pn hc.2 h, putO_pn]
     ·split at h
      ·rename_i v s1 hs
       rw [runOps_pn hc.2 h, putO_pn]
       exact stepOp_pn hs hn
      ·rename_i s1 hs
       rw [runOps_pn hc.2 h]
       exact stepOp_pn hs hn
      ·rename_i v s1 hs
       split at h
       ·simp only [Option.some.injEq, Prod.mk.injEq] at h
        rw [← h.2]
        exact stepOp_pn hs hn
       ·simp at h
      ·simp at h
theorem trimLoop_pn (s : St) (keep : List Nat) (n : Nat) : (s.trimLoop keep n).pn = s.pn := by
 unfold St.trimLoop
 simp only
 split <;> rfl
theorem run_pn {P : Program} {N : Nat} {C : CallFn} (kk : Nat) : ∀ (c : AC) (code : Code) (s : St) (e : Ex) (s' : St), chkC P N c code = true → run C kk c s = some (e, s') → s'.pn = s.pn
 | .skip, code, s, e, s', hc, h => by simp only [run, Option.some.injEq, Prod.mk.injEq] at h; rw [h.2]
 | .ops l, code, s, e, s', hc, h => by
   cases code <;> simp [chkC] at hc
   exact runOps_pn hc.1 h
 | .seq x y, code, s, e, s', hc, h => by
   cases code <;> simp [chkC] at hc
   simp only [run] at h
   split at h
   ·rename_i s1 h1
    rw [run_pn kk y _ _ _ _ hc.2 h, run_pn kk x _ _ _ _ hc.1 h1]
   ·exact run_pn kk x _ _ _ _ hc.1 h
 | .cond c t f, code, s, e, s', hc, h => by
   cases code <;> simp [chkC] at hc
   simp only [run] at h
   split at h
   ·exact run_pn kk t _ _ _ _ hc.1.2 h
   ·exact run_pn kk f _ _ _ _ hc.2 h
   ·simp at h
 | .block i b, code, s, e, s', hc, h => by
   cases code <;> simp [chkC] at hc
   simp only [run] at h
   split at h
   ·rename_i j s1 h1
    have := run_pn kk b _ _ _ _ hc.2 h1
    split at h <;> (simp only [Option.some.injEq, Prod.mk.injEq] at h; rw [← h.2]; exact this)
   ·exact run_pn kk b _ _ _ _ hc.2 h
 | .loop keep b, code, s, e, s', hc, h => by
   cases code <;> simp [chkC] at hc
   simp only [run] at h
   have key : ∀ (m n : Nat) (s : St), runLoop (run C kk b) keep n m s = some (e, s') → s'.pn = s.pn := by
    intro m
    induction m with
    | zero => intro n s hr; simp [runLoop] at hr
    | succ m ih =>
      intro n s hr
      simp only [runLoop] at hr
      split at hr
      ·rename_i s1 h1
       rw [ih _ _ hr, trimLoop_pn, run_pn kk b _ _ _ _ hc h1]
      ·exact run_pn kk b _ _ _ _ hc hr
   rw [key _ _ _ h, trimLoop_pn]
 | .exit i, code, s, e, s', hc, h => by simp only [run, Option.some.injEq, Prod.mk.injEq] at h; rw [h.2]
 | .hole, code, s, e, s', hc, h => by simp [run] at h
 | .label, code, s, e, s', hc, h => by simp only [run, Option.some.injEq, Prod.mk.injEq] at h; rw [h.2]
 | .goto i, code, s, e, s', hc, h => by simp only [run, Option.some.injEq, Prod.mk.injEq] at h; rw [h.2]
 | .scope l b r, code, s, e, s', hc, h => by
   cases code <;> simp [chkC] at hc
   obtain ⟨hc1, hc2⟩ := hc
   split at hc2
   ·simp only [run] at h
    split at h
    ·rename_i i s1 h1
     split at h
     ·split at h
      ·cases h
      ·rw [run_pn kk r _ _ _ _ hc2 h, run_pn kk b _ _ _ _ hc1 h1]
     ·cases h
    ·exact run_pn kk b _ _ _ _ hc1 h
   ·cases hc2
 | .ret, code, s, e, s', hc, h => by simp only [run, Option.some.injEq, Prod.mk.injEq] at h; rw [h.2]
 | .trim keep b, code, s, e, s', hc, h => by
   simp only [chkC] at hc
   simp only [run] at h
   split at h
   ·rename_i s1 h1
    simp only [Option.some.injEq, Prod.mk.injEq] at h
    rw [← h.2]
    show s1.pn = s.pn
    exact run_pn kk b _ _ _ _ hc h1
   ·exact run_pn kk b _ _ _ _ hc h
def PnR (E : Env) : Option (Option AV) → FrameMode → Prop
 | some (some v), u => ∃ ch pv, u = .panicking ch ∧ Rep E.K0 v pv ∧ v.refB ≤ E.rf0.length ∧ Chain pv ch
 | some none, u => u = .returning ∨ ∃ pv older, u = .panicking ({ v := pv, recovered := true } :: older) ∧ ∀ e ∈ older, e.goexit = false
 | none, _ => False
section
variable {P : Program} {E : Env} {K : Ctx} {s : St} {a : Act} {w : World} {C : CallFn} {N : Nat} {ops : Array Oper} {c₀ : Frame} {cs : List Frame}
theorem Sim.ofK0 {tm : Array Value} (h : Sim E K s tm w) {v : AV} {pv : Value} (hb : v.refB ≤ E.rf0.length) (hr : Rep E.K0 v pv) : Rep K v pv :=
 Rep.mono h.gle.le (fun r hr => (h.rho r hr).symm) _ _ hb hr
theorem opsS_wp {Q : Exit → Act → List Frame → World → Prop} (hC : CallSound P C) (hCW : CallWF C) {l : List AOp} (hc : chkLR P N ops l ops.toList = true) : ∀ (ord : List Nat) (s : St) (a : Act) (u : FrameMode) (w : World) (K : Ctx) (e : Ex) (s' : St),
  Inv E K s a w N → PnR E s.pn u → runOps C (pickL l ord) s = some (e, s') → (∀ ex a' u' w' K', ExR K' e ex → Inv E K' s' a' w' N → PnR E s'.pn u' → Q ex a' ({ c₀ with mode := u' } :: cs) w') →
  wpOpsS P ops Q ord a ({ c₀ with mode := u } :: cs) w
 | [], s, a, u, w, K, e, s', h, hu, hr, hQ => by
   simp only [pickL, List.filterMap_nil, runOps, Option.some.injEq, Prod.mk.injEq] at hr
   obtain ⟨rfl, rfl⟩ := hr
   exact hQ .normal a u w K trivial h hu
 | i :: ord, s, a, u, w, K, e, s', h, hu, hr, hQ => by
   rcases chkLR_get hc i with ⟨h1, h2⟩ | ⟨ao, o, h1, h2, h3⟩
   ·rw [Array.getElem?_toList] at h2
    simp only [pickL, List.filterMap_cons, h1] at hr
    simp only [wpOpsS, h2]
    exact opsS_wp hC hCW hc ord s a u w K e s' h hu hr hQ
   ·rw [Array.getElem?_toList] at h2
    simp only [pickL, List.filterMap_cons, h1, runOps] at hr
    simp only [wpOpsS, h2]
    have hall : ao.dst = o.dst ∧ (∀ d, ao.dst = some d → d < N) ∧ chkGuard ops ao.guard o.guard = true ∧ (ao.op.isRec = false → chk1 P N ops ao o = true) ∧ (ao.op.isRec = true → chkOp P ao.op o = true) := by
     simp only [chk1R, Bool.or_eq_true] at h3
     rcases h3 with h3 | h3
     ·have h3' := h3
      simp only [chk1, Bool.and_eq_true, beq_iff_eq, Bool.not_eq_true'] at h3'
      obtain ⟨⟨⟨⟨⟨c1, c2⟩, c0⟩, c3⟩, c4⟩, c5⟩ := h3'
      refine ⟨c3, fun d hd => ?_, c5, fun _ => h3, fun hr => (by rw [c0] at hr; cases hr)⟩
      rw [hd] at c4
      simp at c4
      exact c4.1
     ·simp only [Bool.and_eq_true, beq_iff_eq] at h3
      obtain ⟨⟨⟨⟨c0, c1⟩, c3⟩, c4⟩, c5⟩ := h3
      refine ⟨c3, fun d hd => ?_, c5, fun hr => (by rw [c0] at hr; cases hr), fun _ => c1⟩
      rw [hd] at c4
      simpa using c4
    obtain ⟨c3, c4, c5, cN, cR⟩ := hall
    split at hr
    ·simp at hr
    ·rename_i hwant
     rw [guard_ok h.sim c5 hwant rfl]
     simp only [Bool.false_eq_true, if_false]
     have hI : Inv E K (putO s ao.dst (.tup [])) (a.put ao.dst undef) w N :=
      h.put h.sim h.wf (Up.refl _ _) rfl (by simp only [Rep, RepL]; exact ⟨#[], rfl, rfl⟩) (by simp [AV.refB, AV.refBs]) (fresh_of_not_own (by intro es e; cases e)) c4
     rw [← c3]
     exact opsS_wp hC hCW hc ord _ _ u w K e s' hI (by rw [putO_pn]; exact hu) hr hQ
    ·rename_i hwant
     rw [guard_ok h.sim c5 hwant rfl]
     simp only [if_true]
     cases hrec : ao.op.isRec with
     | true =>
       have c1 := cR hrec
       obtain ⟨dst, op, gd, may⟩ := ao
       simp only at *
       cases op <;> simp only [AOpk.isRec, Bool.false_eq_true] at hrec
       have hrun : (execOp a.eval o).run P w = .ok .recover w := by
        simp only [chkOp] at c1
        split at c1
        ·rename_i c ho
         cases hcl : c.callee with
         | builtin b =>
           rw [hcl] at c1
           cases b <;> simp at c1
           simp [execOp, ho, resolve, hcl, invoke, builtin]
         | value g => rw [hcl] at c1; simp at c1
         | invoke r m => rw [hcl] at c1; simp at c1
        ·simp at c1
       rw [hrun]
       simp only [stepOp] at hr
       cases hpn : s.pn with
       | none => rw [hpn] at hu; exact hu.elim
       | some pn =>
         rw [hpn] at hr hu
         cases pn with
         | some v =>
           obtain ⟨ch, pv, rfl, h5, h6, older, rfl, h7⟩ := hu
           simp only [recoverD]
           have hI : Inv E K (putO { s with pn := some none } dst v.strip) (a.put dst pv) w N := by
            have hsim : Sim E K { s with pn := some none } a.tmps w := by
             have := h.sim
             exact ⟨this.size, this.os, this.tape, this.output, this.keep, this.gle, this.rho, this.cells, this.refs, this.refG, this.inj, this.rows, this.slots, this.own, this.uniq, this.tO, this.tR⟩
            have hwf : WF E.rf0 { s with pn := some none } := ⟨h.wf.nb, h.wf.le, h.wf.sb, h.wf.rb, h.wf.bd, h.wf.db, fun v e => by simp at e⟩
            exact h.put hsim hwf (Up.refl _ _) rfl (Rep.strip _ _ (h.sim.ofK0 h6 h5)) (by rw [refB_strip]; exact Nat.le_trans h6 h.wf.le) (fresh_of_not_own (strip_not_own v)) c4
           rw [← c3]
           exact opsS_wp hC hCW hc ord _ _ _ w K e s' hI (by rw [putO_pn]; exact .inr ⟨pv, older, rfl, h7⟩) hr hQ
         | none =>
           have hrc : recoverD ({ c₀ with mode := u } :: cs) = none := by
            rcases hu with rfl | ⟨pv, older, rfl, _⟩ <;> simp [recoverD]
           simp only [hrc]
           have hI : Inv E K (putO s dst (.d .nilI)) (a.put dst .nilIface) w N :=
            h.put h.sim h.wf (Up.refl _ _) rfl (by simp [Rep, RepD]) (by simp [AV.refB]) (fresh_of_not_own (by intro es e; cases e)) c4
           rw [← c3]
           exact opsS_wp hC hCW hc ord _ _ u w K e s' hI (by rw [putO_pn, hpn]; exact hu) hr hQ
     | false =>
       have hchk := cN hrec
       have c2 : ao.op.cok = true := by
        have := hchk
        simp only [chk1, Bool.and_eq_true] at this
        exact this.1.1.1.1.2
       have hdone : o.wp P a w (fun a' w' => wpOpsS P ops Q ord a' ({ c₀ with mode := u } :: cs) w') (fun e a' w' => Q e a' ({ c₀ with mode := u } :: cs) w') := by
        split at hr
        ·rename_i v s1 hs
         refine step_wp hC hCW h hchk hs ?_
         intro a' w' K' h5 h6
         have hp := stepOp_pn hs hrec
         simp only [Did.st] at hp
         exact opsS_wp hC hCW hc ord _ _ u w' K' e s' h5 (by rw [putO_pn, hp]; exact hu) hr hQ
        ·rename_i s1 hs
         refine step_wp hC hCW h hchk hs ?_
         intro a' w' K' h5 h6
         have hp := stepOp_pn hs hrec
         simp only [Did.st] at hp
         exact opsS_wp hC hCW hc ord _ _ u w' K' e s' h5 (by rw [hp]; exact hu) hr hQ
        ·rename_i v s1 hs
         refine step_wp hC hCW h hchk hs ?_
         intro a' pv ch w' K' h5 h6 h7 h8
         have hp := stepOp_pn hs hrec
         simp only [Did.st] at hp
         split at hr
         ·simp only [Option.some.injEq, Prod.mk.injEq] at hr
          obtain ⟨rfl, rfl⟩ := hr
          exact hQ (.panic ch) a' u w' K' ⟨pv, h6, h7⟩ h5 (by rw [hp]; exact hu)
         ·simp at hr
        ·simp at hr
       unfold Oper.wp at hdone
       generalize (execOp a.eval o).run P w = r at hdone
       split
       ·rename_i w'
        exact hdone.elim
       ·exact hdone
end
end Go.Ab
