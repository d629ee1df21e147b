/- References stay within bounds, in whatever is run. -/
import Derived.Test.YtpdfcjgehdlheaaA2
set_option linter.all false
namespace Go.Ab

def RB (n : Nat) (rf : Refs) : Prop := ∀ (r : Nat) cs, rf[r]? = some cs → AV.refBs cs ≤ n
def RBm (m : Nat) (rf : Refs) : Prop := ∀ (r : Nat) cs, r < m → rf[r]? = some cs → AV.refBs cs ≤ m

theorem RB.get {n : Nat} {rf : Refs} (h : RB n rf) {r : Nat} {cs : List AV} (k : rf[r]? = some cs) : AV.refBs cs ≤ n := h r cs k
theorem RBm.get {m : Nat} {rf : Refs} (h : RBm m rf) {r : Nat} {cs : List AV} (hr : r < m) (k : rf[r]? = some cs) : AV.refBs cs ≤ m := h r cs hr k

structure WF (rf0 : Refs) (s : St) : Prop where
  nb : s.nb = rf0.length
  le : rf0.length ≤ s.rf.length
  sb : ∀ n v, s.sl.get n = some v → v.refB ≤ s.rf.length
  rb : RB s.rf.length s.rf
  bd : ∀ m, m ≤ rf0.length → RBm m rf0 → RBm m s.rf
  db : ∀ p, p ∈ s.df → p.1.refB ≤ s.rf.length ∧ AV.refBs p.2 ≤ s.rf.length
  pb : ∀ v, s.pn = some (some v) → v.refB ≤ rf0.length

def Out.val : Out → AV
  | .ret v => v
  | .pan v => v

def CallWF (C : CallFn) : Prop := ∀ f args rf out rf', C f args rf = some (out, rf') → RB rf.length rf → AV.refBs args ≤ rf.length →
  rf'.length = rf.length ∧ RB rf.length rf' ∧ out.val.refB ≤ rf.length ∧ ∀ m, m ≤ rf.length → RBm m rf → RBm m rf'

def Opd.cok : Opd → Bool
  | .c v => v.refB == 0
  | _ => true

def optCok : Option Opd → Bool
  | some x => x.cok
  | none => true

def partsCok : List (Nat × Nat × Opd) → Bool
  | [] => true
  | (_, _, x) :: r => x.cok && partsCok r

def AOpk.cok : AOpk → Bool
  | .mov x | .asg x | .box x | .nilchk x | .eqnil _ _ x | .un _ x | .toInt _ x | .ident x | .same x | .strBytes x | .bytesStr x | .mkifc _ x
  | .fldA _ x | .fld _ _ x | .extr x _ | .lenS x | .len x | .panic x | .load _ x | .takeload x | .recheck _ x _ => x.cok
  | .take _ | .lenArr _ | .recover => true
  | .assertT _ zero x => x.cok && zero.refB == 0
  | .pick c a b => c.cok && a.cok && b.cok
  | .alloc cells => AV.refBs cells == 0
  | .build zero parts => AV.refBs zero == 0 && partsCok parts
  | .mkls _ zero parts => AV.refBs zero == 0 && partsCok parts
  | .store _ a v => a.cok && v.cok
  | .storeW _ a v ws => a.cok && v.cok && ws.all Opd.cok
  | .loadB _ a b => a.cok && b.cok
  | .bin _ x y | .beq _ x y | .eqc _ _ x y | .idxA _ _ x y | .idxS x y | .idxV _ _ _ x y | .append _ x y | .copy x y | .min x y | .max x y => x.cok && y.cok
  | .mkfn _ first cap => first.all Opd.cok && cap.all Opd.cok
  | .sliceS x lo hi | .slice _ x lo hi => x.cok && optCok lo && optCok hi
  | .slArr _ x lo hi => x.cok && optCok lo && optCok hi
  | .call f args | .callZ f args | .callQ f args | .defer f args => f.cok && args.all Opd.cok

def Did.wf (rf0 : Refs) : Did → Prop
  | .val v s => WF rf0 s ∧ v.refB ≤ s.rf.length
  | .none_ s => WF rf0 s
  | .pan v s => WF rf0 s ∧ v.refB ≤ s.rf.length

theorem rawO_b {s : St} {rf0 : Refs} (hw : WF rf0 s) {x : Opd} (hx : x.cok = true) {v : AV} (h : rawO s.sl x = some v) : v.refB ≤ s.rf.length := by
  cases x with
  | t n => exact hw.sb n v h
  | c w => simp only [rawO, Option.some.injEq] at h; subst h; simp [Opd.cok] at hx; omega
  | f id => simp only [rawO, Option.some.injEq] at h; subst h; simp [AV.refB, AV.refBs]

theorem getO_b {s : St} {rf0 : Refs} (hw : WF rf0 s) {x : Opd} (hx : x.cok = true) {v : AV} (h : getO s.sl x = some v) : v.refB ≤ s.rf.length := by
  simp only [getO, Option.map_eq_some_iff] at h
  obtain ⟨u, hu, rfl⟩ := h
  rw [refB_strip]
  exact rawO_b hw hx hu

theorem getOs_b {s : St} {rf0 : Refs} (hw : WF rf0 s) : ∀ {l : List Opd} {vs : List AV}, l.all Opd.cok = true → getOs s.sl l = some vs → AV.refBs vs ≤ s.rf.length
  | [], vs, _, h => by simp only [getOs, Option.some.injEq] at h; subst h; simp [AV.refBs]
  | x :: l, vs, hx, h => by
    simp only [List.all_cons, Bool.and_eq_true] at hx
    simp only [getOs] at h
    split at h
    · rename_i v vs' h1 h2
      simp only [Option.some.injEq] at h
      subst h
      have a := getO_b hw hx.1 h1
      have b := getOs_b hw hx.2 h2
      simp only [AV.refBs]
      omega
    · simp at h

theorem get_put {sl : Slots} {n m : Nat} {v w : AV} (h : (sl.put n v).get m = some w) : w = v ∨ sl.get m = some w := by
  simp only [Slots.put, Slots.get] at h
  split at h
  · exact .inl (Option.some.inj h).symm
  · exact .inr h

theorem WF.withSl {rf0 : Refs} {s : St} (hw : WF rf0 s) {sl : Slots} (h : ∀ n v, sl.get n = some v → v.refB ≤ s.rf.length) : WF rf0 { s with sl := sl } :=
  ⟨hw.nb, hw.le, h, hw.rb, hw.bd, hw.db, hw.pb⟩

theorem WF.putSl {rf0 : Refs} {s : St} (hw : WF rf0 s) {n : Nat} {v : AV} (hv : v.refB ≤ s.rf.length) : WF rf0 { s with sl := s.sl.put n v } :=
  hw.withSl fun m w h => by
    rcases get_put h with rfl | h'
    · exact hv
    · exact hw.sb m w h'

theorem WF.unOwn {rf0 : Refs} {s : St} (hw : WF rf0 s) (x : Opd) : WF rf0 (unOwn s x) := by
  unfold Ab.unOwn
  split
  · split
    · exact hw.putSl (by simp [AV.refB])
    · exact hw
  · exact hw

theorem unOwn_rf (s : St) (x : Opd) : (unOwn s x).rf = s.rf := by
  unfold Ab.unOwn
  split
  · split <;> rfl
  · rfl

theorem loadAt_b {s : St} {rf0 : Refs} (hw : WF rf0 s) {agg : Option Nat} {p v : AV} (h : loadAt s.rf agg p = some v) : v.refB ≤ s.rf.length := by
  unfold loadAt at h
  split at h
  · split at h
    · rename_i r off _ n
      simp only [Option.map_eq_some_iff] at h
      obtain ⟨cs, hcs, rfl⟩ := h
      unfold Refs.cellsAt at hcs
      split at hcs
      · rename_i cs' hr
        split at hcs
        · simp only [Option.some.injEq] at hcs
          subst hcs
          simp only [AV.refB]
          exact Nat.le_trans (refBs_take _ _) (Nat.le_trans (refBs_drop _ _) (hw.rb.get hr))
        · simp at hcs
      · simp at hcs
    · split at h
      · rename_i cs hr
        exact Nat.le_trans (refB_le_of_get h) (hw.rb.get hr)
      · simp at h
  · split at h
    · split at h
      · simp only [Option.some.injEq] at h
        subst h
        simp only [AV.refB]
        have : ∀ l : List D, AV.refBs (l.map .d) = 0 := fun l => by
          induction l with
          | nil => rfl
          | cons x l ih => simp [AV.refBs, AV.refB, ih]
        rw [this]; omega
      · simp at h
    · simp only [Option.map_eq_some_iff] at h
      obtain ⟨x, _, rfl⟩ := h
      simp [AV.refB]
  · simp at h

theorem cells_b (v : AV) : AV.refBs v.cells = v.refB := by
  cases v <;> simp [AV.cells, AV.refBs, AV.refB]

theorem cellsO_b (v : AV) : AV.refBs v.cellsO = v.refB := by
  cases v <;> simp [AV.cellsO, AV.refBs, AV.refB, refBs_strips]

/-- a ref is written -/
theorem WF.setRf {rf0 : Refs} {s : St} (hw : WF rf0 s) {r : Nat} {cs : List AV} (hb : AV.refBs cs ≤ s.rf.length)
    (hm : ∀ m, m ≤ rf0.length → r < m → RBm m s.rf → AV.refBs cs ≤ m) : WF rf0 { s with rf := s.rf.set r cs } where
  nb := hw.nb
  le := by simpa using hw.le
  sb := by simpa using hw.sb
  rb := fun r' cs' h => by
    simp only [List.length_set] at *
    rw [List.getElem?_set] at h
    split at h
    · split at h
      · simp only [Option.some.injEq] at h; subst h; exact hb
      · simp at h
    · exact hw.rb.get h
  bd := fun m hm' h0 r' cs' hr' h => by
    rw [List.getElem?_set] at h
    split at h
    · rename_i he
      subst he
      split at h
      · simp only [Option.some.injEq] at h; subst h; exact hm m hm' hr' (hw.bd m hm' h0)
      · simp at h
    · exact (hw.bd m hm' h0).get hr' h
  db := by simpa using hw.db
  pb := hw.pb

theorem WF.pushRf {rf0 : Refs} {s : St} (hw : WF rf0 s) {cs : List AV} (hb : AV.refBs cs ≤ s.rf.length) : WF rf0 { s with rf := s.rf ++ [cs] } where
  nb := hw.nb
  le := by simp; have := hw.le; omega
  sb := fun n v h => by have := hw.sb n v h; simp; omega
  rb := fun r cs' h => by
    simp only [List.length_append, List.length_cons, List.length_nil]
    rw [List.getElem?_append] at h
    split at h
    · have := hw.rb.get h; omega
    · have := List.mem_of_getElem? h
      simp only [List.mem_singleton] at this
      subst this; omega
  bd := fun m hm h0 r cs' hr h => by
    rw [List.getElem?_append_left (by have := hw.le; omega)] at h
    exact (hw.bd m hm h0).get hr h
  db := fun p h => by have := hw.db p h; simp; omega
  pb := hw.pb

theorem WF.storeAt {rf0 : Refs} {s : St} (hw : WF rf0 s) {sz : Nat} {p v : AV} {rf : Refs} (hv : v.refB ≤ s.rf.length) (h : storeAt s.rf s.nb sz p v = some rf) :
    WF rf0 { s with rf := rf } ∧ rf.length = s.rf.length := by
  unfold Ab.storeAt at h
  split at h
  · rename_i r off
    simp only at h
    split at h
    · simp at h
    · split at h
      · rename_i cs hr
        split at h
        · rename_i hc
          simp only [Option.some.injEq] at h
          subst h
          have hcs := cellsO_b v
          refine ⟨hw.setRf (refBs_setRange (hw.rb.get hr) (by omega)) (fun m hm hrm hbm => ?_), by simp⟩
          refine refBs_setRange (hbm.get hrm hr) ?_
          rcases hc.2 with h' | h'
          · omega
          · have := hw.nb; omega
        · simp at h
      · simp at h
  · simp at h

theorem fillA_b {s : St} {rf0 : Refs} (hw : WF rf0 s) : ∀ {l : List (Nat × Nat × Opd)} {cs cs' : List AV}, partsCok l = true → AV.refBs cs ≤ s.rf.length → fillA s.sl cs l = some cs' → AV.refBs cs' ≤ s.rf.length
  | [], cs, cs', _, hb, h => by simp only [fillA, Option.some.injEq] at h; subst h; exact hb
  | (off, size, x) :: l, cs, cs', hc, hb, h => by
    simp only [partsCok, Bool.and_eq_true] at hc
    simp only [fillA] at h
    split at h
    · rename_i v hv
      split at h
      · have := getO_b hw hc.1 hv
        have e := cells_b v
        exact fillA_b hw hc.2 (refBs_setRange hb (by omega)) h
      · simp at h
    · simp at h

theorem intBin_b {op : BinOp} {k : IntKind} {x y : Int} {v : AV} (h : intBin op k x y = some v) : v.refB = 0 := by
  unfold intBin at h
  split at h <;> first | (simp at h; done) | (simp only [Option.some.injEq] at h; subst h; rfl) | (split at h <;> first | (simp at h; done) | (simp only [Option.some.injEq] at h; subst h; rfl))

theorem strBin_b {op : BinOp} {x y : List UInt8} {v : AV} (h : strBin op x y = some v) : v.refB = 0 := by
  unfold strBin at h
  split at h <;> first | (simp at h; done) | (simp only [Option.some.injEq] at h; subst h; rfl) | (split at h <;> first | (simp at h; done) | (simp only [Option.some.injEq] at h; subst h; rfl))

theorem binA_b {op : BinOp} {x y v : AV} (h : binA op x y = some v) : v.refB = 0 := by
  unfold binA at h
  split at h
  · split at h
    · split at h <;> first | (simp at h; done) | (simp only [Option.some.injEq] at h; subst h; rfl)
    · split at h <;> first | (simp at h; done) | (simp only [Option.some.injEq] at h; subst h; rfl)
    · split at h
      · exact intBin_b h
      · simp at h
  · exact strBin_b h
  · simp at h

theorem unA_b {op : UnOp} {x v : AV} (h : unA op x = some v) : v.refB = 0 := by
  unfold unA at h
  split at h <;> first | (simp at h; done) | (simp only [Option.some.injEq] at h; subst h; rfl)

theorem appendA_b {sz : Nat} {x y v : AV} (h : appendA sz x y = some v) : v.refB = 0 := by
  unfold appendA at h
  split at h
  · simp at h
  · split at h
    · split at h
      · split at h <;> (simp only [Option.some.injEq] at h; subst h; rfl)
      · simp at h
    · split at h
      · simp only [Option.some.injEq] at h; subst h; rfl
      · simp at h
    · simp at h

theorem strA_b {l : List D} : AV.refBs (l.map AV.d) = 0 := by
  induction l with
  | nil => rfl
  | cons x l ih => simp [AV.refBs, AV.refB, ih]

theorem vl_wf {rf0 : Refs} {s : St} {o : Option AV} {d : Did} (h : vl s o = some d) (hw : WF rf0 s) (hv : ∀ v, o = some v → v.refB ≤ s.rf.length) : d.wf rf0 := by
  unfold vl at h
  simp only [Option.map_eq_some_iff] at h
  obtain ⟨v, ho, rfl⟩ := h
  exact ⟨hw, hv v ho⟩

theorem refBs_append_le {l m : List AV} {n : Nat} (h : AV.refBs l ≤ n) (k : AV.refBs m ≤ n) : AV.refBs (l ++ m) ≤ n := by rw [refBs_append]; omega

theorem some_b {v : AV} {n : Nat} (h : v.refB ≤ n) : ∀ w, some v = some w → w.refB ≤ n := fun w e => by cases e; exact h

theorem partA_b {agg : Option Nat} {cs : List AV} {off : Nat} {v : AV} (h : partA agg cs off = some v) : v.refB ≤ AV.refBs cs := by
  unfold partA at h
  split at h
  · split at h
    · simp only [Option.some.injEq] at h; subst h
      exact Nat.le_trans (refBs_take _ _) (refBs_drop _ _)
    · simp at h
  · exact refB_le_of_get h

set_option maxHeartbeats 1000000 in
theorem stepOp_wf {C : CallFn} (hC : CallWF C) {rf0 : Refs} {s : St} {o : AOpk} {d : Did} (h : stepOp C s o = some d) (hw : WF rf0 s) (ho : o.cok = true) : d.wf rf0 := by
  cases o <;> simp only [AOpk.cok, Bool.and_eq_true, beq_iff_eq] at ho <;> simp only [stepOp] at h
  case mov x => exact vl_wf h hw fun v e => getO_b hw ho e
  case take t =>
    split at h
    · rename_i v hv
      simp only [Option.some.injEq] at h; subst h
      exact ⟨hw.unOwn _, by rw [unOwn_rf]; exact hw.sb _ _ hv⟩
    · simp at h
  case asg x =>
    split at h
    · rename_i v hv
      simp only [Option.some.injEq] at h; subst h
      exact ⟨hw.unOwn _, by rw [unOwn_rf]; exact rawO_b hw ho hv⟩
    · simp at h
  case pick c a b =>
    split at h
    · refine vl_wf h hw fun v e => ?_
      split at e
      · exact getO_b hw ho.1.2 e
      · exact getO_b hw ho.2 e
    · simp at h
  case alloc cells =>
    simp only [Option.some.injEq] at h; subst h
    exact ⟨hw.pushRf (by omega), by simp [AV.refB]⟩
  case box x =>
    split at h
    · rename_i v hv
      split at h
      · simp only [Option.some.injEq] at h; subst h
        exact ⟨hw.pushRf (by rw [cells_b]; exact getO_b hw ho hv), by simp [AV.refB]⟩
      · simp at h
    · simp at h
  case build zero parts =>
    refine vl_wf h hw fun v e => ?_
    simp only [Option.map_eq_some_iff] at e
    obtain ⟨cs, hcs, rfl⟩ := e
    exact fillA_b hw ho.2 (by omega) hcs
  case mkls sz zero parts =>
    split at h
    · split at h
      · split at h
        · exact vl_wf h hw (some_b (by simp [AV.refB]))
        · simp at h
      · simp at h
    · simp at h
  case load agg a =>
    split at h
    · refine vl_wf h hw fun v e => ?_
      simp only [Option.map_eq_some_iff] at e
      obtain ⟨u, hu, rfl⟩ := e
      rw [refB_strip]
      exact loadAt_b hw hu
    · simp at h
  case takeload a =>
    split at h
    · rename_i r off hp
      split at h
      · rename_i v hv
        split at h
        · rename_i cs hr
          simp only [Option.some.injEq] at h; subst h
          have hvb := loadAt_b hw hv
          have hget : cs[off]? = some v := by simpa [loadAt, hr] using hv
          refine ⟨hw.setRf (refBs_set (hw.rb.get hr) (by rw [refB_strip]; exact hvb)) (fun m hm hrm hbm => ?_), by simpa using hvb⟩
          have hcs := hbm.get hrm hr
          exact refBs_set hcs (by rw [refB_strip]; exact Nat.le_trans (refB_le_of_get hget) hcs)
        · simp at h
      · simp at h
    · simp at h
  case recheck => simp at h
  case store sz a v =>
    split at h
    · rename_i p x hp hx
      split at h
      · rename_i rf hrf
        simp only [Option.some.injEq] at h; subst h
        exact ((hw.storeAt (rawO_b hw ho.2 hx) hrf).1).unOwn _
      · simp at h
    · simp at h
  case storeW sz a v ws =>
    split at h
    · rename_i r off x hp hx
      split at h
      · split at h
        · rename_i rf hrf
          simp only [Option.some.injEq] at h; subst h
          exact ((hw.storeAt (rawO_b hw ho.1.2 hx) hrf).1).unOwn _
        · simp at h
      · simp at h
    · simp at h
  case loadB agg a b =>
    split at h
    · split at h
      · refine vl_wf h hw fun v e => ?_
        simp only [Option.map_eq_some_iff] at e
        obtain ⟨u, hu, rfl⟩ := e
        rw [refB_strip]
        exact loadAt_b hw hu
      · simp at h
    · simp at h
  case nilchk x =>
    split at h
    · rename_i r off hv
      exact vl_wf h hw (some_b (getO_b hw ho hv))
    · exact vl_wf h hw (some_b (by simp [AV.refB]))
    · rename_i f a b hv
      split at h
      · exact vl_wf h hw (some_b (getO_b hw ho hv))
      · simp at h
    · simp at h
  case bin op x y =>
    split at h
    · exact vl_wf h hw fun v e => by rw [binA_b e]; omega
    · simp at h
  case beq ne x y =>
    split at h
    · exact vl_wf h hw (some_b (by simp [AV.refB]))
    · simp at h
  case eqc ne ks x y =>
    split at h
    · refine vl_wf h hw fun v e => ?_
      simp only [Option.map_eq_some_iff] at e
      obtain ⟨t, _, rfl⟩ := e
      simp [AV.refB]
    · simp at h
  case eqnil nk ne x =>
    split at h
    · refine vl_wf h hw fun v e => ?_
      simp only [Option.map_eq_some_iff] at e
      obtain ⟨t, _, rfl⟩ := e
      simp [AV.refB]
    · simp at h
  case un op x =>
    split at h
    · exact vl_wf h hw fun v e => by rw [unA_b e]; omega
    · simp at h
  case toInt k x =>
    split at h
    · exact vl_wf h hw (some_b (by simp [AV.refB]))
    · simp at h
  case ident x =>
    split at h
    · exact vl_wf h hw (some_b (by simp [AV.refB]))
    · simp at h
  case same x =>
    split at h
    · rename_i v hv
      simp only [Option.some.injEq] at h; subst h
      exact ⟨hw.unOwn _, by rw [unOwn_rf]; simp [AV.refB]⟩
    · simp at h
  case strBytes x =>
    split at h
    · exact vl_wf h hw (some_b (by simp [AV.refB]))
    · exact vl_wf h hw (some_b (by simp [AV.refB]))
    · simp at h
  case bytesStr x =>
    split at h
    · split at h
      · refine vl_wf h hw fun v e => ?_
        simp only [Option.map_eq_some_iff] at e
        obtain ⟨t, _, rfl⟩ := e
        simp [AV.refB]
      · simp at h
    · simp at h
  case mkifc t x =>
    split at h
    · rename_i v hv
      exact vl_wf h hw (some_b (by simpa [AV.refB] using getO_b hw ho hv))
    · simp at h
  case mkfn f first cap =>
    split at h
    · rename_i a b ha hb
      refine vl_wf h hw (some_b ?_)
      have := getOs_b hw ho.1 ha
      have := getOs_b hw ho.2 hb
      simp only [AV.refB]; omega
    · simp at h
  case sliceS x lo hi =>
    split at h
    · split at h
      · split at h
        · exact vl_wf h hw (some_b (by simp [AV.refB]))
        · simp at h
      · simp at h
    · simp at h
  case slice sz x lo hi =>
    split at h
    · split at h
      · split at h
        · split at h
          · exact vl_wf h hw (some_b (by simp [AV.refB]))
          · simp at h
        · simp at h
      · simp at h
    · simp at h
  case slArr n x lo hi =>
    split at h
    · rename_i r off hv
      split at h
      · split at h
        · have := getO_b hw ho.1.1 hv
          exact vl_wf h hw (some_b (by simpa [AV.refB] using this))
        · simp at h
      · simp at h
    · simp at h
  case fldA off x =>
    split at h
    · rename_i r o hv
      have := getO_b hw ho hv
      exact vl_wf h hw (some_b (by simpa [AV.refB] using this))
    · exact vl_wf h hw (some_b (by simp [AV.refB]))
    · simp at h
  case fld off agg x =>
    split at h
    · rename_i cs hv
      have hb := getO_b hw ho hv
      simp only [AV.refB] at hb
      exact vl_wf h hw fun v e => Nat.le_trans (partA_b e) hb
    · simp at h
  case idxA arr sz x i =>
    split at h
    · split at h
      · simp at h
      · split at h
        · rename_i r off hv
          have := getO_b hw ho.1 hv
          split at h
          · exact vl_wf h hw (some_b (by simpa [AV.refB] using this))
          · simp at h
        · split at h
          · exact vl_wf h hw (some_b (by simp [AV.refB]))
          · simp at h
        · split at h
          · split at h
            · split at h
              · exact vl_wf h hw (some_b (by simp [AV.refB]))
              · simp at h
            · simp at h
          · simp at h
        · simp at h
    · simp at h
  case idxS x i =>
    split at h
    · split at h
      · simp at h
      · refine vl_wf h hw fun v e => ?_
        simp only [Option.map_eq_some_iff] at e
        obtain ⟨t, _, rfl⟩ := e
        simp [AV.refB]
    · simp at h
  case idxV n sz agg x i =>
    split at h
    · rename_i cs m hv _
      have hb := getO_b hw ho.1 hv
      simp only [AV.refB] at hb
      split at h
      · simp at h
      · exact vl_wf h hw fun v e => Nat.le_trans (partA_b e) hb
    · simp at h
  case assertT t zero x =>
    split at h
    · rename_i t' v hv
      have hb := getO_b hw ho.1 hv
      simp only [AV.refB] at hb
      refine vl_wf h hw (some_b ?_)
      split <;> simp [AV.refB, AV.refBs, ho.2, hb]
    · exact vl_wf h hw (some_b (by simp [AV.refB, AV.refBs, ho.2]))
    · simp at h
  case extr x i =>
    split at h
    · rename_i vs hv
      have hb := getO_b hw ho hv
      simp only [AV.refB] at hb
      exact vl_wf h hw fun v e => Nat.le_trans (refB_le_of_get e) hb
    · simp at h
  case call f args =>
    split at h
    · rename_i id first cap vs hf hvs
      have hb := getO_b hw ho.1 hf
      have hb2 := getOs_b hw ho.2 hvs
      simp only [AV.refB] at hb
      have hargs : AV.refBs (AV.bares (first ++ vs ++ cap)) ≤ s.rf.length := by
        rw [refBs_bares]; exact refBs_append_le (refBs_append_le (by omega) hb2) (by omega)
      have wfOf : ∀ {out : Out} {rf : Refs}, C id (AV.bares (first ++ vs ++ cap)) s.rf = some (out, rf) → WF rf0 { s with rf := rf } ∧ out.val.refB ≤ rf.length := fun {out rf} hc => by
        obtain ⟨hl, hrb, hv, hm⟩ := hC _ _ _ _ _ hc hw.rb hargs
        exact ⟨⟨hw.nb, by simp only [hl]; exact hw.le, by simp only [hl]; exact hw.sb, by simp only [hl]; exact hrb,
          fun m hm' h0 => hm m (Nat.le_trans hm' hw.le) (hw.bd m hm' h0), by simp only [hl]; exact hw.db, hw.pb⟩, by simp only [hl]; exact hv⟩
      split at h
      · rename_i v rf hc
        simp only [Option.some.injEq] at h; subst h
        exact wfOf hc
      · rename_i v rf hc
        simp only [Option.some.injEq] at h; subst h
        exact wfOf hc
      · simp at h
    · simp at h
  case callZ f args =>
    split at h
    · rename_i id first cap vs hf hvs
      split at h
      · rename_i hz
        split at h
        · rename_i v rf hc
          simp only [Option.some.injEq] at h; subst h
          have := (hC _ _ _ _ _ hc (fun r cs hr => by simp at hr) (by rw [hz]; exact Nat.le_refl _)).2.2.1
          simp only [Out.val, List.length_nil] at this
          exact ⟨hw, by omega⟩
        · simp at h
      · simp at h
    · simp at h
  case callQ f args =>
    split at h
    · rename_i id first cap vs hf hvs
      have hb := getO_b hw ho.1 hf
      have hb2 := getOs_b hw ho.2 hvs
      simp only [AV.refB] at hb
      have hargs : AV.refBs (AV.bares (first ++ vs ++ cap)) ≤ s.rf.length := by
        rw [refBs_bares]; exact refBs_append_le (refBs_append_le (by omega) hb2) (by omega)
      split at h
      · rename_i v rf hc
        split at h
        · simp only [Option.some.injEq] at h; subst h
          exact ⟨hw, (hC _ _ _ _ _ hc hw.rb hargs).2.2.1⟩
        · simp at h
      · simp at h
    · simp at h
  case lenS x =>
    split at h
    · exact vl_wf h hw (some_b (by simp [AV.refB]))
    · simp at h
  case len x =>
    split at h
    · exact vl_wf h hw (some_b (by simp [AV.refB]))
    · refine vl_wf h hw fun v e => ?_
      simp only [Option.map_eq_some_iff] at e
      obtain ⟨t, _, rfl⟩ := e
      simp [AV.refB]
    · simp at h
  case lenArr n => exact vl_wf h hw (some_b (by simp [AV.refB]))
  case append sz x y =>
    split at h
    · split at h
      · rename_i r hr
        simp only [Option.some.injEq] at h; subst h
        exact ⟨hw.unOwn _, by rw [appendA_b hr]; omega⟩
      · simp at h
    · simp at h
  case copy x y =>
    split at h
    · rename_i r off n v hx hy
      split at h
      · rename_i es cs _ hr
        split at h
        · simp only [Option.some.injEq] at h; subst h
          have e0 : AV.refBs ((es.take (Nat.min es.length n)).map fun e => AV.d (e.headD .nilp)) = 0 := by
            have : ∀ l : List (List D), AV.refBs (l.map fun e => AV.d (e.headD .nilp)) = 0 := fun l => by
              induction l with
              | nil => rfl
              | cons x l ih => simp only [List.map_cons, AV.refBs, AV.refB, ih]; rfl
            exact this _
          refine ⟨hw.setRf (refBs_setRange (hw.rb.get hr) (by rw [e0]; omega)) (fun m hm hrm hbm => ?_), by simp [AV.refB]⟩
          exact refBs_setRange (hbm.get hrm hr) (by rw [e0]; omega)
        · simp at h
      · simp at h
    · simp at h
  case min x y =>
    split at h
    · split at h
      · exact vl_wf h hw (some_b (by simp [AV.refB]))
      · simp at h
    · simp at h
  case max x y =>
    split at h
    · split at h
      · exact vl_wf h hw (some_b (by simp [AV.refB]))
      · simp at h
    · simp at h
  case recover =>
    split at h
    · rename_i v hv
      simp only [Option.some.injEq] at h; subst h
      exact ⟨⟨hw.nb, hw.le, hw.sb, hw.rb, hw.bd, hw.db, fun v e => by simp at e⟩, by rw [refB_strip]; exact Nat.le_trans (hw.pb v hv) hw.le⟩
    · simp only [Option.some.injEq] at h; subst h
      exact ⟨hw, by simp [AV.refB]⟩
    · simp at h
  case defer f args =>
    split at h
    · rename_i id first cap vs hf hvs
      simp only [Option.some.injEq] at h; subst h
      have hb := getO_b hw ho.1 hf
      have hb2 := getOs_b hw ho.2 hvs
      refine ⟨hw.nb, hw.le, hw.sb, hw.rb, hw.bd, fun p hp => ?_, hw.pb⟩
      simp only [List.mem_cons] at hp
      rcases hp with rfl | hp
      · exact ⟨hb, by rw [refBs_bares]; exact hb2⟩
      · exact hw.db p hp
    · simp at h
  case panic x =>
    split at h
    · rename_i t v hv
      simp only [Option.some.injEq] at h; subst h
      exact ⟨hw, getO_b hw ho hv⟩
    · simp at h


theorem putO_wf {rf0 : Refs} {s : St} (hw : WF rf0 s) {dst : Option Nat} {v : AV} (hv : v.refB ≤ s.rf.length) : WF rf0 (putO s dst v) := by
  cases dst with
  | none => exact hw
  | some d => exact hw.putSl hv

def opsCok : List AOp → Bool
  | [] => true
  | o :: r => o.op.cok && opsCok r

def Ex.wf (s : St) : Ex → Prop
  | .pan v => v.refB ≤ s.rf.length
  | _ => True

theorem runOps_wf {C : CallFn} (hC : CallWF C) {rf0 : Refs} : ∀ {l : List AOp} {s : St} {e : Ex} {s' : St}, runOps C l s = some (e, s') → opsCok l = true → WF rf0 s → WF rf0 s' ∧ e.wf s'
  | [], s, e, s', h, _, hw => by
    simp only [runOps, Option.some.injEq, Prod.mk.injEq] at h
    obtain ⟨rfl, rfl⟩ := h
    exact ⟨hw, trivial⟩
  | o :: r, s, e, s', h, ho, hw => by
    simp only [opsCok, Bool.and_eq_true] at ho
    simp only [runOps] at h
    split at h
    · simp at h
    · exact runOps_wf hC h ho.2 (putO_wf hw (by simp [AV.refB, AV.refBs]))
    · split at h
      · rename_i v s1 hs
        have := stepOp_wf hC hs hw ho.1
        exact runOps_wf hC h ho.2 (putO_wf this.1 this.2)
      · rename_i s1 hs
        exact runOps_wf hC h ho.2 (stepOp_wf hC hs hw ho.1 : WF rf0 s1)
      · rename_i v s1 hs
        have := stepOp_wf hC hs hw ho.1
        split at h
        · simp only [Option.some.injEq, Prod.mk.injEq] at h
          obtain ⟨rfl, rfl⟩ := h
          exact this
        · simp at h
      · simp at h

def AC.cok : AC → Bool
  | .ops l => opsCok l
  | .seq a b => a.cok && b.cok
  | .cond c t e => c.cok && t.cok && e.cok
  | .block _ b => b.cok
  | .loop _ b => b.cok
  | .trim _ b => b.cok
  | .scope _ b r => b.cok && r.cok
  | _ => true

theorem keep_get {sl : Slots} {ks : List Nat} {n : Nat} {v : AV} (h : (sl.keep ks).get n = some v) : sl.get n = some v := by
  induction ks with
  | nil => simp [Slots.keep, Slots.get] at h
  | cons k ks ih =>
    simp only [Slots.keep] at h
    split at h
    · rename_i w hw
      simp only [Slots.get] at h
      split at h
      · rename_i he
        subst he
        rw [← h]; exact hw
      · exact ih h
    · exact ih h

theorem get_mem {sl : Slots} {n : Nat} {v : AV} (h : sl.get n = some v) : v ∈ sl.map (·.2) := by
  induction sl with
  | nil => simp [Slots.get] at h
  | cons p sl ih =>
    obtain ⟨k, w⟩ := p
    simp only [Slots.get] at h
    split at h
    · simp only [Option.some.injEq] at h; subst h; simp
    · simp [ih h]

theorem refsB_get {rf : Refs} {r : Nat} {cs : List AV} (h : rf[r]? = some cs) : AV.refBs cs ≤ refsB rf := by
  induction rf generalizing r with
  | nil => simp at h
  | cons y rf ih =>
    cases r with
    | zero => simp only [List.getElem?_cons_zero, Option.some.injEq] at h; subst h; simp only [refsB]; omega
    | succ r => simp only [List.getElem?_cons_succ] at h; have := ih h; simp only [refsB]; omega

theorem dfB_get {l : List (AV × List AV)} {p : AV × List AV} (h : p ∈ l) : p.1.refB ≤ dfB l ∧ AV.refBs p.2 ≤ dfB l := by
  induction l with
  | nil => simp at h
  | cons q l ih =>
    obtain ⟨f, vs⟩ := q
    simp only [List.mem_cons] at h
    simp only [dfB]
    rcases h with rfl | h
    · constructor <;> simp only <;> omega
    · have := ih h; omega

theorem trimLoop_wf {rf0 : Refs} {s : St} (h0 : RB rf0.length rf0) (hw : WF rf0 s) (keep : List Nat) {n : Nat} (hn : rf0.length ≤ n) (hn' : n ≤ s.rf.length) : WF rf0 (s.trimLoop keep n) := by
  unfold St.trimLoop
  simp only
  split
  · rename_i hb
    have hlen : (s.rf.take n).length = n := by simp; omega
    refine ⟨hw.nb, by rw [hlen]; exact hn, fun m v h => ?_, fun r cs h => ?_, fun m hm hm0 r cs hr h => ?_, fun p hp => ?_, hw.pb⟩
    · rw [hlen]
      exact Nat.le_trans (refBs_le_iff.1 (Nat.le_refl _) v (get_mem h)) hb.1
    · rw [hlen]
      rw [List.getElem?_take] at h
      split at h
      · rename_i hr
        by_cases hr0 : r < rf0.length
        · have := (hw.bd rf0.length (Nat.le_refl _) (fun r cs _ hc => h0.get hc)).get hr0 h
          omega
        · have : ((s.rf.take n).drop s.nb)[r - s.nb]? = some cs := by
            rw [List.getElem?_drop, hw.nb, show rf0.length + (r - rf0.length) = r by omega, List.getElem?_take, if_pos hr]; exact h
          exact Nat.le_trans (refsB_get this) hb.2.1
      · simp at h
    · rw [List.getElem?_take] at h
      split at h
      · exact (hw.bd m hm hm0).get hr h
      · simp at h
    · rw [hlen]
      have h1 : p.1.refB ≤ dfB s.df ∧ AV.refBs p.2 ≤ dfB s.df := dfB_get hp
      have := hb.2.2
      constructor <;> omega
  · exact hw.withSl fun m v h => hw.sb m v (keep_get h)


theorem trimLoop_len {s : St} (keep : List Nat) {n : Nat} (hn : n ≤ s.rf.length) : n ≤ (s.trimLoop keep n).rf.length := by
  unfold St.trimLoop
  simp only
  split
  · simp; omega
  · exact hn

theorem runLoop_wf {body : St → Option (Ex × St)} {rf0 : Refs} (h0 : RB rf0.length rf0) {keep : List Nat} {n : Nat} (hn : rf0.length ≤ n)
    (hb : ∀ s e s', body s = some (e, s') → WF rf0 s → WF rf0 s' ∧ e.wf s' ∧ s.rf.length ≤ s'.rf.length) :
    ∀ (k : Nat) (s : St) (e : Ex) (s' : St), runLoop body keep n k s = some (e, s') → WF rf0 s → n ≤ s.rf.length → WF rf0 s' ∧ e.wf s' ∧ n ≤ s'.rf.length
  | 0, s, e, s', h, _, _ => by simp [runLoop] at h
  | k + 1, s, e, s', h, hw, hl => by
    simp only [runLoop] at h
    split at h
    · rename_i s1 hs
      obtain ⟨hw1, _, hl1⟩ := hb _ _ _ hs hw
      exact runLoop_wf h0 hn hb k _ e s' h (trimLoop_wf h0 hw1 keep hn (by omega)) (trimLoop_len keep (by omega))
    · obtain ⟨hw1, he, hl1⟩ := hb _ _ _ h hw
      exact ⟨hw1, he, by omega⟩

def Did.len : Did → Nat
  | .val _ s => s.rf.length
  | .none_ s => s.rf.length
  | .pan _ s => s.rf.length

theorem vl_len {s : St} {v : Option AV} {d : Did} (h : vl s v = some d) : s.rf.length ≤ d.len := by
  unfold vl at h
  simp only [Option.map_eq_some_iff] at h
  obtain ⟨v, _, rfl⟩ := h
  exact Nat.le_refl _

theorem stepOp_len {C : CallFn} (hC : CallWF C) {rf0 : Refs} {s : St} {o : AOpk} {d : Did} (h : stepOp C s o = some d) (hw : WF rf0 s) (ho : o.cok = true) :
    s.rf.length ≤ d.len := by
  cases o <;> simp only [AOpk.cok, Bool.and_eq_true, beq_iff_eq] at ho <;> simp only [stepOp] at h
  case call f args =>
    split at h
    · rename_i id first cap vs hf hvs
      have hb := getO_b hw ho.1 hf
      have hb2 := getOs_b hw ho.2 hvs
      simp only [AV.refB] at hb
      have hargs : AV.refBs (AV.bares (first ++ vs ++ cap)) ≤ s.rf.length := by
        rw [refBs_bares]; exact refBs_append_le (refBs_append_le (by omega) hb2) (by omega)
      split at h
      · rename_i v rf hc
        simp only [Option.some.injEq] at h; subst h
        exact Nat.le_of_eq (hC _ _ _ _ _ hc hw.rb hargs).1.symm
      · rename_i v rf hc
        simp only [Option.some.injEq] at h; subst h
        exact Nat.le_of_eq (hC _ _ _ _ _ hc hw.rb hargs).1.symm
      · simp at h
    · simp at h
  case store sz a v =>
    split at h
    · rename_i p x hp hx
      split at h
      · rename_i rf hrf
        simp only [Option.some.injEq] at h; subst h
        simp only [Did.len, unOwn_rf]
        exact Nat.le_of_eq (hw.storeAt (rawO_b hw ho.2 hx) hrf).2.symm
      · simp at h
    · simp at h
  case storeW sz a v ws =>
    split at h
    · rename_i r off x hp hx
      split at h
      · split at h
        · rename_i rf hrf
          simp only [Option.some.injEq] at h; subst h
          simp only [Did.len, unOwn_rf]
          exact Nat.le_of_eq (hw.storeAt (rawO_b hw ho.1.2 hx) hrf).2.symm
        · simp at h
      · simp at h
    · simp at h
  all_goals first
    | exact vl_len h
    | (repeat' first
        | exact vl_len h
        | (simp at h; done)
        | (simp only [Option.some.injEq] at h; subst h; simp [Did.len, unOwn_rf]; done)
        | split at h)

theorem putO_rf (s : St) (dst : Option Nat) (v : AV) : (putO s dst v).rf = s.rf := by cases dst <;> rfl

theorem runOps_len {C : CallFn} (hC : CallWF C) {rf0 : Refs} : ∀ {l : List AOp} {s : St} {e : Ex} {s' : St}, runOps C l s = some (e, s') → opsCok l = true → WF rf0 s → s.rf.length ≤ s'.rf.length
  | [], s, e, s', h, _, hw => by
    simp only [runOps, Option.some.injEq, Prod.mk.injEq] at h
    obtain ⟨rfl, rfl⟩ := h
    exact Nat.le_refl _
  | o :: r, s, e, s', h, ho, hw => by
    simp only [opsCok, Bool.and_eq_true] at ho
    simp only [runOps] at h
    split at h
    · simp at h
    · have := runOps_len hC h ho.2 (putO_wf hw (by simp [AV.refB, AV.refBs]))
      rwa [putO_rf] at this
    · split at h
      · rename_i v s1 hs
        have h1 := stepOp_wf hC hs hw ho.1
        have h2 := stepOp_len hC hs hw ho.1
        have := runOps_len hC h ho.2 (putO_wf h1.1 h1.2)
        rw [putO_rf] at this
        exact Nat.le_trans h2 this
      · rename_i s1 hs
        have h2 := stepOp_len hC hs hw ho.1
        exact Nat.le_trans h2 (runOps_len hC h ho.2 (stepOp_wf hC hs hw ho.1 : WF rf0 s1))
      · rename_i v s1 hs
        have h2 := stepOp_len hC hs hw ho.1
        split at h
        · simp only [Option.some.injEq, Prod.mk.injEq] at h
          obtain ⟨rfl, rfl⟩ := h
          exact h2
        · simp at h
      · simp at h

theorem run_wf {C : CallFn} (hC : CallWF C) (k : Nat) {rf0 : Refs} (h0 : RB rf0.length rf0) : ∀ {c : AC} {s : St} {e : Ex} {s' : St}, run C k c s = some (e, s') → c.cok = true → WF rf0 s →
    WF rf0 s' ∧ e.wf s' ∧ s.rf.length ≤ s'.rf.length := by
  intro c
  induction c with
  | skip =>
    intro s e s' h _ hw
    simp only [run, Option.some.injEq, Prod.mk.injEq] at h
    obtain ⟨rfl, rfl⟩ := h
    exact ⟨hw, trivial, Nat.le_refl _⟩
  | ops l =>
    intro s e s' h hc hw
    simp only [run] at h
    have := runOps_wf hC h hc hw
    exact ⟨this.1, this.2, runOps_len hC h hc hw⟩
  | seq a b iha ihb =>
    intro s e s' h hc hw
    simp only [AC.cok, Bool.and_eq_true] at hc
    simp only [run] at h
    split at h
    · rename_i s1 hs
      obtain ⟨hw1, _, hl⟩ := iha hs hc.1 hw
      obtain ⟨hw2, he, hl2⟩ := ihb h hc.2 hw1
      exact ⟨hw2, he, Nat.le_trans hl hl2⟩
    · exact iha h hc.1 hw
  | cond c t f iht ihf =>
    intro s e s' h hc hw
    simp only [AC.cok, Bool.and_eq_true] at hc
    simp only [run] at h
    split at h
    · exact iht h hc.1.2 hw
    · exact ihf h hc.2 hw
    · simp at h
  | block id b ih =>
    intro s e s' h hc hw
    simp only [AC.cok] at hc
    simp only [run] at h
    split at h
    · rename_i i s1 hs
      have := ih hs hc hw
      split at h <;> (simp only [Option.some.injEq, Prod.mk.injEq] at h; obtain ⟨rfl, rfl⟩ := h; exact ⟨this.1, trivial, this.2.2⟩)
    · exact ih h hc hw
  | loop keep b ih =>
    intro s e s' h hc hw
    simp only [AC.cok] at hc
    simp only [run] at h
    have := runLoop_wf h0 hw.le (fun s e s' hb hw => ih hb hc hw) k _ e s' h (trimLoop_wf h0 hw keep hw.le (Nat.le_refl _)) (trimLoop_len keep (Nat.le_refl _))
    exact this
  | hole =>
    intro s e s' h _ hw
    simp [run] at h
  | label =>
    intro s e s' h _ hw
    simp only [run, Option.some.injEq, Prod.mk.injEq] at h
    obtain ⟨rfl, rfl⟩ := h
    exact ⟨hw, trivial, Nat.le_refl _⟩
  | goto l =>
    intro s e s' h _ hw
    simp only [run, Option.some.injEq, Prod.mk.injEq] at h
    obtain ⟨rfl, rfl⟩ := h
    exact ⟨hw, trivial, Nat.le_refl _⟩
  | scope l b r ihb ihr =>
    intro s e s' h hc hw
    simp only [AC.cok, Bool.and_eq_true] at hc
    simp only [run] at h
    split at h
    · rename_i i s1 hs
      obtain ⟨hw1, _, hl⟩ := ihb hs hc.1 hw
      split at h
      · split at h
        · cases h
        · obtain ⟨hw2, he, hl2⟩ := ihr h hc.2 hw1
          exact ⟨hw2, he, Nat.le_trans hl hl2⟩
      · cases h
    · exact ihb h hc.1 hw
  | exit id =>
    intro s e s' h _ hw
    simp only [run, Option.some.injEq, Prod.mk.injEq] at h
    obtain ⟨rfl, rfl⟩ := h
    exact ⟨hw, trivial, Nat.le_refl _⟩
  | ret =>
    intro s e s' h _ hw
    simp only [run, Option.some.injEq, Prod.mk.injEq] at h
    obtain ⟨rfl, rfl⟩ := h
    exact ⟨hw, trivial, Nat.le_refl _⟩
  | trim keep b ih =>
    intro s e s' h hc hw
    simp only [AC.cok] at hc
    simp only [run] at h
    split at h
    · rename_i s1 hs
      obtain ⟨hw1, _, hl⟩ := ih hs hc hw
      simp only [Option.some.injEq, Prod.mk.injEq] at h
      obtain ⟨rfl, rfl⟩ := h
      exact ⟨hw1.withSl fun m v h => hw1.sb m v (keep_get h), trivial, hl⟩
    · exact ih h hc hw

theorem enterS_get {args : List AV} {i n : Nat} {v : AV} (h : (enterS args i).get n = some v) : v ∈ args := by
  induction args generalizing i with
  | nil => simp [enterS, Slots.get] at h
  | cons x args ih =>
    simp only [enterS, Slots.get] at h
    split at h
    · simp only [Option.some.injEq] at h; subst h; simp
    · exact List.mem_cons_of_mem _ (ih h)

theorem enter_wf {rf : Refs} (hrb : RB rf.length rf) {args : List AV} (ha : AV.refBs args ≤ rf.length) (m : Option (Option AV)) (hm : ∀ v, m = some (some v) → v.refB ≤ rf.length) :
    WF rf { sl := enterS args 0, rf := rf, pn := m, nb := rf.length } :=
  ⟨rfl, Nat.le_refl _, fun n v h => refBs_le_iff.1 ha v (enterS_get h), hrb, fun m _ h => h, by simp, hm⟩

/-- what is left behind a function: the references of before -/
theorem WF.taken {rf0 : Refs} (h0 : RB rf0.length rf0) {s : St} (hw : WF rf0 s) : (s.rf.take rf0.length).length = rf0.length ∧ RB rf0.length (s.rf.take rf0.length) ∧
    ∀ m, m ≤ rf0.length → RBm m rf0 → RBm m (s.rf.take rf0.length) := by
  have hl : (s.rf.take rf0.length).length = rf0.length := by have := hw.le; simp; omega
  have hm : ∀ m, m ≤ rf0.length → RBm m rf0 → RBm m (s.rf.take rf0.length) := fun m hm h r cs hr hc => by
    rw [List.getElem?_take] at hc
    split at hc
    · exact (hw.bd m hm h).get hr hc
    · simp at hc
  refine ⟨hl, fun r cs hc => ?_, hm⟩
  have hr : r < rf0.length := by
    have := (List.getElem?_eq_some_iff.1 hc).1
    omega
  exact (hm rf0.length (Nat.le_refl _) fun r cs _ hc => h0.get hc).get hr hc

def TabOK (tab : FuncId → Option AFn) : Prop := ∀ f af, tab f = some af → af.body.cok = true

def CallDWF (CD : FuncId → List AV → Option AV → Refs → Option (Out × Option AV × Refs)) : Prop := ∀ f args m rf out m' rf', CD f args m rf = some (out, m', rf') →
  RB rf.length rf → AV.refBs args ≤ rf.length → (∀ v, m = some v → v.refB ≤ rf.length) →
  rf'.length = rf.length ∧ RB rf.length rf' ∧ out.val.refB ≤ rf.length ∧ (∀ v, m' = some v → v.refB ≤ rf.length) ∧ ∀ m, m ≤ rf.length → RBm m rf → RBm m rf'

theorem callD_wf {tab : FuncId → Option AFn} (ht : TabOK tab) {C : CallFn} (hC : CallWF C) (k : Nat) : CallDWF (callD tab C k) := by
  intro f args m rf out m' rf' h hrb ha hm
  unfold callD at h
  split at h
  · simp at h
  · rename_i af haf
    have hw0 := enter_wf hrb ha (some m) (fun v e => hm v (by simpa using e))
    split at h
    · rename_i s hs
      have hw := run_wf hC k hrb hs (ht _ _ haf) hw0
      split at h
      · simp only [Option.some.injEq, Prod.mk.injEq] at h
        obtain ⟨rfl, rfl, rfl⟩ := h
        obtain ⟨a, b, c⟩ := hw.1.taken hrb
        refine ⟨a, b, by simp [Out.val, AV.refB, AV.refBs], fun v e => ?_, c⟩
        cases hp : s.pn with
        | none => simp [hp] at e
        | some u => simp only [hp, Option.getD_some] at e; subst e; exact hw.1.pb v hp
      · simp at h
    · rename_i s hs
      have hw := run_wf hC k hrb hs (ht _ _ haf) hw0
      split at h
      · simp only [Option.some.injEq, Prod.mk.injEq] at h
        obtain ⟨rfl, rfl, rfl⟩ := h
        obtain ⟨a, b, c⟩ := hw.1.taken hrb
        refine ⟨a, b, by simp [Out.val, AV.refB, AV.refBs], fun v e => ?_, c⟩
        cases hp : s.pn with
        | none => simp [hp] at e
        | some u => simp only [hp, Option.getD_some] at e; subst e; exact hw.1.pb v hp
      · simp at h
    · rename_i v s hs
      have hw := run_wf hC k hrb hs (ht _ _ haf) hw0
      split at h
      · rename_i hc
        simp only [Option.some.injEq, Prod.mk.injEq] at h
        obtain ⟨rfl, rfl, rfl⟩ := h
        obtain ⟨a, b, c⟩ := hw.1.taken hrb
        refine ⟨a, b, by simpa [Out.val, refB_bare] using hc.2, fun v e => ?_, c⟩
        cases hp : s.pn with
        | none => simp [hp] at e
        | some u => simp only [hp, Option.getD_some] at e; subst e; exact hw.1.pb v hp
      · simp at h
    · simp at h

theorem WF.withRf {rf0 : Refs} {s : St} (hw : WF rf0 s) {rf : Refs} (hl : rf.length = s.rf.length) (hb : RB s.rf.length rf) (hm : ∀ m, m ≤ s.rf.length → RBm m s.rf → RBm m rf) : WF rf0 { s with rf := rf } :=
  ⟨hw.nb, by simp only [hl]; exact hw.le, by simp only [hl]; exact hw.sb, by simp only [hl]; exact hb, fun m hm' h0 => hm m (Nat.le_trans hm' hw.le) (hw.bd m hm' h0), by simp only [hl]; exact hw.db, hw.pb⟩

theorem leave_wf {CD : FuncId → List AV → Option AV → Refs → Option (Out × Option AV × Refs)} (hCD : CallDWF CD) {af : AFn} {rf0 : Refs} (h0 : RB rf0.length rf0) :
    ∀ {ds : List (AV × List AV)} {m : Option AV} {s : St} {out : Out} {rf : Refs}, leave CD af rf0.length ds m s = some (out, rf) → WF rf0 s →
      (∀ p, p ∈ ds → p.1.refB ≤ s.rf.length ∧ AV.refBs p.2 ≤ s.rf.length) → (∀ v, m = some v → v.refB ≤ s.rf.length) →
      rf.length = rf0.length ∧ RB rf0.length rf ∧ out.val.refB ≤ rf0.length ∧ ∀ m, m ≤ rf0.length → RBm m rf0 → RBm m rf
  | [], some v, s, out, rf, h, hw, _, _ => by
    simp only [leave] at h
    split at h
    · simp only [Option.some.injEq, Prod.mk.injEq] at h
      obtain ⟨rfl, rfl⟩ := h
      obtain ⟨a, b, c⟩ := hw.taken h0
      exact ⟨a, b, by simpa [Out.val, refB_bare], c⟩
    · simp at h
  | [], none, s, out, rf, h, hw, _, _ => by
    simp only [leave] at h
    split at h
    · split at h
      · simp only [Option.some.injEq, Prod.mk.injEq] at h
        obtain ⟨rfl, rfl⟩ := h
        obtain ⟨a, b, c⟩ := hw.taken h0
        exact ⟨a, b, by simpa [Out.val], c⟩
      · simp at h
    · simp at h
  | (f, vs) :: r, m, s, out, rf, h, hw, hd, hm => by
    have hf := hd (f, vs) (by simp)
    cases f <;> try (simp [leave] at h; done)
    rename_i fn first cap
    cases fn <;> try (simp [leave] at h; done)
    rename_i id
    simp only [leave] at h
    simp only [AV.refB] at hf
    have hargs : AV.refBs (AV.bares (first ++ vs ++ cap)) ≤ s.rf.length := by
      rw [refBs_bares]; exact refBs_append_le (refBs_append_le (by omega) hf.2) (by omega)
    split at h
    · rename_i v m' rf1 hc
      obtain ⟨a, b, c, d, e⟩ := hCD _ _ _ _ _ _ _ hc hw.rb hargs hm
      exact leave_wf hCD h0 h (hw.withRf a b e) (fun p hp => by simp only [a]; exact hd p (List.mem_cons_of_mem _ hp)) (by simpa only [a] using d)
    · rename_i v m' rf1 hc
      obtain ⟨a, b, c, d, e⟩ := hCD _ _ _ _ _ _ _ hc hw.rb hargs hm
      exact leave_wf hCD h0 h (hw.withRf a b e) (fun p hp => by simp only [a]; exact hd p (List.mem_cons_of_mem _ hp)) (fun u e => by simp only [Option.some.injEq] at e; subst e; simp only [a]; exact c)
    · simp at h

theorem call_wf {tab tabD : FuncId → Option AFn} (ht : TabOK tab) (htD : TabOK tabD) {orc : FuncId → List AV → Option AV} (ho : ∀ f args v, orc f args = some v → v.refB = 0) : ∀ k, CallWF (call tab tabD orc k)
  | 0 => fun f args rf out rf' h => by simp [call] at h
  | k + 1 => fun f args rf out rf' h hrb ha => by
    have hC := call_wf ht htD ho k
    simp only [call] at h
    split at h
    · rename_i v hv
      simp only [Option.some.injEq, Prod.mk.injEq] at h
      obtain ⟨rfl, rfl⟩ := h
      exact ⟨rfl, hrb, by simp [Out.val, ho _ _ _ hv], fun m _ h => h⟩
    · split at h
      · simp at h
      · rename_i af haf
        have hw0 := enter_wf hrb ha none (fun v e => by simp at e)
        split at h
        · rename_i s hs
          have hw := run_wf hC k hrb hs (ht _ _ haf) hw0
          exact leave_wf (callD_wf htD hC k) hrb h hw.1 hw.1.db (fun v e => by simp at e)
        · rename_i s hs
          have hw := run_wf hC k hrb hs (ht _ _ haf) hw0
          exact leave_wf (callD_wf htD hC k) hrb h hw.1 hw.1.db (fun v e => by simp at e)
        · rename_i v s hs
          have hw := run_wf hC k hrb hs (ht _ _ haf) hw0
          refine leave_wf (callD_wf htD hC k) hrb h hw.1 hw.1.db (fun u e => ?_)
          simp only [Option.some.injEq] at e; subst e
          exact hw.2.1
        · simp at h

end Go.Ab
