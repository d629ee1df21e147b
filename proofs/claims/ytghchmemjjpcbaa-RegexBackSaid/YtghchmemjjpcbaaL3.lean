/- A part of the proof: tools. No condition. -/
import Derived.Test.YtghchmemjjpcbaaL2
import Derived.RangeFuncIn
import Derived.LoopNIn
import Derived.OpenShut
import Derived.JoinedCond
import Derived.ShutString
set_option linter.all false
namespace Go.Ab
inductive Res (T : Tb) (s : St) (o : AOpk) (kv : AV → KN) (kn : KN) (kp : AV → KN) : Prop
 | val (k : Nat) (v : AV) (sl : Slots) (rf : Refs) (df : DF) (pn : PN) (h : stepOp (T.C k) s o = some (.val v ⟨sl, rf, df, pn, s.nb⟩)) (h' : kv v sl rf df pn)
 | none_ (k : Nat) (sl : Slots) (rf : Refs) (df : DF) (pn : PN) (h : stepOp (T.C k) s o = some (.none_ ⟨sl, rf, df, pn, s.nb⟩)) (h' : kn sl rf df pn)
 | pan (k : Nat) (v : AV) (sl : Slots) (rf : Refs) (df : DF) (pn : PN) (h : stepOp (T.C k) s o = some (.pan v ⟨sl, rf, df, pn, s.nb⟩)) (h' : kp v sl rf df pn)
section
variable {T : Tb} {sl : Slots} {rf : Refs} {df : DF} {pn : PN} {nb : Nat} {kv : AV → KN} {kn : KN} {kp : AV → KN}
theorem res_vl {o : AOpk} {v : AV} (hs : stepOp (T.C 0) ⟨sl, rf, df, pn, nb⟩ o = vl ⟨sl, rf, df, pn, nb⟩ (some v)) (h : kv v sl rf df pn) : Res T ⟨sl, rf, df, pn, nb⟩ o kv kn kp :=
 .val 0 v sl rf df pn hs h
set_option maxHeartbeats 4000000 in
theorem vop_res {o : AOpk} (h : vop T o sl rf df pn nb kv kn kp) : Res T ⟨sl, rf, df, pn, nb⟩ o kv kn kp := by
 cases o <;> simp only [vop] at h
 case mov x =>
  obtain ⟨v, h1, h2⟩ := gv_el h
  exact res_vl (by simp only [stepOp, h1]) h2
 case take t =>
  obtain ⟨v, h1, h2⟩ := lk_el h
  obtain ⟨sl', h3, h4⟩ := unK_el (rf := rf) (df := df) (pn := pn) (nb := nb) h2 h1
  exact .val 0 v sl' rf df pn (by simp only [stepOp, h1, h3]) h4
 case asg x =>
  obtain ⟨v, h1, h2⟩ := raw_el h
  obtain ⟨sl', h3, h4⟩ := unK_el (rf := rf) (df := df) (pn := pn) (nb := nb) h2 h1
  exact .val 0 v sl' rf df pn (by simp only [stepOp, h1, h3]) h4
 case pick c a b =>
  obtain ⟨v, h1, h2⟩ := gv_el h
  cases v with
  | d x =>
    cases x with
    | bool t =>
      have h3 := h2 ()
      cases t with
      | true =>
        obtain ⟨w, h4, h5⟩ := gv_el (h3.h1 rfl)
        exact res_vl (v := w) (by simp only [stepOp, h1, if_true, h4]) (setO_el h5 h1)
      | false =>
        obtain ⟨w, h4, h5⟩ := gv_el (h3.h2 rfl)
        exact res_vl (v := w) (by simp [stepOp, h1, h4]) (setO_el h5 h1)
    | _ => exact h2.elim
  | _ => exact h2.elim
 case alloc cells =>
  have h2 := appK_el (lenK_el h)
  rw [Nat.zero_add] at h2
  exact .val 0 _ sl _ df pn (by simp only [stepOp]) h2
 case box x =>
  obtain ⟨v, h1, h2⟩ := gv_el h
  obtain ⟨h3, h4⟩ := cellsK_el h2
  have h5 := appK_el (lenK_el h4)
  rw [Nat.zero_add] at h5
  exact .val 0 _ sl _ df pn (by simp only [stepOp, h1, h3, if_true]) h5
 case build zero parts =>
  obtain ⟨cs, h1, h2⟩ := fillK_el h
  exact res_vl (by simp only [stepOp, h1, Option.map_some]) h2
 case mkls sz zero parts =>
  obtain ⟨cs, h1, h2⟩ := fillK_el h
  obtain ⟨ds, h3, h4⟩ := toDsK_el h2
  obtain ⟨h5, h6⟩ := ifK_el (lenK_el h4)
  have h7 := chK_el h6
  simp only [Nat.zero_add, Bool.and_eq_true] at h5 h7
  refine res_vl (v := .own (chunks sz (ds.length / sz) ds)) ?_ h7
  simp only [stepOp, h1, h3]
  rw [if_pos ⟨Nat.le_of_ble_eq_true h5.1, Nat.le_of_ble_eq_true h5.2⟩]
 case load agg a =>
  obtain ⟨p, h1, h2⟩ := gv_el h
  obtain ⟨v, h3, h4⟩ := ldK_el h2
  exact res_vl (by simp only [stepOp, h1, h3, Option.map_some]) (fz_el h4)
 case loadB agg a base =>
  obtain ⟨p, h1, h2⟩ := gv_el h
  obtain ⟨q, h3, h4⟩ := gv_el h2
  cases p with
  | ptr r off =>
    cases q with
    | ptr r' off' =>
      obtain ⟨h5, h6⟩ := ifK_el h4
      obtain ⟨v, h7, h8⟩ := ldK_el h6
      have h9 := Nat.eq_of_beq_eq_true h5
      exact res_vl (by simp only [stepOp, h1, h3, h9, if_true]; rw [← h9, h7]; rfl) (fz_el h8)
    | _ => exact h4.elim
  | _ => cases q <;> exact h4.elim
 case takeload a =>
  obtain ⟨p, h1, h2⟩ := gv_el h
  cases p with
  | ptr r off =>
    obtain ⟨cs, h3, h4⟩ := nthK_el h2
    obtain ⟨v, h5, h6⟩ := nthK_el h4
    have h7 := setK_el (setK_el (fz_el h6))
    exact .val 0 v sl _ df pn (by simp only [stepOp, h1, loadAt, h3, h5]) h7
  | _ => exact h2.elim
 case store sz a v =>
  obtain ⟨p, h1, h2⟩ := gv_el h
  obtain ⟨x, h3, h4⟩ := raw_el h2
  obtain ⟨rf', h5, h6⟩ := stK_el h4
  obtain ⟨sl', h7, h8⟩ := unK_el (rf := rf') (df := df) (pn := pn) (nb := nb) h6 h3
  exact .none_ 0 sl' rf' df pn (by simp only [stepOp, h1, h3, h5, h7]) h8
 case storeW sz a v ws =>
  obtain ⟨p, h1, h2⟩ := gv_el h
  obtain ⟨x, h3, h4⟩ := raw_el h2
  cases p with
  | ptr r off =>
    obtain ⟨h9, h4⟩ := apK_el h4
    obtain ⟨rf', h5, h6⟩ := stK_el h4
    obtain ⟨sl', h7, h8⟩ := unK_el (rf := rf') (df := df) (pn := pn) (nb := nb) h6 h3
    exact .none_ 0 sl' rf' df pn (by simp only [stepOp, h1, h3, h5, h7, h9, if_true]) h8
  | _ => exact h4.elim
 case nilchk x =>
  obtain ⟨v, h1, h2⟩ := gv_el h
  cases v with
  | ptr r off => exact res_vl (by simp only [stepOp, h1]) h2
  | ept cs off => exact res_vl (by simp only [stepOp, h1]) h2
  | fn f a b =>
    cases f <;> first
     | exact h2.elim
     | exact res_vl (by simp only [stepOp, h1]) h2
  | _ => exact h2.elim
 case bin op x y =>
  obtain ⟨a, h1, h2⟩ := gv_el h
  obtain ⟨b, h3, h4⟩ := gv_el h2
  obtain ⟨v, h5, h6⟩ := vbin_el h4
  exact res_vl (by simp only [stepOp, h1, h3, h5]) h6
 case beq ne x y =>
  obtain ⟨a, h1, h2⟩ := gv_el h
  obtain ⟨b, h3, h4⟩ := gv_el h2
  cases a with
  | d a =>
    cases a with
    | bool a =>
      cases b with
      | d b =>
        cases b with
        | bool b => exact res_vl (by simp only [stepOp, h1, h3]) h4
        | _ => exact h4.elim
      | _ => exact h4.elim
    | _ => exact h4.elim
  | _ => exact h4.elim
 case eqc ne ks x y =>
  obtain ⟨a, h1, h2⟩ := gv_el h
  obtain ⟨b, h3, h4⟩ := gv_el h2
  cases a with
  | agg a =>
    cases b with
    | agg b =>
      obtain ⟨t, h5, h6⟩ := h4 ()
      exact res_vl (by simp only [stepOp, h1, h3, h5, Option.map_some]) h6
    | _ => exact h4.elim
  | _ => exact h4.elim
 case eqnil nk ne x =>
  obtain ⟨a, h1, h2⟩ := gv_el h
  obtain ⟨t, h5, h6⟩ := h2 ()
  exact res_vl (by simp only [stepOp, h1, h5, Option.map_some]) h6
 case un op x =>
  obtain ⟨a, h1, h2⟩ := gv_el h
  cases a with
  | d a =>
    cases op <;> cases a <;> first
     | exact h2.elim
     | exact res_vl (by simp only [stepOp, h1, unA]) h2
     | exact res_vl (by simp only [stepOp, h1, unA]) (h2 ()).h
     | (obtain ⟨n, h5, h6⟩ := h2 ()
        exact res_vl (by simp only [stepOp, h1, h5]) h6)
  | _ => cases op <;> exact h2.elim
 case toInt k x =>
  obtain ⟨a, h1, h2⟩ := gv_el h
  cases a with
  | d a =>
    cases a with
    | int q n => exact res_vl (by simp only [stepOp, h1]) (h2 ()).h
    | _ => exact h2.elim
  | _ => exact h2.elim
 case ident x =>
  obtain ⟨a, h1, h2⟩ := gv_el h
  cases a with
  | d a =>
    cases a with
    | str l => exact res_vl (by simp only [stepOp, h1]) h2
    | _ => exact h2.elim
  | _ => exact h2.elim
 case same x =>
  obtain ⟨a, h1, h2⟩ := raw_el h
  cases a with
  | own l =>
    cases l with
    | nil => exact h2.elim
    | cons e es =>
      obtain ⟨sl', h7, h8⟩ := unK_el (rf := rf) (df := df) (pn := pn) (nb := nb) h2 h1
      exact .val 0 _ sl' rf df pn (by simp only [stepOp, h1, h7]) h8
  | _ => exact h2.elim
 case strBytes x =>
  obtain ⟨a, h1, h2⟩ := gv_el h
  cases a with
  | d a =>
    cases a with
    | str l =>
      have h3 := h2 ()
      cases l with
      | nil => exact res_vl (by simp only [stepOp, h1]) (h3.h0 rfl)
      | cons c l => exact res_vl (by simp only [stepOp, h1]) (h3.h1 (by simp))
    | _ => exact h2.elim
  | _ => exact h2.elim
 case bytesStr x =>
  obtain ⟨a, h1, h2⟩ := gv_el h
  obtain ⟨es, h3, h4⟩ := listK_el h2
  obtain ⟨l, h5, h6⟩ := h4 ()
  exact res_vl (by simp only [stepOp, h1, h3, h5, Option.map_some]) h6
 case mkifc t x =>
  obtain ⟨a, h1, h2⟩ := gv_el h
  exact res_vl (by simp only [stepOp, h1]) h2
 case mkfn f first cap =>
  obtain ⟨a, h1, h2⟩ := gvs_el h
  obtain ⟨b, h3, h4⟩ := gvs_el h2
  exact res_vl (by simp only [stepOp, h1, h3]) h4
 case sliceS x lo hi =>
  obtain ⟨a, h1, h2⟩ := gv_el h
  cases a with
  | d a =>
    cases a with
    | str l =>
      obtain ⟨o, h3, h4⟩ := optK_el h2
      obtain ⟨o', h5, h6⟩ := optK_el h4
      obtain ⟨i, j, h7, h8, h9, h10, h11⟩ := h6 ()
      refine res_vl ?_ h11
      simp only [stepOp, h1]
      rw [h3 0 i h7, h5 _ j h8]
      simp only [h9, h10, and_self, if_true]
    | _ => exact h2.elim
  | _ => exact h2.elim
 case slice sz x lo hi =>
  obtain ⟨a, h1, h2⟩ := gv_el h
  obtain ⟨l, h12, h13⟩ := listK_el h2
  obtain ⟨o, h3, h4⟩ := optK_el h13
  obtain ⟨o', h5, h6⟩ := optK_el h4
  obtain ⟨i, j, h7, h8, h9, h10, h14, h11⟩ := h6 ()
  refine res_vl ?_ h11
  simp only [stepOp, h1, h12]
  rw [h3 0 i h7, h5 _ j h8]
  simp only [h9, h10, h14, and_self, if_true]
 case slArr n x lo hi =>
  obtain ⟨a, h1, h2⟩ := gv_el h
  cases a with
  | ptr r off =>
    obtain ⟨o, h3, h4⟩ := optK_el h2
    obtain ⟨o', h5, h6⟩ := optK_el h4
    obtain ⟨i, j, h7, h8, h9, h10, h11⟩ := h6 ()
    refine res_vl ?_ h11
    simp only [stepOp, h1]
    rw [h3 0 i h7, h5 _ j h8]
    simp only [h9, h10, and_self, if_true]
  | _ => exact h2.elim
 case fldA off x =>
  obtain ⟨a, h1, h2⟩ := gv_el h
  cases a <;> first
   | exact h2.elim
   | exact res_vl (by simp only [stepOp, h1]) h2
 case fld off agg x =>
  obtain ⟨a, h1, h2⟩ := gv_el h
  cases a with
  | agg cs =>
    obtain ⟨v, h3, h4⟩ := partK_el h2
    exact res_vl (by simp only [stepOp, h1, h3]) h4
  | _ => exact h2.elim
 case idxA arr sz x i =>
  obtain ⟨iv, h1, h2⟩ := gv_el h
  obtain ⟨a, h3, h4⟩ := gv_el h2
  cases iv with
  | d iv =>
    cases iv with
    | int q n =>
      cases arr with
      | some m =>
        cases a <;> first
         | exact h4.elim
         | (obtain ⟨j, h5, h6, h7⟩ := h4 ()
            refine res_vl ?_ h7
            subst h5
            simp only [stepOp, h1, h3]
            rw [if_neg (by omega), if_pos (by omega), Int.toNat_natCast])
      | none =>
        obtain ⟨es, h5, h6⟩ := listK_el h4
        obtain ⟨j, cs, h7, h8, h9, h10⟩ := h6 ()
        refine res_vl ?_ h10
        subst h7
        simp only [stepOp, h1, h3]
        rw [if_neg (by omega)]
        simp only [h5, Int.toNat_natCast, h8, h9, if_true]
    | _ => cases arr <;> exact h4.elim
  | _ => cases arr <;> exact h4.elim
 case idxS x i =>
  obtain ⟨a, h1, h2⟩ := gv_el h
  obtain ⟨iv, h3, h4⟩ := gv_el h2
  cases a with
  | d a =>
    cases a with
    | str l =>
      cases iv with
      | d iv =>
        cases iv with
        | int q n =>
          obtain ⟨j, b, h7, h8, h9⟩ := h4 ()
          refine res_vl ?_ h9
          subst h7
          simp only [stepOp, h1, h3]
          rw [if_neg (by omega)]
          simp only [Int.toNat_natCast, h8, Option.map_some]
        | _ => exact h4.elim
      | _ => exact h4.elim
    | _ => cases iv <;> exact h4.elim
  | _ => cases iv <;> exact h4.elim
 case idxV m sz agg x i =>
  obtain ⟨a, h1, h2⟩ := gv_el h
  obtain ⟨iv, h3, h4⟩ := gv_el h2
  cases a with
  | agg cs =>
    cases iv with
    | d iv =>
      cases iv with
      | int q n =>
        obtain ⟨j, h7, h8, h9⟩ := h4 ()
        obtain ⟨v, h10, h11⟩ := partK_el h9
        refine res_vl ?_ h11
        subst h7
        simp only [stepOp, h1, h3]
        rw [if_neg (by omega)]
        simp only [Int.toNat_natCast, h10]
      | _ => exact h4.elim
    | _ => exact h4.elim
  | _ => cases iv <;> exact h4.elim
 case assertT t zero x =>
  obtain ⟨a, h1, h2⟩ := gv_el h
  cases a with
  | ifc t' v =>
    simp only at h2
    split at h2 <;> rename_i hb
    ·have := Nat.eq_of_beq_eq_true hb
     exact res_vl (by simp only [stepOp, h1, this, if_true]) h2
    ·have hne : t' ≠ t := by intro e; subst e; simp at hb
     exact res_vl (by simp only [stepOp, h1, hne, if_false]) h2
  | d y =>
    cases y <;> first
     | exact h2.elim
     | exact res_vl (by simp only [stepOp, h1]) h2
  | _ => exact h2.elim
 case extr x i =>
  obtain ⟨a, h1, h2⟩ := gv_el h
  cases a with
  | tup vs =>
    obtain ⟨v, h3, h4⟩ := nthK_el h2
    exact res_vl (by simp only [stepOp, h1, h3]) h4
  | _ => exact h2.elim
 case call f args =>
  obtain ⟨id, first, cap, vs, h1, h2, o, rf', ⟨k, h3⟩, h4⟩ := callK_el h
  cases o with
  | ret v => exact .val k v sl rf' df pn (by simp only [stepOp, h1, h2, h3]) h4
  | pan v => exact .pan k v sl rf' df pn (by simp only [stepOp, h1, h2, h3]) h4
 case callZ f args =>
  obtain ⟨v, h1, h2⟩ := gv_el h
  cases v with
  | fn g a b =>
    cases g with
    | func id =>
      obtain ⟨vs, h3, h4⟩ := gvs_el h2
      obtain ⟨h5, h6⟩ := ifK_el (bargsK_el (ccK_el (ccK_el h4)))
      rw [← List.append_assoc] at h5 h6
      have h7 := Nat.eq_of_beq_eq_true h5
      obtain ⟨o, rf', ⟨k, h8⟩, h9⟩ := h6 ()
      cases o with
      | ret v => exact .val k v sl rf df pn (by simp only [stepOp, h1, h3, h7, if_true, h8]) h9
      | pan v => exact h9.elim
    | _ => exact h2.elim
  | _ => exact h2.elim
 case callQ f args =>
  obtain ⟨id, first, cap, vs, h1, h2, o, rf', ⟨k, h3⟩, h4⟩ := callK_el h
  cases o with
  | ret v =>
    obtain ⟨rfl, h5⟩ := h4
    exact .val k v sl rf' df pn (by simp only [stepOp, h1, h2, h3, sameRf_refl, if_true]) h5
  | pan v => exact h4.elim
 case lenS x =>
  obtain ⟨a, h1, h2⟩ := gv_el h
  cases a with
  | d a =>
    cases a with
    | str l => exact res_vl (by simp only [stepOp, h1]) h2
    | _ => exact h2.elim
  | _ => exact h2.elim
 case len x =>
  obtain ⟨a, h1, h2⟩ := gv_el h
  cases a with
  | d a =>
    cases a with
    | lst es => exact res_vl (by simp only [stepOp, h1, AV.list?, Option.map_some]) h2
    | _ => exact h2.elim
  | nil => exact res_vl (by simp only [stepOp, h1, AV.list?, Option.map_some, List.length_nil]) h2
  | sref r o n => exact res_vl (by simp only [stepOp, h1]) h2
  | _ => exact h2.elim
 case lenArr n => exact res_vl (by simp only [stepOp]) h
 case append sz x y =>
  obtain ⟨a, h1, h2⟩ := raw_el h
  obtain ⟨b, h3, h4⟩ := gv_el h2
  obtain ⟨ys, h5, h6⟩ := elemsK_el h4
  cases a with
  | own es =>
    obtain ⟨h7, h8, h9, h10⟩ := h6 ()
    obtain ⟨sl', h11, h12⟩ := unK_el (rf := rf) (df := df) (pn := pn) (nb := nb) h10 h1
    exact .val 0 _ sl' rf df pn (by simp only [stepOp, h1, h3, appendA, h5, h7, h8, h9, and_self, if_true, h11]) h12
  | nil =>
    obtain ⟨h7, h8, h9, h10⟩ := h6 ()
    have hu : unOwn ⟨sl, rf, df, pn, nb⟩ x = ⟨sl, rf, df, pn, nb⟩ := unOwn_ne h1 (fun es e => by cases e)
    cases ys with
    | nil => exact .val 0 _ sl rf df pn (by simp only [stepOp, h1, h3, appendA, h5, h7, h8, and_self, if_true, hu]) (h9 rfl)
    | cons y ys => exact .val 0 _ sl rf df pn (by simp only [stepOp, h1, h3, appendA, h5, h7, h8, and_self, if_true, hu]) (h10 (by simp))
  | _ => exact h6.elim
 case copy x y =>
  obtain ⟨a, h1, h2⟩ := gv_el h
  obtain ⟨b, h3, h4⟩ := gv_el h2
  cases a with
  | sref r off n =>
    obtain ⟨es, h5, h6⟩ := listK_el h4
    obtain ⟨cs, h7, h8⟩ := nthK_el h6
    obtain ⟨h9, h10, h11⟩ := h8 ()
    have h12 := setK_el h11
    refine .val 0 _ sl _ df pn ?_ h12
    simp only [stepOp, h1, h3, h5, h7]
    rw [if_pos ⟨h9, h10⟩]
  | _ => exact h4.elim
 case min x y =>
  obtain ⟨a, h1, h2⟩ := gv_el h
  obtain ⟨b, h3, h4⟩ := gv_el h2
  cases a with
  | d a =>
    cases a with
    | int q a =>
      cases b with
      | d b =>
        cases b with
        | int q' b =>
          obtain ⟨h5, h6⟩ := ifK_el h4
          have h7 : q = q' := of_decide_eq_true h5
          refine res_vl (v := .d (.int q (min a b))) ?_ h6
          simp only [stepOp, h1, h3, h7, if_true]
          congr 4
          omega
        | _ => exact h4.elim
      | _ => exact h4.elim
    | _ => cases b <;> exact h4.elim
  | _ => cases b <;> exact h4.elim
 case max x y =>
  obtain ⟨a, h1, h2⟩ := gv_el h
  obtain ⟨b, h3, h4⟩ := gv_el h2
  cases a with
  | d a =>
    cases a with
    | int q a =>
      cases b with
      | d b =>
        cases b with
        | int q' b =>
          obtain ⟨h5, h6⟩ := ifK_el h4
          have h7 : q = q' := of_decide_eq_true h5
          refine res_vl (v := .d (.int q (max a b))) ?_ h6
          simp only [stepOp, h1, h3, h7, if_true]
          congr 4
          omega
        | _ => exact h4.elim
      | _ => exact h4.elim
    | _ => cases b <;> exact h4.elim
  | _ => cases b <;> exact h4.elim
 case recover =>
  cases pn with
  | none => exact h.elim
  | some m =>
    cases m with
    | none => exact .val 0 _ sl rf df _ (by simp only [stepOp]) h
    | some v => exact .val 0 _ sl rf df _ (by simp only [stepOp]) (fz_el h)
 case defer f args =>
  obtain ⟨v, h1, h2⟩ := gv_el h
  cases v with
  | fn g a b =>
    cases g with
    | func id =>
      obtain ⟨vs, h3, h4⟩ := gvs_el h2
      exact .none_ 0 sl rf _ pn (by simp only [stepOp, h1, h3]) (baresK_el h4)
    | _ => exact h2.elim
  | _ => exact h2.elim
 case panic x =>
  obtain ⟨a, h1, h2⟩ := gv_el h
  cases a with
  | ifc t v => exact .pan 0 _ sl rf df pn (by simp only [stepOp, h1]) h2
  | _ => exact h2.elim
theorem putK_el {dst : Option Nat} {v : AV} {k : Slots → Prop} (h : putK dst v sl k) : ∃ sl', putO ⟨sl, rf, df, pn, nb⟩ dst v = ⟨sl', rf, df, pn, nb⟩ ∧ k sl' := by
 cases dst with
 | none => exact ⟨sl, rfl, h⟩
 | some d => exact ⟨_, rfl, h⟩
def NS (nb : Nat) (N : KN) : St → Prop := fun s => s.nb = nb ∧ N s.sl s.rf s.df s.pn
def XS (nb : Nat) (X : KX) : Ex → St → Prop := fun e s => s.nb = nb ∧ X e s.sl s.rf s.df s.pn
theorem stepK {s : St} {o : AOpk} {d : Did} {k k' : Nat} (h : stepOp (T.C k) s o = some d) (hk : k ≤ k') : stepOp (T.C k') s o = some d := stepOp_mono (call_le hk) h
variable {N : KN} {X : KX}
theorem vop_ops {dst : Option Nat} {o : AOpk} {g : Option (Nat × Bool)} {may : Bool} {r : List AOp} (hg : wantedA ⟨sl, rf, df, pn, nb⟩ g = some true)
  (ih : ∀ sl rf df pn, vops T nb N X r sl rf df pn → OP T r ⟨sl, rf, df, pn, nb⟩ (NS nb N) (XS nb X))
  (h : onN T nb dst o may (vops T nb N X r) X sl rf df pn) : OP T (⟨dst, o, g, may⟩ :: r) ⟨sl, rf, df, pn, nb⟩ (NS nb N) (XS nb X) := by
 cases vop_res h with
 | val k v sl' rf' df' pn' h1 h2 =>
   obtain ⟨sl2, h3, h4⟩ := putK_el (rf := rf') (df := df') (pn := pn') (nb := nb) h2
   obtain ⟨k', e, s', h5, h6⟩ := ih _ _ _ _ h4
   refine ⟨max k k', e, s', ?_, h6⟩
   simp only [runOps, hg]
   rw [stepK h1 (Nat.le_max_left _ _)]
   simp only [h3]
   exact opsK h5 (Nat.le_max_right _ _)
 | none_ k sl' rf' df' pn' h1 h2 =>
   obtain ⟨k', e, s', h5, h6⟩ := ih _ _ _ _ h2
   refine ⟨max k k', e, s', ?_, h6⟩
   simp only [runOps, hg]
   rw [stepK h1 (Nat.le_max_left _ _)]
   exact opsK h5 (Nat.le_max_right _ _)
 | pan k v sl' rf' df' pn' h1 h2 =>
   obtain ⟨h3, h4⟩ := ifK_el h2
   refine ⟨k, .pan v, ⟨sl', rf', df', pn', nb⟩, ?_, rfl, h4⟩
   simp only [runOps, hg, h1, h3, if_true]
theorem vops_op : ∀ {l : List AOp} {sl : Slots} {rf : Refs} {df : DF} {pn : PN}, vops T nb N X l sl rf df pn → OP T l ⟨sl, rf, df, pn, nb⟩ (NS nb N) (XS nb X)
 | [], sl, rf, df, pn, h => op_nil ⟨rfl, h⟩
 | ⟨dst, o, none, may⟩ :: r, sl, rf, df, pn, h => vop_ops rfl (fun _ _ _ _ h => vops_op h) h
 | ⟨dst, o, some (t, w), may⟩ :: r, sl, rf, df, pn, h => by
   obtain ⟨g, h1, h2⟩ := lk_el h
   have hoff : ∀ {x : AV}, sl.get t = some x → wantedA ⟨sl, rf, df, pn, nb⟩ (some (t, w)) = some false → offN dst (vops T nb N X r) sl rf df pn →
     OP T (⟨dst, o, some (t, w), may⟩ :: r) ⟨sl, rf, df, pn, nb⟩ (NS nb N) (XS nb X) := fun _ hw h => by
    obtain ⟨sl2, h3, h4⟩ := putK_el (rf := rf) (df := df) (pn := pn) (nb := nb) h
    refine op_off hw ?_
    rw [h3]
    exact vops_op h4
   cases g with
   | d x =>
     cases x with
     | bool x =>
       have hw : wantedA ⟨sl, rf, df, pn, nb⟩ (some (t, w)) = some (x == w) := by simp only [wantedA, h1]
       cases w with
       | true =>
         have h3 := h2 ()
         cases x with
         | true => exact vop_ops hw (fun _ _ _ _ h => vops_op h) (setB_el (h3.h1 rfl) h1)
         | false => exact hoff h1 hw (setB_el (h3.h2 rfl) h1)
       | false =>
         have h3 := h2 ()
         cases x with
         | true => exact hoff h1 hw (setB_el (h3.h1 rfl) h1)
         | false => exact vop_ops hw (fun _ _ _ _ h => vops_op h) (setB_el (h3.h2 rfl) h1)
     | _ => exact h2.elim
   | tup vs =>
     cases vs with
     | nil => exact hoff h1 (by simp only [wantedA, h1]) h2
     | cons a b => exact h2.elim
   | _ => exact h2.elim
end
section
variable {T : Tb} {nb : Nat}
theorem vc_wp' : ∀ (c : AC) (N : KN) (X : KX) (sl : Slots) (rf : Refs) (df : DF) (pn : PN), vc T nb c N X sl rf df pn → WP T c ⟨sl, rf, df, pn, nb⟩ (NS nb N) (XS nb X)
 | .skip, N, X, sl, rf, df, pn, h => wp_skip ⟨rfl, h⟩
 | .ops l, N, X, sl, rf, df, pn, h => wp_ops (vops_op h)
 | .seq a b, N, X, sl, rf, df, pn, h => by
   refine wp_seq ((vc_wp' a _ _ _ _ _ _ h).mono (fun s h1 => ?_) (fun e s h1 => h1))
   obtain ⟨sl', rf', df', pn', nb'⟩ := s
   obtain ⟨h3, h2⟩ := h1
   have h3 := h3.symm
   simp only at h3
   subst h3
   exact vc_wp' b _ _ _ _ _ _ h2
 | .cond c t e, N, X, sl, rf, df, pn, h => by
   obtain ⟨v, h1, h2⟩ := gv_el h
   cases v with
   | d x =>
     cases x with
     | bool x =>
       have h3 := h2 ()
       exact wp_cond h1 (fun q => vc_wp' t _ _ _ _ _ _ (setO_el (h3.h1 q) (q ▸ h1))) (fun q => vc_wp' e _ _ _ _ _ _ (setO_el (h3.h2 q) (q ▸ h1)))
     | _ => exact h2.elim
   | _ => exact h2.elim
 | .block i b, N, X, sl, rf, df, pn, h => by
   refine wp_block ((vc_wp' b _ _ _ _ _ _ h).mono (fun s h1 => h1) (fun e s h1 => ?_))
   obtain ⟨h1, h2⟩ := h1
   cases e with
   | exit j =>
     simp only [blkX] at h2
     split at h2 <;> rename_i hb
     ·have := Nat.eq_of_beq_eq_true hb
      subst this
      exact bx_here ⟨h1, h2⟩
     ·exact bx_exit (show (j == i) = false from by have hb : Nat.beq j i = false := hb; simpa using fun e : j = i => by subst e; simp at hb) ⟨h1, h2⟩
   | nrm => exact ⟨⟨h1, h2⟩⟩
   | ret => exact ⟨⟨h1, h2⟩⟩
   | goto l => exact ⟨⟨h1, h2⟩⟩
   | pan v => exact ⟨⟨h1, h2⟩⟩
 | .loop keep b, N, X, sl, rf, df, pn, h => by
   obtain ⟨k, e, s', h1, h2⟩ := (keepK_el h ()).1
   have h3 : (⟨sl, rf, df, pn, nb⟩ : St).trimLoop keep rf.length = ⟨sl.keep keep, rf, df, pn, nb⟩ := by
    unfold St.trimLoop
    simp only [List.take_length, ite_self]
   refine ⟨k, e, s', by simp only [run, h3]; exact h1, ?_⟩
   cases e with
   | nrm =>
     exfalso
     have key : ∀ (k' : Nat) (s : St), runLoop (run (T.C k) k b) keep rf.length k' s = some (.nrm, s') → False := by
      intro k'
      induction k' with
      | zero => intro s h; simp [runLoop] at h
      | succ k' ih =>
        intro s h
        simp only [runLoop] at h
        split at h
        ·exact ih _ h
        ·rename_i hn; exact hn _ h
     exact key _ _ h1
   | _ => exact h2
 | .exit i, N, X, sl, rf, df, pn, h => wp_exit ⟨rfl, h⟩
 | .ret, N, X, sl, rf, df, pn, h => wp_ret ⟨rfl, h⟩
 | .trim keep b, N, X, sl, rf, df, pn, h => by
   refine wp_trim ((vc_wp' b _ _ _ _ _ _ h).mono (fun s h1 => ?_) (fun e s h1 => h1))
   exact ⟨h1.1, keepK_el h1.2⟩
 | .hole, N, X, sl, rf, df, pn, h => nomatch (h ())
 | .label, N, X, sl, rf, df, pn, h => wp_label' ⟨rfl, h⟩
 | .goto l, N, X, sl, rf, df, pn, h => wp_goto' ⟨rfl, h⟩
 | .scope l b r, N, X, sl, rf, df, pn, h => by
   refine wp_scope ((vc_wp' b _ _ _ _ _ _ h).mono (fun s h1 => h1) (fun e s h1 => ?_))
   obtain ⟨h1, h2⟩ := h1
   cases e with
   | goto j =>
     simp only [scoX] at h2
     split at h2 <;> rename_i hb
     ·have := Nat.eq_of_beq_eq_true hb
      subst this
      refine sx_goto ?_
      obtain ⟨sl', rf', df', pn', nb'⟩ := s
      have h1 := h1.symm
      simp only at h1
      subst h1
      refine (vc_wp' r _ _ _ _ _ _ h2).mono (fun s h3 => h3) (fun e s h3 => ?_)
      obtain ⟨h3, h4⟩ := h3
      cases e with
      | goto i => exact h4.elim
      | _ => exact ⟨⟨h3, h4⟩⟩
     ·exact h2.elim
   | _ => exact ⟨⟨h1, h2⟩⟩
theorem vc_wp (c : AC) {N : KN} {X : KX} {sl : Slots} {rf : Refs} {df : DF} {pn : PN} (h : vc T nb c N X sl rf df pn) : WP T c ⟨sl, rf, df, pn, nb⟩ (NS nb N) (XS nb X) := vc_wp' c _ _ _ _ _ _ h
end
end Go.Ab
namespace Go.Ab
class TOK (T : Tb) : Prop where
 tab : TabOK T.tab
 tabD : TabOK T.tabD
 orc : OrcPlain T.orc
inductive EvD (T : Tb) (f : FuncId) (args : List AV) (m : Option AV) (rf : Refs) (o : Out) (m' : Option AV) (rf' : Refs) : Prop
 | mk (k : Nat) (h : callD T.tabD (T.C k) k f args m rf = some (o, m', rf'))
inductive DefE (T : Tb) (f : FuncId) (args : List AV) (m : Option AV) (rf : Refs) (k : Out → Option AV → Refs → Prop) : Prop
 | mk (o : Out) (m' : Option AV) (rf' : Refs) (h : EvD T f args m rf o m' rf') (h' : k o m' rf')
def resVK (sl : Slots) (rf : Refs) (r : ResV) (k : AV → Prop) : Prop := match r with
 | .tmp t => lk sl t k
 | .cell a agg => lk sl a fun p => ldK rf agg p k
def resVsK (sl : Slots) (rf : Refs) : List ResV → (List AV → Prop) → Prop
 | [], k => k []
 | r :: rs, k => resVK sl rf r fun v => resVsK sl rf rs fun vs => k (v :: vs)
def finK (nb : Nat) (Q : Out → Refs → Prop) (rf : Refs) (v : AV) : Prop := ifK (Nat.ble v.refB nb) (takeS nb rf fun rf1 => Unit → Q (.ret v) rf1)
def resK (af : AFn) (nb : Nat) (Q : Out → Refs → Prop) (sl : Slots) (rf : Refs) : Prop :=
 resVsK sl rf af.res fun vs => match vs with
  | [] => finK nb Q rf (.tup [])
  | [v] => (match af.keep with
    | true => finK nb Q rf v
    | false => bareK v fun v => finK nb Q rf v)
  | v :: w :: r => baresK (v :: w :: r) fun vs => finK nb Q rf (.tup vs)
def leaveK (T : Tb) (af : AFn) (nb : Nat) (Q : Out → Refs → Prop) (sl : Slots) : DF → Option AV → Refs → Prop
 | [], some v, rf => bareK v fun v => ifK (Nat.ble v.refB nb) (takeS nb rf fun rf1 => Unit → Q (.pan v) rf1)
 | [], none, rf => resK af nb Q sl rf
 | (f, vs) :: r, m, rf => match f with
   | .fn (.func id) first cap => ccK vs cap fun l => ccK first l fun l => bargsK l fun l => Unit → DefE T id l m rf fun o1 m1 rf1 => match o1 with
     | .ret _ => leaveK T af nb Q sl r m1 rf1
     | .pan v => leaveK T af nb Q sl r (some v) rf1
   | _ => False
def endN (T : Tb) (af : AFn) (nb : Nat) (Q : Out → Refs → Prop) : KN := fun sl rf df _ => leaveK T af nb Q sl df none rf
def endX (T : Tb) (af : AFn) (nb : Nat) (Q : Out → Refs → Prop) : KX := fun e sl rf df _ => match e with
 | .ret => leaveK T af nb Q sl df none rf
 | .pan v => leaveK T af nb Q sl df (some v) rf
 | _ => False
def entK : List AV → Nat → (Slots → Prop) → Prop
 | [], _, k => k []
 | v :: r, i, k => entK r (i + 1) fun s => k ((i, v) :: s)
theorem entK_el : ∀ {l : List AV} {i : Nat} {k : Slots → Prop}, entK l i k → k (enterS l i)
 | [], i, k, h => by simp only [entK] at h; simp only [enterS]; exact h
 | v :: r, i, k, h => by simp only [enterS]; exact entK_el (l := r) h
theorem resVK_el {s : St} {r : ResV} {k : AV → Prop} (h : resVK s.sl s.rf r k) : ∃ v, resA s r = some v ∧ k v := by
 cases r with
 | tmp t => exact lk_el h
 | cell a agg =>
   obtain ⟨p, h1, h2⟩ := lk_el h
   obtain ⟨v, h3, h4⟩ := ldK_el h2
   exact ⟨v, by simp only [resA, h1, h3], h4⟩
theorem resVsK_el {s : St} : ∀ {l : List ResV} {k : List AV → Prop}, resVsK s.sl s.rf l k → ∃ vs, resAs s l = some vs ∧ k vs
 | [], k, h => ⟨[], rfl, h⟩
 | r :: l, k, h => by
   obtain ⟨v, h1, h2⟩ := resVK_el h
   obtain ⟨vs, h3, h4⟩ := resVsK_el h2
   exact ⟨v :: vs, by simp only [resAs, h1, h3], h4⟩
theorem finK_el {nb : Nat} {Q : Out → Refs → Prop} {rf : Refs} {v : AV} (h : finK nb Q rf v) : v.refB ≤ nb ∧ Q (.ret v) (rf.take nb) := by
 obtain ⟨h1, h2⟩ := ifK_el h
 exact ⟨Nat.le_of_ble_eq_true h1, takeS_el h2 ()⟩
theorem resK_el {af : AFn} {nb : Nat} {Q : Out → Refs → Prop} {s : St} (h : resK af nb Q s.sl s.rf) : ∃ v, resOf s af.keep af.res = some v ∧ v.refB ≤ nb ∧ Q (.ret v) (s.rf.take nb) := by
 obtain ⟨vs, h1, h2⟩ := resVsK_el h
 cases vs with
 | nil => exact ⟨_, by simp only [resOf, h1]; rfl, finK_el h2⟩
 | cons v r =>
   cases r with
   | nil =>
     simp only at h2
     cases hk : af.keep with
     | true => rw [hk] at h2; exact ⟨_, by simp only [resOf, h1, if_true], finK_el h2⟩
     | false => rw [hk] at h2; exact ⟨_, by simp only [resOf, h1, Bool.false_eq_true, if_false], finK_el (bareK_el h2)⟩
   | cons w r => exact ⟨_, by simp only [resOf, h1], finK_el (baresK_el h2)⟩
theorem callD_monoT {T : Tb} {k k' : Nat} (hk : k ≤ k') {f : FuncId} {a : List AV} {m : Option AV} {rf : Refs} {r} (h : callD T.tabD (T.C k) k f a m rf = some r) : callD T.tabD (T.C k') k' f a m rf = some r :=
 callD_mono (call_le hk) hk h
theorem leaveK_el {T : Tb} {af : AFn} {nb : Nat} {Q : Out → Refs → Prop} : ∀ {df : DF} {m : Option AV} {s : St}, leaveK T af nb Q s.sl df m s.rf →
  ∃ k o rf', leave (callD T.tabD (T.C k) k) af nb df m s = some (o, rf') ∧ Q o rf'
 | [], some v, s, h => by
   obtain ⟨h1, h2⟩ := ifK_el (bareK_el h)
   have h3 := takeS_el h2 ()
   refine ⟨0, _, _, ?_, h3⟩
   simp only [leave]
   have h4 := Nat.le_of_ble_eq_true h1
   rw [refB_bare] at h4
   rw [if_pos h4]
 | [], none, s, h => by
   obtain ⟨v, h1, h2, h3⟩ := resK_el h
   refine ⟨0, _, _, ?_, h3⟩
   simp only [leave, h1]
   rw [if_pos h2]
 | (f, vs) :: r, m, s, h => by
   cases f <;> try exact h.elim
   rename_i fn first cap
   cases fn <;> try exact h.elim
   rename_i id
   have h1 := bargsK_el (ccK_el (ccK_el h)) ()
   rw [← List.append_assoc] at h1
   obtain ⟨o1, m1, rf1, ⟨k, h2⟩, h3⟩ := h1
   cases o1 with
   | ret v =>
     obtain ⟨k', o, rf', h4, h5⟩ := leaveK_el (s := { s with rf := rf1 }) h3
     refine ⟨max k k', o, rf', ?_, h5⟩
     simp only [leave]
     rw [callD_monoT (Nat.le_max_left _ _) h2]
     exact leave_mono (fun f a m rf r h => callD_monoT (Nat.le_max_right _ _) h) h4
   | pan v =>
     obtain ⟨k', o, rf', h4, h5⟩ := leaveK_el (s := { s with rf := rf1 }) h3
     refine ⟨max k k', o, rf', ?_, h5⟩
     simp only [leave]
     rw [callD_monoT (Nat.le_max_left _ _) h2]
     exact leave_mono (fun f a m rf r h => callD_monoT (Nat.le_max_right _ _) h) h4
theorem callE_vc {T : Tb} {f : FuncId} {args : List AV} {rf : Refs} {Q : Out → Refs → Prop} {af : AFn} (ho : T.orc f args = none) (hf : T.tab f = some af)
  (h : lenK rf 0 fun nb => entK args 0 fun sl => vc T nb af.body (endN T af nb Q) (endX T af nb Q) sl rf [] none) : CallE T f args rf Q := by
 have h1 := entK_el (lenK_el h)
 rw [Nat.zero_add] at h1
 obtain ⟨k, e, s', h2, h3⟩ := vc_wp _ h1
 have fin : ∀ m, (∃ k' o rf', leave (callD T.tabD (T.C k') k') af rf.length s'.df m s' = some (o, rf') ∧ Q o rf') → (match e with | .nrm => m = none | .ret => m = none | .pan v => m = some v | _ => False) → CallE T f args rf Q := fun m ⟨k', o, rf', h4, hQ⟩ hm => by
  refine ⟨o, rf', ⟨max k k' + 1, ?_⟩, hQ⟩
  simp only [Tb.C, call, ho, hf]
  have h5 := runK h2 (Nat.le_max_left k k')
  simp only [Tb.C] at h5
  rw [h5]
  have h6 := leave_mono (fun f a m rf r h => callD_monoT (T := T) (Nat.le_max_right k k') h) h4
  cases e with
  | nrm => simp only at hm; subst hm; exact h6
  | ret => simp only at hm; subst hm; exact h6
  | pan v => simp only at hm; subst hm; exact h6
  | exit i => exact hm.elim
  | goto i => exact hm.elim
 cases e with
 | nrm => exact fin none (leaveK_el h3.2) rfl
 | ret => exact fin none (leaveK_el h3.2) rfl
 | pan v => exact fin (some v) (leaveK_el h3.2) rfl
 | exit i => exact h3.2.elim
 | goto i => exact h3.2.elim
theorem ev_vc {T : Tb} {f : FuncId} {args : List AV} {rf : Refs} {o : Out} {rf' : Refs} {af : AFn} (ho : T.orc f args = none) (hf : T.tab f = some af)
  (h : lenK rf 0 fun nb => entK args 0 fun sl => vc T nb af.body (endN T af nb (fun a b => EndE a b o rf')) (endX T af nb (fun a b => EndE a b o rf')) sl rf [] none) : Ev T f args rf o rf' := by
 obtain ⟨o1, rf1, h1, h2⟩ := callE_vc ho hf h
 rw [← h2.h1, ← h2.h2]
 exact h1
theorem evd_vc {T : Tb} {f : FuncId} {args : List AV} {m : Option AV} {rf : Refs} {o : Out} {m' : Option AV} {rf' : Refs} {af : AFn} (hf : T.tabD f = some af)
  (h : lenK rf 0 fun nb => entK args 0 fun sl => vc T nb af.body (fun _ rf df pn => df = [] ∧ (match pn with | some x => x = m' | none => False) ∧ takeS nb rf fun rf1 => EndE (.ret (.tup [])) rf1 o rf')
   (fun e _ rf df pn => match e with
    | .ret => df = [] ∧ (match pn with | some x => x = m' | none => False) ∧ takeS nb rf fun rf1 => EndE (.ret (.tup [])) rf1 o rf'
    | .pan v => df = [] ∧ (match pn with | some x => x = m' | none => False) ∧ bareK v fun v => ifK (Nat.ble v.refB nb) (takeS nb rf fun rf1 => EndE (.pan v) rf1 o rf')
    | _ => False) sl rf [] (some m)) : EvD T f args m rf o m' rf' := by
 have h1 := entK_el (lenK_el h)
 rw [Nat.zero_add] at h1
 obtain ⟨k, e, s', h2, h3⟩ := vc_wp _ h1
 refine ⟨k, ?_⟩
 unfold callD
 simp only [hf]
 rw [h2]
 have hp : ∀ {x : PN}, (match x with | some x => x = m' | none => False) → x.getD none = m' := fun {x} h => by
  cases x with
  | none => exact h.elim
  | some y => exact h
 cases e with
 | nrm =>
   obtain ⟨_, h4, h5, h6⟩ := h3
   have h7 := takeS_el h6
   simp only [h4, List.isEmpty_nil, if_true, hp h5]
   rw [← h7.h1, ← h7.h2]
 | ret =>
   obtain ⟨_, h4, h5, h6⟩ := h3
   have h7 := takeS_el h6
   simp only [h4, List.isEmpty_nil, if_true, hp h5]
   rw [← h7.h1, ← h7.h2]
 | pan v =>
   obtain ⟨_, h4, h5, h6⟩ := h3
   obtain ⟨h8, h9⟩ := ifK_el (bareK_el h6)
   have h7 := takeS_el h9
   have h10 := Nat.le_of_ble_eq_true h8
   rw [refB_bare] at h10
   simp only [h4, List.isEmpty_nil, true_and, h10, if_true, hp h5]
   rw [← h7.h1, ← h7.h2]
 | exit i => exact h3.2.elim
 | goto i => exact h3.2.elim
/-! calls from code -/
section
variable {T : Tb} {f : FuncId} {args : List AV} {rf : Refs} {k : Out → Refs → Prop}
theorem callE_ev {o : Out} {rf' : Refs} (h : Ev T f args rf o rf') (h' : k o rf') : CallE T f args rf k := ⟨o, rf', h, h'⟩
theorem Ev.big [hT : TOK T] {a0 : List AV} {rf0 : Refs} {o : Out} {rf0' : Refs} (h : Ev T f a0 rf0 o rf0') (m : Mv) {RF : Refs} (hR : Rl m RF rf0 RF) :
  ∃ RF', Rl m RF rf0' RF' ∧ Ev T f (AV.mvs m a0) RF (o.mv m) RF' := by
 obtain ⟨k, h⟩ := h
 obtain ⟨RF', h1, h2⟩ := call_mv hT.tab hT.tabD hT.orc k _ _ _ _ _ _ hR h
 exact ⟨RF', h1, k, h2⟩
def Mv.none (N : Nat) : Mv := ⟨0, N, fun _ => 0, fun _ _ _ h => absurd h (Nat.not_lt_zero _), fun _ h => absurd h (Nat.not_lt_zero _)⟩
theorem Out.mv_clean {m : Mv} {o : Out} (h : o.val.refB = 0) : o.mv m = o := by
 cases o <;> (simp only [Out.val] at h; simp only [Out.mv, Ab.mv_clean m h])
theorem Rl.none_eq {B rf RF : Refs} {N : Nat} (h : Rl (Mv.none N) B rf RF) : RF.take N = B.take N := by
 apply List.ext_getElem?
 intro j
 by_cases hj : j < N
 ·rw [List.getElem?_take_of_lt hj, List.getElem?_take_of_lt hj]
  exact h.there j hj (fun i hi => absurd hi (Nat.not_lt_zero _))
 ·rw [List.getElem?_take_eq_none (by omega), List.getElem?_take_eq_none (by omega)]
theorem Ev.any [hT : TOK T] {o : Out} (h : Ev T f args [] o []) (ha : AV.refBs args = 0) (rf : Refs) : Ev T f args rf o rf := by
 have hb : o.val.refB = 0 := by
  obtain ⟨k, h1⟩ := h
  have := call_b hT.orc k _ _ _ _ _ h1
  simpa using this
 obtain ⟨RF', h1, h2⟩ := h.big (Mv.none rf.length) (RF := rf) ⟨Nat.zero_le _, by simp [Mv.none], fun i hi => by simp at hi, fun _ _ _ => rfl⟩
 have h3 := h1.none_eq
 have h4 : RF'.length = rf.length := by rw [h1.len]; simp [Mv.none]
 rw [List.take_of_length_le (by omega), List.take_of_length_le (Nat.le_refl _)] at h3
 subst h3
 rwa [mvs_clean _ ha, Out.mv_clean hb] at h2
theorem callE_pl [TOK T] {o : Out} (h : Ev T f args [] o []) (ha : AV.refBs args = 0) (h' : k o rf) : CallE T f args rf k := ⟨o, rf, h.any ha rf, h'⟩
def okL : List Nat → Nat → Bool
 | [], _ => true
 | [a], N => Nat.blt a N
 | a :: b :: r, N => Nat.blt a b && okL (b :: r) N
theorem okL_lt : ∀ {l : List Nat} {N : Nat}, okL l N = true → ∀ i, i < l.length → l.getD i 0 < N
 | [], _, _, i, hi => by simp at hi
 | [a], N, h, i, hi => by
   simp only [List.length_cons, List.length_nil] at hi
   obtain rfl : i = 0 := by omega
   simp only [okL, Nat.blt, Nat.ble_eq] at h
   simp only [List.getD_cons_zero]; omega
 | a :: b :: r, N, h, i, hi => by
   simp only [okL, Bool.and_eq_true] at h
   cases i with
   | zero =>
     have h1 := okL_lt h.2 0 (by simp)
     have h2 : a < b := by have := h.1; simp only [Nat.blt, Nat.ble_eq] at this; omega
     simp only [List.getD_cons_zero] at h1 ⊢
     omega
   | succ i => simpa using okL_lt h.2 i (by simpa using hi)
theorem okL_mono : ∀ {l : List Nat} {N : Nat}, okL l N = true → ∀ i j, i < j → j < l.length → l.getD i 0 < l.getD j 0
 | [], _, _, i, j, _, hj => by simp at hj
 | [a], N, h, i, j, hi, hj => by simp at hj; omega
 | a :: b :: r, N, h, i, j, hi, hj => by
   simp only [okL, Bool.and_eq_true] at h
   have h2 : a < b := by have := h.1; simp only [Nat.blt, Nat.ble_eq] at this; omega
   cases j with
   | zero => omega
   | succ j =>
     cases i with
     | zero =>
       simp only [List.getD_cons_zero, List.getD_cons_succ]
       cases j with
       | zero => simpa using h2
       | succ j =>
         have := okL_mono h.2 0 (j + 1) (by omega) (by simpa using hj)
         simp only [List.getD_cons_zero] at this
         omega
     | succ i => simpa using okL_mono h.2 i j (by omega) (by simpa using hj)
def Mv.of (l : List Nat) (N : Nat) (h : okL l N = true) : Mv := ⟨l.length, N, fun i => l.getD i 0, okL_mono h, okL_lt h⟩
def scat : List Nat → Refs → Refs → Refs
 | p :: l, c :: cs, rf => scat l cs (rf.set p c)
 | _, _, rf => rf
theorem scat_length : ∀ (l : List Nat) (cs rf : Refs), (scat l cs rf).length = rf.length
 | [], cs, rf => by simp [scat]
 | p :: l, [], rf => by simp [scat]
 | p :: l, c :: cs, rf => by simp [scat, scat_length l cs]
theorem scat_out : ∀ (l : List Nat) (cs rf : Refs) (j : Nat), (∀ i, i < l.length → l.getD i 0 ≠ j) → (scat l cs rf)[j]? = rf[j]?
 | [], cs, rf, j, h => by simp [scat]
 | p :: l, [], rf, j, h => by simp [scat]
 | p :: l, c :: cs, rf, j, h => by
   simp only [scat]
   rw [scat_out l cs _ j (fun i hi => by simpa using h (i + 1) (by simpa using hi)), List.getElem?_set_ne]
   simpa using h 0 (by simp)
theorem scat_in : ∀ (l : List Nat) (cs rf : Refs) (N : Nat), okL l N = true → N ≤ rf.length → ∀ i, i < l.length → i < cs.length → (scat l cs rf)[l.getD i 0]? = cs[i]?
 | [], cs, rf, N, _, _, i, hi, _ => by simp at hi
 | p :: l, [], rf, N, _, _, i, _, hi => by simp at hi
 | p :: l, c :: cs, rf, N, h, hN, i, hi, hc => by
   simp only [scat]
   cases i with
   | zero =>
     simp only [List.getD_cons_zero, List.getElem?_cons_zero]
     rw [scat_out]
     ·have := okL_lt h 0 (by simp)
      simp only [List.getD_cons_zero] at this
      rw [List.getElem?_set_self (by omega)]
     ·intro i hi
      have := okL_mono h 0 (i + 1) (by omega) (by simpa using hi)
      simp only [List.getD_cons_zero, List.getD_cons_succ] at this
      omega
   | succ i =>
     simp only [List.getD_cons_succ, List.getElem?_cons_succ]
     have h' : okL l N = true := by
      cases l with
      | nil => rfl
      | cons b r => simp only [okL, Bool.and_eq_true] at h; exact h.2
     exact scat_in l cs _ N h' (by simpa using hN) i (by simpa using hi) (by simpa using hc)
theorem Ev.at [hT : TOK T] {a0 : List AV} {rf0 : Refs} {o : Out} {rf0' : Refs} (h : Ev T f a0 rf0 o rf0') (l : List Nat) {RF : Refs} (hl : okL l RF.length = true) (hn : l.length = rf0.length) (hn' : rf0'.length = rf0.length)
  (hr : l.map (RF[·]?) = rf0.map (fun cs => some (AV.mvs (Mv.of l RF.length hl) cs))) :
  Ev T f (AV.mvs (Mv.of l RF.length hl) a0) RF (o.mv (Mv.of l RF.length hl)) (scat l (rf0'.map (AV.mvs (Mv.of l RF.length hl))) RF) := by
 generalize hm : Mv.of l RF.length hl = m at *
 have e1 : m.n = l.length := by subst hm; rfl
 have e2 : m.N = RF.length := by subst hm; rfl
 have e3 : ∀ i, m.g i = l.getD i 0 := fun i => by subst hm; rfl
 have e4 : ∀ i, i < l.length → m.to i = l.getD i 0 := fun i hi => by unfold Mv.to; rw [if_pos (by omega), e3]
 have e5 : ∀ i, i < l.length → l[i]? = some (l.getD i 0) := fun i hi => by rw [List.getD_eq_getElem?_getD, List.getElem?_eq_getElem hi]; rfl
 have hR : Rl m RF rf0 RF := by
  refine ⟨by omega, by omega, fun i hi => ?_, fun _ _ _ => rfl⟩
  have h1 := congrArg (·[i]?) hr
  simp only [List.getElem?_map] at h1
  rw [e5 i (by omega)] at h1
  rw [e4 i (by omega)]
  rw [List.getElem?_eq_getElem hi] at h1 ⊢
  simpa using h1
 obtain ⟨RF', h1, h2⟩ := h.big m hR
 have h3 : Rl m RF rf0' (scat l (rf0'.map (AV.mvs m)) RF) := by
  refine ⟨by omega, by rw [scat_length]; omega, fun i hi => ?_, fun j hj hne => ?_⟩
  ·rw [e4 i (by omega), scat_in l _ _ _ hl (Nat.le_refl _) i (by omega) (by simpa using hi), List.getElem?_map]
  ·exact scat_out _ _ _ _ fun i hi => by rw [← e3]; exact hne i (by omega)
 rwa [h1.uniq h3]
def scatK : List Nat → Refs → Refs → (Refs → Prop) → Prop
 | p :: l, c :: cs, rf, k => setK rf p c fun rf' => scatK l cs rf' k
 | [], _, rf, k => k rf
 | _ :: _, [], rf, k => k rf
theorem scatK_el : ∀ {l : List Nat} {cs rf : Refs} {k : Refs → Prop}, scatK l cs rf k → k (scat l cs rf)
 | p :: l, c :: cs, rf, k, h => by simp only [scat]; exact scatK_el (setK_el h)
 | [], cs, rf, k, h => by simpa only [scat, scatK] using h
 | _ :: _, [], rf, k, h => by simpa only [scat, scatK] using h
def mvOK (m : Mv) (o : Out) (k : Out → Prop) : Prop := match o with
 | .ret v => mvK m v fun v => k (.ret v)
 | .pan v => mvK m v fun v => k (.pan v)
where
 mvK (m : Mv) (v : AV) (k : AV → Prop) : Prop := k (v.mv m)
theorem callE_at [TOK T] {a0 : List AV} {rf0 : Refs} {o : Out} {rf0' : Refs} (l : List Nat) (h : Ev T f a0 rf0 o rf0') (hl : okL l rf.length = true) (hn : l.length = rf0.length) (hn' : rf0'.length = rf0.length)
  (hr : l.map (rf[·]?) = rf0.map (fun cs => some (AV.mvs (Mv.of l rf.length hl) cs))) (ha : AV.mvs (Mv.of l rf.length hl) a0 = args)
  (h' : scatK l (rf0'.map (AV.mvs (Mv.of l rf.length hl))) rf (k (o.mv (Mv.of l rf.length hl)))) : CallE T f args rf k := by
 have := h.at l hl hn hn' hr
 rw [ha] at this
 exact ⟨_, _, this, scatK_el h'⟩
end
/-! loops -/
def upd : Slots → Slots → Slots
 | [], _ => []
 | (i, v) :: r, ch => (i, (ch.get i).getD v) :: upd r ch
def updK : Slots → Slots → (Slots → Prop) → Prop
 | [], _, k => k []
 | (i, v) :: r, ch, k => keepK.lkO ch i (fun w => updK r ch fun r' => k ((i, w) :: r')) (updK r ch fun r' => k ((i, v) :: r'))
theorem updK_el : ∀ {sl ch : Slots} {k : Slots → Prop}, updK sl ch k → k (upd sl ch)
 | [], ch, k, h => h
 | (i, v) :: r, ch, k, h => by
   have h1 := lkO_el h
   simp only [upd]
   split at h1 <;> rename_i hg
   ·rw [hg]; exact updK_el h1
   ·rw [hg]; exact updK_el h1
theorem updK_mk : ∀ {sl ch : Slots} {k : Slots → Prop}, k (upd sl ch) → updK sl ch k
 | [], ch, k, h => h
 | (i, v) :: r, ch, k, h => by
   have key : ∀ (s : Slots) (a : AV → Prop) (b : Prop), (match s.get i with | some v => a v | none => b) → keepK.lkO s i a b := fun s => by
    induction s with
    | nil => intro a b h; exact h
    | cons p s ih =>
      intro a b h
      obtain ⟨j, w⟩ := p
      simp only [keepK.lkO]
      by_cases hj : j = i
      ·subst hj; simp [Slots.get] at h; simpa using h
      ·have hb : Nat.beq j i = false := by
        cases hq : Nat.beq j i with
        | false => rfl
        | true => exact absurd (Nat.eq_of_beq_eq_true hq) hj
       rw [hb]
       exact ih a b (by simpa [Slots.get, hj] using h)
   apply key
   simp only [upd] at h
   cases hg : ch.get i with
   | none => rw [hg] at h; exact updK_mk h
   | some w => rw [hg] at h; exact updK_mk h
def lkR : List (Nat × List AV) → Nat → List AV → List AV
 | [], _, c => c
 | (j, d) :: r, i, c => match Nat.beq j i with
   | true => d
   | false => lkR r i c
def updR' : Refs → Nat → List (Nat × List AV) → Refs
 | [], _, _ => []
 | c :: r, i, h => lkR h i c :: updR' r (i + 1) h
def updR (rf : Refs) (h : List (Nat × List AV)) : Refs := match h with
 | [] => rf
 | a :: r => updR' rf 0 (a :: r)
def lkRK : List (Nat × List AV) → Nat → List AV → (List AV → Prop) → Prop
 | [], _, c, k => k c
 | (j, d) :: r, i, c, k => match Nat.beq j i with
   | true => k d
   | false => lkRK r i c k
def updRK' : Refs → Nat → List (Nat × List AV) → (Refs → Prop) → Prop
 | [], _, _, k => k []
 | c :: r, i, h, k => lkRK h i c fun c' => updRK' r (i + 1) h fun r' => k (c' :: r')
def updRK (rf : Refs) (h : List (Nat × List AV)) (k : Refs → Prop) : Prop := match h with
 | [] => k rf
 | a :: r => updRK' rf 0 (a :: r) k
theorem lkRK_el : ∀ {h : List (Nat × List AV)} {i : Nat} {c : List AV} {k : List AV → Prop}, lkRK h i c k → k (lkR h i c)
 | [], i, c, k, h => h
 | (j, d) :: r, i, c, k, h => by
   simp only [lkRK] at h
   simp only [lkR]
   split at h <;> rename_i hb
   ·exact h
   ·exact lkRK_el h
theorem updRK'_el : ∀ {rf : Refs} {i : Nat} {h : List (Nat × List AV)} {k : Refs → Prop}, updRK' rf i h k → k (updR' rf i h)
 | [], i, h, k, q => q
 | c :: r, i, h, k, q => by
   have q1 := lkRK_el q
   exact updRK'_el (rf := r) q1
theorem updRK_el {rf : Refs} {h : List (Nat × List AV)} {k : Refs → Prop} (q : updRK rf h k) : k (updR rf h) := by
 cases h with
 | nil => exact q
 | cons a r => exact updRK'_el q
inductive IterE {σ : Type} (keep : List Nat) (n nb : Nat) (ch : σ → Slots) (hch : σ → List (Nat × List AV)) (m : σ → Nat) (P : σ → Prop) (x : σ) (sl0 : Slots) (rf0 : Refs) (df0 : DF) (pn0 : PN) (sl' sl : Slots) (rf : Refs) (df : DF) (pn : PN) : Prop
 | mk (y : σ) (hP : P y) (hm : m y < m x) (h1 : sl = upd sl0 (ch y)) (h2 : (St.trimLoop ⟨sl', rf, df, pn, nb⟩ keep n).rf = updR rf0 (hch y)) (h3 : df = df0) (h4 : pn = pn0)
theorem trim_or (s : St) (keep : List Nat) (n : Nat) : s.trimLoop keep n = ⟨s.sl.keep keep, s.rf.take n, s.df, s.pn, s.nb⟩ ∨ s.trimLoop keep n = ⟨s.sl.keep keep, s.rf, s.df, s.pn, s.nb⟩ := by
 by_cases hc : AV.refBs ((s.sl.keep keep).map (·.2)) ≤ n ∧ refsB ((s.rf.take n).drop s.nb) ≤ n ∧ dfB s.df ≤ n
 ·exact .inl (if_pos hc)
 ·exact .inr (if_neg hc)
theorem trim_same {sl : Slots} {rf : Refs} {df : DF} {pn : PN} {nb n : Nat} {keep : List Nat} (h : rf.length = n) : (St.trimLoop ⟨sl, rf, df, pn, nb⟩ keep n).rf = rf := by
 rcases trim_or ⟨sl, rf, df, pn, nb⟩ keep n with e | e
 ·rw [e]; simp [← h]
 ·rw [e]
theorem trim_eq {s : St} {keep : List Nat} {n : Nat} : s.trimLoop keep n = ⟨s.sl.keep keep, (s.trimLoop keep n).rf, s.df, s.pn, s.nb⟩ := by
 rcases trim_or s keep n with e | e <;> rw [e]
theorem loopR {σ : Type} {T : Tb} {keep : List Nat} {b : AC} {sl : Slots} {rf : Refs} {df : DF} {pn : PN} {nb : Nat} {X : KX} (ch : σ → Slots) (hch : σ → List (Nat × List AV)) (m : σ → Nat) (P : σ → Prop) (x0 : σ)
  (h0 : P x0) (hs : sl = upd sl (ch x0)) (hr : rf = updR rf (hch x0))
  (step : ∀ x, P x → updK sl (ch x) fun sl1 => updRK rf (hch x) fun rf1 => lenK rf 0 fun n => vc T nb b (fun sl' rf' df' pn' => keepK sl' keep fun sl2 => Unit → IterE keep n nb ch hch m P x sl rf df pn sl' sl2 rf' df' pn') X sl1 rf1 df pn) :
  LoopE T keep b sl rf df pn nb X := by
 have key : ∀ (k : Nat) x, m x = k → P x → LP T keep rf.length b ⟨upd sl (ch x), updR rf (hch x), df, pn, nb⟩ (XS nb X) := by
  intro k
  induction k using Nat.strongRecOn with
  | _ k ih =>
    intro x hk hP
    refine LP.step ((vc_wp b (lenK_el (updRK_el (updK_el (step x hP))))).mono (fun s h1 => ?_) (fun e s h1 => h1))
    obtain ⟨rfl, h2⟩ := h1
    obtain ⟨y, hPy, hm, h3, h4, h5, h6⟩ := keepK_el h2 ()
    rw [Nat.zero_add] at h4
    have := ih (m y) (by omega) y rfl hPy
    rw [trim_eq, h3, h4, h5, h6]
    exact this
 have := key _ x0 rfl h0
 rw [← hs, ← hr] at this
 exact ⟨this⟩
end Go.Ab
namespace Go.Ab
theorem condT {A B : Prop} (h : A) : CondE true A B := ⟨fun _ => h, fun h => by cases h⟩
theorem condF {A B : Prop} (h : B) : CondE false A B := ⟨fun h => (by cases h), fun _ => h⟩
theorem condD {p : Prop} [Decidable p] {A B : Prop} (h1 : p → A) (h2 : ¬ p → B) : CondE (decide p) A B := ⟨fun h => h1 (of_decide_eq_true h), fun h => h2 (of_decide_eq_false h)⟩
theorem condN {b : Bool} {A B : Prop} (h : CondE b B A) : CondE (!b) A B := ⟨fun q => h.h2 (by simpa using q), fun q => h.h1 (by simpa using q)⟩
theorem condX {b : Bool} {A B : Prop} (h : CondE b A B) : CondE (b != false) A B := ⟨fun q => h.h1 (by simpa using q), fun q => h.h2 (by simpa using q)⟩
theorem condY {b : Bool} {A B : Prop} (h : CondE b B A) : CondE (b != true) A B := ⟨fun q => h.h2 (by simpa using q), fun q => h.h1 (by simpa using q)⟩
theorem condB {b : Bool} {A B : Prop} (h1 : b = true → A) (h2 : b = false → B) : CondE b A B := ⟨h1, h2⟩
theorem condt {b : Bool} {A B : Prop} (hb : b = true) (h : A) : CondE b A B := by subst hb; exact condT h
theorem condf {b : Bool} {A B : Prop} (hb : b = false) (h : B) : CondE b A B := by subst hb; exact condF h
theorem condp {p : Prop} [Decidable p] {A B : Prop} (hp : p) (h : A) : CondE (decide p) A B := condt (decide_eq_true hp) h
theorem condn {p : Prop} [Decidable p] {A B : Prop} (hp : ¬ p) (h : B) : CondE (decide p) A B := condf (decide_eq_false hp) h
theorem wr_of {q : IntKind} {n : Int} {c : Int → Prop} (h1 : q.min ≤ n) (h2 : n ≤ q.max) (h : c n) : WrE q n c := ⟨by rw [wrap_of h1 h2]; exact h⟩
theorem wrA {a b : Nat} {c : Int → Prop} (h1 : a + b ≤ 9223372036854775807) (h : c ((a + b : Nat) : Int)) : WrE .i64 ((a : Int) + (b : Int)) c := wr_of (by rw [n64]; omega) (by rw [m64]; omega) (by simpa using h)
theorem wrS {a b : Nat} {c : Int → Prop} (h1 : b ≤ a) (h2 : a ≤ 9223372036854775807) (h : c ((a - b : Nat) : Int)) : WrE .i64 ((a : Int) - (b : Int)) c := wr_of (by rw [n64]; omega) (by rw [m64]; omega) (by rw [Int.ofNat_sub h1] at h; exact h)
theorem wrM {a b : Nat} {c : Int → Prop} (h1 : a * b ≤ 9223372036854775807) (h : c ((a * b : Nat) : Int)) : WrE .i64 ((a : Int) * (b : Int)) c :=
 wr_of (by rw [n64, ← Int.natCast_mul]; omega) (by rw [m64, ← Int.natCast_mul]; omega) (by simpa using h)
theorem wrI {n : Int} {c : Int → Prop} (h1 : -9223372036854775808 ≤ n) (h2 : n ≤ 9223372036854775807) (h : c n) : WrE .i64 n c := wr_of (by rw [n64]; exact h1) (by rw [m64]; exact h2) h
theorem wrB {n : Int} {c : Int → Prop} (h1 : 0 ≤ n) (h2 : n ≤ 255) (h : c n) : WrE .u8 n c := wr_of (by rw [n8]; exact h1) (by rw [m8]; exact h2) h
theorem wrBA {a b : Nat} {c : Int → Prop} (h1 : a + b ≤ 255) (h : c ((a + b : Nat) : Int)) : WrE .u8 ((a : Int) + (b : Int)) c := wr_of (by rw [n8]; omega) (by rw [m8]; omega) (by simpa using h)
theorem wrBS {a b : Nat} {c : Int → Prop} (h1 : b ≤ a) (h2 : a ≤ 255) (h : c ((a - b : Nat) : Int)) : WrE .u8 ((a : Int) - (b : Int)) c := wr_of (by rw [n8]; omega) (by rw [m8]; omega) (by rw [Int.ofNat_sub h1] at h; exact h)
theorem wrU {n : Int} {c : Int → Prop} (h1 : 0 ≤ n) (h2 : n ≤ 18446744073709551615) (h : c n) : WrE .u64 n c := wr_of (by rw [nU]; exact h1) (by rw [mU]; exact h2) h
theorem strC {a b : List UInt8} {c : List UInt8 → Prop} (h1 : a.length + b.length ≤ 17179869184) (h : c (a ++ b)) : CatE a b c := ⟨h1, h⟩
theorem remN {a b : Nat} {c : Int → Prop} (h1 : b ≠ 0) (h : c ((a % b : Nat) : Int)) : RemE (a : Int) (b : Int) c := ⟨by omega, by
 have : (a : Int).tmod (b : Int) = ((a % b : Nat) : Int) := by rw [Int.ofNat_tmod]
 rw [this]; exact h⟩
theorem quoN {q : IntKind} {a b : Nat} {c : Int → Prop} (hk : q.min ≤ 0) (h0 : (a : Int) ≤ q.max) (h1 : b ≠ 0) (h : c ((a / b : Nat) : Int)) : QuoE q (a : Int) (b : Int) c := by
 refine ⟨by omega, ?_⟩
 have e : (a : Int).tdiv (b : Int) = ((a / b : Nat) : Int) := by rw [Int.ofNat_tdiv]
 have h3 : ((a / b : Nat) : Int) ≤ (a : Int) := Int.ofNat_le.2 (Nat.div_le_self a b)
 have h4 := Int.natCast_nonneg (a / b)
 rw [e, wrap_of (Int.le_trans hk h4) (Int.le_trans h3 h0)]
 exact h
theorem idxS {l : List UInt8} {i : Nat} {c : UInt8 → Prop} (h1 : i < l.length) (h : ∀ b, l[i]? = some b → c b) : IdxS l (i : Int) c := ⟨i, l[i], rfl, List.getElem?_eq_getElem h1, h _ (List.getElem?_eq_getElem h1)⟩
theorem idxSb {l : List UInt8} {i : Nat} {b : UInt8} {c : UInt8 → Prop} (h1 : l[i]? = some b) (h : c b) : IdxS l (i : Int) c := ⟨i, b, rfl, h1, h⟩
theorem idxSi {l : List UInt8} {n : Int} (i : Nat) {c : UInt8 → Prop} (hn : n = i) (h1 : i < l.length) (h : ∀ b, l[i]? = some b → c b) : IdxS l n c := ⟨i, l[i], hn, List.getElem?_eq_getElem h1, h _ (List.getElem?_eq_getElem h1)⟩
theorem idxLb {sz : Nat} {es : List (List D)} {i : Nat} {cs : List D} {c : List D → Prop} (h1 : es[i]? = some cs) (h2 : cs.length = sz) (h : c cs) : IdxL sz es (i : Int) c := ⟨i, cs, rfl, h1, h2, h⟩
theorem idxAi {m i : Nat} {c : Nat → Prop} (h1 : i < m) (h : c i) : IdxA m (i : Int) c := ⟨i, rfl, h1, h⟩
theorem subLo {l : List UInt8} {i : Nat} {c : List UInt8 → Prop} (h1 : i ≤ l.length) (h : c (l.drop i)) : SubE l (some (i : Int)) none c := ⟨i, l.length, rfl, rfl, h1, Nat.le_refl _, by rw [List.take_of_length_le (Nat.le_refl _)]; exact h⟩
theorem subHi {l : List UInt8} {i : Nat} {c : List UInt8 → Prop} (h1 : i ≤ l.length) (h : c (l.take i)) : SubE l none (some (i : Int)) c := ⟨0, i, rfl, rfl, Nat.zero_le _, h1, h⟩
theorem subBo {l : List UInt8} {i j : Nat} {c : List UInt8 → Prop} (h1 : i ≤ j) (h2 : j ≤ l.length) (h : c ((l.take j).drop i)) : SubE l (some (i : Int)) (some (j : Int)) c := ⟨i, j, rfl, rfl, h1, h2, h⟩
theorem subLLo {sz : Nat} {l : List (List D)} {i : Nat} {c : List (List D) → Prop} (h1 : i ≤ l.length) (h2 : sizesB sz l = true) (h : c (l.drop i)) : SubL sz l (some (i : Int)) none c := ⟨i, l.length, rfl, rfl, h1, Nat.le_refl _, h2, by rw [List.take_of_length_le (Nat.le_refl _)]; exact h⟩
theorem subLHi {sz : Nat} {l : List (List D)} {i : Nat} {c : List (List D) → Prop} (h1 : i ≤ l.length) (h2 : sizesB sz l = true) (h : c (l.take i)) : SubL sz l none (some (i : Int)) c := ⟨0, i, rfl, rfl, Nat.zero_le _, h1, h2, h⟩
theorem subAa {n : Nat} {c : Nat → Nat → Prop} (h : c 0 n) : SubA n none none c := ⟨0, n, rfl, rfl, Nat.zero_le _, Nat.le_refl _, h⟩
theorem appL {sz : Nat} {es ys : List (List D)} {c : List (List D) → Prop} (h1 : es.length + ys.length ≤ 17179869184) (h2 : sizesB sz es = true) (h3 : sizesB sz ys = true) (h : c (es ++ ys)) : AppE sz es ys c := ⟨h1, h2, h3, h⟩
theorem appN1 {sz : Nat} {y : List D} {ys : List (List D)} {c : AV → Prop} (h1 : (y :: ys).length ≤ 17179869184) (h2 : y.length = sz) (h : c (.own (y :: ys))) : AppN sz (y :: ys) c := ⟨h1, by simp [sizesB, h2], fun e => by simp at e, fun _ => h⟩
theorem nilB {nk : Nat} {a : AV} {c : Bool → Prop} {t : Bool} (h1 : eqNilA nk a = some t) (h : c t) : NilE nk a c := ⟨t, h1, h⟩
theorem eqcB {ks : List PK} {a b : List AV} {c : Bool → Prop} {t : Bool} (h1 : eqCells ks a b = some t) (h : c t) : EqcE ks a b c := ⟨t, h1, h⟩
theorem strB {es : List (List D)} {l : List UInt8} {c : List UInt8 → Prop} (h1 : strOf es = some l) (h : c l) : StrE es c := ⟨l, h1, h⟩
theorem bytesB {l : List UInt8} {c : AV → Prop} (h0 : l ≠ []) (h : c (.own (bytesOf l))) : BytesE l c := ⟨fun e => absurd e h0, fun _ => h⟩
theorem bitAnd {q : IntKind} {a b : Nat} {c : Int → Prop} (ha : (a : Int) ≤ q.max) (hb : (b : Int) ≤ q.max) (hk : q.min ≤ 0) (h : c ((a &&& b : Nat) : Int)) : BitE .and q (a : Int) (b : Int) c := ⟨_, bn_and ha hb hk, h⟩
theorem bitOr {q : IntKind} {a b : Nat} {c : Int → Prop} (ha : (a : Int) ≤ q.max) (hb : (b : Int) ≤ q.max) (hk : q.min ≤ 0) (h : c ((a ||| b : Nat) : Int)) : BitE .or q (a : Int) (b : Int) c := ⟨_, bn_or ha hb hk, h⟩
theorem shlN {q q' : IntKind} {a b : Nat} {c : Int → Prop} (hb : b ≤ q.bits) (hk : q.min ≤ 0) (hm : ((a * 2 ^ b : Nat) : Int) ≤ q.max) (h : c ((a * 2 ^ b : Nat) : Int)) : ShE .shl q q' (a : Int) (b : Int) c := ⟨_, bn_shl hb hk hm, h⟩
theorem shrN {q q' : IntKind} {a b : Nat} {c : Int → Prop} (hb : b ≤ q.bits) (h : c ((a / 2 ^ b : Nat) : Int)) : ShE .shr q q' (a : Int) (b : Int) c := ⟨_, bn_shr hb, h⟩
/-! loops of several things that change -/
section
variable {T : Tb} {keep : List Nat} {b : AC} {sl : Slots} {rf : Refs} {df : DF} {pn : PN} {nb : Nat} {X : KX}
inductive Iter2 {α β : Type} (keep : List Nat) (n nb : Nat) (ch : α → β → Slots) (hch : α → β → List (Nat × List AV)) (m : α → β → Nat) (P : α → β → Prop) (x1 : α) (x2 : β) (sl0 : Slots) (rf0 : Refs) (df0 : DF) (pn0 : PN) (sl' sl : Slots) (rf : Refs) (df : DF) (pn : PN) : Prop
 | mk (y1 : α) (y2 : β) (hP : P y1 y2) (hm : m y1 y2 < m x1 x2) (h1 : sl = upd sl0 (ch y1 y2)) (h2 : (St.trimLoop ⟨sl', rf, df, pn, nb⟩ keep n).rf = updR rf0 (hch y1 y2)) (h3 : df = df0) (h4 : pn = pn0)
inductive Iter3 {α β γ : Type} (keep : List Nat) (n nb : Nat) (ch : α → β → γ → Slots) (hch : α → β → γ → List (Nat × List AV)) (m : α → β → γ → Nat) (P : α → β → γ → Prop) (x1 : α) (x2 : β) (x3 : γ) (sl0 : Slots) (rf0 : Refs) (df0 : DF) (pn0 : PN) (sl' sl : Slots) (rf : Refs) (df : DF) (pn : PN) : Prop
 | mk (y1 : α) (y2 : β) (y3 : γ) (hP : P y1 y2 y3) (hm : m y1 y2 y3 < m x1 x2 x3) (h1 : sl = upd sl0 (ch y1 y2 y3)) (h2 : (St.trimLoop ⟨sl', rf, df, pn, nb⟩ keep n).rf = updR rf0 (hch y1 y2 y3)) (h3 : df = df0) (h4 : pn = pn0)
inductive Iter4 {α β γ δ : Type} (keep : List Nat) (n nb : Nat) (ch : α → β → γ → δ → Slots) (hch : α → β → γ → δ → List (Nat × List AV)) (m : α → β → γ → δ → Nat) (P : α → β → γ → δ → Prop) (x1 : α) (x2 : β) (x3 : γ) (x4 : δ) (sl0 : Slots) (rf0 : Refs) (df0 : DF) (pn0 : PN) (sl' sl : Slots) (rf : Refs) (df : DF) (pn : PN) : Prop
 | mk (y1 : α) (y2 : β) (y3 : γ) (y4 : δ) (hP : P y1 y2 y3 y4) (hm : m y1 y2 y3 y4 < m x1 x2 x3 x4) (h1 : sl = upd sl0 (ch y1 y2 y3 y4)) (h2 : (St.trimLoop ⟨sl', rf, df, pn, nb⟩ keep n).rf = updR rf0 (hch y1 y2 y3 y4)) (h3 : df = df0) (h4 : pn = pn0)
theorem kx_mono {T : Tb} {nb : Nat} (c : AC) {N N' : KN} {X : KX} {sl : Slots} {rf : Refs} {df : DF} {pn : PN} (h : WP T c ⟨sl, rf, df, pn, nb⟩ (NS nb N) (XS nb X)) (hN : ∀ sl rf df pn, N sl rf df pn → N' sl rf df pn) : WP T c ⟨sl, rf, df, pn, nb⟩ (NS nb N') (XS nb X) :=
 h.mono (fun _ h => ⟨h.1, hN _ _ _ _ h.2⟩) (fun _ _ h => h)
theorem loopW {σ : Type} (ch : σ → Slots) (hch : σ → List (Nat × List AV)) (m : σ → Nat) (P : σ → Prop) (x0 : σ)
  (h0 : P x0) (hs : sl = upd sl (ch x0)) (hr : rf = updR rf (hch x0))
  (step : ∀ x, P x → WP T b ⟨upd sl (ch x), updR rf (hch x), df, pn, nb⟩ (NS nb (fun sl' rf' df' pn' => IterE keep rf.length nb ch hch m P x sl rf df pn sl' (sl'.keep keep) rf' df' pn')) (XS nb X)) :
  LoopE T keep b sl rf df pn nb X := by
 have key : ∀ (k : Nat) x, m x = k → P x → LP T keep rf.length b ⟨upd sl (ch x), updR rf (hch x), df, pn, nb⟩ (XS nb X) := by
  intro k
  induction k using Nat.strongRecOn with
  | _ k ih =>
    intro x hk hP
    refine LP.step ((step x hP).mono (fun s h1 => ?_) (fun e s h1 => h1))
    obtain ⟨rfl, y, hPy, hm, h3, h4, h5, h6⟩ := h1
    have := ih (m y) (by omega) y rfl hPy
    rw [trim_eq, h3, h4, h5, h6]
    exact this
 have := key _ x0 rfl h0
 rw [← hs, ← hr] at this
 exact ⟨this⟩
theorem loopR2 {α β : Type} (ch : α → β → Slots) (hch : α → β → List (Nat × List AV)) (m : α → β → Nat) (P : α → β → Prop) (x1 : α) (x2 : β)
  (h0 : P x1 x2) (hs : sl = upd sl (ch x1 x2)) (hr : rf = updR rf (hch x1 x2))
  (step : ∀ x1 x2, P x1 x2 → updK sl (ch x1 x2) fun sl1 => updRK rf (hch x1 x2) fun rf1 => lenK rf 0 fun n => vc T nb b (fun sl' rf' df' pn' => keepK sl' keep fun sl2 => Unit → Iter2 keep n nb ch hch m P x1 x2 sl rf df pn sl' sl2 rf' df' pn') X sl1 rf1 df pn) :
  LoopE T keep b sl rf df pn nb X := by
 refine loopW (fun p : α × β => ch p.1 p.2) (fun p => hch p.1 p.2) (fun p => m p.1 p.2) (fun p => P p.1 p.2) (x1, x2) h0 hs hr fun ⟨a, b⟩ hP => ?_
 refine kx_mono _ (vc_wp _ (lenK_el (updRK_el (updK_el (step a b hP))))) fun sl' rf' df' pn' h => ?_
 obtain ⟨y1, y2, h1, h2, h3, h4, h5, h6⟩ := keepK_el h ()
 exact ⟨(y1, y2), h1, h2, h3, by simpa using h4, h5, h6⟩
theorem loopR3 {α β γ : Type} (ch : α → β → γ → Slots) (hch : α → β → γ → List (Nat × List AV)) (m : α → β → γ → Nat) (P : α → β → γ → Prop) (x1 : α) (x2 : β) (x3 : γ)
  (h0 : P x1 x2 x3) (hs : sl = upd sl (ch x1 x2 x3)) (hr : rf = updR rf (hch x1 x2 x3))
  (step : ∀ x1 x2 x3, P x1 x2 x3 → updK sl (ch x1 x2 x3) fun sl1 => updRK rf (hch x1 x2 x3) fun rf1 => lenK rf 0 fun n => vc T nb b (fun sl' rf' df' pn' => keepK sl' keep fun sl2 => Unit → Iter3 keep n nb ch hch m P x1 x2 x3 sl rf df pn sl' sl2 rf' df' pn') X sl1 rf1 df pn) :
  LoopE T keep b sl rf df pn nb X := by
 refine loopW (fun p : α × β × γ => ch p.1 p.2.1 p.2.2) (fun p => hch p.1 p.2.1 p.2.2) (fun p => m p.1 p.2.1 p.2.2) (fun p => P p.1 p.2.1 p.2.2) (x1, x2, x3) h0 hs hr fun ⟨a, b, c⟩ hP => ?_
 refine kx_mono _ (vc_wp _ (lenK_el (updRK_el (updK_el (step a b c hP))))) fun sl' rf' df' pn' h => ?_
 obtain ⟨y1, y2, y3, h1, h2, h3, h4, h5, h6⟩ := keepK_el h ()
 exact ⟨(y1, y2, y3), h1, h2, h3, by simpa using h4, h5, h6⟩
theorem loopR4 {α β γ δ : Type} (ch : α → β → γ → δ → Slots) (hch : α → β → γ → δ → List (Nat × List AV)) (m : α → β → γ → δ → Nat) (P : α → β → γ → δ → Prop) (x1 : α) (x2 : β) (x3 : γ) (x4 : δ)
  (h0 : P x1 x2 x3 x4) (hs : sl = upd sl (ch x1 x2 x3 x4)) (hr : rf = updR rf (hch x1 x2 x3 x4))
  (step : ∀ x1 x2 x3 x4, P x1 x2 x3 x4 → updK sl (ch x1 x2 x3 x4) fun sl1 => updRK rf (hch x1 x2 x3 x4) fun rf1 => lenK rf 0 fun n => vc T nb b (fun sl' rf' df' pn' => keepK sl' keep fun sl2 => Unit → Iter4 keep n nb ch hch m P x1 x2 x3 x4 sl rf df pn sl' sl2 rf' df' pn') X sl1 rf1 df pn) :
  LoopE T keep b sl rf df pn nb X := by
 refine loopW (fun p : α × β × γ × δ => ch p.1 p.2.1 p.2.2.1 p.2.2.2) (fun p => hch p.1 p.2.1 p.2.2.1 p.2.2.2) (fun p => m p.1 p.2.1 p.2.2.1 p.2.2.2) (fun p => P p.1 p.2.1 p.2.2.1 p.2.2.2) (x1, x2, x3, x4) h0 hs hr fun ⟨a, b, c, d⟩ hP => ?_
 refine kx_mono _ (vc_wp _ (lenK_el (updRK_el (updK_el (step a b c d hP))))) fun sl' rf' df' pn' h => ?_
 obtain ⟨y1, y2, y3, y4, h1, h2, h3, h4, h5, h6⟩ := keepK_el h ()
 exact ⟨(y1, y2, y3, y4), h1, h2, h3, by simpa using h4, h5, h6⟩
end
end Go.Ab
namespace Go.Ab
variable [Glb]
def FW (r : Option Nat) : Fence := { Fence.wide with round := r }
theorem callsIn_FW {r : Option Nat} {nn : Nat} {P : Program} {f : FuncId} {args : Array Value} {w : World} {R : Ending → World → Prop} (h : Calls P f args w R) : CallsIn (FW r) nn P f args w R :=
 callsIn_wide.2 h
theorem rowsIn_FW {r : Option Nat} {nn : Nat} {P : Program} {row : String} {args : Array Value} {w : World} {R : Value → World → Prop} (h : Rows P row args w R) : RowsIn (FW r) nn P row args w R :=
 fun c cs _ => let ⟨v, w', hr, s⟩ := h c cs; ⟨v, w', hr, stepsIn_wide.2 s⟩
section
variable {P : Program} {E : Env} {K : Ctx} {s : St} {a : Act} {w : World} {next : Act → World → Prop} {Q : Exit → Act → World → Prop} {C : CallFn} {N : Nat} {ops : Array Oper} {r : Option Nat} {nn : Nat}
theorem wpIn_of_wp {o : Oper} (hd : o.semAt r a.eval = execOp a.eval o) (h : o.wp P a w next Q) : o.wpIn (FW r) nn P a w next Q := by
 refine ⟨fun f _ => trivial, ?_⟩
 have hr : (FW r).round = r := rfl
 rw [hr, hd]
 unfold Oper.wp at h
 generalize (execOp a.eval o).run P w = x at h
 unfold Oper.upon at h
 split at h
 ·exact h
 ·exact h
 ·exact h
 ·exact ⟨fun hh => by simp [FW, Fence.wide] at hh, callsIn_FW h⟩
 ·exact ⟨fun hh => by simp [FW, Fence.wide] at hh, rowsIn_FW h⟩
 ·exact h
 ·exact h.elim
def AOpk.isDefer : AOpk → Bool
 | .defer _ _ => true
 | _ => false
def AC.noDefer : AC → Bool
 | .ops l => l.all fun o => !o.op.isDefer
 | .seq a b => a.noDefer && b.noDefer
 | .cond _ t e => t.noDefer && e.noDefer
 | .block _ b => b.noDefer
 | .loop _ b => b.noDefer
 | .trim _ b => b.noDefer
 | _ => true
def AC.flat : AC → Bool
 | .seq a b => a.flat && b.flat
 | .cond _ t e => t.flat && e.flat
 | .block _ b => b.flat
 | .loop _ b => b.flat
 | .trim _ b => b.flat
 | .scope _ _ _ => false
 | .label => false
 | .goto _ => false
 | _ => true
set_option maxHeartbeats 1000000 in
theorem not_defer {x : AOpk} {o : Oper} (h : chkOp P x o = true) (hx : x.isDefer = false) : ∀ c, o.op ≠ .defer c := by
 intro c hc
 cases x <;> simp only [AOpk.isDefer, Bool.true_eq_false] at hx <;> simp [chkOp, hc] at h
theorem opsIn_wp (hC : CallSound P C) (hCW : CallWF C) {l : List AOp} (hc : chkL P N ops l ops.toList = true) (hnd : r = none ∨ ∀ o, o ∈ l → o.op.isDefer = false) : ∀ (ord : List Nat) (s : St) (a : Act) (w : World) (K : Ctx) (e : Ex) (s' : St),
  Inv E K s a w N → runOps C (pickL l ord) s = some (e, s') → (∀ ex a' w' K', ExR K' e ex → Inv E K' s' a' w' N → Up s.rf.length K K' → Q ex a' w') → wpOpsIn (FW r) nn P ops Q ord a w
 | [], s, a, w, K, e, s', h, hr, hQ => by
   simp only [pickL, List.filterMap_nil, runOps, Option.some.injEq, Prod.mk.injEq] at hr
   obtain ⟨rfl, rfl⟩ := hr
   exact hQ .normal a w K trivial h (Up.refl _ _)
 | i :: ord, s, a, w, K, e, s', h, hr, hQ => by
   rcases chkL_get hc i with ⟨h1, h2⟩ | ⟨ao, o, h1, h2, h3⟩
   ·rw [Array.getElem?_toList] at h2
    simp only [pickL, List.filterMap_cons, h1] at hr
    simp only [wpOpsIn, h2]
    exact opsIn_wp hC hCW hc hnd ord s a w K e s' h hr hQ
   ·rw [Array.getElem?_toList] at h2
    simp only [pickL, List.filterMap_cons, h1, runOps] at hr
    simp only [wpOpsIn, h2]
    have h3' := h3
    simp only [chk1, Bool.and_eq_true, beq_iff_eq] at h3'
    obtain ⟨⟨⟨⟨⟨c1, c2⟩, _⟩, c3⟩, c4⟩, c5⟩ := h3'
    split at hr
    ·simp at hr
    ·rename_i hwant
     rw [guard_ok h.sim c5 hwant rfl]
     simp only [Bool.false_eq_true, if_false]
     refine ⟨fun _ _ => trivial, ?_⟩
     have hI : Inv E K (putO s ao.dst (.tup [])) (a.put ao.dst undef) w N :=
      h.put h.sim h.wf (Up.refl _ _) rfl (by simp only [Rep, RepL]; exact ⟨#[], rfl, rfl⟩) (by simp [AV.refB, AV.refBs]) (fresh_of_not_own (by intro es e; cases e)) (fun d hd => by rw [hd] at c4; simp at c4; exact c4.1)
     rw [← c3]
     refine opsIn_wp hC hCW hc hnd ord _ _ w K e s' hI hr fun ex a' w' K' h5 h6 h7 => hQ ex a' w' K' h5 h6 (by rwa [putO_rf] at h7)
    ·rename_i hwant
     rw [guard_ok h.sim c5 hwant rfl]
     simp only [if_true]
     have hsem : o.semAt r a.eval = execOp a.eval o := by
      rcases hnd with rfl | hnd
      ·rfl
      ·exact Oper.semAt_eq _ _ _ (not_defer c1 (hnd ao (List.mem_of_getElem? h1)))
     refine wpIn_of_wp hsem ?_
     split at hr
     ·rename_i v s1 hs
      refine step_wp hC hCW h h3 hs ?_
      intro a' w' K' h5 h6
      have hl := stepOp_len hCW hs h.wf c2
      refine opsIn_wp hC hCW hc hnd ord _ _ w' K' e s' h5 hr fun ex a'' w'' K'' h7 h8 h9 => hQ ex a'' w'' K'' h7 h8 (h6.trans (h9.le ?_))
      rw [putO_rf]; exact hl
     ·rename_i s1 hs
      refine step_wp hC hCW h h3 hs ?_
      intro a' w' K' h5 h6
      have hl := stepOp_len hCW hs h.wf c2
      exact opsIn_wp hC hCW hc hnd ord _ _ w' K' e s' h5 hr fun ex a'' w'' K'' h7 h8 h9 => hQ ex a'' w'' K'' h7 h8 (h6.trans (h9.le hl))
     ·rename_i v s1 hs
      refine step_wp hC hCW h h3 hs ?_
      intro a' pv ch w' K' h5 h6 h7 h8
      split at hr
      ·simp only [Option.some.injEq, Prod.mk.injEq] at hr
       obtain ⟨rfl, rfl⟩ := hr
       exact hQ (.panic ch) a' w' K' ⟨pv, h6, h7⟩ h5 h8
      ·simp at hr
     ·simp at hr
theorem runIn_wp (hC : CallSound P C) (hCW : CallWF C) (h0 : RB E.rf0.length E.rf0) (kk : Nat) : ∀ (c : AC) (code : Code) (s : St) (a : Act) (w : World) (K : Ctx) (Q : Exit → Act → World → Prop) (e : Ex) (s' : St),
  chkC P N c code = true → c.cok = true → c.flat = true → (r = none ∨ c.noDefer = true) → Inv E K s a w N → run C kk c s = some (e, s') → (∀ ex a' w' K', ExR K' e ex → Inv E K' s' a' w' N → Q ex a' w') → code.wpIn (FW r) nn P Q a w
 | .skip, code, s, a, w, K, Q, e, s', hc, _, hfl, _, h, hr, hQ => by
   cases code <;> simp [chkC] at hc
   simp only [run, Option.some.injEq, Prod.mk.injEq] at hr
   obtain ⟨rfl, rfl⟩ := hr
   exact wpIn_skip (hQ .normal a w K trivial h)
 | .ops l, code, s, a, w, K, Q, e, s', hc, hk, hfl, hnd, h, hr, hQ => by
   cases code <;> simp [chkC] at hc
   rename_i id ops draw
   simp only [run] at hr
   have hnd' : r = none ∨ ∀ o, o ∈ l → o.op.isDefer = false := hnd.imp (fun x => x) fun q o ho => by simpa using List.all_eq_true.1 q o ho
   have hlen : l.length = ops.size := by
    have : ∀ {l : List AOp} {m : List Oper}, chkL P N ops l m = true → l.length = m.length := fun {l m} => by
     induction l generalizing m with
     | nil => intro h; cases m <;> simp [chkL] at h ⊢
     | cons x l ih =>
       intro h
       cases m with
       | nil => simp [chkL] at h
       | cons o m =>
         simp only [chkL, Bool.and_eq_true] at h
         simp [ih h.2]
    simpa using this hc.1
   cases draw with
   | false =>
     refine wpIn_region ?_
     have hp := pickL_range l ops.size 0 (by omega)
     rw [List.drop_zero, ← List.range_eq_range'] at hp
     exact opsIn_wp hC hCW hc.1 hnd' _ s a w K e s' h (by rw [hp]; exact hr) fun ex a' w' K' h1 h2 _ => hQ ex a' w' K' h1 h2
   | true =>
     refine wpIn_region_draw fun t => ?_
     have hd : P.follows .mixedOrders = true ∧ drawOK ops l = true := by
      rcases hc.2 with h | h
      ·cases h
      ·exact h
     rw [hd.1]
     obtain ⟨u', h1, h2⟩ := schedule_runs hlen hd.2 t hr
     have h' : Inv E K s a { w with drawn := w.drawn + 1 } N := ⟨h.sim.drew, h.wf, h.df, h.size⟩
     refine opsIn_wp hC hCW hc.1 hnd' _ s a _ K e u' h' h1 fun ex a' w' K' h3 h4 _ => hQ ex a' w' K' h3 (h4.alike ⟨fun t => (h2.1 t).symm, h2.2.symm⟩)
 | .seq x y, code, s, a, w, K, Q, e, s', hc, hk, hfl, hnd, h, hr, hQ => by
   cases code <;> simp [chkC] at hc
   rename_i cx cy
   simp only [AC.cok, Bool.and_eq_true] at hk
   simp only [run] at hr
   refine wpIn_seq ?_
   split at hr
   ·rename_i s1 hr1
    refine runIn_wp hC hCW h0 kk x cx s a w K _ _ s1 hc.1 hk.1 (Bool.and_eq_true_iff.1 hfl).1 (hnd.imp (fun x => x) fun q => (Bool.and_eq_true_iff.1 q).1) h hr1 fun ex a' w' K' h1 h2 => ?_
    cases ex <;> simp only [ExR] at h1
    exact runIn_wp hC hCW h0 kk y cy s1 a' w' K' Q e s' hc.2 hk.2 (Bool.and_eq_true_iff.1 hfl).2 (hnd.imp (fun x => x) fun q => (Bool.and_eq_true_iff.1 q).2) h2 hr hQ
   ·rename_i hne
    refine runIn_wp hC hCW h0 kk x cx s a w K _ e s' hc.1 hk.1 (Bool.and_eq_true_iff.1 hfl).1 (hnd.imp (fun x => x) fun q => (Bool.and_eq_true_iff.1 q).1) h hr fun ex a' w' K' h1 h2 => ?_
    have hq := hQ ex a' w' K' h1 h2
    cases ex with
    | normal =>
      cases e <;> simp only [ExR] at h1
      exact absurd hr (hne s')
    | _ => exact hq
 | .cond c t f, code, s, a, w, K, Q, e, s', hc, hk, hfl, hnd, h, hr, hQ => by
   cases code <;> simp [chkC] at hc
   rename_i c' ct cf
   simp only [AC.cok, Bool.and_eq_true] at hk
   simp only [run] at hr
   split at hr
   ·rename_i hg
    have := getO_rep h.sim hc.1.1 hg
    simp only [Rep, RepD] at this
    exact wpIn_cond_true this (runIn_wp hC hCW h0 kk t ct s a w K Q e s' hc.1.2 hk.1.2 (Bool.and_eq_true_iff.1 hfl).1 (hnd.imp (fun x => x) fun q => (Bool.and_eq_true_iff.1 q).1) h hr hQ)
   ·rename_i hg
    have := getO_rep h.sim hc.1.1 hg
    simp only [Rep, RepD] at this
    exact wpIn_cond_false this (runIn_wp hC hCW h0 kk f cf s a w K Q e s' hc.2 hk.2 (Bool.and_eq_true_iff.1 hfl).2 (hnd.imp (fun x => x) fun q => (Bool.and_eq_true_iff.1 q).2) h hr hQ)
   ·simp at hr
 | .block i b, code, s, a, w, K, Q, e, s', hc, hk, hfl, hnd, h, hr, hQ => by
   cases code <;> simp [chkC] at hc
   rename_i j cb
   obtain ⟨rfl, hc⟩ := hc
   simp only [AC.cok] at hk
   simp only [run] at hr
   refine wpIn_block ?_
   split at hr
   ·rename_i j s1 hr1
    refine runIn_wp hC hCW h0 kk b cb s a w K _ _ s1 hc hk hfl hnd h hr1 fun ex a' w' K' h1 h2 => ?_
    cases ex <;> simp only [ExR] at h1
    subst h1
    simp only [Exit.inBlock]
    split at hr
    ·rename_i hij
     simp only [Option.some.injEq, Prod.mk.injEq] at hr
     obtain ⟨rfl, rfl⟩ := hr
     rw [if_pos hij]
     exact hQ .normal a' w' K' trivial h2
    ·rename_i hij
     simp only [Option.some.injEq, Prod.mk.injEq] at hr
     obtain ⟨rfl, rfl⟩ := hr
     rw [if_neg hij]
     exact hQ (.exit j) a' w' K' rfl h2
   ·rename_i hne
    refine runIn_wp hC hCW h0 kk b cb s a w K _ e s' hc hk hfl hnd h hr fun ex a' w' K' h1 h2 => ?_
    have hq := hQ ex a' w' K' h1 h2
    cases ex with
    | exit j =>
      cases e <;> simp only [ExR] at h1
      subst h1
      exact absurd hr (hne _ s')
    | _ => exact hq
 | .loop keep b, code, s, a, w, K, Q, e, s', hc, hk, hfl, hnd, h, hr, hQ => by
   cases code <;> simp [chkC] at hc
   rename_i cb
   simp only [AC.cok] at hk
   simp only [run] at hr
   have key : ∀ (m : Nat) (n : Nat) (s : St) (a : Act) (w : World) (K : Ctx), E.rf0.length ≤ n → n ≤ s.rf.length → Inv E K s a w N → runLoop (run C kk b) keep n m s = some (e, s') → Code.roundsIn (FW r) nn P cb Q m a w := by
    intro m
    induction m with
    | zero => intro n s a w K _ _ _ hr; simp [runLoop] at hr
    | succ m ih =>
      intro n s a w K hn hn' h hr
      simp only [runLoop] at hr
      rw [roundsIn_succ]
      split at hr
      ·rename_i s1 hr1
       have hlen := (run_wf hCW kk h0 hr1 hk h.wf).2.2
       refine runIn_wp hC hCW h0 kk b cb s a w K _ _ s1 hc hk hfl hnd h hr1 fun ex a' w' K' h1 h2 => ?_
       cases ex <;> simp only [ExR] at h1
       exact ih n (s1.trimLoop keep n) a' w' K' hn (trimLoop_len keep (by omega)) (h2.trimLoop h0 keep hn (by omega)) hr
      ·rename_i hne
       refine runIn_wp hC hCW h0 kk b cb s a w K _ e s' hc hk hfl hnd h hr fun ex a' w' K' h1 h2 => ?_
       have hq := hQ ex a' w' K' h1 h2
       cases ex with
       | normal =>
         cases e <;> simp only [ExR] at h1
         exact absurd hr (hne s')
       | _ => exact hq
   refine wpIn_loop_rounds kk (key kk s.rf.length (s.trimLoop keep s.rf.length) a w K h.wf.le (trimLoop_len keep (Nat.le_refl _)) (h.trimLoop h0 keep h.wf.le (Nat.le_refl _)) hr)
 | .exit i, code, s, a, w, K, Q, e, s', hc, _, hfl, _, h, hr, hQ => by
   cases code <;> simp [chkC] at hc
   subst hc
   simp only [run, Option.some.injEq, Prod.mk.injEq] at hr
   obtain ⟨rfl, rfl⟩ := hr
   exact wpIn_exit (hQ (.exit i) a w K rfl h)
 | .ret, code, s, a, w, K, Q, e, s', hc, _, hfl, _, h, hr, hQ => by
   cases code <;> simp [chkC] at hc
   simp only [run, Option.some.injEq, Prod.mk.injEq] at hr
   obtain ⟨rfl, rfl⟩ := hr
   exact wpIn_ret (hQ .ret a w K trivial h)
 | .hole, code, s, a, w, K, Q, e, s', hc, _, hfl, _, h, hr, hQ => by simp [run] at hr
 | .label, code, s, a, w, K, Q, e, s', hc, _, hfl, _, h, hr, hQ => by simp [AC.flat] at hfl
 | .goto l, code, s, a, w, K, Q, e, s', hc, _, hfl, _, h, hr, hQ => by simp [AC.flat] at hfl
 | .scope l b r, code, s, a, w, K, Q, e, s', hc, _, hfl, _, h, hr, hQ => by simp [AC.flat] at hfl
 | .trim keep b, code, s, a, w, K, Q, e, s', hc, hk, hfl, hnd, h, hr, hQ => by
   simp only [chkC] at hc
   simp only [AC.cok] at hk
   simp only [run] at hr
   split at hr
   ·rename_i s1 hr1
    simp only [Option.some.injEq, Prod.mk.injEq] at hr
    obtain ⟨rfl, rfl⟩ := hr
    exact runIn_wp hC hCW h0 kk b code s a w K Q _ s1 hc hk hfl hnd h hr1 fun ex a' w' K' h1 h2 => hQ ex a' w' K' h1 (h2.keep keep)
   ·exact runIn_wp hC hCW h0 kk b code s a w K Q e s' hc hk hfl hnd h hr hQ
end
end Go.Ab
namespace Go.Ab
variable [Glb]
open Go.RowKit
theorem Sim.below {E : Env} {K : Ctx} {s : St} {tm : Array Value} {w w' : World} (h : Sim E K s tm w) (hb : Below w.heap.size w w') : Sim E K s tm w' := by
 have hk : ∀ b o, w.heap[b]? = some o → w'.heap[b]? = some o := fun b o hh => by rw [hb.block b (heap_lt hh)]; exact hh
 have hcell : ∀ a v, w.cell? a = some v → w'.cell? a = some v := fun a v hh => by
  rw [World.cell?_of_block (hb.block _ (cell_lt hh))]; exact hh
 have hkeep : ∀ b, b < E.w0.heap.size → w'.heap[b]? = w.heap[b]? := fun b hb' => hb.block b (Nat.lt_of_lt_of_le hb' h.size)
 have hbl : ∀ r b, r < s.rf.length → K.ρ r = some b → b < w.heap.size := fun r b hr hb => by
  obtain ⟨cs, hcs⟩ : ∃ cs, s.rf[r]? = some cs := ⟨_, List.getElem?_eq_getElem hr⟩
  obtain ⟨b', vs', el', h1, h2, _⟩ := h.refs r cs hcs
  rw [h1] at hb
  cases hb
  exact heap_lt h2
 have hh : ∀ ℓ es v, holds K s tm w' ℓ (.own es) v → holds K s tm w ℓ (.own es) v := fun ℓ es v h' => by
  cases ℓ with
  | sl t => exact h'
  | rf r i =>
    obtain ⟨cs', β, h1, h2, h3, h4⟩ := h'
    have := hbl r β (List.getElem?_eq_some_iff.1 h1).1 h3
    rw [World.cell?_of_block (hb.block _ this)] at h4
    exact ⟨cs', β, h1, h2, h3, h4⟩
 refine ⟨Nat.le_trans h.size hb.size, hb.os.trans h.os, hb.tape.trans h.tape, hb.output.trans h.output, fun b hlt hT => ?_, h.gle, h.rho, fun b o v hg => hcell _ _ (h.cells b o v hg), fun r cs hr => ?_, h.refG, h.inj, fun b f hf => ?_, h.slots,
  fun ℓ es v h1 => ?_, fun ℓ ℓ' es es' v v' b h1 h2 => h.uniq ℓ ℓ' es es' v v' b (hh _ _ _ h1) (hh _ _ _ h2), fun ℓ es v b h1 => h.tO ℓ es v b (hh _ _ _ h1), h.tR⟩
 ·have := h.keep b hlt hT
  exact ⟨(hkeep b hlt).trans this.1, this.2⟩
 ·obtain ⟨b, vs, el, h1, h2, h3⟩ := h.refs r cs hr
  exact ⟨b, vs, el, h1, hk _ _ h2, h3⟩
 ·obtain ⟨⟨c, el, fz, hc, hz⟩, hg⟩ := h.rows b f hf
  exact ⟨⟨c, el, fz, hk _ _ hc, hz⟩, hg⟩
 ·exact (h.own ℓ es v (hh _ _ _ h1)).mono (Le.refl _) (fun b f hf _ => hf) (fun b _ c el fz hc => ⟨c, hk _ _ hc, rfl⟩)
def D.flat : D → Option Value
 | .int k n => some (.int k n)
 | .bool b => some (.bool b)
 | .str s => some (.string ⟨s.toArray⟩)
 | _ => none
theorem RepD.flat {G : Ghost} {x : D} {v u : Value} (hf : x.flat = some u) (h : RepD G x v) : v = u := by
 cases x <;> simp [D.flat] at hf <;> subst hf <;> simpa [RepD] using h
theorem RepD.of_flat {G : Ghost} {x : D} {u : Value} (hf : x.flat = some u) : RepD G x u := by
 cases x <;> simp [D.flat] at hf <;> subst hf <;> simp [RepD]
theorem calls_of_evG {P : Program} {T : Tb} (hN : FitN P T.tab) (hD : FitD P T.tabD) (hO : OrcOK P T.orc) {f : FuncId} {args : List AV} {x : D} {u : Value} {rf : Refs} (he : Ev T f args [] (.ret (.d x)) rf) (hu : x.flat = some u)
  (hf : ∃ af, T.tab f = some af) (ha : AV.refBs args = 0) (hno : ∀ y ∈ args, ∀ es, y ≠ .own es) {vs : Array Value} (hr : RepL K0 args vs.toList) (W : World) (hg : GlbIn W) :
  Calls P f vs W fun e W' => e = .returned u ∧ Below W.heap.size W W' := by
 obtain ⟨k, hrun⟩ := he
 have hTN : TabOK T.tab := fun f af h => let ⟨_, _, hf, _⟩ := hN f af h; hf.cok
 have hTD : TabOK T.tabD := fun f af h => let ⟨_, _, hf, _⟩ := hD f af h; hf.cok
 have hCW : CallWF (T.C k) := call_wf hTN hTD (fun f args v h => (hO f args v h).1) k
 have hd := call_sound hN hD hO k f args [] _ rf hrun ⟨W, K0, [], fun _ => False⟩ K0 St.blank #[] W vs rfl (sim_start hg) blank_wf (by rw [ha]; exact Nat.le_refl _) hno hr
 obtain ⟨af, haf⟩ := hf
 obtain ⟨fn, code, hfit, _⟩ := hN f af haf
 unfold Does at hd
 rw [hfit.call vs W] at hd
 refine hd.mono fun e W' ⟨K', h1, _, h3⟩ => ?_
 cases e with
 | returned v =>
   obtain ⟨av, e1, h4, _⟩ := h3
   cases e1
   simp only [Rep] at h4
   exact ⟨by rw [h4.flat hu], ⟨h1.os, h1.tape, h1.output, h1.size, fun b hb => (h1.keep b hb (fun hf => hf)).1⟩⟩
 | panicked ch => obtain ⟨av, pv, e1, _⟩ := h3; cases e1
 | outgrown => exact h3.elim
theorem orcAt_of_calls {P : Program} {f : FuncId} {o : List AV → Option AV} (hen : ∀ args w, (callFunc f args).run P w = .ok (.enter f args) w)
  (h : ∀ args v, o args = some v → ∃ x u, v = .d x ∧ x.flat = some u ∧ ∀ (K : Ctx) (vs : Array Value), RepL K args vs.toList → ∀ w, Calls P f vs w fun e w' => e = .returned u ∧ Below w.heap.size w w') : OrcAt P f o := by
 intro args v hv
 obtain ⟨x, u, rfl, hu, hc⟩ := h args v hv
 refine ⟨rfl, fun es e => (by cases e), fun E K s tm w vs hs hw hr => ?_⟩
 unfold Does
 rw [hen vs w]
 refine (hc K vs hr w).mono fun e w' ⟨he, hb⟩ => ⟨K, u, hs.below hb, Up.refl _ _, he, ?_⟩
 simp only [Rep]
 exact RepD.of_flat hu
end Go.Ab
namespace Go.Ab
open Go.RowKit
theorem calls_of_ev {P : Program} {T : Tb} (hN : FitN P T.tab) (hD : FitD P T.tabD) (hO : OrcOK P T.orc) {f : FuncId} {args : List AV} {x : D} {u : Value} {rf : Refs} (he : Ev T f args [] (.ret (.d x)) rf) (hu : x.flat = some u)
  (hf : ∃ af, T.tab f = some af) (ha : AV.refBs args = 0) (hno : ∀ y ∈ args, ∀ es, y ≠ .own es) {vs : Array Value} (hr : RepL K0 args vs.toList) (W : World) :
  Calls P f vs W fun e W' => e = .returned u ∧ Below W.heap.size W W' := calls_of_evG hN hD hO he hu hf ha hno hr W fun _ _ _ h => nomatch h
end Go.Ab
namespace Go.Ab
open Go.RowKit
def K1 (b : Nat) : Ctx := ⟨fun _ _ => none, fun _ => none, fun r => if r = 0 then some b else none⟩
theorem sim_one {W : World} {b : Nat} {vs : Array Value} {el : TypeId} {cs : List AV} {sl : Slots} {tm : Array Value} (hb : W.heap[b]? = some (.cells vs el)) (hr : RepL (K1 b) cs vs.toList) (hno : ∀ x, x ∈ cs → ∀ es, x ≠ .own es)
  (hsl : ∀ t av, sl.get t = some av → t < tm.size ∧ Rep (K1 b) av (tm.getD t undef) ∧ av.refB ≤ 1 ∧ ∀ es, av ≠ .own es) : Sim ⟨W, K1 b, [cs], fun k => k = b⟩ (K1 b) ⟨sl, [cs], [], none, 1⟩ tm W := by
 have hrr : ∀ (r : Nat) k, (K1 b).ρ r = some k → r = 0 ∧ k = b := fun r k h => by
  simp only [K1] at h
  split at h
  ·rename_i h0; cases h; exact ⟨h0, rfl⟩
  ·cases h
 have hn : ∀ ℓ es v, ¬ holds (K1 b) ⟨sl, [cs], [], none, 1⟩ tm W ℓ (.own es) v := fun ℓ es v hh => by
  cases ℓ with
  | sl t => exact (hsl t _ hh.1).2.2.2 es rfl
  | rf r i =>
    obtain ⟨cs', β, h1, h2, h3, _⟩ := hh
    obtain ⟨rfl, _⟩ := hrr r β h3
    simp only [List.getElem?_cons_zero, Option.some.injEq] at h1
    subst h1
    exact hno _ (List.mem_of_getElem? h2) es rfl
 refine ⟨Nat.le_refl _, rfl, rfl, rfl, fun k _ _ => ⟨rfl, rfl, fun _ => rfl⟩, ⟨Le.refl _, fun _ _ _ h => nomatch h⟩, fun r _ => rfl, fun k o v h => by simp [K1] at h, fun r cs' h => ?_, fun r k _ _ => ⟨rfl, fun _ => rfl⟩, fun r r' k _ _ h1 h2 => ?_, fun k f h => by simp [K1] at h,
  fun t av ht => ⟨(hsl t av ht).1, (hsl t av ht).2.1⟩, fun ℓ es v hh => absurd hh (hn _ _ _), fun ℓ _ es _ v _ k hh => absurd hh (hn _ _ _), fun ℓ es v k hh => absurd hh (hn _ _ _), fun r k _ h _ => (hrr r k h).2⟩
 ·cases r with
  | zero =>
    simp only [List.getElem?_cons_zero, Option.some.injEq] at h
    subst h
    exact ⟨b, vs, el, rfl, hb, hr⟩
  | succ r => simp at h
 ·rw [(hrr r k h1).1, (hrr r' k h2).1]
theorem round_of_wp {P : Program} {T : Tb} (hN : FitN P T.tab) (hD : FitD P T.tabD) (hO : OrcOK P T.orc) {c : AC} {code : Code} {N l nn : Nat} {sl : Slots} {cs cs' : List AV} {W : World} {b : Nat} {vs : Array Value} {el : TypeId} {tm : Array Value}
  (hb : W.heap[b]? = some (.cells vs el)) (hr : RepL (K1 b) cs vs.toList) (h0 : AV.refBs cs = 0) (hno : ∀ x, x ∈ cs → ∀ es, x ≠ .own es)
  (hsl : ∀ t av, sl.get t = some av → t < tm.size ∧ Rep (K1 b) av (tm.getD t undef) ∧ av.refB ≤ 1 ∧ ∀ es, av ≠ .own es) (hsz : N ≤ tm.size)
  (hchk : chkC P N c code = true) (hcok : c.cok = true) (hflat : c.flat = true) (hnd : c.noDefer = true)
  (hwp : WP T c ⟨sl, [cs], [], none, 1⟩ (fun st => ∃ sl', st = ⟨sl', [cs'], [], none, 1⟩) (fun _ _ => False)) {Q : Exit → Act → World → Prop}
  (hQ : ∀ a' W' K' vs' el', W'.heap[b]? = some (.cells vs' el') → RepL K' cs' vs'.toList → (∀ k, k < W.heap.size → k ≠ b → W'.heap[k]? = W.heap[k]?) → W.heap.size ≤ W'.heap.size → W'.os = W.os → W'.tape = W.tape → W'.output = W.output → Q .normal a' W') :
  code.wpIn (FW (some l)) nn P Q { tmps := tm, defers := [] } W := by
 obtain ⟨k, e, s', hrun, hex⟩ := hwp
 have hTN : TabOK T.tab := fun f af h => let ⟨_, _, hf, _⟩ := hN f af h; hf.cok
 have hTD : TabOK T.tabD := fun f af h => let ⟨_, _, hf, _⟩ := hD f af h; hf.cok
 have hCW : CallWF (T.C k) := call_wf hTN hTD (fun f args v h => (hO f args v h).1) k
 have hC := call_sound hN hD hO k
 have hrb : RB ([cs] : Refs).length [cs] := fun r cs' h => by
  cases r with
  | zero => simp only [List.getElem?_cons_zero, Option.some.injEq] at h; subst h; rw [h0]; exact Nat.zero_le _
  | succ r => simp at h
 have hwf : WF [cs] ⟨sl, [cs], [], none, 1⟩ := ⟨rfl, Nat.le_refl _, fun n v h => (hsl n v h).2.2.1, hrb, fun m _ h => h, fun p h => by simp at h, fun v h => by simp at h⟩
 cases e with
 | nrm =>
   obtain ⟨sl', rfl⟩ := hex
   refine runIn_wp (E := ⟨W, K1 b, [cs], fun k => k = b⟩) hC hCW hrb k c code _ _ W (K1 b) Q .nrm _ hchk hcok hflat (.inr hnd) ⟨sim_one hb hr hno hsl, hwf, rfl, hsz⟩ hrun fun ex a' w' K' h1 h2 => ?_
   cases ex <;> simp only [ExR] at h1
   obtain ⟨β, vs', el', h3, h4, h5⟩ := h2.sim.refs 0 cs' rfl
   have h6 := h2.sim.rho 0 (by simp)
   rw [h3] at h6
   simp only [K1, if_true, Option.some.injEq] at h6
   subst h6
   exact hQ a' w' K' vs' el' h4 h5 (fun k hk hne => (h2.sim.keep k hk hne).1) h2.sim.size h2.sim.os h2.sim.tape h2.sim.output
 | exit i => exact hex.elim
 | goto i => exact hex.elim
 | ret => exact hex.elim
 | pan v => exact hex.elim
end Go.Ab
namespace Go.Ab
mutual
theorem mv_id {m : Mv} {n : Nat} (hm : ∀ i, i < n → m.to i = i) : ∀ {v : AV}, v.refB ≤ n → v.mv m = v
 | .d x, _ => rfl
 | .nil, _ => rfl
 | .own es, _ => rfl
 | .ptr r off, h => by simp only [AV.refB] at h; simp only [AV.mv, hm r (by omega)]
 | .ept cs off, _ => rfl
 | .sref r off n, h => by simp only [AV.refB] at h; simp only [AV.mv, hm r (by omega)]
 | .fn f a b, h => by
   simp only [AV.refB] at h
   simp only [AV.mv]
   rw [mvs_id hm (by omega), mvs_id hm (by omega)]
 | .ifc t v, h => by simp only [AV.refB] at h; simp only [AV.mv]; rw [mv_id hm h]
 | .agg cs, h => by simp only [AV.refB] at h; simp only [AV.mv]; rw [mvs_id hm h]
 | .tup vs, h => by simp only [AV.refB] at h; simp only [AV.mv]; rw [mvs_id hm h]
theorem mvs_id {m : Mv} {n : Nat} (hm : ∀ i, i < n → m.to i = i) : ∀ {l : List AV}, AV.refBs l ≤ n → AV.mvs m l = l
 | [], _ => rfl
 | v :: r, h => by
   simp only [AV.refBs] at h
   simp only [AV.mvs]
   rw [mv_id hm (by omega), mvs_id hm (by omega)]
end
theorem Ev.frame {T : Tb} [hT : TOK T] {f : FuncId} {args : List AV} {rf : Refs} {o : Out} (h : Ev T f args rf o rf) (ha : AV.refBs args ≤ rf.length) (hc : ∀ c, c ∈ rf → AV.refBs c ≤ rf.length) (ho : o.val.refB ≤ rf.length) (X : Refs) :
  Ev T f args (rf ++ X) o (rf ++ X) := by
 let m : Mv := ⟨rf.length, rf.length + X.length, id, fun i j h _ => h, fun i h => by simp only [id]; omega⟩
 have hm : ∀ i, i < rf.length → m.to i = i := fun i hi => by show (if i < rf.length then id i else _) = i; rw [if_pos hi]; rfl
 have hR : Rl m (rf ++ X) rf (rf ++ X) := by
  refine ⟨Nat.le_refl _, by simp only [List.length_append]; show _ = rf.length + X.length + (rf.length - rf.length); omega, fun i hi => ?_, fun _ _ _ => rfl⟩
  rw [hm i hi, List.getElem?_append_left hi, List.getElem?_eq_getElem hi]
  simp only [Option.map_some]
  rw [mvs_id hm (hc _ (List.getElem_mem hi))]
 obtain ⟨RF', h1, h2⟩ := h.big m hR
 rw [hR.uniq h1, mvs_id hm ha] at h2
 have : o.mv m = o := by cases o <;> (simp only [Out.val] at ho; simp only [Out.mv, mv_id hm ho])
 rwa [this] at h2
end Go.Ab
namespace Go.Ab
open Go.RowKit Go.ChangeShapes Go.WideShapes Go.ChangeAt
theorem post_of_below {H : Type} {enc : TypeId × Value → H} {P : Program} {f : Func} {s : ChangeSpec} {apart fresh handsOn : Bool} {W W' : World} {args : Array Value} {v : Value} {ds gs : List (DataW H)} {before pa pv : List MemPlace}
  (hW : DataW.Whole enc P f.params.toList s.vars apart W args.toList ds gs before)
  (hres : ∀ (b : Nat) (sp : Nat → Bool) (hd : Bool), DataW.TrodAll enc P W' b sp hd f.resultTypes.toList (v.resultList f.resultTypes.size) (s.fn H (ds ++ gs)).results [])
  (hargs : ∀ sp : Nat → Bool, (∀ p ∈ before, sp p.block = true) → DataW.TrodAll enc P W' 0 sp true f.params.toList args.toList (s.fn H (ds ++ gs)).args pa)
  (hvars : ∀ sp : Nat → Bool, (∀ p ∈ before, sp p.block = true) → DataW.TrodVars enc P W' sp s.vars (s.fn H (ds ++ gs)).vars pv)
  (hb : Below W.heap.size W W') : s.post enc P f apart fresh handsOn false W args v W' := by
 have hold : ∀ p ∈ before, (fun b => decide (b < W.heap.size)) p.block = true := fun p hp => by simpa using hW.lt p hp
 exact ⟨ds, gs, before, [], pa, pv, hW, hres _ _ _, hargs _ hold, hvars _ hold, hb.frame _, fun h => by cases h⟩
end Go.Ab
