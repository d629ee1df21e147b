/- The statements of chapter 4 of sets: a class and all others; spans. -/
import Derived.Test.YtpdfcjgehdlheaaText304
import Derived.Test.YtpdfcjgehdlheaaClass704
import Derived.KernelRfl
namespace Go.Ab.R04
set_option maxRecDepth 100000
set_option linter.all false
set_option maxHeartbeats 4000000

theorem shownb_ev : Ev T1 f_law04_shown [] [] (.ret (bl true)) [] := ⟨60, by kernel_rfl⟩

section
variable {T : Tb} {sl : Slots} {rf : Refs} {df : List (AV × List AV)} {pn : Option (Option AV)} {nb : Nat} {N : St → Prop} {X : Ex → St → Prop} {r : List AOp} {d : Nat} {g : Option (Nat × Bool)} {may : Bool}
theorem o_beqt {ne : Bool} {x y : Opd} {a b : Bool} (hg : wantedL sl g = some true) (hx : getO sl x = some (.d (.bool a))) (hy : getO sl y = some (.d (.bool b))) (ht : ((a == b) != ne) = true) (h : OP T r ⟨(d, .d (.bool true)) :: sl, rf, df, pn, nb⟩ N X) : OP T (⟨some d, .beq ne x y, g, may⟩ :: r) ⟨sl, rf, df, pn, nb⟩ N X :=
  o_beq hg hx hy (by rw [ht]; exact h)
theorem o_eqct {ks : List PK} {x y : Opd} {a b : List AV} (hg : wantedL sl g = some true) (hx : getO sl x = some (.agg a)) (hy : getO sl y = some (.agg b)) (ht : eqCells ks a b = some true) (h : OP T r ⟨(d, .d (.bool true)) :: sl, rf, df, pn, nb⟩ N X) : OP T (⟨some d, .eqc false ks x y, g, may⟩ :: r) ⟨sl, rf, df, pn, nb⟩ N X :=
  o_eqc hg hx hy ht h
end

theorem eqCls (n : Nat) : eqCells [.int .u64, .int .u64, .int .u64, .int .u64] (clsC n) (clsC n) = some true := by
  simp [clsC, wdv, AV.nat, eqCells, D.kind?, D.eqP]

theorem notN_notN (n : Nat) (hn : n < 2 ^ 256) : notN (notN n) = n := by
  unfold notN
  rw [Nat.mod_eq_of_lt hn, Nat.mod_eq_of_lt (by omega)]
  omega

theorem or_notN (n : Nat) (hn : n < 2 ^ 256) : n ||| notN n = 2 ^ 256 - 1 := by
  apply Nat.eq_of_testBit_eq
  intro i
  rw [Nat.testBit_or, notN_bit, Nat.testBit_two_pow_sub_one]
  by_cases h : i < 256
  · simp [h]
  · simp [h]; exact Nat.testBit_lt_two_pow (Nat.lt_of_lt_of_le hn (Nat.pow_le_pow_right (by omega) (by omega)))

theorem pop_all : pop 256 (2 ^ 256 - 1) = 256 := by decide +kernel

theorem ClassNot_ev (n m c : Nat) (hn : n < 2 ^ 256) (hc : c < 256) : Ev T1 f_law04_ClassNot [cls n, cls m, u8 c] [] (.ret (bl true)) [] := by
  have hNot := fun rf => Not_ev (T := T1) n rf
  have hNot2 := fun rf => Not_ev (T := T1) (notN n) rf
  rw [notN_notN n hn] at hNot2
  have hOr1 := fun rf => Or_ev (T := T1) n m rf
  have hOr2 := fun rf => Or_ev (T := T1) n (notN n) rf
  have hCa := fun rf => Count_ev (T := T1) (n ||| notN n) rf
  rw [or_notN n hn] at hOr2 hCa
  rw [pop_all] at hCa
  have hCo := fun rf => Count_ev (T := T1) (n ||| m) rf
  have hCn := fun rf => Count_ev (T := T1) n rf
  have hle := pop_le_or 256 n m
  have hHn := fun rf => Has_ev (T := T1) n c hc rf
  have hHk := fun rf => Has_ev (T := T1) (notN n) c hc rf
  have hHo := fun rf => Has_ev (T := T1) (n ||| m) c hc rf
  have hHm := fun rf => Has_ev (T := T1) m c hc rf
  rw [notN_bit] at hHk
  rw [Nat.testBit_or] at hHo
  simp only [hc, decide_true, Bool.true_and] at hHk
  generalize 2 ^ 256 - 1 = a at *
  generalize notN n = k at *
  generalize n ||| m = o at *
  generalize pop 256 o = p at *
  generalize pop 256 n = q at *
  generalize m.testBit c = y at *
  cases hx : n.testBit c
  · rw [hx] at hHn hHk hHo
    simp only [Bool.not_false, Bool.false_or] at hHk hHo
    refine ev_callB rfl rfl ?_
    refine wp_seq ?_
    refine wp_ops ?_
    refine o_box rfl rfl rfl rfl ?_
    refine o_box rfl rfl rfl rfl ?_
    first | refine o_asgd rfl rfl ?_ | refine o_asgo rfl rfl ?_ | refine o_asg rfl rfl (fun _ h_ => by cases h_) ?_
    refine op_nil ?_
    refine wp_seq ?_
    refine wp_ops ?_
    refine o_callz rfl rfl rfl rfl (shownb_ev) ?_
    first | refine o_asgd rfl rfl ?_ | refine o_asgo rfl rfl ?_ | refine o_asg rfl rfl (fun _ h_ => by cases h_) ?_
    refine op_nil ?_
    refine wp_seq ?_
    refine wp_ops ?_
    first | (refine o_lcls (k := n) rfl rfl rfl ?_) | (refine o_lcls (k := m) rfl rfl rfl ?_) | (refine o_lcls (k := k) rfl rfl rfl ?_) | (refine o_lcls (k := o) rfl rfl rfl ?_)
    first | refine o_call rfl rfl rfl (hNot _) ?_ | refine o_call rfl rfl rfl (hNot2 _) ?_
    refine o_alloc rfl ?_
    refine o_scls rfl rfl rfl rfl rfl rfl ?_
    refine op_nil ?_
    refine wp_seq ?_
    refine wp_ops ?_
    first | (refine o_lcls (k := n) rfl rfl rfl ?_) | (refine o_lcls (k := m) rfl rfl rfl ?_) | (refine o_lcls (k := k) rfl rfl rfl ?_) | (refine o_lcls (k := o) rfl rfl rfl ?_)
    first | (refine o_lcls (k := n) rfl rfl rfl ?_) | (refine o_lcls (k := m) rfl rfl rfl ?_) | (refine o_lcls (k := k) rfl rfl rfl ?_) | (refine o_lcls (k := o) rfl rfl rfl ?_)
    first | refine o_call rfl rfl rfl (hOr1 _) ?_ | refine o_call rfl rfl rfl (hOr2 _) ?_
    refine o_alloc rfl ?_
    refine o_scls rfl rfl rfl rfl rfl rfl ?_
    refine op_nil ?_
    refine wp_seq ?_
    refine wp_ops ?_
    first | refine o_movd rfl rfl ?_ | refine o_movp rfl rfl ?_ | refine o_mova rfl rfl ?_ | refine o_mov rfl rfl ?_
    first | refine o_movd rfl rfl ?_ | refine o_movp rfl rfl ?_ | refine o_mova rfl rfl ?_ | refine o_mov rfl rfl ?_
    first | (refine o_lcls (k := n) rfl rfl rfl ?_) | (refine o_lcls (k := m) rfl rfl rfl ?_) | (refine o_lcls (k := k) rfl rfl rfl ?_) | (refine o_lcls (k := o) rfl rfl rfl ?_)
    first | refine o_movd rfl rfl ?_ | refine o_movp rfl rfl ?_ | refine o_mova rfl rfl ?_ | refine o_mov rfl rfl ?_
    first | refine o_callz rfl rfl rfl rfl (hHn _) ?_ | refine o_callz rfl rfl rfl rfl (hHk _) ?_ | refine o_callz rfl rfl rfl rfl (hHo _) ?_ | refine o_callz rfl rfl rfl rfl (hHm _) ?_
    first | (refine o_lcls (k := n) rfl rfl rfl ?_) | (refine o_lcls (k := m) rfl rfl rfl ?_) | (refine o_lcls (k := k) rfl rfl rfl ?_) | (refine o_lcls (k := o) rfl rfl rfl ?_)
    first | refine o_movd rfl rfl ?_ | refine o_movp rfl rfl ?_ | refine o_mova rfl rfl ?_ | refine o_mov rfl rfl ?_
    first | refine o_call rfl rfl rfl (hHn _) ?_ | refine o_call rfl rfl rfl (hHk _) ?_ | refine o_call rfl rfl rfl (hHo _) ?_ | refine o_call rfl rfl rfl (hHm _) ?_
    refine o_beqt rfl rfl rfl (by simp) ?_
    refine o_pickt rfl rfl rfl ?_
    first | refine o_movd rfl rfl ?_ | refine o_movp rfl rfl ?_ | refine o_mova rfl rfl ?_ | refine o_mov rfl rfl ?_
    first | (refine o_lcls (k := n) rfl rfl rfl ?_) | (refine o_lcls (k := m) rfl rfl rfl ?_) | (refine o_lcls (k := k) rfl rfl rfl ?_) | (refine o_lcls (k := o) rfl rfl rfl ?_)
    first | refine o_callz rfl rfl rfl rfl (hNot _) ?_ | refine o_callz rfl rfl rfl rfl (hNot2 _) ?_
    first | (refine o_lcls (k := n) rfl rfl rfl ?_) | (refine o_lcls (k := m) rfl rfl rfl ?_) | (refine o_lcls (k := k) rfl rfl rfl ?_) | (refine o_lcls (k := o) rfl rfl rfl ?_)
    refine o_eqct rfl rfl rfl (eqCls n) ?_
    refine o_pickt rfl rfl rfl ?_
    first | refine o_movd rfl rfl ?_ | refine o_movp rfl rfl ?_ | refine o_mova rfl rfl ?_ | refine o_mov rfl rfl ?_
    first | (refine o_lcls (k := n) rfl rfl rfl ?_) | (refine o_lcls (k := m) rfl rfl rfl ?_) | (refine o_lcls (k := k) rfl rfl rfl ?_) | (refine o_lcls (k := o) rfl rfl rfl ?_)
    first | (refine o_lcls (k := n) rfl rfl rfl ?_) | (refine o_lcls (k := m) rfl rfl rfl ?_) | (refine o_lcls (k := k) rfl rfl rfl ?_) | (refine o_lcls (k := o) rfl rfl rfl ?_)
    first | refine o_call rfl rfl rfl (hOr1 _) ?_ | refine o_call rfl rfl rfl (hOr2 _) ?_
    first | refine o_call rfl rfl rfl (hCa _) ?_ | refine o_call rfl rfl rfl (hCo _) ?_ | refine o_call rfl rfl rfl (hCn _) ?_
    first | refine o_eqln rfl rfl rfl ?_ | refine o_eqs rfl rfl rfl ?_ | refine o_bin rfl rfl rfl rfl ?_
    refine o_pickt rfl rfl rfl ?_
    first | refine o_movd rfl rfl ?_ | refine o_movp rfl rfl ?_ | refine o_mova rfl rfl ?_ | refine o_mov rfl rfl ?_
    first | (refine o_lcls (k := n) rfl rfl rfl ?_) | (refine o_lcls (k := m) rfl rfl rfl ?_) | (refine o_lcls (k := k) rfl rfl rfl ?_) | (refine o_lcls (k := o) rfl rfl rfl ?_)
    first | refine o_movd rfl rfl ?_ | refine o_movp rfl rfl ?_ | refine o_mova rfl rfl ?_ | refine o_mov rfl rfl ?_
    first | refine o_callz rfl rfl rfl rfl (hHn _) ?_ | refine o_callz rfl rfl rfl rfl (hHk _) ?_ | refine o_callz rfl rfl rfl rfl (hHo _) ?_ | refine o_callz rfl rfl rfl rfl (hHm _) ?_
    first | (refine o_lcls (k := n) rfl rfl rfl ?_) | (refine o_lcls (k := m) rfl rfl rfl ?_) | (refine o_lcls (k := k) rfl rfl rfl ?_) | (refine o_lcls (k := o) rfl rfl rfl ?_)
    first | refine o_movd rfl rfl ?_ | refine o_movp rfl rfl ?_ | refine o_mova rfl rfl ?_ | refine o_mov rfl rfl ?_
    first | refine o_call rfl rfl rfl (hHn _) ?_ | refine o_call rfl rfl rfl (hHk _) ?_ | refine o_call rfl rfl rfl (hHo _) ?_ | refine o_call rfl rfl rfl (hHm _) ?_
    first | refine o_movd rfl rfl ?_ | refine o_movp rfl rfl ?_ | refine o_mova rfl rfl ?_ | refine o_mov rfl rfl ?_
    first | (refine o_lcls (k := n) rfl rfl rfl ?_) | (refine o_lcls (k := m) rfl rfl rfl ?_) | (refine o_lcls (k := k) rfl rfl rfl ?_) | (refine o_lcls (k := o) rfl rfl rfl ?_)
    first | refine o_movd rfl rfl ?_ | refine o_movp rfl rfl ?_ | refine o_mova rfl rfl ?_ | refine o_mov rfl rfl ?_
    first | refine o_call rfl rfl rfl (hHn _) ?_ | refine o_call rfl rfl rfl (hHk _) ?_ | refine o_call rfl rfl rfl (hHo _) ?_ | refine o_call rfl rfl rfl (hHm _) ?_
    refine o_pickf rfl rfl rfl ?_
    refine o_beqt rfl rfl rfl (by simp) ?_
    refine o_pickt rfl rfl rfl ?_
    first | refine o_movd rfl rfl ?_ | refine o_movp rfl rfl ?_ | refine o_mova rfl rfl ?_ | refine o_mov rfl rfl ?_
    first | (refine o_lcls (k := n) rfl rfl rfl ?_) | (refine o_lcls (k := m) rfl rfl rfl ?_) | (refine o_lcls (k := k) rfl rfl rfl ?_) | (refine o_lcls (k := o) rfl rfl rfl ?_)
    first | refine o_callz rfl rfl rfl rfl (hCa _) ?_ | refine o_callz rfl rfl rfl rfl (hCo _) ?_ | refine o_callz rfl rfl rfl rfl (hCn _) ?_
    first | (refine o_lcls (k := n) rfl rfl rfl ?_) | (refine o_lcls (k := m) rfl rfl rfl ?_) | (refine o_lcls (k := k) rfl rfl rfl ?_) | (refine o_lcls (k := o) rfl rfl rfl ?_)
    first | refine o_call rfl rfl rfl (hCa _) ?_ | refine o_call rfl rfl rfl (hCo _) ?_ | refine o_call rfl rfl rfl (hCn _) ?_
    refine o_bin rfl rfl rfl (v := bl true) (bn_geq.trans (by rw [decide_eq_true hle])) ?_
    refine o_pickt rfl rfl rfl ?_
    first | refine o_asgd rfl rfl ?_ | refine o_asgo rfl rfl ?_ | refine o_asg rfl rfl (fun _ h_ => by cases h_) ?_
    refine op_nil ?_
    refine wp_ret ?_
    exact end1 rfl rfl rfl rfl (by first | rfl | simp)
  · rw [hx] at hHn hHk hHo
    simp only [Bool.not_true, Bool.true_or] at hHk hHo
    refine ev_callB rfl rfl ?_
    refine wp_seq ?_
    refine wp_ops ?_
    refine o_box rfl rfl rfl rfl ?_
    refine o_box rfl rfl rfl rfl ?_
    first | refine o_asgd rfl rfl ?_ | refine o_asgo rfl rfl ?_ | refine o_asg rfl rfl (fun _ h_ => by cases h_) ?_
    refine op_nil ?_
    refine wp_seq ?_
    refine wp_ops ?_
    refine o_callz rfl rfl rfl rfl (shownb_ev) ?_
    first | refine o_asgd rfl rfl ?_ | refine o_asgo rfl rfl ?_ | refine o_asg rfl rfl (fun _ h_ => by cases h_) ?_
    refine op_nil ?_
    refine wp_seq ?_
    refine wp_ops ?_
    first | (refine o_lcls (k := n) rfl rfl rfl ?_) | (refine o_lcls (k := m) rfl rfl rfl ?_) | (refine o_lcls (k := k) rfl rfl rfl ?_) | (refine o_lcls (k := o) rfl rfl rfl ?_)
    first | refine o_call rfl rfl rfl (hNot _) ?_ | refine o_call rfl rfl rfl (hNot2 _) ?_
    refine o_alloc rfl ?_
    refine o_scls rfl rfl rfl rfl rfl rfl ?_
    refine op_nil ?_
    refine wp_seq ?_
    refine wp_ops ?_
    first | (refine o_lcls (k := n) rfl rfl rfl ?_) | (refine o_lcls (k := m) rfl rfl rfl ?_) | (refine o_lcls (k := k) rfl rfl rfl ?_) | (refine o_lcls (k := o) rfl rfl rfl ?_)
    first | (refine o_lcls (k := n) rfl rfl rfl ?_) | (refine o_lcls (k := m) rfl rfl rfl ?_) | (refine o_lcls (k := k) rfl rfl rfl ?_) | (refine o_lcls (k := o) rfl rfl rfl ?_)
    first | refine o_call rfl rfl rfl (hOr1 _) ?_ | refine o_call rfl rfl rfl (hOr2 _) ?_
    refine o_alloc rfl ?_
    refine o_scls rfl rfl rfl rfl rfl rfl ?_
    refine op_nil ?_
    refine wp_seq ?_
    refine wp_ops ?_
    first | refine o_movd rfl rfl ?_ | refine o_movp rfl rfl ?_ | refine o_mova rfl rfl ?_ | refine o_mov rfl rfl ?_
    first | refine o_movd rfl rfl ?_ | refine o_movp rfl rfl ?_ | refine o_mova rfl rfl ?_ | refine o_mov rfl rfl ?_
    first | (refine o_lcls (k := n) rfl rfl rfl ?_) | (refine o_lcls (k := m) rfl rfl rfl ?_) | (refine o_lcls (k := k) rfl rfl rfl ?_) | (refine o_lcls (k := o) rfl rfl rfl ?_)
    first | refine o_movd rfl rfl ?_ | refine o_movp rfl rfl ?_ | refine o_mova rfl rfl ?_ | refine o_mov rfl rfl ?_
    first | refine o_callz rfl rfl rfl rfl (hHn _) ?_ | refine o_callz rfl rfl rfl rfl (hHk _) ?_ | refine o_callz rfl rfl rfl rfl (hHo _) ?_ | refine o_callz rfl rfl rfl rfl (hHm _) ?_
    first | (refine o_lcls (k := n) rfl rfl rfl ?_) | (refine o_lcls (k := m) rfl rfl rfl ?_) | (refine o_lcls (k := k) rfl rfl rfl ?_) | (refine o_lcls (k := o) rfl rfl rfl ?_)
    first | refine o_movd rfl rfl ?_ | refine o_movp rfl rfl ?_ | refine o_mova rfl rfl ?_ | refine o_mov rfl rfl ?_
    first | refine o_call rfl rfl rfl (hHn _) ?_ | refine o_call rfl rfl rfl (hHk _) ?_ | refine o_call rfl rfl rfl (hHo _) ?_ | refine o_call rfl rfl rfl (hHm _) ?_
    refine o_beqt rfl rfl rfl (by simp) ?_
    refine o_pickt rfl rfl rfl ?_
    first | refine o_movd rfl rfl ?_ | refine o_movp rfl rfl ?_ | refine o_mova rfl rfl ?_ | refine o_mov rfl rfl ?_
    first | (refine o_lcls (k := n) rfl rfl rfl ?_) | (refine o_lcls (k := m) rfl rfl rfl ?_) | (refine o_lcls (k := k) rfl rfl rfl ?_) | (refine o_lcls (k := o) rfl rfl rfl ?_)
    first | refine o_callz rfl rfl rfl rfl (hNot _) ?_ | refine o_callz rfl rfl rfl rfl (hNot2 _) ?_
    first | (refine o_lcls (k := n) rfl rfl rfl ?_) | (refine o_lcls (k := m) rfl rfl rfl ?_) | (refine o_lcls (k := k) rfl rfl rfl ?_) | (refine o_lcls (k := o) rfl rfl rfl ?_)
    refine o_eqct rfl rfl rfl (eqCls n) ?_
    refine o_pickt rfl rfl rfl ?_
    first | refine o_movd rfl rfl ?_ | refine o_movp rfl rfl ?_ | refine o_mova rfl rfl ?_ | refine o_mov rfl rfl ?_
    first | (refine o_lcls (k := n) rfl rfl rfl ?_) | (refine o_lcls (k := m) rfl rfl rfl ?_) | (refine o_lcls (k := k) rfl rfl rfl ?_) | (refine o_lcls (k := o) rfl rfl rfl ?_)
    first | (refine o_lcls (k := n) rfl rfl rfl ?_) | (refine o_lcls (k := m) rfl rfl rfl ?_) | (refine o_lcls (k := k) rfl rfl rfl ?_) | (refine o_lcls (k := o) rfl rfl rfl ?_)
    first | refine o_call rfl rfl rfl (hOr1 _) ?_ | refine o_call rfl rfl rfl (hOr2 _) ?_
    first | refine o_call rfl rfl rfl (hCa _) ?_ | refine o_call rfl rfl rfl (hCo _) ?_ | refine o_call rfl rfl rfl (hCn _) ?_
    first | refine o_eqln rfl rfl rfl ?_ | refine o_eqs rfl rfl rfl ?_ | refine o_bin rfl rfl rfl rfl ?_
    refine o_pickt rfl rfl rfl ?_
    first | refine o_movd rfl rfl ?_ | refine o_movp rfl rfl ?_ | refine o_mova rfl rfl ?_ | refine o_mov rfl rfl ?_
    first | (refine o_lcls (k := n) rfl rfl rfl ?_) | (refine o_lcls (k := m) rfl rfl rfl ?_) | (refine o_lcls (k := k) rfl rfl rfl ?_) | (refine o_lcls (k := o) rfl rfl rfl ?_)
    first | refine o_movd rfl rfl ?_ | refine o_movp rfl rfl ?_ | refine o_mova rfl rfl ?_ | refine o_mov rfl rfl ?_
    first | refine o_callz rfl rfl rfl rfl (hHn _) ?_ | refine o_callz rfl rfl rfl rfl (hHk _) ?_ | refine o_callz rfl rfl rfl rfl (hHo _) ?_ | refine o_callz rfl rfl rfl rfl (hHm _) ?_
    first | (refine o_lcls (k := n) rfl rfl rfl ?_) | (refine o_lcls (k := m) rfl rfl rfl ?_) | (refine o_lcls (k := k) rfl rfl rfl ?_) | (refine o_lcls (k := o) rfl rfl rfl ?_)
    first | refine o_movd rfl rfl ?_ | refine o_movp rfl rfl ?_ | refine o_mova rfl rfl ?_ | refine o_mov rfl rfl ?_
    first | refine o_call rfl rfl rfl (hHn _) ?_ | refine o_call rfl rfl rfl (hHk _) ?_ | refine o_call rfl rfl rfl (hHo _) ?_ | refine o_call rfl rfl rfl (hHm _) ?_
    first | refine o_movd rfl rfl ?_ | refine o_movp rfl rfl ?_ | refine o_mova rfl rfl ?_ | refine o_mov rfl rfl ?_
    refine o_skip rfl ?_
    refine o_skip rfl ?_
    refine o_skip rfl ?_
    refine o_pickt rfl rfl rfl ?_
    refine o_beqt rfl rfl rfl (by simp) ?_
    refine o_pickt rfl rfl rfl ?_
    first | refine o_movd rfl rfl ?_ | refine o_movp rfl rfl ?_ | refine o_mova rfl rfl ?_ | refine o_mov rfl rfl ?_
    first | (refine o_lcls (k := n) rfl rfl rfl ?_) | (refine o_lcls (k := m) rfl rfl rfl ?_) | (refine o_lcls (k := k) rfl rfl rfl ?_) | (refine o_lcls (k := o) rfl rfl rfl ?_)
    first | refine o_callz rfl rfl rfl rfl (hCa _) ?_ | refine o_callz rfl rfl rfl rfl (hCo _) ?_ | refine o_callz rfl rfl rfl rfl (hCn _) ?_
    first | (refine o_lcls (k := n) rfl rfl rfl ?_) | (refine o_lcls (k := m) rfl rfl rfl ?_) | (refine o_lcls (k := k) rfl rfl rfl ?_) | (refine o_lcls (k := o) rfl rfl rfl ?_)
    first | refine o_call rfl rfl rfl (hCa _) ?_ | refine o_call rfl rfl rfl (hCo _) ?_ | refine o_call rfl rfl rfl (hCn _) ?_
    refine o_bin rfl rfl rfl (v := bl true) (bn_geq.trans (by rw [decide_eq_true hle])) ?_
    refine o_pickt rfl rfl rfl ?_
    first | refine o_asgd rfl rfl ?_ | refine o_asgo rfl rfl ?_ | refine o_asg rfl rfl (fun _ h_ => by cases h_) ?_
    refine op_nil ?_
    refine wp_ret ?_
    exact end1 rfl rfl rfl rfl (by first | rfl | simp)

theorem ClassSpans_ev (a b c : Nat) (ha : a < 256) (hb : b < 256) (hc : c < 256) : Ev T1 f_law04_ClassSpans [u8 a, u8 b, u8 c] [] (.ret (bl true)) [] := by
  have hS := fun rf => Span_ev (T := T1) a b ha hb rf
  have hO := fun rf => One_ev (T := T1) a ha rf
  have hC := fun rf => Count_ev (T := T1) (spanN a (b + 1 - a)) rf
  have hp : pop 256 (spanN a (b + 1 - a)) = b + 1 - a := by
    by_cases h : a ≤ b
    · exact pop_spanN a _ 256 (by omega)
    · rw [show b + 1 - a = 0 by omega]; show pop 256 0 = 0; decide +kernel
  rw [hp] at hC
  have hH := fun rf => Has_ev (T := T1) (spanN a (b + 1 - a)) c hc rf
  have hx : (spanN a (b + 1 - a)).testBit c = decide (a ≤ c ∧ c ≤ b) := by
    rw [spanN_bit, Bool.eq_iff_iff]; simp; omega
  rw [hx] at hH
  have hOr1 := fun rf => Or_ev (T := T1) (spanN a (b + 1 - a)) (spanN a 1) rf
  have hOr2 := fun rf => Or_ev (T := T1) (spanN a 1) (spanN a (b + 1 - a)) rf
  rw [Nat.or_comm] at hOr2
  clear hp hx
  generalize spanN a (b + 1 - a) = s at *
  generalize hn : b + 1 - a = n at hC
  generalize spanN a 1 = o at *
  generalize s ||| o = u at *
  refine ev_callB rfl rfl ?_
  refine wp_seq ?_
  refine wp_ops ?_
  first | refine o_asgd rfl rfl ?_ | refine o_asgo rfl rfl ?_ | refine o_asg rfl rfl (fun _ h_ => by cases h_) ?_
  refine op_nil ?_
  refine wp_seq ?_
  refine wp_ops ?_
  refine o_callz rfl rfl rfl rfl (shownb_ev) ?_
  first | refine o_asgd rfl rfl ?_ | refine o_asgo rfl rfl ?_ | refine o_asg rfl rfl (fun _ h_ => by cases h_) ?_
  refine op_nil ?_
  refine wp_seq ?_
  refine wp_ops ?_
  first | refine o_movd rfl rfl ?_ | refine o_movp rfl rfl ?_ | refine o_mova rfl rfl ?_ | refine o_mov rfl rfl ?_
  first | refine o_movd rfl rfl ?_ | refine o_movp rfl rfl ?_ | refine o_mova rfl rfl ?_ | refine o_mov rfl rfl ?_
  refine o_call rfl rfl rfl (hS _) ?_
  refine o_alloc rfl ?_
  refine o_scls rfl rfl rfl rfl rfl rfl ?_
  refine op_nil ?_
  refine wp_seq ?_
  refine wp_ops ?_
  first | refine o_asgd rfl rfl ?_ | refine o_asgo rfl rfl ?_ | refine o_asg rfl rfl (fun _ h_ => by cases h_) ?_
  refine op_nil ?_
  refine wp_seq ?_
  refine wp_seq ?_
  refine wp_ops ?_
  first | refine o_movd rfl rfl ?_ | refine o_movp rfl rfl ?_ | refine o_mova rfl rfl ?_ | refine o_mov rfl rfl ?_
  first | refine o_movd rfl rfl ?_ | refine o_movp rfl rfl ?_ | refine o_mova rfl rfl ?_ | refine o_mov rfl rfl ?_
  first | refine o_leqn rfl rfl rfl ?_ | refine o_bin rfl rfl rfl rfl ?_
  refine op_nil ?_
  first | refine wp_if rfl ?_ ?_ <;> intro hq_ | refine wp_cond rfl ?_ ?_ <;> intro hq_
  · first
    | exfalso; omega
    | skip
      refine wp_ops ?_
      first | refine o_movd rfl rfl ?_ | refine o_movp rfl rfl ?_ | refine o_mova rfl rfl ?_ | refine o_mov rfl rfl ?_
      refine o_toInt rfl rfl (by (first | omega | (simp only [m64, mU, m8, n64, nU, n8, b64, bU, b8]; omega))) (by (first | omega | (simp only [m64, mU, m8, n64, nU, n8, b64, bU, b8]; omega))) ?_
      first | refine o_movd rfl rfl ?_ | refine o_movp rfl rfl ?_ | refine o_mova rfl rfl ?_ | refine o_mov rfl rfl ?_
      refine o_toInt rfl rfl (by (first | omega | (simp only [m64, mU, m8, n64, nU, n8, b64, bU, b8]; omega))) (by (first | omega | (simp only [m64, mU, m8, n64, nU, n8, b64, bU, b8]; omega))) ?_
      first | refine o_subkn rfl rfl rfl (by decide) (by (first | omega | (simp only [m64, mU, m8, n64, nU, n8, b64, bU, b8]; omega))) (by (first | omega | (simp only [m64, mU, m8, n64, nU, n8, b64, bU, b8]; omega))) ?_ | refine o_sub rfl rfl rfl rfl (by omega) (by omega) ?_
      first | refine o_addkn rfl rfl rfl (by decide) (by (first | omega | (simp only [m64, mU, m8, n64, nU, n8, b64, bU, b8]; omega))) ?_ | refine o_cat rfl rfl rfl (by (first | omega | (simp only [m64, mU, m8, n64, nU, n8, b64, bU, b8]; omega))) ?_ | refine o_add rfl rfl rfl rfl (by omega) (by omega) ?_
      first | refine o_asgd rfl rfl ?_ | refine o_asgo rfl rfl ?_ | refine o_asg rfl rfl (fun _ h_ => by cases h_) ?_
      refine op_nil ?_
      refine wp_seq ?_
      refine wp_ops ?_
      first | refine o_movd rfl rfl ?_ | refine o_movp rfl rfl ?_ | refine o_mova rfl rfl ?_ | refine o_mov rfl rfl ?_
      first | refine o_movd rfl rfl ?_ | refine o_movp rfl rfl ?_ | refine o_mova rfl rfl ?_ | refine o_mov rfl rfl ?_
      refine o_lcls (k := s) rfl rfl rfl ?_
      refine o_call rfl rfl rfl (hC _) ?_
      first | refine o_movd rfl rfl ?_ | refine o_movp rfl rfl ?_ | refine o_mova rfl rfl ?_ | refine o_mov rfl rfl ?_
      refine o_bin rfl rfl rfl (v := bl true) (bn_eql.trans (by rw [decide_eq_true (by omega)])) ?_
      refine o_pickt rfl rfl rfl ?_
      first | refine o_movd rfl rfl ?_ | refine o_movp rfl rfl ?_ | refine o_mova rfl rfl ?_ | refine o_mov rfl rfl ?_
      refine o_lcls (k := s) rfl rfl rfl ?_
      first | refine o_movd rfl rfl ?_ | refine o_movp rfl rfl ?_ | refine o_mova rfl rfl ?_ | refine o_mov rfl rfl ?_
      refine o_call rfl rfl rfl (hH _) ?_
      first | refine o_movd rfl rfl ?_ | refine o_movp rfl rfl ?_ | refine o_mova rfl rfl ?_ | refine o_mov rfl rfl ?_
      first | refine o_movd rfl rfl ?_ | refine o_movp rfl rfl ?_ | refine o_mova rfl rfl ?_ | refine o_mov rfl rfl ?_
      first | refine o_leqn rfl rfl rfl ?_ | refine o_bin rfl rfl rfl rfl ?_
      first | refine o_movd rfl rfl ?_ | refine o_movp rfl rfl ?_ | refine o_mova rfl rfl ?_ | refine o_mov rfl rfl ?_
      refine o_ifp rfl ?_ ?_ <;> intro hq_ hg_ <;> simp only [hg_] <;> clear hg_
      · first
        | exfalso; omega
        | skip
          first | refine o_movd rfl rfl ?_ | refine o_movp rfl rfl ?_ | refine o_mova rfl rfl ?_ | refine o_mov rfl rfl ?_
          first | refine o_movd rfl rfl ?_ | refine o_movp rfl rfl ?_ | refine o_mova rfl rfl ?_ | refine o_mov rfl rfl ?_
          first | refine o_leqn rfl rfl rfl ?_ | refine o_bin rfl rfl rfl rfl ?_
          refine o_pickt rfl rfl rfl ?_
          refine o_beqt rfl rfl rfl (by simp [hq_]) ?_
          refine o_pickt rfl rfl rfl ?_
          first | refine o_movd rfl rfl ?_ | refine o_movp rfl rfl ?_ | refine o_mova rfl rfl ?_ | refine o_mov rfl rfl ?_
          refine o_lcls (k := s) rfl rfl rfl ?_
          first | refine o_movd rfl rfl ?_ | refine o_movp rfl rfl ?_ | refine o_mova rfl rfl ?_ | refine o_mov rfl rfl ?_
          refine o_callz rfl rfl rfl rfl (hO _) ?_
          first | refine o_callz rfl rfl rfl rfl (hOr1 _) ?_ | refine o_callz rfl rfl rfl rfl (hOr2 _) ?_
          first | refine o_movd rfl rfl ?_ | refine o_movp rfl rfl ?_ | refine o_mova rfl rfl ?_ | refine o_mov rfl rfl ?_
          refine o_callz rfl rfl rfl rfl (hO _) ?_
          refine o_lcls (k := s) rfl rfl rfl ?_
          first | refine o_call rfl rfl rfl (hOr1 _) ?_ | refine o_call rfl rfl rfl (hOr2 _) ?_
          refine o_eqct rfl rfl rfl (eqCls u) ?_
          refine o_pickt rfl rfl rfl ?_
          first | refine o_asgd rfl rfl ?_ | refine o_asgo rfl rfl ?_ | refine o_asg rfl rfl (fun _ h_ => by cases h_) ?_
          refine op_nil ?_
          refine wp_ret ?_
          exact end1 rfl rfl rfl rfl (by first | rfl | simp)
      · first
        | exfalso; omega
        | skip
          refine o_skip rfl ?_
          refine o_skip rfl ?_
          refine o_skip rfl ?_
          refine o_pickf rfl rfl rfl ?_
          refine o_beqt rfl rfl rfl (by simp [hq_]) ?_
          refine o_pickt rfl rfl rfl ?_
          first | refine o_movd rfl rfl ?_ | refine o_movp rfl rfl ?_ | refine o_mova rfl rfl ?_ | refine o_mov rfl rfl ?_
          refine o_lcls (k := s) rfl rfl rfl ?_
          first | refine o_movd rfl rfl ?_ | refine o_movp rfl rfl ?_ | refine o_mova rfl rfl ?_ | refine o_mov rfl rfl ?_
          refine o_callz rfl rfl rfl rfl (hO _) ?_
          first | refine o_callz rfl rfl rfl rfl (hOr1 _) ?_ | refine o_callz rfl rfl rfl rfl (hOr2 _) ?_
          first | refine o_movd rfl rfl ?_ | refine o_movp rfl rfl ?_ | refine o_mova rfl rfl ?_ | refine o_mov rfl rfl ?_
          refine o_callz rfl rfl rfl rfl (hO _) ?_
          refine o_lcls (k := s) rfl rfl rfl ?_
          first | refine o_call rfl rfl rfl (hOr1 _) ?_ | refine o_call rfl rfl rfl (hOr2 _) ?_
          refine o_eqct rfl rfl rfl (eqCls u) ?_
          refine o_pickt rfl rfl rfl ?_
          first | refine o_asgd rfl rfl ?_ | refine o_asgo rfl rfl ?_ | refine o_asg rfl rfl (fun _ h_ => by cases h_) ?_
          refine op_nil ?_
          refine wp_ret ?_
          exact end1 rfl rfl rfl rfl (by first | rfl | simp)
  · first
    | exfalso; omega
    | skip
      refine wp_skip ?_
      refine wp_seq ?_
      refine wp_ops ?_
      first | refine o_movd rfl rfl ?_ | refine o_movp rfl rfl ?_ | refine o_mova rfl rfl ?_ | refine o_mov rfl rfl ?_
      first | refine o_movd rfl rfl ?_ | refine o_movp rfl rfl ?_ | refine o_mova rfl rfl ?_ | refine o_mov rfl rfl ?_
      refine o_lcls (k := s) rfl rfl rfl ?_
      refine o_call rfl rfl rfl (hC _) ?_
      first | refine o_movd rfl rfl ?_ | refine o_movp rfl rfl ?_ | refine o_mova rfl rfl ?_ | refine o_mov rfl rfl ?_
      refine o_bin rfl rfl rfl (v := bl true) (bn_eql.trans (by rw [decide_eq_true (by omega)])) ?_
      refine o_pickt rfl rfl rfl ?_
      first | refine o_movd rfl rfl ?_ | refine o_movp rfl rfl ?_ | refine o_mova rfl rfl ?_ | refine o_mov rfl rfl ?_
      refine o_lcls (k := s) rfl rfl rfl ?_
      first | refine o_movd rfl rfl ?_ | refine o_movp rfl rfl ?_ | refine o_mova rfl rfl ?_ | refine o_mov rfl rfl ?_
      refine o_call rfl rfl rfl (hH _) ?_
      first | refine o_movd rfl rfl ?_ | refine o_movp rfl rfl ?_ | refine o_mova rfl rfl ?_ | refine o_mov rfl rfl ?_
      first | refine o_movd rfl rfl ?_ | refine o_movp rfl rfl ?_ | refine o_mova rfl rfl ?_ | refine o_mov rfl rfl ?_
      first | refine o_leqn rfl rfl rfl ?_ | refine o_bin rfl rfl rfl rfl ?_
      first | refine o_movd rfl rfl ?_ | refine o_movp rfl rfl ?_ | refine o_mova rfl rfl ?_ | refine o_mov rfl rfl ?_
      refine o_ifp rfl ?_ ?_ <;> intro hq_ hg_ <;> simp only [hg_] <;> clear hg_
      · first
        | exfalso; omega
        | skip
          first | refine o_movd rfl rfl ?_ | refine o_movp rfl rfl ?_ | refine o_mova rfl rfl ?_ | refine o_mov rfl rfl ?_
          first | refine o_movd rfl rfl ?_ | refine o_movp rfl rfl ?_ | refine o_mova rfl rfl ?_ | refine o_mov rfl rfl ?_
          first | refine o_leqn rfl rfl rfl ?_ | refine o_bin rfl rfl rfl rfl ?_
          refine o_pickt rfl rfl rfl ?_
          refine o_beqt rfl rfl rfl (by simp [hq_]) ?_
          refine o_pickt rfl rfl rfl ?_
          first | refine o_movd rfl rfl ?_ | refine o_movp rfl rfl ?_ | refine o_mova rfl rfl ?_ | refine o_mov rfl rfl ?_
          refine o_lcls (k := s) rfl rfl rfl ?_
          first | refine o_movd rfl rfl ?_ | refine o_movp rfl rfl ?_ | refine o_mova rfl rfl ?_ | refine o_mov rfl rfl ?_
          refine o_callz rfl rfl rfl rfl (hO _) ?_
          first | refine o_callz rfl rfl rfl rfl (hOr1 _) ?_ | refine o_callz rfl rfl rfl rfl (hOr2 _) ?_
          first | refine o_movd rfl rfl ?_ | refine o_movp rfl rfl ?_ | refine o_mova rfl rfl ?_ | refine o_mov rfl rfl ?_
          refine o_callz rfl rfl rfl rfl (hO _) ?_
          refine o_lcls (k := s) rfl rfl rfl ?_
          first | refine o_call rfl rfl rfl (hOr1 _) ?_ | refine o_call rfl rfl rfl (hOr2 _) ?_
          refine o_eqct rfl rfl rfl (eqCls u) ?_
          refine o_pickt rfl rfl rfl ?_
          first | refine o_asgd rfl rfl ?_ | refine o_asgo rfl rfl ?_ | refine o_asg rfl rfl (fun _ h_ => by cases h_) ?_
          refine op_nil ?_
          refine wp_ret ?_
          exact end1 rfl rfl rfl rfl (by first | rfl | simp)
      · first
        | exfalso; omega
        | skip
          refine o_skip rfl ?_
          refine o_skip rfl ?_
          refine o_skip rfl ?_
          refine o_pickf rfl rfl rfl ?_
          refine o_beqt rfl rfl rfl (by simp [hq_]) ?_
          refine o_pickt rfl rfl rfl ?_
          first | refine o_movd rfl rfl ?_ | refine o_movp rfl rfl ?_ | refine o_mova rfl rfl ?_ | refine o_mov rfl rfl ?_
          refine o_lcls (k := s) rfl rfl rfl ?_
          first | refine o_movd rfl rfl ?_ | refine o_movp rfl rfl ?_ | refine o_mova rfl rfl ?_ | refine o_mov rfl rfl ?_
          refine o_callz rfl rfl rfl rfl (hO _) ?_
          first | refine o_callz rfl rfl rfl rfl (hOr1 _) ?_ | refine o_callz rfl rfl rfl rfl (hOr2 _) ?_
          first | refine o_movd rfl rfl ?_ | refine o_movp rfl rfl ?_ | refine o_mova rfl rfl ?_ | refine o_mov rfl rfl ?_
          refine o_callz rfl rfl rfl rfl (hO _) ?_
          refine o_lcls (k := s) rfl rfl rfl ?_
          first | refine o_call rfl rfl rfl (hOr1 _) ?_ | refine o_call rfl rfl rfl (hOr2 _) ?_
          refine o_eqct rfl rfl rfl (eqCls u) ?_
          refine o_pickt rfl rfl rfl ?_
          first | refine o_asgd rfl rfl ?_ | refine o_asgo rfl rfl ?_ | refine o_asg rfl rfl (fun _ h_ => by cases h_) ?_
          refine op_nil ?_
          refine wp_ret ?_
          exact end1 rfl rfl rfl rfl (by first | rfl | simp)

end Go.Ab.R04
