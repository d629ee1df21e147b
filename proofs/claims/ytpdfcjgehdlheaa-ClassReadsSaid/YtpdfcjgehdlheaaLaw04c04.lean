/- The statement of chapter 4 that signs and classes are read as the document says. -/
import Derived.Test.YtpdfcjgehdlheaaLaw04b04
import Derived.Test.YtpdfcjgehdlheaaClass1204
import Derived.KernelRfl
namespace Go.Ab.R04
set_option maxRecDepth 100000
set_option linter.all false
set_option maxHeartbeats 4000000

theorem readA_eq (x : Option (Nat × Nat)) : ∃ k n e : Nat, readA x = .tup [cls k, i64 n, i64 e] := by
  rcases x with _ | ⟨a, n⟩
  · exact ⟨0, 0, 2, rfl⟩
  · exact ⟨a, n, 0, rfl⟩

theorem ClassReads_ev (s : List UInt8) : Ev T1 f_law04_ClassReads [str s] [] (.ret (bl true)) [] := by
  have hS := fun rf => SignP_ev (T := T1) s rf
  have hRS := fun rf => rSignP_ev (T := T1) s rf
  obtain ⟨k, n, e, hA⟩ := readA_eq (readS s)
  have hR : s.length ≤ 2000 → ∀ rf, Ev T1 f_class_Read [str s] rf (.ret (.tup [cls k, i64 n, i64 e])) rf := fun h rf => by
    rw [← hA]; exact Read_ev s (by omega) rf
  have hRR : s.length ≤ 2000 → ∀ rf, Ev T1 f_ref04_Read [str s] rf (.ret (.tup [cls k, i64 n, i64 e])) rf := fun h rf => by
    rw [← hA]; exact rRead_ev s (by omega) rf
  refine ev_callB rfl rfl ?_
  refine wp_seq ?_
  refine wp_ops ?_
  first | refine o_asgd rfl rfl ?_ | refine o_asgo rfl rfl ?_ | refine o_asg rfl rfl (fun _ h_ => by cases h_) ?_
  refine op_nil ?_
  refine wp_seq ?_
  refine wp_ops ?_
  refine o_callz rfl rfl rfl rfl (shownb_ev) ?_
  first | refine o_asgd rfl rfl ?_ | refine o_asgo rfl rfl ?_ | refine o_asg rfl rfl (fun _ h_ => by cases h_) ?_
  refine op_nil ?_
  refine wp_seq ?_
  refine wp_seq ?_
  refine wp_ops ?_
  first | refine o_movd rfl rfl ?_ | refine o_movp rfl rfl ?_ | refine o_mova rfl rfl ?_ | refine o_mov rfl rfl ?_
  refine o_lenS rfl rfl ?_
  first | refine o_gtrn rfl rfl rfl ?_ | refine o_bin rfl rfl rfl rfl ?_
  refine op_nil ?_
  first | refine wp_if rfl ?_ ?_ <;> intro hq_ | refine wp_cond rfl ?_ ?_ <;> intro hq_
  · first
    | exfalso; omega
    | skip
      refine wp_seq ?_
      refine wp_ops ?_
      first | refine o_movd rfl rfl ?_ | refine o_movp rfl rfl ?_ | refine o_mova rfl rfl ?_ | refine o_mov rfl rfl ?_
      first | refine o_asgd rfl rfl ?_ | refine o_asgo rfl rfl ?_ | refine o_asg rfl rfl (fun _ h_ => by cases h_) ?_
      refine op_nil ?_
      refine wp_ret ?_
      exact end1 rfl rfl rfl rfl (by first | rfl | simp)
  · first
    | exfalso; omega
    | skip
      refine wp_skip ?_
      refine wp_seq ?_
      refine wp_ops ?_
      first | refine o_movd rfl rfl ?_ | refine o_movp rfl rfl ?_ | refine o_mova rfl rfl ?_ | refine o_mov rfl rfl ?_
      refine o_call rfl rfl rfl (hS _) ?_
      refine o_mov rfl rfl ?_
      refine o_extr rfl rfl rfl ?_
      refine o_extr rfl rfl rfl ?_
      refine o_extr rfl rfl rfl ?_
      first | refine o_asgd rfl rfl ?_ | refine o_asgo rfl rfl ?_ | refine o_asg rfl rfl (fun _ h_ => by cases h_) ?_
      first | refine o_asgd rfl rfl ?_ | refine o_asgo rfl rfl ?_ | refine o_asg rfl rfl (fun _ h_ => by cases h_) ?_
      first | refine o_asgd rfl rfl ?_ | refine o_asgo rfl rfl ?_ | refine o_asg rfl rfl (fun _ h_ => by cases h_) ?_
      refine op_nil ?_
      refine wp_seq ?_
      refine wp_ops ?_
      first | refine o_movd rfl rfl ?_ | refine o_movp rfl rfl ?_ | refine o_mova rfl rfl ?_ | refine o_mov rfl rfl ?_
      refine o_call rfl rfl rfl (hRS _) ?_
      refine o_mov rfl rfl ?_
      refine o_extr rfl rfl rfl ?_
      refine o_extr rfl rfl rfl ?_
      refine o_extr rfl rfl rfl ?_
      first | refine o_asgd rfl rfl ?_ | refine o_asgo rfl rfl ?_ | refine o_asg rfl rfl (fun _ h_ => by cases h_) ?_
      first | refine o_asgd rfl rfl ?_ | refine o_asgo rfl rfl ?_ | refine o_asg rfl rfl (fun _ h_ => by cases h_) ?_
      first | refine o_asgd rfl rfl ?_ | refine o_asgo rfl rfl ?_ | refine o_asg rfl rfl (fun _ h_ => by cases h_) ?_
      refine op_nil ?_
      refine wp_seq ?_
      refine wp_ops ?_
      first | refine o_movd rfl rfl ?_ | refine o_movp rfl rfl ?_ | refine o_mova rfl rfl ?_ | refine o_mov rfl rfl ?_
      refine o_call rfl rfl rfl (hR (by omega) _) ?_
      refine o_mov rfl rfl ?_
      refine o_extr rfl rfl rfl ?_
      refine o_extr rfl rfl rfl ?_
      refine o_extr rfl rfl rfl ?_
      refine o_alloc rfl ?_
      refine o_scls rfl rfl rfl rfl rfl rfl ?_
      first | refine o_asgd rfl rfl ?_ | refine o_asgo rfl rfl ?_ | refine o_asg rfl rfl (fun _ h_ => by cases h_) ?_
      first | refine o_asgd rfl rfl ?_ | refine o_asgo rfl rfl ?_ | refine o_asg rfl rfl (fun _ h_ => by cases h_) ?_
      refine op_nil ?_
      refine wp_seq ?_
      refine wp_ops ?_
      first | refine o_movd rfl rfl ?_ | refine o_movp rfl rfl ?_ | refine o_mova rfl rfl ?_ | refine o_mov rfl rfl ?_
      refine o_call rfl rfl rfl (hRR (by omega) _) ?_
      refine o_mov rfl rfl ?_
      refine o_extr rfl rfl rfl ?_
      refine o_extr rfl rfl rfl ?_
      refine o_extr rfl rfl rfl ?_
      refine o_alloc rfl ?_
      refine o_scls rfl rfl rfl rfl rfl rfl ?_
      first | refine o_asgd rfl rfl ?_ | refine o_asgo rfl rfl ?_ | refine o_asg rfl rfl (fun _ h_ => by cases h_) ?_
      first | refine o_asgd rfl rfl ?_ | refine o_asgo rfl rfl ?_ | refine o_asg rfl rfl (fun _ h_ => by cases h_) ?_
      refine op_nil ?_
      refine wp_seq ?_
      refine wp_ops ?_
      first | refine o_movd rfl rfl ?_ | refine o_movp rfl rfl ?_ | refine o_mova rfl rfl ?_ | refine o_mov rfl rfl ?_
      first | refine o_movd rfl rfl ?_ | refine o_movp rfl rfl ?_ | refine o_mova rfl rfl ?_ | refine o_mov rfl rfl ?_
      first | refine o_movd rfl rfl ?_ | refine o_movp rfl rfl ?_ | refine o_mova rfl rfl ?_ | refine o_mov rfl rfl ?_
      first | refine o_movd rfl rfl ?_ | refine o_movp rfl rfl ?_ | refine o_mova rfl rfl ?_ | refine o_mov rfl rfl ?_
      refine o_bin rfl rfl rfl (v := bl true) (bn_eql.trans (by rw [decide_eq_true rfl])) ?_
      refine o_pickt rfl rfl rfl ?_
      first | refine o_movd rfl rfl ?_ | refine o_movp rfl rfl ?_ | refine o_mova rfl rfl ?_ | refine o_mov rfl rfl ?_
      first | refine o_movd rfl rfl ?_ | refine o_movp rfl rfl ?_ | refine o_mova rfl rfl ?_ | refine o_mov rfl rfl ?_
      first | refine o_movd rfl rfl ?_ | refine o_movp rfl rfl ?_ | refine o_mova rfl rfl ?_ | refine o_mov rfl rfl ?_
      refine o_bin rfl rfl rfl (v := bl true) (bn_eql.trans (by rw [decide_eq_true rfl])) ?_
      refine o_pickt rfl rfl rfl ?_
      first | refine o_movd rfl rfl ?_ | refine o_movp rfl rfl ?_ | refine o_mova rfl rfl ?_ | refine o_mov rfl rfl ?_
      first | refine o_movd rfl rfl ?_ | refine o_movp rfl rfl ?_ | refine o_mova rfl rfl ?_ | refine o_mov rfl rfl ?_
      first | refine o_movd rfl rfl ?_ | refine o_movp rfl rfl ?_ | refine o_mova rfl rfl ?_ | refine o_mov rfl rfl ?_
      refine o_bin rfl rfl rfl (v := bl true) (bn_eql.trans (by rw [decide_eq_true rfl])) ?_
      refine o_pickt rfl rfl rfl ?_
      first | refine o_movd rfl rfl ?_ | refine o_movp rfl rfl ?_ | refine o_mova rfl rfl ?_ | refine o_mov rfl rfl ?_
      refine o_lcls (k := k) rfl rfl rfl ?_
      refine o_lcls (k := k) rfl rfl rfl ?_
      refine o_eqct rfl rfl rfl (eqCls k) ?_
      refine o_pickt rfl rfl rfl ?_
      first | refine o_movd rfl rfl ?_ | refine o_movp rfl rfl ?_ | refine o_mova rfl rfl ?_ | refine o_mov rfl rfl ?_
      first | refine o_movd rfl rfl ?_ | refine o_movp rfl rfl ?_ | refine o_mova rfl rfl ?_ | refine o_mov rfl rfl ?_
      first | refine o_movd rfl rfl ?_ | refine o_movp rfl rfl ?_ | refine o_mova rfl rfl ?_ | refine o_mov rfl rfl ?_
      refine o_bin rfl rfl rfl (v := bl true) (bn_eql.trans (by rw [decide_eq_true rfl])) ?_
      refine o_pickt rfl rfl rfl ?_
      first | refine o_movd rfl rfl ?_ | refine o_movp rfl rfl ?_ | refine o_mova rfl rfl ?_ | refine o_mov rfl rfl ?_
      first | refine o_movd rfl rfl ?_ | refine o_movp rfl rfl ?_ | refine o_mova rfl rfl ?_ | refine o_mov rfl rfl ?_
      first | refine o_movd rfl rfl ?_ | refine o_movp rfl rfl ?_ | refine o_mova rfl rfl ?_ | refine o_mov rfl rfl ?_
      refine o_bin rfl rfl rfl (v := bl true) (bn_eql.trans (by rw [decide_eq_true rfl])) ?_
      refine o_pickt rfl rfl rfl ?_
      first | refine o_asgd rfl rfl ?_ | refine o_asgo rfl rfl ?_ | refine o_asg rfl rfl (fun _ h_ => by cases h_) ?_
      refine op_nil ?_
      refine wp_ret ?_
      exact end1 rfl rfl rfl rfl (by first | rfl | simp)
end Go.Ab.R04
