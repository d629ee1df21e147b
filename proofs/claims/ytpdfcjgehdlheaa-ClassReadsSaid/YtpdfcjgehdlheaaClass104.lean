/- Bytes, figures and signs: what the functions of classes come to. -/
import Derived.Test.YtpdfcjgehdlheaaG04
import Derived.Test.YtpdfcjgehdlheaaA33
namespace Go.Ab.R04
set_option maxRecDepth 100000
set_option linter.all false
set_option maxHeartbeats 4000000

abbrev i64 (n : Int) : AV := .d (.int .i64 n)
abbrev u8 (n : Nat) : AV := .nat .u8 n
abbrev str (s : List UInt8) : AV := .d (.str s)
abbrev bl (b : Bool) : AV := .d (.bool b)

def digit (c : Nat) : Int := if 48 ≤ c ∧ c ≤ 57 then (c : Int) - 48 else if 97 ≤ c ∧ c ≤ 102 then (c : Int) - 87 else if 65 ≤ c ∧ c ≤ 70 then (c : Int) - 55 else -1

/-- a table with oracles for IndexByteString, and maybe for class.Text -/
class Base (T : Tb) : Prop where
  tab : T.tab = lookupF tabl
  idx : ∀ args, T.orc f_bytealg_IndexByteString args = idxByte args
  none : ∀ f args, f ≠ f_bytealg_IndexByteString → f ≠ f_class_Text → T.orc f args = none

theorem ev_callB {T : Tb} [hT : Base T] {f : FuncId} {args : List AV} {rf : Refs} {o : Out} {rf' : Refs} {af : AFn} (hne : (f != f_bytealg_IndexByteString && f != f_class_Text) = true) (hf : lookupF tabl f = some af)
    (h : WP T af.body { sl := enterS args 0, rf := rf, nb := rf.length } (EndX af rf.length o rf' .nrm) (EndX af rf.length o rf')) : Ev T f args rf o rf' := by
  simp only [Bool.and_eq_true, bne_iff_ne, ne_eq] at hne
  exact ev_call (hT.none f args hne.1 hne.2) (by rw [hT.tab]; exact hf) h

variable {T : Tb} [hT : Base T]

theorem Digit_ev (c : Nat) (hc : c < 256) (rf : Refs) : Ev T f_hex_Digit [u8 c] rf (.ret (i64 (digit c))) rf := by
  refine ev_callB rfl rfl ?_
  refine wp_seq ?_
  refine wp_ops ?_
  first | refine o_asgd rfl rfl ?_ | refine o_asgo rfl rfl ?_ | refine o_asg rfl rfl (fun _ h_ => by cases h_) ?_
  refine op_nil ?_
  refine wp_seq ?_
  refine wp_keep ?_
  refine wp_block ?_
  refine wp_seq ?_
  refine wp_ops ?_
  first | refine o_movd rfl rfl ?_ | refine o_movp rfl rfl ?_ | refine o_mova rfl rfl ?_ | refine o_mov rfl rfl ?_
  first | refine o_geqn rfl rfl rfl ?_ | refine o_bin rfl rfl rfl rfl ?_
  first | refine o_movd rfl rfl ?_ | refine o_movp rfl rfl ?_ | refine o_mova rfl rfl ?_ | refine o_mov rfl rfl ?_
  refine o_ifp rfl ?_ ?_ <;> intro hq_ hg_ <;> simp only [hg_] <;> clear hg_
  · first
    | exfalso; omega
    | skip
      first | refine o_movd rfl rfl ?_ | refine o_movp rfl rfl ?_ | refine o_mova rfl rfl ?_ | refine o_mov rfl rfl ?_
      first | refine o_leqn rfl rfl rfl ?_ | refine o_bin rfl rfl rfl rfl ?_
      refine o_pickt rfl rfl rfl ?_
      first | refine o_asgd rfl rfl ?_ | refine o_asgo rfl rfl ?_ | refine o_asg rfl rfl (fun _ h_ => by cases h_) ?_
      refine op_nil ?_
      first | refine wp_if rfl ?_ ?_ <;> intro hq_ | refine wp_cond rfl ?_ ?_ <;> intro hq_
      · first
        | exfalso; omega
        | skip
          refine wp_seq ?_
          refine wp_ops ?_
          first | refine o_movd rfl rfl ?_ | refine o_movp rfl rfl ?_ | refine o_mova rfl rfl ?_ | refine o_mov rfl rfl ?_
          first | refine o_subkn rfl rfl rfl (by decide) (by (first | omega | (simp only [m64, mU, m8, n64, nU, n8, b64, bU, b8]; omega))) (by (first | omega | (simp only [m64, mU, m8, n64, nU, n8, b64, bU, b8]; omega))) ?_ | refine o_sub rfl rfl rfl rfl (by omega) (by omega) ?_
          refine o_toInt rfl rfl (by (first | omega | (simp only [m64, mU, m8, n64, nU, n8, b64, bU, b8]; omega))) (by (first | omega | (simp only [m64, mU, m8, n64, nU, n8, b64, bU, b8]; omega))) ?_
          first | refine o_asgd rfl rfl ?_ | refine o_asgo rfl rfl ?_ | refine o_asg rfl rfl (fun _ h_ => by cases h_) ?_
          refine op_nil ?_
          refine wp_ret ?_
          refine bx_ret ?_
          refine end1 rfl rfl rfl ?_ (by first | rfl | simp)
          unfold digit; simp [*] <;> omega
      · first
        | exfalso; omega
        | skip
          refine wp_seq ?_
          refine wp_ops ?_
          first | refine o_movd rfl rfl ?_ | refine o_movp rfl rfl ?_ | refine o_mova rfl rfl ?_ | refine o_mov rfl rfl ?_
          first | refine o_geqn rfl rfl rfl ?_ | refine o_bin rfl rfl rfl rfl ?_
          first | refine o_movd rfl rfl ?_ | refine o_movp rfl rfl ?_ | refine o_mova rfl rfl ?_ | refine o_mov rfl rfl ?_
          refine o_ifp rfl ?_ ?_ <;> intro hq_ hg_ <;> simp only [hg_] <;> clear hg_
          · first
            | exfalso; omega
            | skip
              first | refine o_movd rfl rfl ?_ | refine o_movp rfl rfl ?_ | refine o_mova rfl rfl ?_ | refine o_mov rfl rfl ?_
              first | refine o_leqn rfl rfl rfl ?_ | refine o_bin rfl rfl rfl rfl ?_
              refine o_pickt rfl rfl rfl ?_
              first | refine o_asgd rfl rfl ?_ | refine o_asgo rfl rfl ?_ | refine o_asg rfl rfl (fun _ h_ => by cases h_) ?_
              refine op_nil ?_
              first | refine wp_if rfl ?_ ?_ <;> intro hq_ | refine wp_cond rfl ?_ ?_ <;> intro hq_
              · first
                | exfalso; omega
                | skip
                  refine wp_seq ?_
                  refine wp_ops ?_
                  first | refine o_movd rfl rfl ?_ | refine o_movp rfl rfl ?_ | refine o_mova rfl rfl ?_ | refine o_mov rfl rfl ?_
                  first | refine o_subkn rfl rfl rfl (by decide) (by (first | omega | (simp only [m64, mU, m8, n64, nU, n8, b64, bU, b8]; omega))) (by (first | omega | (simp only [m64, mU, m8, n64, nU, n8, b64, bU, b8]; omega))) ?_ | refine o_sub rfl rfl rfl rfl (by omega) (by omega) ?_
                  refine o_toInt rfl rfl (by (first | omega | (simp only [m64, mU, m8, n64, nU, n8, b64, bU, b8]; omega))) (by (first | omega | (simp only [m64, mU, m8, n64, nU, n8, b64, bU, b8]; omega))) ?_
                  first | refine o_addkn rfl rfl rfl (by decide) (by (first | omega | (simp only [m64, mU, m8, n64, nU, n8, b64, bU, b8]; omega))) ?_ | refine o_cat rfl rfl rfl (by (first | omega | (simp only [m64, mU, m8, n64, nU, n8, b64, bU, b8]; omega))) ?_ | refine o_add rfl rfl rfl rfl (by omega) (by omega) ?_
                  first | refine o_asgd rfl rfl ?_ | refine o_asgo rfl rfl ?_ | refine o_asg rfl rfl (fun _ h_ => by cases h_) ?_
                  refine op_nil ?_
                  refine wp_ret ?_
                  refine bx_ret ?_
                  refine end1 rfl rfl rfl ?_ (by first | rfl | simp)
                  unfold digit; simp [*] <;> omega
              · first
                | exfalso; omega
                | skip
                  refine wp_seq ?_
                  refine wp_ops ?_
                  first | refine o_movd rfl rfl ?_ | refine o_movp rfl rfl ?_ | refine o_mova rfl rfl ?_ | refine o_mov rfl rfl ?_
                  first | refine o_geqn rfl rfl rfl ?_ | refine o_bin rfl rfl rfl rfl ?_
                  first | refine o_movd rfl rfl ?_ | refine o_movp rfl rfl ?_ | refine o_mova rfl rfl ?_ | refine o_mov rfl rfl ?_
                  refine o_ifp rfl ?_ ?_ <;> intro hq_ hg_ <;> simp only [hg_] <;> clear hg_
                  · first
                    | exfalso; omega
                    | skip
                      first | refine o_movd rfl rfl ?_ | refine o_movp rfl rfl ?_ | refine o_mova rfl rfl ?_ | refine o_mov rfl rfl ?_
                      first | refine o_leqn rfl rfl rfl ?_ | refine o_bin rfl rfl rfl rfl ?_
                      refine o_pickt rfl rfl rfl ?_
                      first | refine o_asgd rfl rfl ?_ | refine o_asgo rfl rfl ?_ | refine o_asg rfl rfl (fun _ h_ => by cases h_) ?_
                      refine op_nil ?_
                      first | refine wp_if rfl ?_ ?_ <;> intro hq_ | refine wp_cond rfl ?_ ?_ <;> intro hq_
                      · first
                        | exfalso; omega
                        | skip
                          refine wp_seq ?_
                          refine wp_ops ?_
                          first | refine o_movd rfl rfl ?_ | refine o_movp rfl rfl ?_ | refine o_mova rfl rfl ?_ | refine o_mov rfl rfl ?_
                          first | refine o_subkn rfl rfl rfl (by decide) (by (first | omega | (simp only [m64, mU, m8, n64, nU, n8, b64, bU, b8]; omega))) (by (first | omega | (simp only [m64, mU, m8, n64, nU, n8, b64, bU, b8]; omega))) ?_ | refine o_sub rfl rfl rfl rfl (by omega) (by omega) ?_
                          refine o_toInt rfl rfl (by (first | omega | (simp only [m64, mU, m8, n64, nU, n8, b64, bU, b8]; omega))) (by (first | omega | (simp only [m64, mU, m8, n64, nU, n8, b64, bU, b8]; omega))) ?_
                          first | refine o_addkn rfl rfl rfl (by decide) (by (first | omega | (simp only [m64, mU, m8, n64, nU, n8, b64, bU, b8]; omega))) ?_ | refine o_cat rfl rfl rfl (by (first | omega | (simp only [m64, mU, m8, n64, nU, n8, b64, bU, b8]; omega))) ?_ | refine o_add rfl rfl rfl rfl (by omega) (by omega) ?_
                          first | refine o_asgd rfl rfl ?_ | refine o_asgo rfl rfl ?_ | refine o_asg rfl rfl (fun _ h_ => by cases h_) ?_
                          refine op_nil ?_
                          refine wp_ret ?_
                          refine bx_ret ?_
                          refine end1 rfl rfl rfl ?_ (by first | rfl | simp)
                          unfold digit; simp [*] <;> omega
                      · first
                        | exfalso; omega
                        | skip
                          refine wp_skip ?_
                          refine keepN (by (simp +decide only [Slots.keep, Slots.get, reduceIte]); exact rfl) ?_
                          refine wp_seq ?_
                          refine wp_ops ?_
                          first | refine o_asgd rfl rfl ?_ | refine o_asgo rfl rfl ?_ | refine o_asg rfl rfl (fun _ h_ => by cases h_) ?_
                          refine op_nil ?_
                          refine wp_ret ?_
                          refine end1 rfl rfl rfl ?_ (by first | rfl | simp)
                          unfold digit; simp [*] <;> omega
                  · first
                    | exfalso; omega
                    | skip
                      refine o_skip rfl ?_
                      refine o_skip rfl ?_
                      refine o_pickf rfl rfl rfl ?_
                      first | refine o_asgd rfl rfl ?_ | refine o_asgo rfl rfl ?_ | refine o_asg rfl rfl (fun _ h_ => by cases h_) ?_
                      refine op_nil ?_
                      refine wp_cond rfl (fun h_ => absurd h_ (by decide)) (fun _ => ?_)
                      refine wp_skip ?_
                      refine keepN (by (simp +decide only [Slots.keep, Slots.get, reduceIte]); exact rfl) ?_
                      refine wp_seq ?_
                      refine wp_ops ?_
                      first | refine o_asgd rfl rfl ?_ | refine o_asgo rfl rfl ?_ | refine o_asg rfl rfl (fun _ h_ => by cases h_) ?_
                      refine op_nil ?_
                      refine wp_ret ?_
                      refine end1 rfl rfl rfl ?_ (by first | rfl | simp)
                      unfold digit; simp [*] <;> omega
          · first
            | exfalso; omega
            | skip
              refine o_skip rfl ?_
              refine o_skip rfl ?_
              refine o_pickf rfl rfl rfl ?_
              first | refine o_asgd rfl rfl ?_ | refine o_asgo rfl rfl ?_ | refine o_asg rfl rfl (fun _ h_ => by cases h_) ?_
              refine op_nil ?_
              refine wp_cond rfl (fun h_ => absurd h_ (by decide)) (fun _ => ?_)
              refine wp_seq ?_
              refine wp_ops ?_
              first | refine o_movd rfl rfl ?_ | refine o_movp rfl rfl ?_ | refine o_mova rfl rfl ?_ | refine o_mov rfl rfl ?_
              first | refine o_geqn rfl rfl rfl ?_ | refine o_bin rfl rfl rfl rfl ?_
              first | refine o_movd rfl rfl ?_ | refine o_movp rfl rfl ?_ | refine o_mova rfl rfl ?_ | refine o_mov rfl rfl ?_
              refine o_ifp rfl ?_ ?_ <;> intro hq_ hg_ <;> simp only [hg_] <;> clear hg_
              · first
                | exfalso; omega
                | skip
                  first | refine o_movd rfl rfl ?_ | refine o_movp rfl rfl ?_ | refine o_mova rfl rfl ?_ | refine o_mov rfl rfl ?_
                  first | refine o_leqn rfl rfl rfl ?_ | refine o_bin rfl rfl rfl rfl ?_
                  refine o_pickt rfl rfl rfl ?_
                  first | refine o_asgd rfl rfl ?_ | refine o_asgo rfl rfl ?_ | refine o_asg rfl rfl (fun _ h_ => by cases h_) ?_
                  refine op_nil ?_
                  first | refine wp_if rfl ?_ ?_ <;> intro hq_ | refine wp_cond rfl ?_ ?_ <;> intro hq_
                  · first
                    | exfalso; omega
                    | skip
                      refine wp_seq ?_
                      refine wp_ops ?_
                      first | refine o_movd rfl rfl ?_ | refine o_movp rfl rfl ?_ | refine o_mova rfl rfl ?_ | refine o_mov rfl rfl ?_
                      first | refine o_subkn rfl rfl rfl (by decide) (by (first | omega | (simp only [m64, mU, m8, n64, nU, n8, b64, bU, b8]; omega))) (by (first | omega | (simp only [m64, mU, m8, n64, nU, n8, b64, bU, b8]; omega))) ?_ | refine o_sub rfl rfl rfl rfl (by omega) (by omega) ?_
                      refine o_toInt rfl rfl (by (first | omega | (simp only [m64, mU, m8, n64, nU, n8, b64, bU, b8]; omega))) (by (first | omega | (simp only [m64, mU, m8, n64, nU, n8, b64, bU, b8]; omega))) ?_
                      first | refine o_addkn rfl rfl rfl (by decide) (by (first | omega | (simp only [m64, mU, m8, n64, nU, n8, b64, bU, b8]; omega))) ?_ | refine o_cat rfl rfl rfl (by (first | omega | (simp only [m64, mU, m8, n64, nU, n8, b64, bU, b8]; omega))) ?_ | refine o_add rfl rfl rfl rfl (by omega) (by omega) ?_
                      first | refine o_asgd rfl rfl ?_ | refine o_asgo rfl rfl ?_ | refine o_asg rfl rfl (fun _ h_ => by cases h_) ?_
                      refine op_nil ?_
                      refine wp_ret ?_
                      refine bx_ret ?_
                      refine end1 rfl rfl rfl ?_ (by first | rfl | simp)
                      unfold digit; simp [*] <;> omega
                  · first
                    | exfalso; omega
                    | skip
                      refine wp_skip ?_
                      refine keepN (by (simp +decide only [Slots.keep, Slots.get, reduceIte]); exact rfl) ?_
                      refine wp_seq ?_
                      refine wp_ops ?_
                      first | refine o_asgd rfl rfl ?_ | refine o_asgo rfl rfl ?_ | refine o_asg rfl rfl (fun _ h_ => by cases h_) ?_
                      refine op_nil ?_
                      refine wp_ret ?_
                      refine end1 rfl rfl rfl ?_ (by first | rfl | simp)
                      unfold digit; simp [*] <;> omega
              · first
                | exfalso; omega
                | skip
                  refine o_skip rfl ?_
                  refine o_skip rfl ?_
                  refine o_pickf rfl rfl rfl ?_
                  first | refine o_asgd rfl rfl ?_ | refine o_asgo rfl rfl ?_ | refine o_asg rfl rfl (fun _ h_ => by cases h_) ?_
                  refine op_nil ?_
                  refine wp_cond rfl (fun h_ => absurd h_ (by decide)) (fun _ => ?_)
                  refine wp_skip ?_
                  refine keepN (by (simp +decide only [Slots.keep, Slots.get, reduceIte]); exact rfl) ?_
                  refine wp_seq ?_
                  refine wp_ops ?_
                  first | refine o_asgd rfl rfl ?_ | refine o_asgo rfl rfl ?_ | refine o_asg rfl rfl (fun _ h_ => by cases h_) ?_
                  refine op_nil ?_
                  refine wp_ret ?_
                  refine end1 rfl rfl rfl ?_ (by first | rfl | simp)
                  unfold digit; simp [*] <;> omega
  · first
    | exfalso; omega
    | skip
      refine o_skip rfl ?_
      refine o_skip rfl ?_
      refine o_pickf rfl rfl rfl ?_
      first | refine o_asgd rfl rfl ?_ | refine o_asgo rfl rfl ?_ | refine o_asg rfl rfl (fun _ h_ => by cases h_) ?_
      refine op_nil ?_
      refine wp_cond rfl (fun h_ => absurd h_ (by decide)) (fun _ => ?_)
      refine wp_seq ?_
      refine wp_ops ?_
      first | refine o_movd rfl rfl ?_ | refine o_movp rfl rfl ?_ | refine o_mova rfl rfl ?_ | refine o_mov rfl rfl ?_
      first | refine o_geqn rfl rfl rfl ?_ | refine o_bin rfl rfl rfl rfl ?_
      first | refine o_movd rfl rfl ?_ | refine o_movp rfl rfl ?_ | refine o_mova rfl rfl ?_ | refine o_mov rfl rfl ?_
      refine o_ifp rfl ?_ ?_ <;> intro hq_ hg_ <;> simp only [hg_] <;> clear hg_
      · first
        | exfalso; omega
        | skip
          first | refine o_movd rfl rfl ?_ | refine o_movp rfl rfl ?_ | refine o_mova rfl rfl ?_ | refine o_mov rfl rfl ?_
          first | refine o_leqn rfl rfl rfl ?_ | refine o_bin rfl rfl rfl rfl ?_
          refine o_pickt rfl rfl rfl ?_
          first | refine o_asgd rfl rfl ?_ | refine o_asgo rfl rfl ?_ | refine o_asg rfl rfl (fun _ h_ => by cases h_) ?_
          refine op_nil ?_
          first | refine wp_if rfl ?_ ?_ <;> intro hq_ | refine wp_cond rfl ?_ ?_ <;> intro hq_
          · first
            | exfalso; omega
            | skip
              refine wp_seq ?_
              refine wp_ops ?_
              first | refine o_movd rfl rfl ?_ | refine o_movp rfl rfl ?_ | refine o_mova rfl rfl ?_ | refine o_mov rfl rfl ?_
              first | refine o_subkn rfl rfl rfl (by decide) (by (first | omega | (simp only [m64, mU, m8, n64, nU, n8, b64, bU, b8]; omega))) (by (first | omega | (simp only [m64, mU, m8, n64, nU, n8, b64, bU, b8]; omega))) ?_ | refine o_sub rfl rfl rfl rfl (by omega) (by omega) ?_
              refine o_toInt rfl rfl (by (first | omega | (simp only [m64, mU, m8, n64, nU, n8, b64, bU, b8]; omega))) (by (first | omega | (simp only [m64, mU, m8, n64, nU, n8, b64, bU, b8]; omega))) ?_
              first | refine o_addkn rfl rfl rfl (by decide) (by (first | omega | (simp only [m64, mU, m8, n64, nU, n8, b64, bU, b8]; omega))) ?_ | refine o_cat rfl rfl rfl (by (first | omega | (simp only [m64, mU, m8, n64, nU, n8, b64, bU, b8]; omega))) ?_ | refine o_add rfl rfl rfl rfl (by omega) (by omega) ?_
              first | refine o_asgd rfl rfl ?_ | refine o_asgo rfl rfl ?_ | refine o_asg rfl rfl (fun _ h_ => by cases h_) ?_
              refine op_nil ?_
              refine wp_ret ?_
              refine bx_ret ?_
              refine end1 rfl rfl rfl ?_ (by first | rfl | simp)
              unfold digit; simp [*] <;> omega
          · first
            | exfalso; omega
            | skip
              refine wp_seq ?_
              refine wp_ops ?_
              first | refine o_movd rfl rfl ?_ | refine o_movp rfl rfl ?_ | refine o_mova rfl rfl ?_ | refine o_mov rfl rfl ?_
              first | refine o_geqn rfl rfl rfl ?_ | refine o_bin rfl rfl rfl rfl ?_
              first | refine o_movd rfl rfl ?_ | refine o_movp rfl rfl ?_ | refine o_mova rfl rfl ?_ | refine o_mov rfl rfl ?_
              refine o_ifp rfl ?_ ?_ <;> intro hq_ hg_ <;> simp only [hg_] <;> clear hg_
              · first
                | exfalso; omega
                | skip
                  first | refine o_movd rfl rfl ?_ | refine o_movp rfl rfl ?_ | refine o_mova rfl rfl ?_ | refine o_mov rfl rfl ?_
                  first | refine o_leqn rfl rfl rfl ?_ | refine o_bin rfl rfl rfl rfl ?_
                  refine o_pickt rfl rfl rfl ?_
                  first | refine o_asgd rfl rfl ?_ | refine o_asgo rfl rfl ?_ | refine o_asg rfl rfl (fun _ h_ => by cases h_) ?_
                  refine op_nil ?_
                  first | refine wp_if rfl ?_ ?_ <;> intro hq_ | refine wp_cond rfl ?_ ?_ <;> intro hq_
                  · first
                    | exfalso; omega
                    | skip
                      refine wp_seq ?_
                      refine wp_ops ?_
                      first | refine o_movd rfl rfl ?_ | refine o_movp rfl rfl ?_ | refine o_mova rfl rfl ?_ | refine o_mov rfl rfl ?_
                      first | refine o_subkn rfl rfl rfl (by decide) (by (first | omega | (simp only [m64, mU, m8, n64, nU, n8, b64, bU, b8]; omega))) (by (first | omega | (simp only [m64, mU, m8, n64, nU, n8, b64, bU, b8]; omega))) ?_ | refine o_sub rfl rfl rfl rfl (by omega) (by omega) ?_
                      refine o_toInt rfl rfl (by (first | omega | (simp only [m64, mU, m8, n64, nU, n8, b64, bU, b8]; omega))) (by (first | omega | (simp only [m64, mU, m8, n64, nU, n8, b64, bU, b8]; omega))) ?_
                      first | refine o_addkn rfl rfl rfl (by decide) (by (first | omega | (simp only [m64, mU, m8, n64, nU, n8, b64, bU, b8]; omega))) ?_ | refine o_cat rfl rfl rfl (by (first | omega | (simp only [m64, mU, m8, n64, nU, n8, b64, bU, b8]; omega))) ?_ | refine o_add rfl rfl rfl rfl (by omega) (by omega) ?_
                      first | refine o_asgd rfl rfl ?_ | refine o_asgo rfl rfl ?_ | refine o_asg rfl rfl (fun _ h_ => by cases h_) ?_
                      refine op_nil ?_
                      refine wp_ret ?_
                      refine bx_ret ?_
                      refine end1 rfl rfl rfl ?_ (by first | rfl | simp)
                      unfold digit; simp [*] <;> omega
                  · first
                    | exfalso; omega
                    | skip
                      refine wp_skip ?_
                      refine keepN (by (simp +decide only [Slots.keep, Slots.get, reduceIte]); exact rfl) ?_
                      refine wp_seq ?_
                      refine wp_ops ?_
                      first | refine o_asgd rfl rfl ?_ | refine o_asgo rfl rfl ?_ | refine o_asg rfl rfl (fun _ h_ => by cases h_) ?_
                      refine op_nil ?_
                      refine wp_ret ?_
                      refine end1 rfl rfl rfl ?_ (by first | rfl | simp)
                      unfold digit; simp [*] <;> omega
              · first
                | exfalso; omega
                | skip
                  refine o_skip rfl ?_
                  refine o_skip rfl ?_
                  refine o_pickf rfl rfl rfl ?_
                  first | refine o_asgd rfl rfl ?_ | refine o_asgo rfl rfl ?_ | refine o_asg rfl rfl (fun _ h_ => by cases h_) ?_
                  refine op_nil ?_
                  refine wp_cond rfl (fun h_ => absurd h_ (by decide)) (fun _ => ?_)
                  refine wp_skip ?_
                  refine keepN (by (simp +decide only [Slots.keep, Slots.get, reduceIte]); exact rfl) ?_
                  refine wp_seq ?_
                  refine wp_ops ?_
                  first | refine o_asgd rfl rfl ?_ | refine o_asgo rfl rfl ?_ | refine o_asg rfl rfl (fun _ h_ => by cases h_) ?_
                  refine op_nil ?_
                  refine wp_ret ?_
                  refine end1 rfl rfl rfl ?_ (by first | rfl | simp)
                  unfold digit; simp [*] <;> omega
      · first
        | exfalso; omega
        | skip
          refine o_skip rfl ?_
          refine o_skip rfl ?_
          refine o_pickf rfl rfl rfl ?_
          first | refine o_asgd rfl rfl ?_ | refine o_asgo rfl rfl ?_ | refine o_asg rfl rfl (fun _ h_ => by cases h_) ?_
          refine op_nil ?_
          refine wp_cond rfl (fun h_ => absurd h_ (by decide)) (fun _ => ?_)
          refine wp_seq ?_
          refine wp_ops ?_
          first | refine o_movd rfl rfl ?_ | refine o_movp rfl rfl ?_ | refine o_mova rfl rfl ?_ | refine o_mov rfl rfl ?_
          first | refine o_geqn rfl rfl rfl ?_ | refine o_bin rfl rfl rfl rfl ?_
          first | refine o_movd rfl rfl ?_ | refine o_movp rfl rfl ?_ | refine o_mova rfl rfl ?_ | refine o_mov rfl rfl ?_
          refine o_ifp rfl ?_ ?_ <;> intro hq_ hg_ <;> simp only [hg_] <;> clear hg_
          · first
            | exfalso; omega
            | skip
              first | refine o_movd rfl rfl ?_ | refine o_movp rfl rfl ?_ | refine o_mova rfl rfl ?_ | refine o_mov rfl rfl ?_
              first | refine o_leqn rfl rfl rfl ?_ | refine o_bin rfl rfl rfl rfl ?_
              refine o_pickt rfl rfl rfl ?_
              first | refine o_asgd rfl rfl ?_ | refine o_asgo rfl rfl ?_ | refine o_asg rfl rfl (fun _ h_ => by cases h_) ?_
              refine op_nil ?_
              first | refine wp_if rfl ?_ ?_ <;> intro hq_ | refine wp_cond rfl ?_ ?_ <;> intro hq_
              · first
                | exfalso; omega
                | skip
                  refine wp_seq ?_
                  refine wp_ops ?_
                  first | refine o_movd rfl rfl ?_ | refine o_movp rfl rfl ?_ | refine o_mova rfl rfl ?_ | refine o_mov rfl rfl ?_
                  first | refine o_subkn rfl rfl rfl (by decide) (by (first | omega | (simp only [m64, mU, m8, n64, nU, n8, b64, bU, b8]; omega))) (by (first | omega | (simp only [m64, mU, m8, n64, nU, n8, b64, bU, b8]; omega))) ?_ | refine o_sub rfl rfl rfl rfl (by omega) (by omega) ?_
                  refine o_toInt rfl rfl (by (first | omega | (simp only [m64, mU, m8, n64, nU, n8, b64, bU, b8]; omega))) (by (first | omega | (simp only [m64, mU, m8, n64, nU, n8, b64, bU, b8]; omega))) ?_
                  first | refine o_addkn rfl rfl rfl (by decide) (by (first | omega | (simp only [m64, mU, m8, n64, nU, n8, b64, bU, b8]; omega))) ?_ | refine o_cat rfl rfl rfl (by (first | omega | (simp only [m64, mU, m8, n64, nU, n8, b64, bU, b8]; omega))) ?_ | refine o_add rfl rfl rfl rfl (by omega) (by omega) ?_
                  first | refine o_asgd rfl rfl ?_ | refine o_asgo rfl rfl ?_ | refine o_asg rfl rfl (fun _ h_ => by cases h_) ?_
                  refine op_nil ?_
                  refine wp_ret ?_
                  refine bx_ret ?_
                  refine end1 rfl rfl rfl ?_ (by first | rfl | simp)
                  unfold digit; simp [*] <;> omega
              · first
                | exfalso; omega
                | skip
                  refine wp_skip ?_
                  refine keepN (by (simp +decide only [Slots.keep, Slots.get, reduceIte]); exact rfl) ?_
                  refine wp_seq ?_
                  refine wp_ops ?_
                  first | refine o_asgd rfl rfl ?_ | refine o_asgo rfl rfl ?_ | refine o_asg rfl rfl (fun _ h_ => by cases h_) ?_
                  refine op_nil ?_
                  refine wp_ret ?_
                  refine end1 rfl rfl rfl ?_ (by first | rfl | simp)
                  unfold digit; simp [*] <;> omega
          · first
            | exfalso; omega
            | skip
              refine o_skip rfl ?_
              refine o_skip rfl ?_
              refine o_pickf rfl rfl rfl ?_
              first | refine o_asgd rfl rfl ?_ | refine o_asgo rfl rfl ?_ | refine o_asg rfl rfl (fun _ h_ => by cases h_) ?_
              refine op_nil ?_
              refine wp_cond rfl (fun h_ => absurd h_ (by decide)) (fun _ => ?_)
              refine wp_skip ?_
              refine keepN (by (simp +decide only [Slots.keep, Slots.get, reduceIte]); exact rfl) ?_
              refine wp_seq ?_
              refine wp_ops ?_
              first | refine o_asgd rfl rfl ?_ | refine o_asgo rfl rfl ?_ | refine o_asg rfl rfl (fun _ h_ => by cases h_) ?_
              refine op_nil ?_
              refine wp_ret ?_
              refine end1 rfl rfl rfl ?_ (by first | rfl | simp)
              unfold digit; simp [*] <;> omega

theorem refDigit_ev (c : Nat) (hc : c < 256) (rf : Refs) : Ev T f_ref01_Digit [u8 c] rf (.ret (i64 (digit c))) rf := by
  refine ev_callB rfl rfl ?_
  refine wp_seq ?_
  refine wp_ops ?_
  first | refine o_asgd rfl rfl ?_ | refine o_asgo rfl rfl ?_ | refine o_asg rfl rfl (fun _ h_ => by cases h_) ?_
  refine op_nil ?_
  refine wp_seq ?_
  refine wp_seq ?_
  refine wp_ops ?_
  first | refine o_movd rfl rfl ?_ | refine o_movp rfl rfl ?_ | refine o_mova rfl rfl ?_ | refine o_mov rfl rfl ?_
  first | refine o_geqn rfl rfl rfl ?_ | refine o_bin rfl rfl rfl rfl ?_
  first | refine o_movd rfl rfl ?_ | refine o_movp rfl rfl ?_ | refine o_mova rfl rfl ?_ | refine o_mov rfl rfl ?_
  refine o_ifp rfl ?_ ?_ <;> intro hq_ hg_ <;> simp only [hg_] <;> clear hg_
  · first
    | exfalso; omega
    | skip
      first | refine o_movd rfl rfl ?_ | refine o_movp rfl rfl ?_ | refine o_mova rfl rfl ?_ | refine o_mov rfl rfl ?_
      first | refine o_leqn rfl rfl rfl ?_ | refine o_bin rfl rfl rfl rfl ?_
      refine o_pickt rfl rfl rfl ?_
      refine op_nil ?_
      first | refine wp_if rfl ?_ ?_ <;> intro hq_ | refine wp_cond rfl ?_ ?_ <;> intro hq_
      · first
        | exfalso; omega
        | skip
          refine wp_seq ?_
          refine wp_ops ?_
          first | refine o_movd rfl rfl ?_ | refine o_movp rfl rfl ?_ | refine o_mova rfl rfl ?_ | refine o_mov rfl rfl ?_
          refine o_toInt rfl rfl (by (first | omega | (simp only [m64, mU, m8, n64, nU, n8, b64, bU, b8]; omega))) (by (first | omega | (simp only [m64, mU, m8, n64, nU, n8, b64, bU, b8]; omega))) ?_
          first | refine o_subkn rfl rfl rfl (by decide) (by (first | omega | (simp only [m64, mU, m8, n64, nU, n8, b64, bU, b8]; omega))) (by (first | omega | (simp only [m64, mU, m8, n64, nU, n8, b64, bU, b8]; omega))) ?_ | refine o_sub rfl rfl rfl rfl (by omega) (by omega) ?_
          first | refine o_asgd rfl rfl ?_ | refine o_asgo rfl rfl ?_ | refine o_asg rfl rfl (fun _ h_ => by cases h_) ?_
          refine op_nil ?_
          refine wp_ret ?_
          refine end1 rfl rfl rfl ?_ (by first | rfl | simp)
          unfold digit; simp [*] <;> omega
      · first
        | exfalso; omega
        | skip
          refine wp_skip ?_
          refine wp_seq ?_
          refine wp_seq ?_
          refine wp_ops ?_
          first | refine o_movd rfl rfl ?_ | refine o_movp rfl rfl ?_ | refine o_mova rfl rfl ?_ | refine o_mov rfl rfl ?_
          first | refine o_geqn rfl rfl rfl ?_ | refine o_bin rfl rfl rfl rfl ?_
          first | refine o_movd rfl rfl ?_ | refine o_movp rfl rfl ?_ | refine o_mova rfl rfl ?_ | refine o_mov rfl rfl ?_
          refine o_ifp rfl ?_ ?_ <;> intro hq_ hg_ <;> simp only [hg_] <;> clear hg_
          · first
            | exfalso; omega
            | skip
              first | refine o_movd rfl rfl ?_ | refine o_movp rfl rfl ?_ | refine o_mova rfl rfl ?_ | refine o_mov rfl rfl ?_
              first | refine o_leqn rfl rfl rfl ?_ | refine o_bin rfl rfl rfl rfl ?_
              refine o_pickt rfl rfl rfl ?_
              refine op_nil ?_
              first | refine wp_if rfl ?_ ?_ <;> intro hq_ | refine wp_cond rfl ?_ ?_ <;> intro hq_
              · first
                | exfalso; omega
                | skip
                  refine wp_seq ?_
                  refine wp_ops ?_
                  first | refine o_movd rfl rfl ?_ | refine o_movp rfl rfl ?_ | refine o_mova rfl rfl ?_ | refine o_mov rfl rfl ?_
                  refine o_toInt rfl rfl (by (first | omega | (simp only [m64, mU, m8, n64, nU, n8, b64, bU, b8]; omega))) (by (first | omega | (simp only [m64, mU, m8, n64, nU, n8, b64, bU, b8]; omega))) ?_
                  first | refine o_subkn rfl rfl rfl (by decide) (by (first | omega | (simp only [m64, mU, m8, n64, nU, n8, b64, bU, b8]; omega))) (by (first | omega | (simp only [m64, mU, m8, n64, nU, n8, b64, bU, b8]; omega))) ?_ | refine o_sub rfl rfl rfl rfl (by omega) (by omega) ?_
                  first | refine o_asgd rfl rfl ?_ | refine o_asgo rfl rfl ?_ | refine o_asg rfl rfl (fun _ h_ => by cases h_) ?_
                  refine op_nil ?_
                  refine wp_ret ?_
                  refine end1 rfl rfl rfl ?_ (by first | rfl | simp)
                  unfold digit; simp [*] <;> omega
              · first
                | exfalso; omega
                | skip
                  refine wp_skip ?_
                  refine wp_seq ?_
                  refine wp_seq ?_
                  refine wp_ops ?_
                  first | refine o_movd rfl rfl ?_ | refine o_movp rfl rfl ?_ | refine o_mova rfl rfl ?_ | refine o_mov rfl rfl ?_
                  first | refine o_geqn rfl rfl rfl ?_ | refine o_bin rfl rfl rfl rfl ?_
                  first | refine o_movd rfl rfl ?_ | refine o_movp rfl rfl ?_ | refine o_mova rfl rfl ?_ | refine o_mov rfl rfl ?_
                  refine o_ifp rfl ?_ ?_ <;> intro hq_ hg_ <;> simp only [hg_] <;> clear hg_
                  · first
                    | exfalso; omega
                    | skip
                      first | refine o_movd rfl rfl ?_ | refine o_movp rfl rfl ?_ | refine o_mova rfl rfl ?_ | refine o_mov rfl rfl ?_
                      first | refine o_leqn rfl rfl rfl ?_ | refine o_bin rfl rfl rfl rfl ?_
                      refine o_pickt rfl rfl rfl ?_
                      refine op_nil ?_
                      first | refine wp_if rfl ?_ ?_ <;> intro hq_ | refine wp_cond rfl ?_ ?_ <;> intro hq_
                      · first
                        | exfalso; omega
                        | skip
                          refine wp_seq ?_
                          refine wp_ops ?_
                          first | refine o_movd rfl rfl ?_ | refine o_movp rfl rfl ?_ | refine o_mova rfl rfl ?_ | refine o_mov rfl rfl ?_
                          refine o_toInt rfl rfl (by (first | omega | (simp only [m64, mU, m8, n64, nU, n8, b64, bU, b8]; omega))) (by (first | omega | (simp only [m64, mU, m8, n64, nU, n8, b64, bU, b8]; omega))) ?_
                          first | refine o_subkn rfl rfl rfl (by decide) (by (first | omega | (simp only [m64, mU, m8, n64, nU, n8, b64, bU, b8]; omega))) (by (first | omega | (simp only [m64, mU, m8, n64, nU, n8, b64, bU, b8]; omega))) ?_ | refine o_sub rfl rfl rfl rfl (by omega) (by omega) ?_
                          first | refine o_asgd rfl rfl ?_ | refine o_asgo rfl rfl ?_ | refine o_asg rfl rfl (fun _ h_ => by cases h_) ?_
                          refine op_nil ?_
                          refine wp_ret ?_
                          refine end1 rfl rfl rfl ?_ (by first | rfl | simp)
                          unfold digit; simp [*] <;> omega
                      · first
                        | exfalso; omega
                        | skip
                          refine wp_skip ?_
                          refine wp_seq ?_
                          refine wp_ops ?_
                          first | refine o_asgd rfl rfl ?_ | refine o_asgo rfl rfl ?_ | refine o_asg rfl rfl (fun _ h_ => by cases h_) ?_
                          refine op_nil ?_
                          refine wp_ret ?_
                          refine end1 rfl rfl rfl ?_ (by first | rfl | simp)
                          unfold digit; simp [*] <;> omega
                  · first
                    | exfalso; omega
                    | skip
                      refine o_skip rfl ?_
                      refine o_skip rfl ?_
                      refine o_pickf rfl rfl rfl ?_
                      refine op_nil ?_
                      refine wp_cond rfl (fun h_ => absurd h_ (by decide)) (fun _ => ?_)
                      refine wp_skip ?_
                      refine wp_seq ?_
                      refine wp_ops ?_
                      first | refine o_asgd rfl rfl ?_ | refine o_asgo rfl rfl ?_ | refine o_asg rfl rfl (fun _ h_ => by cases h_) ?_
                      refine op_nil ?_
                      refine wp_ret ?_
                      refine end1 rfl rfl rfl ?_ (by first | rfl | simp)
                      unfold digit; simp [*] <;> omega
          · first
            | exfalso; omega
            | skip
              refine o_skip rfl ?_
              refine o_skip rfl ?_
              refine o_pickf rfl rfl rfl ?_
              refine op_nil ?_
              refine wp_cond rfl (fun h_ => absurd h_ (by decide)) (fun _ => ?_)
              refine wp_skip ?_
              refine wp_seq ?_
              refine wp_seq ?_
              refine wp_ops ?_
              first | refine o_movd rfl rfl ?_ | refine o_movp rfl rfl ?_ | refine o_mova rfl rfl ?_ | refine o_mov rfl rfl ?_
              first | refine o_geqn rfl rfl rfl ?_ | refine o_bin rfl rfl rfl rfl ?_
              first | refine o_movd rfl rfl ?_ | refine o_movp rfl rfl ?_ | refine o_mova rfl rfl ?_ | refine o_mov rfl rfl ?_
              refine o_ifp rfl ?_ ?_ <;> intro hq_ hg_ <;> simp only [hg_] <;> clear hg_
              · first
                | exfalso; omega
                | skip
                  first | refine o_movd rfl rfl ?_ | refine o_movp rfl rfl ?_ | refine o_mova rfl rfl ?_ | refine o_mov rfl rfl ?_
                  first | refine o_leqn rfl rfl rfl ?_ | refine o_bin rfl rfl rfl rfl ?_
                  refine o_pickt rfl rfl rfl ?_
                  refine op_nil ?_
                  first | refine wp_if rfl ?_ ?_ <;> intro hq_ | refine wp_cond rfl ?_ ?_ <;> intro hq_
                  · first
                    | exfalso; omega
                    | skip
                      refine wp_seq ?_
                      refine wp_ops ?_
                      first | refine o_movd rfl rfl ?_ | refine o_movp rfl rfl ?_ | refine o_mova rfl rfl ?_ | refine o_mov rfl rfl ?_
                      refine o_toInt rfl rfl (by (first | omega | (simp only [m64, mU, m8, n64, nU, n8, b64, bU, b8]; omega))) (by (first | omega | (simp only [m64, mU, m8, n64, nU, n8, b64, bU, b8]; omega))) ?_
                      first | refine o_subkn rfl rfl rfl (by decide) (by (first | omega | (simp only [m64, mU, m8, n64, nU, n8, b64, bU, b8]; omega))) (by (first | omega | (simp only [m64, mU, m8, n64, nU, n8, b64, bU, b8]; omega))) ?_ | refine o_sub rfl rfl rfl rfl (by omega) (by omega) ?_
                      first | refine o_asgd rfl rfl ?_ | refine o_asgo rfl rfl ?_ | refine o_asg rfl rfl (fun _ h_ => by cases h_) ?_
                      refine op_nil ?_
                      refine wp_ret ?_
                      refine end1 rfl rfl rfl ?_ (by first | rfl | simp)
                      unfold digit; simp [*] <;> omega
                  · first
                    | exfalso; omega
                    | skip
                      refine wp_skip ?_
                      refine wp_seq ?_
                      refine wp_ops ?_
                      first | refine o_asgd rfl rfl ?_ | refine o_asgo rfl rfl ?_ | refine o_asg rfl rfl (fun _ h_ => by cases h_) ?_
                      refine op_nil ?_
                      refine wp_ret ?_
                      refine end1 rfl rfl rfl ?_ (by first | rfl | simp)
                      unfold digit; simp [*] <;> omega
              · first
                | exfalso; omega
                | skip
                  refine o_skip rfl ?_
                  refine o_skip rfl ?_
                  refine o_pickf rfl rfl rfl ?_
                  refine op_nil ?_
                  refine wp_cond rfl (fun h_ => absurd h_ (by decide)) (fun _ => ?_)
                  refine wp_skip ?_
                  refine wp_seq ?_
                  refine wp_ops ?_
                  first | refine o_asgd rfl rfl ?_ | refine o_asgo rfl rfl ?_ | refine o_asg rfl rfl (fun _ h_ => by cases h_) ?_
                  refine op_nil ?_
                  refine wp_ret ?_
                  refine end1 rfl rfl rfl ?_ (by first | rfl | simp)
                  unfold digit; simp [*] <;> omega
  · first
    | exfalso; omega
    | skip
      refine o_skip rfl ?_
      refine o_skip rfl ?_
      refine o_pickf rfl rfl rfl ?_
      refine op_nil ?_
      refine wp_cond rfl (fun h_ => absurd h_ (by decide)) (fun _ => ?_)
      refine wp_skip ?_
      refine wp_seq ?_
      refine wp_seq ?_
      refine wp_ops ?_
      first | refine o_movd rfl rfl ?_ | refine o_movp rfl rfl ?_ | refine o_mova rfl rfl ?_ | refine o_mov rfl rfl ?_
      first | refine o_geqn rfl rfl rfl ?_ | refine o_bin rfl rfl rfl rfl ?_
      first | refine o_movd rfl rfl ?_ | refine o_movp rfl rfl ?_ | refine o_mova rfl rfl ?_ | refine o_mov rfl rfl ?_
      refine o_ifp rfl ?_ ?_ <;> intro hq_ hg_ <;> simp only [hg_] <;> clear hg_
      · first
        | exfalso; omega
        | skip
          first | refine o_movd rfl rfl ?_ | refine o_movp rfl rfl ?_ | refine o_mova rfl rfl ?_ | refine o_mov rfl rfl ?_
          first | refine o_leqn rfl rfl rfl ?_ | refine o_bin rfl rfl rfl rfl ?_
          refine o_pickt rfl rfl rfl ?_
          refine op_nil ?_
          first | refine wp_if rfl ?_ ?_ <;> intro hq_ | refine wp_cond rfl ?_ ?_ <;> intro hq_
          · first
            | exfalso; omega
            | skip
              refine wp_seq ?_
              refine wp_ops ?_
              first | refine o_movd rfl rfl ?_ | refine o_movp rfl rfl ?_ | refine o_mova rfl rfl ?_ | refine o_mov rfl rfl ?_
              refine o_toInt rfl rfl (by (first | omega | (simp only [m64, mU, m8, n64, nU, n8, b64, bU, b8]; omega))) (by (first | omega | (simp only [m64, mU, m8, n64, nU, n8, b64, bU, b8]; omega))) ?_
              first | refine o_subkn rfl rfl rfl (by decide) (by (first | omega | (simp only [m64, mU, m8, n64, nU, n8, b64, bU, b8]; omega))) (by (first | omega | (simp only [m64, mU, m8, n64, nU, n8, b64, bU, b8]; omega))) ?_ | refine o_sub rfl rfl rfl rfl (by omega) (by omega) ?_
              first | refine o_asgd rfl rfl ?_ | refine o_asgo rfl rfl ?_ | refine o_asg rfl rfl (fun _ h_ => by cases h_) ?_
              refine op_nil ?_
              refine wp_ret ?_
              refine end1 rfl rfl rfl ?_ (by first | rfl | simp)
              unfold digit; simp [*] <;> omega
          · first
            | exfalso; omega
            | skip
              refine wp_skip ?_
              refine wp_seq ?_
              refine wp_seq ?_
              refine wp_ops ?_
              first | refine o_movd rfl rfl ?_ | refine o_movp rfl rfl ?_ | refine o_mova rfl rfl ?_ | refine o_mov rfl rfl ?_
              first | refine o_geqn rfl rfl rfl ?_ | refine o_bin rfl rfl rfl rfl ?_
              first | refine o_movd rfl rfl ?_ | refine o_movp rfl rfl ?_ | refine o_mova rfl rfl ?_ | refine o_mov rfl rfl ?_
              refine o_ifp rfl ?_ ?_ <;> intro hq_ hg_ <;> simp only [hg_] <;> clear hg_
              · first
                | exfalso; omega
                | skip
                  first | refine o_movd rfl rfl ?_ | refine o_movp rfl rfl ?_ | refine o_mova rfl rfl ?_ | refine o_mov rfl rfl ?_
                  first | refine o_leqn rfl rfl rfl ?_ | refine o_bin rfl rfl rfl rfl ?_
                  refine o_pickt rfl rfl rfl ?_
                  refine op_nil ?_
                  first | refine wp_if rfl ?_ ?_ <;> intro hq_ | refine wp_cond rfl ?_ ?_ <;> intro hq_
                  · first
                    | exfalso; omega
                    | skip
                      refine wp_seq ?_
                      refine wp_ops ?_
                      first | refine o_movd rfl rfl ?_ | refine o_movp rfl rfl ?_ | refine o_mova rfl rfl ?_ | refine o_mov rfl rfl ?_
                      refine o_toInt rfl rfl (by (first | omega | (simp only [m64, mU, m8, n64, nU, n8, b64, bU, b8]; omega))) (by (first | omega | (simp only [m64, mU, m8, n64, nU, n8, b64, bU, b8]; omega))) ?_
                      first | refine o_subkn rfl rfl rfl (by decide) (by (first | omega | (simp only [m64, mU, m8, n64, nU, n8, b64, bU, b8]; omega))) (by (first | omega | (simp only [m64, mU, m8, n64, nU, n8, b64, bU, b8]; omega))) ?_ | refine o_sub rfl rfl rfl rfl (by omega) (by omega) ?_
                      first | refine o_asgd rfl rfl ?_ | refine o_asgo rfl rfl ?_ | refine o_asg rfl rfl (fun _ h_ => by cases h_) ?_
                      refine op_nil ?_
                      refine wp_ret ?_
                      refine end1 rfl rfl rfl ?_ (by first | rfl | simp)
                      unfold digit; simp [*] <;> omega
                  · first
                    | exfalso; omega
                    | skip
                      refine wp_skip ?_
                      refine wp_seq ?_
                      refine wp_ops ?_
                      first | refine o_asgd rfl rfl ?_ | refine o_asgo rfl rfl ?_ | refine o_asg rfl rfl (fun _ h_ => by cases h_) ?_
                      refine op_nil ?_
                      refine wp_ret ?_
                      refine end1 rfl rfl rfl ?_ (by first | rfl | simp)
                      unfold digit; simp [*] <;> omega
              · first
                | exfalso; omega
                | skip
                  refine o_skip rfl ?_
                  refine o_skip rfl ?_
                  refine o_pickf rfl rfl rfl ?_
                  refine op_nil ?_
                  refine wp_cond rfl (fun h_ => absurd h_ (by decide)) (fun _ => ?_)
                  refine wp_skip ?_
                  refine wp_seq ?_
                  refine wp_ops ?_
                  first | refine o_asgd rfl rfl ?_ | refine o_asgo rfl rfl ?_ | refine o_asg rfl rfl (fun _ h_ => by cases h_) ?_
                  refine op_nil ?_
                  refine wp_ret ?_
                  refine end1 rfl rfl rfl ?_ (by first | rfl | simp)
                  unfold digit; simp [*] <;> omega
      · first
        | exfalso; omega
        | skip
          refine o_skip rfl ?_
          refine o_skip rfl ?_
          refine o_pickf rfl rfl rfl ?_
          refine op_nil ?_
          refine wp_cond rfl (fun h_ => absurd h_ (by decide)) (fun _ => ?_)
          refine wp_skip ?_
          refine wp_seq ?_
          refine wp_seq ?_
          refine wp_ops ?_
          first | refine o_movd rfl rfl ?_ | refine o_movp rfl rfl ?_ | refine o_mova rfl rfl ?_ | refine o_mov rfl rfl ?_
          first | refine o_geqn rfl rfl rfl ?_ | refine o_bin rfl rfl rfl rfl ?_
          first | refine o_movd rfl rfl ?_ | refine o_movp rfl rfl ?_ | refine o_mova rfl rfl ?_ | refine o_mov rfl rfl ?_
          refine o_ifp rfl ?_ ?_ <;> intro hq_ hg_ <;> simp only [hg_] <;> clear hg_
          · first
            | exfalso; omega
            | skip
              first | refine o_movd rfl rfl ?_ | refine o_movp rfl rfl ?_ | refine o_mova rfl rfl ?_ | refine o_mov rfl rfl ?_
              first | refine o_leqn rfl rfl rfl ?_ | refine o_bin rfl rfl rfl rfl ?_
              refine o_pickt rfl rfl rfl ?_
              refine op_nil ?_
              first | refine wp_if rfl ?_ ?_ <;> intro hq_ | refine wp_cond rfl ?_ ?_ <;> intro hq_
              · first
                | exfalso; omega
                | skip
                  refine wp_seq ?_
                  refine wp_ops ?_
                  first | refine o_movd rfl rfl ?_ | refine o_movp rfl rfl ?_ | refine o_mova rfl rfl ?_ | refine o_mov rfl rfl ?_
                  refine o_toInt rfl rfl (by (first | omega | (simp only [m64, mU, m8, n64, nU, n8, b64, bU, b8]; omega))) (by (first | omega | (simp only [m64, mU, m8, n64, nU, n8, b64, bU, b8]; omega))) ?_
                  first | refine o_subkn rfl rfl rfl (by decide) (by (first | omega | (simp only [m64, mU, m8, n64, nU, n8, b64, bU, b8]; omega))) (by (first | omega | (simp only [m64, mU, m8, n64, nU, n8, b64, bU, b8]; omega))) ?_ | refine o_sub rfl rfl rfl rfl (by omega) (by omega) ?_
                  first | refine o_asgd rfl rfl ?_ | refine o_asgo rfl rfl ?_ | refine o_asg rfl rfl (fun _ h_ => by cases h_) ?_
                  refine op_nil ?_
                  refine wp_ret ?_
                  refine end1 rfl rfl rfl ?_ (by first | rfl | simp)
                  unfold digit; simp [*] <;> omega
              · first
                | exfalso; omega
                | skip
                  refine wp_skip ?_
                  refine wp_seq ?_
                  refine wp_ops ?_
                  first | refine o_asgd rfl rfl ?_ | refine o_asgo rfl rfl ?_ | refine o_asg rfl rfl (fun _ h_ => by cases h_) ?_
                  refine op_nil ?_
                  refine wp_ret ?_
                  refine end1 rfl rfl rfl ?_ (by first | rfl | simp)
                  unfold digit; simp [*] <;> omega
          · first
            | exfalso; omega
            | skip
              refine o_skip rfl ?_
              refine o_skip rfl ?_
              refine o_pickf rfl rfl rfl ?_
              refine op_nil ?_
              refine wp_cond rfl (fun h_ => absurd h_ (by decide)) (fun _ => ?_)
              refine wp_skip ?_
              refine wp_seq ?_
              refine wp_ops ?_
              first | refine o_asgd rfl rfl ?_ | refine o_asgo rfl rfl ?_ | refine o_asg rfl rfl (fun _ h_ => by cases h_) ?_
              refine op_nil ?_
              refine wp_ret ?_
              refine end1 rfl rfl rfl ?_ (by first | rfl | simp)
              unfold digit; simp [*] <;> omega

def isWordB (c : Nat) : Bool := c == 32 || c == 95 || (decide (48 ≤ c) && decide (c ≤ 57)) || (decide (65 ≤ c) && decide (c ≤ 90)) || (decide (97 ≤ c) && decide (c ≤ 122))

theorem isWord_ev (c : Nat) (hc : c < 256) (rf : Refs) : Ev T f_class_isWord [u8 c] rf (.ret (bl (isWordB c))) rf := by
  refine ev_callB rfl rfl ?_
  refine wp_seq ?_
  refine wp_ops ?_
  first | refine o_asgd rfl rfl ?_ | refine o_asgo rfl rfl ?_ | refine o_asg rfl rfl (fun _ h_ => by cases h_) ?_
  refine op_nil ?_
  refine wp_seq ?_
  refine wp_ops ?_
  first | refine o_movd rfl rfl ?_ | refine o_movp rfl rfl ?_ | refine o_mova rfl rfl ?_ | refine o_mov rfl rfl ?_
  first | refine o_eqln rfl rfl rfl ?_ | refine o_eqs rfl rfl rfl ?_ | refine o_bin rfl rfl rfl rfl ?_
  first | refine o_movd rfl rfl ?_ | refine o_movp rfl rfl ?_ | refine o_mova rfl rfl ?_ | refine o_mov rfl rfl ?_
  refine o_ifp rfl ?_ ?_ <;> intro hq_ hg_ <;> simp only [hg_] <;> clear hg_
  · first
    | exfalso; omega
    | skip
      refine o_skip rfl ?_
      refine o_skip rfl ?_
      refine o_pickt rfl rfl rfl ?_
      first | refine o_movd rfl rfl ?_ | refine o_movp rfl rfl ?_ | refine o_mova rfl rfl ?_ | refine o_mov rfl rfl ?_
      refine o_skip rfl ?_
      refine o_skip rfl ?_
      refine o_skip rfl ?_
      refine o_skip rfl ?_
      refine o_skip rfl ?_
      refine o_skip rfl ?_
      refine o_pickt rfl rfl rfl ?_
      first | refine o_movd rfl rfl ?_ | refine o_movp rfl rfl ?_ | refine o_mova rfl rfl ?_ | refine o_mov rfl rfl ?_
      refine o_skip rfl ?_
      refine o_skip rfl ?_
      refine o_skip rfl ?_
      refine o_skip rfl ?_
      refine o_skip rfl ?_
      refine o_skip rfl ?_
      refine o_pickt rfl rfl rfl ?_
      first | refine o_movd rfl rfl ?_ | refine o_movp rfl rfl ?_ | refine o_mova rfl rfl ?_ | refine o_mov rfl rfl ?_
      refine o_skip rfl ?_
      refine o_skip rfl ?_
      refine o_skip rfl ?_
      refine o_skip rfl ?_
      refine o_skip rfl ?_
      refine o_skip rfl ?_
      refine o_pickt rfl rfl rfl ?_
      first | refine o_asgd rfl rfl ?_ | refine o_asgo rfl rfl ?_ | refine o_asg rfl rfl (fun _ h_ => by cases h_) ?_
      refine op_nil ?_
      refine wp_ret ?_
      refine end1 rfl rfl rfl ?_ (by first | rfl | simp)
      congr 3; rw [Bool.eq_iff_iff]; simp [isWordB]; omega
  · first
    | exfalso; omega
    | skip
      first | refine o_movd rfl rfl ?_ | refine o_movp rfl rfl ?_ | refine o_mova rfl rfl ?_ | refine o_mov rfl rfl ?_
      first | refine o_eqln rfl rfl rfl ?_ | refine o_eqs rfl rfl rfl ?_ | refine o_bin rfl rfl rfl rfl ?_
      refine o_pickf rfl rfl rfl ?_
      first | refine o_movd rfl rfl ?_ | refine o_movp rfl rfl ?_ | refine o_mova rfl rfl ?_ | refine o_mov rfl rfl ?_
      refine o_ifp rfl ?_ ?_ <;> intro hq_ hg_ <;> simp only [hg_] <;> clear hg_
      · first
        | exfalso; omega
        | skip
          refine o_skip rfl ?_
          refine o_skip rfl ?_
          refine o_skip rfl ?_
          refine o_skip rfl ?_
          refine o_skip rfl ?_
          refine o_skip rfl ?_
          refine o_pickt rfl rfl rfl ?_
          first | refine o_movd rfl rfl ?_ | refine o_movp rfl rfl ?_ | refine o_mova rfl rfl ?_ | refine o_mov rfl rfl ?_
          refine o_skip rfl ?_
          refine o_skip rfl ?_
          refine o_skip rfl ?_
          refine o_skip rfl ?_
          refine o_skip rfl ?_
          refine o_skip rfl ?_
          refine o_pickt rfl rfl rfl ?_
          first | refine o_movd rfl rfl ?_ | refine o_movp rfl rfl ?_ | refine o_mova rfl rfl ?_ | refine o_mov rfl rfl ?_
          refine o_skip rfl ?_
          refine o_skip rfl ?_
          refine o_skip rfl ?_
          refine o_skip rfl ?_
          refine o_skip rfl ?_
          refine o_skip rfl ?_
          refine o_pickt rfl rfl rfl ?_
          first | refine o_asgd rfl rfl ?_ | refine o_asgo rfl rfl ?_ | refine o_asg rfl rfl (fun _ h_ => by cases h_) ?_
          refine op_nil ?_
          refine wp_ret ?_
          refine end1 rfl rfl rfl ?_ (by first | rfl | simp)
          congr 3; rw [Bool.eq_iff_iff]; simp [isWordB]; omega
      · first
        | exfalso; omega
        | skip
          first | refine o_movd rfl rfl ?_ | refine o_movp rfl rfl ?_ | refine o_mova rfl rfl ?_ | refine o_mov rfl rfl ?_
          first | refine o_geqn rfl rfl rfl ?_ | refine o_bin rfl rfl rfl rfl ?_
          first | refine o_movd rfl rfl ?_ | refine o_movp rfl rfl ?_ | refine o_mova rfl rfl ?_ | refine o_mov rfl rfl ?_
          refine o_ifp rfl ?_ ?_ <;> intro hq_ hg_ <;> simp only [hg_] <;> clear hg_
          · first
            | exfalso; omega
            | skip
              first | refine o_movd rfl rfl ?_ | refine o_movp rfl rfl ?_ | refine o_mova rfl rfl ?_ | refine o_mov rfl rfl ?_
              first | refine o_leqn rfl rfl rfl ?_ | refine o_bin rfl rfl rfl rfl ?_
              refine o_pickt rfl rfl rfl ?_
              refine o_pickf rfl rfl rfl ?_
              first | refine o_movd rfl rfl ?_ | refine o_movp rfl rfl ?_ | refine o_mova rfl rfl ?_ | refine o_mov rfl rfl ?_
              refine o_ifp rfl ?_ ?_ <;> intro hq_ hg_ <;> simp only [hg_] <;> clear hg_
              · first
                | exfalso; omega
                | skip
                  refine o_skip rfl ?_
                  refine o_skip rfl ?_
                  refine o_skip rfl ?_
                  refine o_skip rfl ?_
                  refine o_skip rfl ?_
                  refine o_skip rfl ?_
                  refine o_pickt rfl rfl rfl ?_
                  first | refine o_movd rfl rfl ?_ | refine o_movp rfl rfl ?_ | refine o_mova rfl rfl ?_ | refine o_mov rfl rfl ?_
                  refine o_skip rfl ?_
                  refine o_skip rfl ?_
                  refine o_skip rfl ?_
                  refine o_skip rfl ?_
                  refine o_skip rfl ?_
                  refine o_skip rfl ?_
                  refine o_pickt rfl rfl rfl ?_
                  first | refine o_asgd rfl rfl ?_ | refine o_asgo rfl rfl ?_ | refine o_asg rfl rfl (fun _ h_ => by cases h_) ?_
                  refine op_nil ?_
                  refine wp_ret ?_
                  refine end1 rfl rfl rfl ?_ (by first | rfl | simp)
                  congr 3; rw [Bool.eq_iff_iff]; simp [isWordB]; omega
              · first
                | exfalso; omega
                | skip
                  first | refine o_movd rfl rfl ?_ | refine o_movp rfl rfl ?_ | refine o_mova rfl rfl ?_ | refine o_mov rfl rfl ?_
                  first | refine o_geqn rfl rfl rfl ?_ | refine o_bin rfl rfl rfl rfl ?_
                  first | refine o_movd rfl rfl ?_ | refine o_movp rfl rfl ?_ | refine o_mova rfl rfl ?_ | refine o_mov rfl rfl ?_
                  refine o_ifp rfl ?_ ?_ <;> intro hq_ hg_ <;> simp only [hg_] <;> clear hg_
                  · first
                    | exfalso; omega
                    | skip
                      first | refine o_movd rfl rfl ?_ | refine o_movp rfl rfl ?_ | refine o_mova rfl rfl ?_ | refine o_mov rfl rfl ?_
                      first | refine o_leqn rfl rfl rfl ?_ | refine o_bin rfl rfl rfl rfl ?_
                      refine o_pickt rfl rfl rfl ?_
                      refine o_pickf rfl rfl rfl ?_
                      first | refine o_movd rfl rfl ?_ | refine o_movp rfl rfl ?_ | refine o_mova rfl rfl ?_ | refine o_mov rfl rfl ?_
                      refine o_ifp rfl ?_ ?_ <;> intro hq_ hg_ <;> simp only [hg_] <;> clear hg_
                      · first
                        | exfalso; omega
                        | skip
                          refine o_skip rfl ?_
                          refine o_skip rfl ?_
                          refine o_skip rfl ?_
                          refine o_skip rfl ?_
                          refine o_skip rfl ?_
                          refine o_skip rfl ?_
                          refine o_pickt rfl rfl rfl ?_
                          first | refine o_asgd rfl rfl ?_ | refine o_asgo rfl rfl ?_ | refine o_asg rfl rfl (fun _ h_ => by cases h_) ?_
                          refine op_nil ?_
                          refine wp_ret ?_
                          refine end1 rfl rfl rfl ?_ (by first | rfl | simp)
                          congr 3; rw [Bool.eq_iff_iff]; simp [isWordB]; omega
                      · first
                        | exfalso; omega
                        | skip
                          first | refine o_movd rfl rfl ?_ | refine o_movp rfl rfl ?_ | refine o_mova rfl rfl ?_ | refine o_mov rfl rfl ?_
                          first | refine o_geqn rfl rfl rfl ?_ | refine o_bin rfl rfl rfl rfl ?_
                          first | refine o_movd rfl rfl ?_ | refine o_movp rfl rfl ?_ | refine o_mova rfl rfl ?_ | refine o_mov rfl rfl ?_
                          refine o_ifp rfl ?_ ?_ <;> intro hq_ hg_ <;> simp only [hg_] <;> clear hg_
                          · first
                            | exfalso; omega
                            | skip
                              first | refine o_movd rfl rfl ?_ | refine o_movp rfl rfl ?_ | refine o_mova rfl rfl ?_ | refine o_mov rfl rfl ?_
                              first | refine o_leqn rfl rfl rfl ?_ | refine o_bin rfl rfl rfl rfl ?_
                              refine o_pickt rfl rfl rfl ?_
                              refine o_pickf rfl rfl rfl ?_
                              first | refine o_asgd rfl rfl ?_ | refine o_asgo rfl rfl ?_ | refine o_asg rfl rfl (fun _ h_ => by cases h_) ?_
                              refine op_nil ?_
                              refine wp_ret ?_
                              refine end1 rfl rfl rfl ?_ (by first | rfl | simp)
                              congr 3; rw [Bool.eq_iff_iff]; simp [isWordB]; omega
                          · first
                            | exfalso; omega
                            | skip
                              refine o_skip rfl ?_
                              refine o_skip rfl ?_
                              refine o_pickf rfl rfl rfl ?_
                              refine o_pickf rfl rfl rfl ?_
                              first | refine o_asgd rfl rfl ?_ | refine o_asgo rfl rfl ?_ | refine o_asg rfl rfl (fun _ h_ => by cases h_) ?_
                              refine op_nil ?_
                              refine wp_ret ?_
                              refine end1 rfl rfl rfl ?_ (by first | rfl | simp)
                              congr 3; rw [Bool.eq_iff_iff]; simp [isWordB]; omega
                  · first
                    | exfalso; omega
                    | skip
                      refine o_skip rfl ?_
                      refine o_skip rfl ?_
                      refine o_pickf rfl rfl rfl ?_
                      refine o_pickf rfl rfl rfl ?_
                      first | refine o_movd rfl rfl ?_ | refine o_movp rfl rfl ?_ | refine o_mova rfl rfl ?_ | refine o_mov rfl rfl ?_
                      first | refine o_movd rfl rfl ?_ | refine o_movp rfl rfl ?_ | refine o_mova rfl rfl ?_ | refine o_mov rfl rfl ?_
                      first | refine o_geqn rfl rfl rfl ?_ | refine o_bin rfl rfl rfl rfl ?_
                      first | refine o_movd rfl rfl ?_ | refine o_movp rfl rfl ?_ | refine o_mova rfl rfl ?_ | refine o_mov rfl rfl ?_
                      refine o_ifp rfl ?_ ?_ <;> intro hq_ hg_ <;> simp only [hg_] <;> clear hg_
                      · first
                        | exfalso; omega
                        | skip
                          first | refine o_movd rfl rfl ?_ | refine o_movp rfl rfl ?_ | refine o_mova rfl rfl ?_ | refine o_mov rfl rfl ?_
                          first | refine o_leqn rfl rfl rfl ?_ | refine o_bin rfl rfl rfl rfl ?_
                          refine o_pickt rfl rfl rfl ?_
                          refine o_pickf rfl rfl rfl ?_
                          first | refine o_asgd rfl rfl ?_ | refine o_asgo rfl rfl ?_ | refine o_asg rfl rfl (fun _ h_ => by cases h_) ?_
                          refine op_nil ?_
                          refine wp_ret ?_
                          refine end1 rfl rfl rfl ?_ (by first | rfl | simp)
                          congr 3; rw [Bool.eq_iff_iff]; simp [isWordB]; omega
                      · first
                        | exfalso; omega
                        | skip
                          refine o_skip rfl ?_
                          refine o_skip rfl ?_
                          refine o_pickf rfl rfl rfl ?_
                          refine o_pickf rfl rfl rfl ?_
                          first | refine o_asgd rfl rfl ?_ | refine o_asgo rfl rfl ?_ | refine o_asg rfl rfl (fun _ h_ => by cases h_) ?_
                          refine op_nil ?_
                          refine wp_ret ?_
                          refine end1 rfl rfl rfl ?_ (by first | rfl | simp)
                          congr 3; rw [Bool.eq_iff_iff]; simp [isWordB]; omega
          · first
            | exfalso; omega
            | skip
              refine o_skip rfl ?_
              refine o_skip rfl ?_
              refine o_pickf rfl rfl rfl ?_
              refine o_pickf rfl rfl rfl ?_
              first | refine o_movd rfl rfl ?_ | refine o_movp rfl rfl ?_ | refine o_mova rfl rfl ?_ | refine o_mov rfl rfl ?_
              first | refine o_movd rfl rfl ?_ | refine o_movp rfl rfl ?_ | refine o_mova rfl rfl ?_ | refine o_mov rfl rfl ?_
              first | refine o_geqn rfl rfl rfl ?_ | refine o_bin rfl rfl rfl rfl ?_
              first | refine o_movd rfl rfl ?_ | refine o_movp rfl rfl ?_ | refine o_mova rfl rfl ?_ | refine o_mov rfl rfl ?_
              refine o_ifp rfl ?_ ?_ <;> intro hq_ hg_ <;> simp only [hg_] <;> clear hg_
              · first
                | exfalso; omega
                | skip
                  first | refine o_movd rfl rfl ?_ | refine o_movp rfl rfl ?_ | refine o_mova rfl rfl ?_ | refine o_mov rfl rfl ?_
                  first | refine o_leqn rfl rfl rfl ?_ | refine o_bin rfl rfl rfl rfl ?_
                  refine o_pickt rfl rfl rfl ?_
                  refine o_pickf rfl rfl rfl ?_
                  first | refine o_movd rfl rfl ?_ | refine o_movp rfl rfl ?_ | refine o_mova rfl rfl ?_ | refine o_mov rfl rfl ?_
                  refine o_ifp rfl ?_ ?_ <;> intro hq_ hg_ <;> simp only [hg_] <;> clear hg_
                  · first
                    | exfalso; omega
                    | skip
                      refine o_skip rfl ?_
                      refine o_skip rfl ?_
                      refine o_skip rfl ?_
                      refine o_skip rfl ?_
                      refine o_skip rfl ?_
                      refine o_skip rfl ?_
                      refine o_pickt rfl rfl rfl ?_
                      first | refine o_asgd rfl rfl ?_ | refine o_asgo rfl rfl ?_ | refine o_asg rfl rfl (fun _ h_ => by cases h_) ?_
                      refine op_nil ?_
                      refine wp_ret ?_
                      refine end1 rfl rfl rfl ?_ (by first | rfl | simp)
                      congr 3; rw [Bool.eq_iff_iff]; simp [isWordB]; omega
                  · first
                    | exfalso; omega
                    | skip
                      first | refine o_movd rfl rfl ?_ | refine o_movp rfl rfl ?_ | refine o_mova rfl rfl ?_ | refine o_mov rfl rfl ?_
                      first | refine o_geqn rfl rfl rfl ?_ | refine o_bin rfl rfl rfl rfl ?_
                      first | refine o_movd rfl rfl ?_ | refine o_movp rfl rfl ?_ | refine o_mova rfl rfl ?_ | refine o_mov rfl rfl ?_
                      refine o_ifp rfl ?_ ?_ <;> intro hq_ hg_ <;> simp only [hg_] <;> clear hg_
                      · first
                        | exfalso; omega
                        | skip
                          first | refine o_movd rfl rfl ?_ | refine o_movp rfl rfl ?_ | refine o_mova rfl rfl ?_ | refine o_mov rfl rfl ?_
                          first | refine o_leqn rfl rfl rfl ?_ | refine o_bin rfl rfl rfl rfl ?_
                          refine o_pickt rfl rfl rfl ?_
                          refine o_pickf rfl rfl rfl ?_
                          first | refine o_asgd rfl rfl ?_ | refine o_asgo rfl rfl ?_ | refine o_asg rfl rfl (fun _ h_ => by cases h_) ?_
                          refine op_nil ?_
                          refine wp_ret ?_
                          refine end1 rfl rfl rfl ?_ (by first | rfl | simp)
                          congr 3; rw [Bool.eq_iff_iff]; simp [isWordB]; omega
                      · first
                        | exfalso; omega
                        | skip
                          refine o_skip rfl ?_
                          refine o_skip rfl ?_
                          refine o_pickf rfl rfl rfl ?_
                          refine o_pickf rfl rfl rfl ?_
                          first | refine o_asgd rfl rfl ?_ | refine o_asgo rfl rfl ?_ | refine o_asg rfl rfl (fun _ h_ => by cases h_) ?_
                          refine op_nil ?_
                          refine wp_ret ?_
                          refine end1 rfl rfl rfl ?_ (by first | rfl | simp)
                          congr 3; rw [Bool.eq_iff_iff]; simp [isWordB]; omega
              · first
                | exfalso; omega
                | skip
                  refine o_skip rfl ?_
                  refine o_skip rfl ?_
                  refine o_pickf rfl rfl rfl ?_
                  refine o_pickf rfl rfl rfl ?_
                  first | refine o_movd rfl rfl ?_ | refine o_movp rfl rfl ?_ | refine o_mova rfl rfl ?_ | refine o_mov rfl rfl ?_
                  first | refine o_movd rfl rfl ?_ | refine o_movp rfl rfl ?_ | refine o_mova rfl rfl ?_ | refine o_mov rfl rfl ?_
                  first | refine o_geqn rfl rfl rfl ?_ | refine o_bin rfl rfl rfl rfl ?_
                  first | refine o_movd rfl rfl ?_ | refine o_movp rfl rfl ?_ | refine o_mova rfl rfl ?_ | refine o_mov rfl rfl ?_
                  refine o_ifp rfl ?_ ?_ <;> intro hq_ hg_ <;> simp only [hg_] <;> clear hg_
                  · first
                    | exfalso; omega
                    | skip
                      first | refine o_movd rfl rfl ?_ | refine o_movp rfl rfl ?_ | refine o_mova rfl rfl ?_ | refine o_mov rfl rfl ?_
                      first | refine o_leqn rfl rfl rfl ?_ | refine o_bin rfl rfl rfl rfl ?_
                      refine o_pickt rfl rfl rfl ?_
                      refine o_pickf rfl rfl rfl ?_
                      first | refine o_asgd rfl rfl ?_ | refine o_asgo rfl rfl ?_ | refine o_asg rfl rfl (fun _ h_ => by cases h_) ?_
                      refine op_nil ?_
                      refine wp_ret ?_
                      refine end1 rfl rfl rfl ?_ (by first | rfl | simp)
                      congr 3; rw [Bool.eq_iff_iff]; simp [isWordB]; omega
                  · first
                    | exfalso; omega
                    | skip
                      refine o_skip rfl ?_
                      refine o_skip rfl ?_
                      refine o_pickf rfl rfl rfl ?_
                      refine o_pickf rfl rfl rfl ?_
                      first | refine o_asgd rfl rfl ?_ | refine o_asgo rfl rfl ?_ | refine o_asg rfl rfl (fun _ h_ => by cases h_) ?_
                      refine op_nil ?_
                      refine wp_ret ?_
                      refine end1 rfl rfl rfl ?_ (by first | rfl | simp)
                      congr 3; rw [Bool.eq_iff_iff]; simp [isWordB]; omega

end Go.Ab.R04
