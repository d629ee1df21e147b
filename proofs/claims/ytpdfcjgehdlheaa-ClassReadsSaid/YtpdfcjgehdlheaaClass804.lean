/- The plain answers: sets of bytes, and what a text's sign is. -/
import Derived.Test.YtpdfcjgehdlheaaClass704
namespace Go.Ab.R04
set_option maxRecDepth 100000
set_option linter.all false
set_option maxHeartbeats 4000000
variable {T : Tb} [hT : Base T]

theorem add_bit (w j : Nat) (h : w / 2 ^ j % 2 = 0) : w + 2 ^ j = w ||| 2 ^ j := by
  have hl : w % 2 ^ (j + 1) = w % 2 ^ j := by rw [Nat.mod_pow_succ, h]; omega
  have hlt : w % 2 ^ j < 2 ^ j := Nat.mod_lt _ (Nat.two_pow_pos j)
  have hw : w = 2 ^ (j + 1) * (w / 2 ^ (j + 1)) + w % 2 ^ j := by rw [← hl]; exact (Nat.div_add_mod w (2 ^ (j + 1))).symm
  have hp : 2 ^ (j + 1) = 2 ^ j * 2 := Nat.pow_succ 2 j
  generalize w / 2 ^ (j + 1) = q at hw
  generalize w % 2 ^ j = l at *
  have e1 : 2 ^ (j + 1) * q + l = 2 ^ (j + 1) * q ||| l := Nat.two_pow_add_eq_or_of_lt (by omega) q
  have e2 : 2 ^ j * 1 + l = 2 ^ j * 1 ||| l := Nat.two_pow_add_eq_or_of_lt hlt 1
  have e3 : 2 ^ (j + 1) * q + (2 ^ j * 1 + l) = 2 ^ (j + 1) * q ||| (2 ^ j * 1 + l) := Nat.two_pow_add_eq_or_of_lt (by omega) q
  rw [Nat.mul_one] at e2 e3
  rw [hw, e1, Nat.or_assoc, Nat.or_comm l, ← e2, ← e3, ← e1]
  omega

theorem rHas_ev (n c : Nat) (hc : c < 256) (rf : Refs) : Ev T f_ref04_Has [cls n, u8 c] rf (.ret (bl (n.testBit c))) rf := by
  have hb : n.testBit c = decide (wd n (c / 64) / (1 * 2 ^ (c % 64)) % 2 = 1) := by
    rw [Nat.one_mul, wd_bit]; cases n.testBit c <;> rfl
  have hw : wd n (c / 64) < 2 ^ 64 := Nat.mod_lt _ (by omega)
  have h2 : 1 * 2 ^ (c % 64) ≤ 2 ^ 63 := by rw [Nat.one_mul]; exact Nat.pow_le_pow_right (by omega) (by omega)
  have h3 : 1 * 2 ^ (c % 64) ≠ 0 := by have := Nat.two_pow_pos (c % 64); omega
  rw [hb]
  refine ev_callB rfl rfl ?_
  repeat (first | (first
      | refine o_asgd rfl rfl ?_
      | refine o_asgo rfl rfl ?_
      | refine o_movd rfl rfl ?_
      | refine o_movp rfl rfl ?_
      | refine o_mova rfl rfl ?_
      | refine o_mov rfl rfl ?_
      | refine o_quon rfl rfl rfl (by (first | omega | (simp only [m64, mU, m8, n64, nU, n8, b64, bU, b8]; omega))) (by decide) (by (first | omega | (simp only [m64, mU, m8, n64, nU, n8, b64, bU, b8]; omega))) ?_
      | refine o_remn rfl rfl rfl (by (first | omega | (simp only [m64, mU, m8, n64, nU, n8, b64, bU, b8]; omega))) ?_
      | refine o_toInt rfl rfl (by (first | omega | (simp only [m64, mU, m8, n64, nU, n8, b64, bU, b8]; omega))) (by (first | omega | (simp only [m64, mU, m8, n64, nU, n8, b64, bU, b8]; omega))) ?_
      | refine o_shln rfl rfl rfl (by (first | omega | (simp only [m64, mU, m8, n64, nU, n8, b64, bU, b8]; omega))) (by decide) (by (first | omega | (simp only [m64, mU, m8, n64, nU, n8, b64, bU, b8]; omega))) ?_
      | refine o_eqln rfl rfl rfl ?_
      | refine o_eqs rfl rfl rfl ?_
      | refine op_nil ?_
      | refine o_bin rfl rfl rfl rfl ?_) | (first
      | refine wp_seq ?_
      | refine wp_ops ?_
      | refine wp_keep ?_
      | refine keepN (by (simp +decide only [Slots.keep, Slots.get, reduceIte]); exact rfl) ?_
      | refine wp_block ?_
      | refine wp_skip ?_
      | refine wp_ret ?_
      | refine wp_exit ?_
      | refine bx_ret ?_
      | refine bx_here ?_
      | refine bx_exit rfl ?_))
  refine o_box rfl rfl rfl rfl ?_
  repeat (first | (first
      | refine o_asgd rfl rfl ?_
      | refine o_asgo rfl rfl ?_
      | refine o_movd rfl rfl ?_
      | refine o_movp rfl rfl ?_
      | refine o_mova rfl rfl ?_
      | refine o_mov rfl rfl ?_
      | refine o_quon rfl rfl rfl (by (first | omega | (simp only [m64, mU, m8, n64, nU, n8, b64, bU, b8]; omega))) (by decide) (by (first | omega | (simp only [m64, mU, m8, n64, nU, n8, b64, bU, b8]; omega))) ?_
      | refine o_remn rfl rfl rfl (by (first | omega | (simp only [m64, mU, m8, n64, nU, n8, b64, bU, b8]; omega))) ?_
      | refine o_toInt rfl rfl (by (first | omega | (simp only [m64, mU, m8, n64, nU, n8, b64, bU, b8]; omega))) (by (first | omega | (simp only [m64, mU, m8, n64, nU, n8, b64, bU, b8]; omega))) ?_
      | refine o_shln rfl rfl rfl (by (first | omega | (simp only [m64, mU, m8, n64, nU, n8, b64, bU, b8]; omega))) (by decide) (by (first | omega | (simp only [m64, mU, m8, n64, nU, n8, b64, bU, b8]; omega))) ?_
      | refine o_eqln rfl rfl rfl ?_
      | refine o_eqs rfl rfl rfl ?_
      | refine op_nil ?_
      | refine o_bin rfl rfl rfl rfl ?_) | (first
      | refine wp_seq ?_
      | refine wp_ops ?_
      | refine wp_keep ?_
      | refine keepN (by (simp +decide only [Slots.keep, Slots.get, reduceIte]); exact rfl) ?_
      | refine wp_block ?_
      | refine wp_skip ?_
      | refine wp_ret ?_
      | refine wp_exit ?_
      | refine bx_ret ?_
      | refine bx_here ?_
      | refine bx_exit rfl ?_))
  refine o_idxA (j := c / 64) rfl rfl rfl rfl (by omega) ?_
  rw [show 0 + c / 64 * 1 = c / 64 by omega]
  refine o_load rfl rfl (get_last _ _) (clsC_get (by omega)) ?_
  refine o_movd rfl rfl ?_
  refine o_remn rfl rfl rfl (by omega) ?_
  refine o_toInt rfl rfl (by simp only [nU]; omega) (by simp only [mU]; omega) ?_
  refine o_shln (a := 1) rfl rfl rfl (by show _ ≤ 64; omega) (by decide) (by rw [mU]; omega) ?_
  refine o_quon rfl rfl rfl (by rw [mU]; omega) (by decide) h3 ?_
  refine o_remn rfl rfl rfl (by omega) ?_
  refine o_eqln rfl rfl rfl ?_
  repeat (first | (first
      | refine o_asgd rfl rfl ?_
      | refine o_asgo rfl rfl ?_
      | refine o_movd rfl rfl ?_
      | refine o_movp rfl rfl ?_
      | refine o_mova rfl rfl ?_
      | refine o_mov rfl rfl ?_
      | refine o_quon rfl rfl rfl (by (first | omega | (simp only [m64, mU, m8, n64, nU, n8, b64, bU, b8]; omega))) (by decide) (by (first | omega | (simp only [m64, mU, m8, n64, nU, n8, b64, bU, b8]; omega))) ?_
      | refine o_remn rfl rfl rfl (by (first | omega | (simp only [m64, mU, m8, n64, nU, n8, b64, bU, b8]; omega))) ?_
      | refine o_toInt rfl rfl (by (first | omega | (simp only [m64, mU, m8, n64, nU, n8, b64, bU, b8]; omega))) (by (first | omega | (simp only [m64, mU, m8, n64, nU, n8, b64, bU, b8]; omega))) ?_
      | refine o_shln rfl rfl rfl (by (first | omega | (simp only [m64, mU, m8, n64, nU, n8, b64, bU, b8]; omega))) (by decide) (by (first | omega | (simp only [m64, mU, m8, n64, nU, n8, b64, bU, b8]; omega))) ?_
      | refine o_eqln rfl rfl rfl ?_
      | refine o_eqs rfl rfl rfl ?_
      | refine op_nil ?_
      | refine o_bin rfl rfl rfl rfl ?_) | (first
      | refine wp_seq ?_
      | refine wp_ops ?_
      | refine wp_keep ?_
      | refine keepN (by (simp +decide only [Slots.keep, Slots.get, reduceIte]); exact rfl) ?_
      | refine wp_block ?_
      | refine wp_skip ?_
      | refine wp_ret ?_
      | refine wp_exit ?_
      | refine bx_ret ?_
      | refine bx_here ?_
      | refine bx_exit rfl ?_))
  refine end1 rfl rfl rfl ?_ (by first | rfl | simp)
  rfl

theorem with_ev (n c : Nat) (hc : c < 256) (rf : Refs) : Ev T f_ref04_with [cls n, u8 c] rf (.ret (cls (n ||| 2 ^ c))) rf := by
  have hw : wd n (c / 64) < 2 ^ 64 := Nat.mod_lt _ (by omega)
  have h2 : 1 * 2 ^ (c % 64) ≤ 2 ^ 63 := by rw [Nat.one_mul]; exact Nat.pow_le_pow_right (by omega) (by omega)
  have hH := fun rf => rHas_ev (T := T) n c hc rf
  have hset := clsC_set n c hc
  have hbit := wd_bit n c
  cases hx : n.testBit c
  · rw [hx] at hbit hH
    have hadd := add_bit (wd n (c / 64)) (c % 64) hbit
    rw [← Nat.one_mul (2 ^ (c % 64))] at hadd
    rw [← hadd] at hset
    have hlt : wd n (c / 64) + 1 * 2 ^ (c % 64) < 2 ^ 64 := by
      rw [hadd]; exact Nat.or_lt_two_pow hw (by omega)
    refine ev_callB rfl rfl ?_
    repeat (first | (first
      | refine o_movd rfl rfl ?_
      | refine o_movp rfl rfl ?_
      | refine o_mova rfl rfl ?_
      | refine o_mov rfl rfl ?_
      | refine o_quon rfl rfl rfl (by (first | omega | (simp only [m64, mU, m8, n64, nU, n8, b64, bU, b8]; omega))) (by decide) (by (first | omega | (simp only [m64, mU, m8, n64, nU, n8, b64, bU, b8]; omega))) ?_
      | refine o_asgd rfl rfl ?_
      | refine o_asgo rfl rfl ?_
      | refine o_not rfl rfl ?_
      | refine o_remn rfl rfl rfl (by (first | omega | (simp only [m64, mU, m8, n64, nU, n8, b64, bU, b8]; omega))) ?_
      | refine o_toInt rfl rfl (by (first | omega | (simp only [m64, mU, m8, n64, nU, n8, b64, bU, b8]; omega))) (by (first | omega | (simp only [m64, mU, m8, n64, nU, n8, b64, bU, b8]; omega))) ?_
      | refine o_shln rfl rfl rfl (by (first | omega | (simp only [m64, mU, m8, n64, nU, n8, b64, bU, b8]; omega))) (by decide) (by (first | omega | (simp only [m64, mU, m8, n64, nU, n8, b64, bU, b8]; omega))) ?_
      | refine o_addkn rfl rfl rfl (by decide) (by (first | omega | (simp only [m64, mU, m8, n64, nU, n8, b64, bU, b8]; omega))) ?_
      | refine o_cat rfl rfl rfl (by (first | omega | (simp only [m64, mU, m8, n64, nU, n8, b64, bU, b8]; omega))) ?_
      | refine o_add rfl rfl rfl (by omega) (by omega) ?_
      | refine op_nil ?_
      | refine o_bin rfl rfl rfl rfl ?_) | (first
      | refine wp_seq ?_
      | refine wp_ops ?_
      | refine wp_keep ?_
      | refine keepN (by (simp +decide only [Slots.keep, Slots.get, reduceIte]); exact rfl) ?_
      | refine wp_block ?_
      | refine wp_skip ?_
      | refine wp_ret ?_
      | refine wp_exit ?_
      | refine bx_ret ?_
      | refine bx_here ?_
      | refine bx_exit rfl ?_))
    refine o_box (cs := clsC n) rfl rfl rfl rfl ?_
    refine o_alloc rfl ?_
    repeat (first | (first
      | refine o_movd rfl rfl ?_
      | refine o_movp rfl rfl ?_
      | refine o_mova rfl rfl ?_
      | refine o_mov rfl rfl ?_
      | refine o_quon rfl rfl rfl (by (first | omega | (simp only [m64, mU, m8, n64, nU, n8, b64, bU, b8]; omega))) (by decide) (by (first | omega | (simp only [m64, mU, m8, n64, nU, n8, b64, bU, b8]; omega))) ?_
      | refine o_asgd rfl rfl ?_
      | refine o_asgo rfl rfl ?_
      | refine o_not rfl rfl ?_
      | refine o_remn rfl rfl rfl (by (first | omega | (simp only [m64, mU, m8, n64, nU, n8, b64, bU, b8]; omega))) ?_
      | refine o_toInt rfl rfl (by (first | omega | (simp only [m64, mU, m8, n64, nU, n8, b64, bU, b8]; omega))) (by (first | omega | (simp only [m64, mU, m8, n64, nU, n8, b64, bU, b8]; omega))) ?_
      | refine o_shln rfl rfl rfl (by (first | omega | (simp only [m64, mU, m8, n64, nU, n8, b64, bU, b8]; omega))) (by decide) (by (first | omega | (simp only [m64, mU, m8, n64, nU, n8, b64, bU, b8]; omega))) ?_
      | refine o_addkn rfl rfl rfl (by decide) (by (first | omega | (simp only [m64, mU, m8, n64, nU, n8, b64, bU, b8]; omega))) ?_
      | refine o_cat rfl rfl rfl (by (first | omega | (simp only [m64, mU, m8, n64, nU, n8, b64, bU, b8]; omega))) ?_
      | refine o_add rfl rfl rfl (by omega) (by omega) ?_
      | refine op_nil ?_
      | refine o_bin rfl rfl rfl rfl ?_) | (first
      | refine wp_seq ?_
      | refine wp_ops ?_
      | refine wp_keep ?_
      | refine keepN (by (simp +decide only [Slots.keep, Slots.get, reduceIte]); exact rfl) ?_
      | refine wp_block ?_
      | refine wp_skip ?_
      | refine wp_ret ?_
      | refine wp_exit ?_
      | refine bx_ret ?_
      | refine bx_here ?_
      | refine bx_exit rfl ?_))
    simp only [List.length_append, List.length_cons, List.length_nil, List.append_assoc, List.cons_append, List.nil_append, Nat.zero_add, Nat.add_assoc, Nat.reduceAdd]
    refine o_lcls (k := n) rfl rfl (rfget0 _ _ _) ?_
    refine o_movd rfl rfl ?_
    refine o_call rfl rfl rfl (hH _) ?_
    repeat (first | (first
      | refine o_movd rfl rfl ?_
      | refine o_movp rfl rfl ?_
      | refine o_mova rfl rfl ?_
      | refine o_mov rfl rfl ?_
      | refine o_quon rfl rfl rfl (by (first | omega | (simp only [m64, mU, m8, n64, nU, n8, b64, bU, b8]; omega))) (by decide) (by (first | omega | (simp only [m64, mU, m8, n64, nU, n8, b64, bU, b8]; omega))) ?_
      | refine o_asgd rfl rfl ?_
      | refine o_asgo rfl rfl ?_
      | refine o_not rfl rfl ?_
      | refine o_remn rfl rfl rfl (by (first | omega | (simp only [m64, mU, m8, n64, nU, n8, b64, bU, b8]; omega))) ?_
      | refine o_toInt rfl rfl (by (first | omega | (simp only [m64, mU, m8, n64, nU, n8, b64, bU, b8]; omega))) (by (first | omega | (simp only [m64, mU, m8, n64, nU, n8, b64, bU, b8]; omega))) ?_
      | refine o_shln rfl rfl rfl (by (first | omega | (simp only [m64, mU, m8, n64, nU, n8, b64, bU, b8]; omega))) (by decide) (by (first | omega | (simp only [m64, mU, m8, n64, nU, n8, b64, bU, b8]; omega))) ?_
      | refine o_addkn rfl rfl rfl (by decide) (by (first | omega | (simp only [m64, mU, m8, n64, nU, n8, b64, bU, b8]; omega))) ?_
      | refine o_cat rfl rfl rfl (by (first | omega | (simp only [m64, mU, m8, n64, nU, n8, b64, bU, b8]; omega))) ?_
      | refine o_add rfl rfl rfl (by omega) (by omega) ?_
      | refine op_nil ?_
      | refine o_bin rfl rfl rfl rfl ?_) | (first
      | refine wp_seq ?_
      | refine wp_ops ?_
      | refine wp_keep ?_
      | refine keepN (by (simp +decide only [Slots.keep, Slots.get, reduceIte]); exact rfl) ?_
      | refine wp_block ?_
      | refine wp_skip ?_
      | refine wp_ret ?_
      | refine wp_exit ?_
      | refine bx_ret ?_
      | refine bx_here ?_
      | refine bx_exit rfl ?_))
    refine wp_cond (b := true) rfl (fun _ => ?_) (fun h => absurd h (by decide))
    repeat (first | (first
      | refine o_movd rfl rfl ?_
      | refine o_movp rfl rfl ?_
      | refine o_mova rfl rfl ?_
      | refine o_mov rfl rfl ?_
      | refine o_quon rfl rfl rfl (by (first | omega | (simp only [m64, mU, m8, n64, nU, n8, b64, bU, b8]; omega))) (by decide) (by (first | omega | (simp only [m64, mU, m8, n64, nU, n8, b64, bU, b8]; omega))) ?_
      | refine o_asgd rfl rfl ?_
      | refine o_asgo rfl rfl ?_
      | refine o_not rfl rfl ?_
      | refine o_remn rfl rfl rfl (by (first | omega | (simp only [m64, mU, m8, n64, nU, n8, b64, bU, b8]; omega))) ?_
      | refine o_toInt rfl rfl (by (first | omega | (simp only [m64, mU, m8, n64, nU, n8, b64, bU, b8]; omega))) (by (first | omega | (simp only [m64, mU, m8, n64, nU, n8, b64, bU, b8]; omega))) ?_
      | refine o_shln rfl rfl rfl (by (first | omega | (simp only [m64, mU, m8, n64, nU, n8, b64, bU, b8]; omega))) (by decide) (by (first | omega | (simp only [m64, mU, m8, n64, nU, n8, b64, bU, b8]; omega))) ?_
      | refine o_addkn rfl rfl rfl (by decide) (by (first | omega | (simp only [m64, mU, m8, n64, nU, n8, b64, bU, b8]; omega))) ?_
      | refine o_cat rfl rfl rfl (by (first | omega | (simp only [m64, mU, m8, n64, nU, n8, b64, bU, b8]; omega))) ?_
      | refine o_add rfl rfl rfl (by omega) (by omega) ?_
      | refine op_nil ?_
      | refine o_bin rfl rfl rfl rfl ?_) | (first
      | refine wp_seq ?_
      | refine wp_ops ?_
      | refine wp_keep ?_
      | refine keepN (by (simp +decide only [Slots.keep, Slots.get, reduceIte]); exact rfl) ?_
      | refine wp_block ?_
      | refine wp_skip ?_
      | refine wp_ret ?_
      | refine wp_exit ?_
      | refine bx_ret ?_
      | refine bx_here ?_
      | refine bx_exit rfl ?_))
    refine o_idxA (j := c / 64) rfl rfl rfl rfl (by omega) ?_
    rw [show 0 + c / 64 * 1 = c / 64 by omega]
    refine o_load rfl rfl (rfget0 _ _ _) (clsC_get (by omega)) ?_
    refine o_movd rfl rfl ?_
    refine o_remn rfl rfl rfl (by omega) ?_
    refine o_toInt rfl rfl (by simp only [nU]; omega) (by simp only [mU]; omega) ?_
    refine o_shln (a := 1) rfl rfl rfl (by show _ ≤ 64; omega) (by decide) (by rw [mU]; omega) ?_
    refine o_addkn rfl rfl rfl (by decide) (by rw [mU]; omega) ?_
    refine o_idxA (j := c / 64) rfl rfl rfl rfl (by omega) ?_
    rw [show 0 + c / 64 * 1 = c / 64 by omega]
    refine o_store1 rfl rfl rfl (rfget0 _ _ _) (by show _ < 4; omega) hset (rfset0 _ _ _ _) ?_
    repeat (first | (first
      | refine o_movd rfl rfl ?_
      | refine o_movp rfl rfl ?_
      | refine o_mova rfl rfl ?_
      | refine o_mov rfl rfl ?_
      | refine o_quon rfl rfl rfl (by (first | omega | (simp only [m64, mU, m8, n64, nU, n8, b64, bU, b8]; omega))) (by decide) (by (first | omega | (simp only [m64, mU, m8, n64, nU, n8, b64, bU, b8]; omega))) ?_
      | refine o_asgd rfl rfl ?_
      | refine o_asgo rfl rfl ?_
      | refine o_not rfl rfl ?_
      | refine o_remn rfl rfl rfl (by (first | omega | (simp only [m64, mU, m8, n64, nU, n8, b64, bU, b8]; omega))) ?_
      | refine o_toInt rfl rfl (by (first | omega | (simp only [m64, mU, m8, n64, nU, n8, b64, bU, b8]; omega))) (by (first | omega | (simp only [m64, mU, m8, n64, nU, n8, b64, bU, b8]; omega))) ?_
      | refine o_shln rfl rfl rfl (by (first | omega | (simp only [m64, mU, m8, n64, nU, n8, b64, bU, b8]; omega))) (by decide) (by (first | omega | (simp only [m64, mU, m8, n64, nU, n8, b64, bU, b8]; omega))) ?_
      | refine o_addkn rfl rfl rfl (by decide) (by (first | omega | (simp only [m64, mU, m8, n64, nU, n8, b64, bU, b8]; omega))) ?_
      | refine o_cat rfl rfl rfl (by (first | omega | (simp only [m64, mU, m8, n64, nU, n8, b64, bU, b8]; omega))) ?_
      | refine o_add rfl rfl rfl (by omega) (by omega) ?_
      | refine op_nil ?_
      | refine o_bin rfl rfl rfl rfl ?_) | (first
      | refine wp_seq ?_
      | refine wp_ops ?_
      | refine wp_keep ?_
      | refine keepN (by (simp +decide only [Slots.keep, Slots.get, reduceIte]); exact rfl) ?_
      | refine wp_block ?_
      | refine wp_skip ?_
      | refine wp_ret ?_
      | refine wp_exit ?_
      | refine bx_ret ?_
      | refine bx_here ?_
      | refine bx_exit rfl ?_))
    refine o_lcls rfl rfl (rfget0 _ _ _) ?_
    refine o_scls rfl rfl rfl (rfget1 _ _ _ _) rfl (rfset1 _ _ _ _ _) ?_
    repeat (first | (first
      | refine o_movd rfl rfl ?_
      | refine o_movp rfl rfl ?_
      | refine o_mova rfl rfl ?_
      | refine o_mov rfl rfl ?_
      | refine o_quon rfl rfl rfl (by (first | omega | (simp only [m64, mU, m8, n64, nU, n8, b64, bU, b8]; omega))) (by decide) (by (first | omega | (simp only [m64, mU, m8, n64, nU, n8, b64, bU, b8]; omega))) ?_
      | refine o_asgd rfl rfl ?_
      | refine o_asgo rfl rfl ?_
      | refine o_not rfl rfl ?_
      | refine o_remn rfl rfl rfl (by (first | omega | (simp only [m64, mU, m8, n64, nU, n8, b64, bU, b8]; omega))) ?_
      | refine o_toInt rfl rfl (by (first | omega | (simp only [m64, mU, m8, n64, nU, n8, b64, bU, b8]; omega))) (by (first | omega | (simp only [m64, mU, m8, n64, nU, n8, b64, bU, b8]; omega))) ?_
      | refine o_shln rfl rfl rfl (by (first | omega | (simp only [m64, mU, m8, n64, nU, n8, b64, bU, b8]; omega))) (by decide) (by (first | omega | (simp only [m64, mU, m8, n64, nU, n8, b64, bU, b8]; omega))) ?_
      | refine o_addkn rfl rfl rfl (by decide) (by (first | omega | (simp only [m64, mU, m8, n64, nU, n8, b64, bU, b8]; omega))) ?_
      | refine o_cat rfl rfl rfl (by (first | omega | (simp only [m64, mU, m8, n64, nU, n8, b64, bU, b8]; omega))) ?_
      | refine o_add rfl rfl rfl (by omega) (by omega) ?_
      | refine op_nil ?_
      | refine o_bin rfl rfl rfl rfl ?_) | (first
      | refine wp_seq ?_
      | refine wp_ops ?_
      | refine wp_keep ?_
      | refine keepN (by (simp +decide only [Slots.keep, Slots.get, reduceIte]); exact rfl) ?_
      | refine wp_block ?_
      | refine wp_skip ?_
      | refine wp_ret ?_
      | refine wp_exit ?_
      | refine bx_ret ?_
      | refine bx_here ?_
      | refine bx_exit rfl ?_))
    refine end_cls rfl rfl rfl (rfget1 _ _ _ _) (by simp)
  · rw [hx] at hH
    have hsame : n ||| 2 ^ c = n := by
      apply Nat.eq_of_testBit_eq
      intro i
      rw [Nat.testBit_or, Nat.testBit_two_pow]
      by_cases h : c = i
      · subst h; simp [hx]
      · simp [h]
    rw [hsame]
    clear hset
    refine ev_callB rfl rfl ?_
    repeat (first | (first
      | refine o_movd rfl rfl ?_
      | refine o_movp rfl rfl ?_
      | refine o_mova rfl rfl ?_
      | refine o_mov rfl rfl ?_
      | refine o_quon rfl rfl rfl (by (first | omega | (simp only [m64, mU, m8, n64, nU, n8, b64, bU, b8]; omega))) (by decide) (by (first | omega | (simp only [m64, mU, m8, n64, nU, n8, b64, bU, b8]; omega))) ?_
      | refine o_asgd rfl rfl ?_
      | refine o_asgo rfl rfl ?_
      | refine o_not rfl rfl ?_
      | refine o_remn rfl rfl rfl (by (first | omega | (simp only [m64, mU, m8, n64, nU, n8, b64, bU, b8]; omega))) ?_
      | refine o_toInt rfl rfl (by (first | omega | (simp only [m64, mU, m8, n64, nU, n8, b64, bU, b8]; omega))) (by (first | omega | (simp only [m64, mU, m8, n64, nU, n8, b64, bU, b8]; omega))) ?_
      | refine o_shln rfl rfl rfl (by (first | omega | (simp only [m64, mU, m8, n64, nU, n8, b64, bU, b8]; omega))) (by decide) (by (first | omega | (simp only [m64, mU, m8, n64, nU, n8, b64, bU, b8]; omega))) ?_
      | refine o_addkn rfl rfl rfl (by decide) (by (first | omega | (simp only [m64, mU, m8, n64, nU, n8, b64, bU, b8]; omega))) ?_
      | refine o_cat rfl rfl rfl (by (first | omega | (simp only [m64, mU, m8, n64, nU, n8, b64, bU, b8]; omega))) ?_
      | refine o_add rfl rfl rfl (by omega) (by omega) ?_
      | refine op_nil ?_
      | refine o_bin rfl rfl rfl rfl ?_) | (first
      | refine wp_seq ?_
      | refine wp_ops ?_
      | refine wp_keep ?_
      | refine keepN (by (simp +decide only [Slots.keep, Slots.get, reduceIte]); exact rfl) ?_
      | refine wp_block ?_
      | refine wp_skip ?_
      | refine wp_ret ?_
      | refine wp_exit ?_
      | refine bx_ret ?_
      | refine bx_here ?_
      | refine bx_exit rfl ?_))
    refine o_box (cs := clsC n) rfl rfl rfl rfl ?_
    refine o_alloc rfl ?_
    repeat (first | (first
      | refine o_movd rfl rfl ?_
      | refine o_movp rfl rfl ?_
      | refine o_mova rfl rfl ?_
      | refine o_mov rfl rfl ?_
      | refine o_quon rfl rfl rfl (by (first | omega | (simp only [m64, mU, m8, n64, nU, n8, b64, bU, b8]; omega))) (by decide) (by (first | omega | (simp only [m64, mU, m8, n64, nU, n8, b64, bU, b8]; omega))) ?_
      | refine o_asgd rfl rfl ?_
      | refine o_asgo rfl rfl ?_
      | refine o_not rfl rfl ?_
      | refine o_remn rfl rfl rfl (by (first | omega | (simp only [m64, mU, m8, n64, nU, n8, b64, bU, b8]; omega))) ?_
      | refine o_toInt rfl rfl (by (first | omega | (simp only [m64, mU, m8, n64, nU, n8, b64, bU, b8]; omega))) (by (first | omega | (simp only [m64, mU, m8, n64, nU, n8, b64, bU, b8]; omega))) ?_
      | refine o_shln rfl rfl rfl (by (first | omega | (simp only [m64, mU, m8, n64, nU, n8, b64, bU, b8]; omega))) (by decide) (by (first | omega | (simp only [m64, mU, m8, n64, nU, n8, b64, bU, b8]; omega))) ?_
      | refine o_addkn rfl rfl rfl (by decide) (by (first | omega | (simp only [m64, mU, m8, n64, nU, n8, b64, bU, b8]; omega))) ?_
      | refine o_cat rfl rfl rfl (by (first | omega | (simp only [m64, mU, m8, n64, nU, n8, b64, bU, b8]; omega))) ?_
      | refine o_add rfl rfl rfl (by omega) (by omega) ?_
      | refine op_nil ?_
      | refine o_bin rfl rfl rfl rfl ?_) | (first
      | refine wp_seq ?_
      | refine wp_ops ?_
      | refine wp_keep ?_
      | refine keepN (by (simp +decide only [Slots.keep, Slots.get, reduceIte]); exact rfl) ?_
      | refine wp_block ?_
      | refine wp_skip ?_
      | refine wp_ret ?_
      | refine wp_exit ?_
      | refine bx_ret ?_
      | refine bx_here ?_
      | refine bx_exit rfl ?_))
    simp only [List.length_append, List.length_cons, List.length_nil, List.append_assoc, List.cons_append, List.nil_append, Nat.zero_add, Nat.add_assoc, Nat.reduceAdd]
    refine o_lcls (k := n) rfl rfl (rfget0 _ _ _) ?_
    refine o_movd rfl rfl ?_
    refine o_call rfl rfl rfl (hH _) ?_
    repeat (first | (first
      | refine o_movd rfl rfl ?_
      | refine o_movp rfl rfl ?_
      | refine o_mova rfl rfl ?_
      | refine o_mov rfl rfl ?_
      | refine o_quon rfl rfl rfl (by (first | omega | (simp only [m64, mU, m8, n64, nU, n8, b64, bU, b8]; omega))) (by decide) (by (first | omega | (simp only [m64, mU, m8, n64, nU, n8, b64, bU, b8]; omega))) ?_
      | refine o_asgd rfl rfl ?_
      | refine o_asgo rfl rfl ?_
      | refine o_not rfl rfl ?_
      | refine o_remn rfl rfl rfl (by (first | omega | (simp only [m64, mU, m8, n64, nU, n8, b64, bU, b8]; omega))) ?_
      | refine o_toInt rfl rfl (by (first | omega | (simp only [m64, mU, m8, n64, nU, n8, b64, bU, b8]; omega))) (by (first | omega | (simp only [m64, mU, m8, n64, nU, n8, b64, bU, b8]; omega))) ?_
      | refine o_shln rfl rfl rfl (by (first | omega | (simp only [m64, mU, m8, n64, nU, n8, b64, bU, b8]; omega))) (by decide) (by (first | omega | (simp only [m64, mU, m8, n64, nU, n8, b64, bU, b8]; omega))) ?_
      | refine o_addkn rfl rfl rfl (by decide) (by (first | omega | (simp only [m64, mU, m8, n64, nU, n8, b64, bU, b8]; omega))) ?_
      | refine o_cat rfl rfl rfl (by (first | omega | (simp only [m64, mU, m8, n64, nU, n8, b64, bU, b8]; omega))) ?_
      | refine o_add rfl rfl rfl (by omega) (by omega) ?_
      | refine op_nil ?_
      | refine o_bin rfl rfl rfl rfl ?_) | (first
      | refine wp_seq ?_
      | refine wp_ops ?_
      | refine wp_keep ?_
      | refine keepN (by (simp +decide only [Slots.keep, Slots.get, reduceIte]); exact rfl) ?_
      | refine wp_block ?_
      | refine wp_skip ?_
      | refine wp_ret ?_
      | refine wp_exit ?_
      | refine bx_ret ?_
      | refine bx_here ?_
      | refine bx_exit rfl ?_))
    refine wp_cond (b := false) rfl (fun h => absurd h (by decide)) (fun _ => ?_)
    repeat (first | (first
      | refine o_movd rfl rfl ?_
      | refine o_movp rfl rfl ?_
      | refine o_mova rfl rfl ?_
      | refine o_mov rfl rfl ?_
      | refine o_quon rfl rfl rfl (by (first | omega | (simp only [m64, mU, m8, n64, nU, n8, b64, bU, b8]; omega))) (by decide) (by (first | omega | (simp only [m64, mU, m8, n64, nU, n8, b64, bU, b8]; omega))) ?_
      | refine o_asgd rfl rfl ?_
      | refine o_asgo rfl rfl ?_
      | refine o_not rfl rfl ?_
      | refine o_remn rfl rfl rfl (by (first | omega | (simp only [m64, mU, m8, n64, nU, n8, b64, bU, b8]; omega))) ?_
      | refine o_toInt rfl rfl (by (first | omega | (simp only [m64, mU, m8, n64, nU, n8, b64, bU, b8]; omega))) (by (first | omega | (simp only [m64, mU, m8, n64, nU, n8, b64, bU, b8]; omega))) ?_
      | refine o_shln rfl rfl rfl (by (first | omega | (simp only [m64, mU, m8, n64, nU, n8, b64, bU, b8]; omega))) (by decide) (by (first | omega | (simp only [m64, mU, m8, n64, nU, n8, b64, bU, b8]; omega))) ?_
      | refine o_addkn rfl rfl rfl (by decide) (by (first | omega | (simp only [m64, mU, m8, n64, nU, n8, b64, bU, b8]; omega))) ?_
      | refine o_cat rfl rfl rfl (by (first | omega | (simp only [m64, mU, m8, n64, nU, n8, b64, bU, b8]; omega))) ?_
      | refine o_add rfl rfl rfl (by omega) (by omega) ?_
      | refine op_nil ?_
      | refine o_bin rfl rfl rfl rfl ?_) | (first
      | refine wp_seq ?_
      | refine wp_ops ?_
      | refine wp_keep ?_
      | refine keepN (by (simp +decide only [Slots.keep, Slots.get, reduceIte]); exact rfl) ?_
      | refine wp_block ?_
      | refine wp_skip ?_
      | refine wp_ret ?_
      | refine wp_exit ?_
      | refine bx_ret ?_
      | refine bx_here ?_
      | refine bx_exit rfl ?_))
    refine o_lcls rfl rfl (rfget0 _ _ _) ?_
    refine o_scls rfl rfl rfl (rfget1 _ _ _ _) rfl (rfset1 _ _ _ _ _) ?_
    repeat (first | (first
      | refine o_movd rfl rfl ?_
      | refine o_movp rfl rfl ?_
      | refine o_mova rfl rfl ?_
      | refine o_mov rfl rfl ?_
      | refine o_quon rfl rfl rfl (by (first | omega | (simp only [m64, mU, m8, n64, nU, n8, b64, bU, b8]; omega))) (by decide) (by (first | omega | (simp only [m64, mU, m8, n64, nU, n8, b64, bU, b8]; omega))) ?_
      | refine o_asgd rfl rfl ?_
      | refine o_asgo rfl rfl ?_
      | refine o_not rfl rfl ?_
      | refine o_remn rfl rfl rfl (by (first | omega | (simp only [m64, mU, m8, n64, nU, n8, b64, bU, b8]; omega))) ?_
      | refine o_toInt rfl rfl (by (first | omega | (simp only [m64, mU, m8, n64, nU, n8, b64, bU, b8]; omega))) (by (first | omega | (simp only [m64, mU, m8, n64, nU, n8, b64, bU, b8]; omega))) ?_
      | refine o_shln rfl rfl rfl (by (first | omega | (simp only [m64, mU, m8, n64, nU, n8, b64, bU, b8]; omega))) (by decide) (by (first | omega | (simp only [m64, mU, m8, n64, nU, n8, b64, bU, b8]; omega))) ?_
      | refine o_addkn rfl rfl rfl (by decide) (by (first | omega | (simp only [m64, mU, m8, n64, nU, n8, b64, bU, b8]; omega))) ?_
      | refine o_cat rfl rfl rfl (by (first | omega | (simp only [m64, mU, m8, n64, nU, n8, b64, bU, b8]; omega))) ?_
      | refine o_add rfl rfl rfl (by omega) (by omega) ?_
      | refine op_nil ?_
      | refine o_bin rfl rfl rfl rfl ?_) | (first
      | refine wp_seq ?_
      | refine wp_ops ?_
      | refine wp_keep ?_
      | refine keepN (by (simp +decide only [Slots.keep, Slots.get, reduceIte]); exact rfl) ?_
      | refine wp_block ?_
      | refine wp_skip ?_
      | refine wp_ret ?_
      | refine wp_exit ?_
      | refine bx_ret ?_
      | refine bx_here ?_
      | refine bx_exit rfl ?_))
    refine end_cls rfl rfl rfl (rfget1 _ _ _ _) (by simp)

theorem rSpan_ev (a b : Nat) (ha : a < 256) (hb : b < 256) (rf : Refs) : Ev T f_ref04_Span [u8 a, u8 b] rf (.ret (cls (spanN a (b + 1 - a)))) rf := by
  refine ev_callB rfl rfl ?_
  repeat (first | (first
      | refine o_movd rfl rfl ?_
      | refine o_movp rfl rfl ?_
      | refine o_mova rfl rfl ?_
      | refine o_mov rfl rfl ?_
      | refine o_toInt rfl rfl (by (first | omega | (simp only [m64, mU, m8, n64, nU, n8, b64, bU, b8]; omega))) (by (first | omega | (simp only [m64, mU, m8, n64, nU, n8, b64, bU, b8]; omega))) ?_
      | refine o_asgd rfl rfl ?_
      | refine o_asgo rfl rfl ?_
      | refine o_leqn rfl rfl rfl ?_
      | refine o_addkn rfl rfl rfl (by decide) (by (first | omega | (simp only [m64, mU, m8, n64, nU, n8, b64, bU, b8]; omega))) ?_
      | refine o_cat rfl rfl rfl (by (first | omega | (simp only [m64, mU, m8, n64, nU, n8, b64, bU, b8]; omega))) ?_
      | refine o_add rfl rfl rfl (by omega) (by omega) ?_
      | refine op_nil ?_
      | refine o_bin rfl rfl rfl rfl ?_) | (first
      | refine wp_seq ?_
      | refine wp_ops ?_
      | refine wp_keep ?_
      | refine keepN (by (simp +decide only [Slots.keep, Slots.get, reduceIte]); exact rfl) ?_
      | refine wp_block ?_
      | refine wp_skip ?_
      | refine wp_ret ?_
      | refine wp_exit ?_
      | refine bx_ret ?_
      | refine bx_here ?_
      | refine bx_exit rfl ?_))
  refine o_alloc rfl ?_
  repeat (first | (first
      | refine o_movd rfl rfl ?_
      | refine o_movp rfl rfl ?_
      | refine o_mova rfl rfl ?_
      | refine o_mov rfl rfl ?_
      | refine o_toInt rfl rfl (by (first | omega | (simp only [m64, mU, m8, n64, nU, n8, b64, bU, b8]; omega))) (by (first | omega | (simp only [m64, mU, m8, n64, nU, n8, b64, bU, b8]; omega))) ?_
      | refine o_asgd rfl rfl ?_
      | refine o_asgo rfl rfl ?_
      | refine o_leqn rfl rfl rfl ?_
      | refine o_addkn rfl rfl rfl (by decide) (by (first | omega | (simp only [m64, mU, m8, n64, nU, n8, b64, bU, b8]; omega))) ?_
      | refine o_cat rfl rfl rfl (by (first | omega | (simp only [m64, mU, m8, n64, nU, n8, b64, bU, b8]; omega))) ?_
      | refine o_add rfl rfl rfl (by omega) (by omega) ?_
      | refine op_nil ?_
      | refine o_bin rfl rfl rfl rfl ?_) | (first
      | refine wp_seq ?_
      | refine wp_ops ?_
      | refine wp_keep ?_
      | refine keepN (by (simp +decide only [Slots.keep, Slots.get, reduceIte]); exact rfl) ?_
      | refine wp_block ?_
      | refine wp_skip ?_
      | refine wp_ret ?_
      | refine wp_exit ?_
      | refine bx_ret ?_
      | refine bx_here ?_
      | refine bx_exit rfl ?_))
  refine o_build (cs := clsC 0) rfl rfl ?_
  refine o_alloc rfl ?_
  simp only [List.length_append, List.length_cons, List.length_nil, List.append_assoc, List.cons_append, List.nil_append, Nat.zero_add, Nat.add_assoc, Nat.reduceAdd]
  refine o_scls (k := 0) rfl rfl rfl (rfget1 _ _ _ _) rfl (rfset1 _ _ _ _ _) ?_
  repeat (first | (first
      | refine o_movd rfl rfl ?_
      | refine o_movp rfl rfl ?_
      | refine o_mova rfl rfl ?_
      | refine o_mov rfl rfl ?_
      | refine o_toInt rfl rfl (by (first | omega | (simp only [m64, mU, m8, n64, nU, n8, b64, bU, b8]; omega))) (by (first | omega | (simp only [m64, mU, m8, n64, nU, n8, b64, bU, b8]; omega))) ?_
      | refine o_asgd rfl rfl ?_
      | refine o_asgo rfl rfl ?_
      | refine o_leqn rfl rfl rfl ?_
      | refine o_addkn rfl rfl rfl (by decide) (by (first | omega | (simp only [m64, mU, m8, n64, nU, n8, b64, bU, b8]; omega))) ?_
      | refine o_cat rfl rfl rfl (by (first | omega | (simp only [m64, mU, m8, n64, nU, n8, b64, bU, b8]; omega))) ?_
      | refine o_add rfl rfl rfl (by omega) (by omega) ?_
      | refine op_nil ?_
      | refine o_bin rfl rfl rfl rfl ?_) | (first
      | refine wp_seq ?_
      | refine wp_ops ?_
      | refine wp_keep ?_
      | refine keepN (by (simp +decide only [Slots.keep, Slots.get, reduceIte]); exact rfl) ?_
      | refine wp_block ?_
      | refine wp_skip ?_
      | refine wp_ret ?_
      | refine wp_exit ?_
      | refine bx_ret ?_
      | refine bx_here ?_
      | refine bx_exit rfl ?_))
  refine wp_loop (m := b + 1 - a) (fun k st => ∃ i : Nat, i + k = b + 1 - a ∧ st = ⟨[(1, u8 b), (4, .ptr rf.length 0), (5, .ptr (rf.length + 1) 0), (6, i64 (a + i : Nat))], rf ++ [z4, clsC (spanN a i)], [], none, rf.length⟩) ⟨0, by omega, rfl⟩ ?_
  rintro k st ⟨i, hik, rfl⟩ -
  repeat (first | (first
      | refine o_movd rfl rfl ?_
      | refine o_movp rfl rfl ?_
      | refine o_mova rfl rfl ?_
      | refine o_mov rfl rfl ?_
      | refine o_toInt rfl rfl (by (first | omega | (simp only [m64, mU, m8, n64, nU, n8, b64, bU, b8]; omega))) (by (first | omega | (simp only [m64, mU, m8, n64, nU, n8, b64, bU, b8]; omega))) ?_
      | refine o_asgd rfl rfl ?_
      | refine o_asgo rfl rfl ?_
      | refine o_leqn rfl rfl rfl ?_
      | refine o_addkn rfl rfl rfl (by decide) (by (first | omega | (simp only [m64, mU, m8, n64, nU, n8, b64, bU, b8]; omega))) ?_
      | refine o_cat rfl rfl rfl (by (first | omega | (simp only [m64, mU, m8, n64, nU, n8, b64, bU, b8]; omega))) ?_
      | refine o_add rfl rfl rfl (by omega) (by omega) ?_
      | refine op_nil ?_
      | refine o_bin rfl rfl rfl rfl ?_) | (first
      | refine wp_seq ?_
      | refine wp_ops ?_
      | refine wp_keep ?_
      | refine keepN (by (simp +decide only [Slots.keep, Slots.get, reduceIte]); exact rfl) ?_
      | refine wp_block ?_
      | refine wp_skip ?_
      | refine wp_ret ?_
      | refine wp_exit ?_
      | refine bx_ret ?_
      | refine bx_here ?_
      | refine bx_exit rfl ?_))
  refine wp_if rfl ?_ ?_ <;> intro hi
  · have hc : a + i < 256 := by omega
    repeat (first | (first
      | refine o_movd rfl rfl ?_
      | refine o_movp rfl rfl ?_
      | refine o_mova rfl rfl ?_
      | refine o_mov rfl rfl ?_
      | refine o_toInt rfl rfl (by (first | omega | (simp only [m64, mU, m8, n64, nU, n8, b64, bU, b8]; omega))) (by (first | omega | (simp only [m64, mU, m8, n64, nU, n8, b64, bU, b8]; omega))) ?_
      | refine o_asgd rfl rfl ?_
      | refine o_asgo rfl rfl ?_
      | refine o_leqn rfl rfl rfl ?_
      | refine o_addkn rfl rfl rfl (by decide) (by (first | omega | (simp only [m64, mU, m8, n64, nU, n8, b64, bU, b8]; omega))) ?_
      | refine o_cat rfl rfl rfl (by (first | omega | (simp only [m64, mU, m8, n64, nU, n8, b64, bU, b8]; omega))) ?_
      | refine o_add rfl rfl rfl (by omega) (by omega) ?_
      | refine op_nil ?_
      | refine o_bin rfl rfl rfl rfl ?_) | (first
      | refine wp_seq ?_
      | refine wp_ops ?_
      | refine wp_keep ?_
      | refine keepN (by (simp +decide only [Slots.keep, Slots.get, reduceIte]); exact rfl) ?_
      | refine wp_block ?_
      | refine wp_skip ?_
      | refine wp_ret ?_
      | refine wp_exit ?_
      | refine bx_ret ?_
      | refine bx_here ?_
      | refine bx_exit rfl ?_))
    refine o_lcls rfl rfl (rfget1 _ _ _ _) ?_
    repeat (first | (first
      | refine o_movd rfl rfl ?_
      | refine o_movp rfl rfl ?_
      | refine o_mova rfl rfl ?_
      | refine o_mov rfl rfl ?_
      | refine o_toInt rfl rfl (by (first | omega | (simp only [m64, mU, m8, n64, nU, n8, b64, bU, b8]; omega))) (by (first | omega | (simp only [m64, mU, m8, n64, nU, n8, b64, bU, b8]; omega))) ?_
      | refine o_asgd rfl rfl ?_
      | refine o_asgo rfl rfl ?_
      | refine o_leqn rfl rfl rfl ?_
      | refine o_addkn rfl rfl rfl (by decide) (by (first | omega | (simp only [m64, mU, m8, n64, nU, n8, b64, bU, b8]; omega))) ?_
      | refine o_cat rfl rfl rfl (by (first | omega | (simp only [m64, mU, m8, n64, nU, n8, b64, bU, b8]; omega))) ?_
      | refine o_add rfl rfl rfl (by omega) (by omega) ?_
      | refine op_nil ?_
      | refine o_bin rfl rfl rfl rfl ?_) | (first
      | refine wp_seq ?_
      | refine wp_ops ?_
      | refine wp_keep ?_
      | refine keepN (by (simp +decide only [Slots.keep, Slots.get, reduceIte]); exact rfl) ?_
      | refine wp_block ?_
      | refine wp_skip ?_
      | refine wp_ret ?_
      | refine wp_exit ?_
      | refine bx_ret ?_
      | refine bx_here ?_
      | refine bx_exit rfl ?_))
    refine o_call rfl rfl rfl (with_ev _ _ hc _) ?_
    refine o_scls rfl rfl rfl (rfget1 _ _ _ _) rfl (rfset1 _ _ _ _ _) ?_
    repeat (first | (first
      | refine o_movd rfl rfl ?_
      | refine o_movp rfl rfl ?_
      | refine o_mova rfl rfl ?_
      | refine o_mov rfl rfl ?_
      | refine o_toInt rfl rfl (by (first | omega | (simp only [m64, mU, m8, n64, nU, n8, b64, bU, b8]; omega))) (by (first | omega | (simp only [m64, mU, m8, n64, nU, n8, b64, bU, b8]; omega))) ?_
      | refine o_asgd rfl rfl ?_
      | refine o_asgo rfl rfl ?_
      | refine o_leqn rfl rfl rfl ?_
      | refine o_addkn rfl rfl rfl (by decide) (by (first | omega | (simp only [m64, mU, m8, n64, nU, n8, b64, bU, b8]; omega))) ?_
      | refine o_cat rfl rfl rfl (by (first | omega | (simp only [m64, mU, m8, n64, nU, n8, b64, bU, b8]; omega))) ?_
      | refine o_add rfl rfl rfl (by omega) (by omega) ?_
      | refine op_nil ?_
      | refine o_bin rfl rfl rfl rfl ?_) | (first
      | refine wp_seq ?_
      | refine wp_ops ?_
      | refine wp_keep ?_
      | refine keepN (by (simp +decide only [Slots.keep, Slots.get, reduceIte]); exact rfl) ?_
      | refine wp_block ?_
      | refine wp_skip ?_
      | refine wp_ret ?_
      | refine wp_exit ?_
      | refine bx_ret ?_
      | refine bx_here ?_
      | refine bx_exit rfl ?_))
    refine ⟨by simp, k - 1, by omega, i + 1, by omega, rfl⟩
  · have : i = b + 1 - a := by omega
    subst this
    repeat (first | (first
      | refine o_movd rfl rfl ?_
      | refine o_movp rfl rfl ?_
      | refine o_mova rfl rfl ?_
      | refine o_mov rfl rfl ?_
      | refine o_toInt rfl rfl (by (first | omega | (simp only [m64, mU, m8, n64, nU, n8, b64, bU, b8]; omega))) (by (first | omega | (simp only [m64, mU, m8, n64, nU, n8, b64, bU, b8]; omega))) ?_
      | refine o_asgd rfl rfl ?_
      | refine o_asgo rfl rfl ?_
      | refine o_leqn rfl rfl rfl ?_
      | refine o_addkn rfl rfl rfl (by decide) (by (first | omega | (simp only [m64, mU, m8, n64, nU, n8, b64, bU, b8]; omega))) ?_
      | refine o_cat rfl rfl rfl (by (first | omega | (simp only [m64, mU, m8, n64, nU, n8, b64, bU, b8]; omega))) ?_
      | refine o_add rfl rfl rfl (by omega) (by omega) ?_
      | refine op_nil ?_
      | refine o_bin rfl rfl rfl rfl ?_) | (first
      | refine wp_seq ?_
      | refine wp_ops ?_
      | refine wp_keep ?_
      | refine keepN (by (simp +decide only [Slots.keep, Slots.get, reduceIte]); exact rfl) ?_
      | refine wp_block ?_
      | refine wp_skip ?_
      | refine wp_ret ?_
      | refine wp_exit ?_
      | refine bx_ret ?_
      | refine bx_here ?_
      | refine bx_exit rfl ?_))
    refine o_lcls rfl rfl (rfget1 _ _ _ _) ?_
    refine o_scls rfl rfl rfl (rfget0 _ _ _) rfl (rfset0 _ _ _ _) ?_
    repeat (first | (first
      | refine o_movd rfl rfl ?_
      | refine o_movp rfl rfl ?_
      | refine o_mova rfl rfl ?_
      | refine o_mov rfl rfl ?_
      | refine o_toInt rfl rfl (by (first | omega | (simp only [m64, mU, m8, n64, nU, n8, b64, bU, b8]; omega))) (by (first | omega | (simp only [m64, mU, m8, n64, nU, n8, b64, bU, b8]; omega))) ?_
      | refine o_asgd rfl rfl ?_
      | refine o_asgo rfl rfl ?_
      | refine o_leqn rfl rfl rfl ?_
      | refine o_addkn rfl rfl rfl (by decide) (by (first | omega | (simp only [m64, mU, m8, n64, nU, n8, b64, bU, b8]; omega))) ?_
      | refine o_cat rfl rfl rfl (by (first | omega | (simp only [m64, mU, m8, n64, nU, n8, b64, bU, b8]; omega))) ?_
      | refine o_add rfl rfl rfl (by omega) (by omega) ?_
      | refine op_nil ?_
      | refine o_bin rfl rfl rfl rfl ?_) | (first
      | refine wp_seq ?_
      | refine wp_ops ?_
      | refine wp_keep ?_
      | refine keepN (by (simp +decide only [Slots.keep, Slots.get, reduceIte]); exact rfl) ?_
      | refine wp_block ?_
      | refine wp_skip ?_
      | refine wp_ret ?_
      | refine wp_exit ?_
      | refine bx_ret ?_
      | refine bx_here ?_
      | refine bx_exit rfl ?_))
    refine end_cls rfl rfl rfl (rfget0 _ _ _) (by simp)

/-- the first i bits of one set, with another -/
def orTo (n m : Nat) : Nat → Nat
  | 0 => n
  | i + 1 => if m.testBit i then orTo n m i ||| 2 ^ i else orTo n m i

theorem orTo_bit (n m i c : Nat) : (orTo n m i).testBit c = (n.testBit c || (decide (c < i) && m.testBit c)) := by
  induction i with
  | zero => simp [orTo]
  | succ i ih =>
    simp only [orTo]
    by_cases h : m.testBit i
    · rw [if_pos h, Nat.testBit_or, ih, Nat.testBit_two_pow]
      by_cases hc : i = c
      · subst hc; simp [h]
      · rw [show decide (c < i + 1) = decide (c < i) by rw [Bool.eq_iff_iff]; simp; omega]
        simp [hc]
    · rw [if_neg h, ih]
      by_cases hc : i = c
      · subst hc; simp [h]
      · rw [show decide (c < i + 1) = decide (c < i) by rw [Bool.eq_iff_iff]; simp; omega]

theorem orTo_all (n m : Nat) (hm : m < 2 ^ 256) : orTo n m 256 = n ||| m := by
  apply Nat.eq_of_testBit_eq
  intro i
  rw [orTo_bit, Nat.testBit_or]
  by_cases h : i < 256
  · simp [h]
  · rw [Nat.testBit_lt_two_pow (Nat.lt_of_lt_of_le hm (Nat.pow_le_pow_right (by omega) (by omega)))]
    simp

theorem rOr_ev (n m : Nat) (hm : m < 2 ^ 256) (rf : Refs) : Ev T f_ref04_Or [cls n, cls m] rf (.ret (cls (n ||| m))) rf := by
  rw [← orTo_all n m hm]
  refine ev_callB rfl rfl ?_
  repeat (first | (first
      | refine o_movd rfl rfl ?_
      | refine o_movp rfl rfl ?_
      | refine o_mova rfl rfl ?_
      | refine o_mov rfl rfl ?_
      | refine o_asgd rfl rfl ?_
      | refine o_asgo rfl rfl ?_
      | refine o_toInt rfl rfl (by (first | omega | (simp only [m64, mU, m8, n64, nU, n8, b64, bU, b8]; omega))) (by (first | omega | (simp only [m64, mU, m8, n64, nU, n8, b64, bU, b8]; omega))) ?_
      | refine o_lssn rfl rfl rfl ?_
      | refine o_addkn rfl rfl rfl (by decide) (by (first | omega | (simp only [m64, mU, m8, n64, nU, n8, b64, bU, b8]; omega))) ?_
      | refine o_cat rfl rfl rfl (by (first | omega | (simp only [m64, mU, m8, n64, nU, n8, b64, bU, b8]; omega))) ?_
      | refine o_add rfl rfl rfl (by omega) (by omega) ?_
      | refine op_nil ?_
      | refine o_bin rfl rfl rfl rfl ?_) | (first
      | refine wp_seq ?_
      | refine wp_ops ?_
      | refine wp_keep ?_
      | refine keepN (by (simp +decide only [Slots.keep, Slots.get, reduceIte]); exact rfl) ?_
      | refine wp_block ?_
      | refine wp_skip ?_
      | refine wp_ret ?_
      | refine wp_exit ?_
      | refine bx_ret ?_
      | refine bx_here ?_
      | refine bx_exit rfl ?_))
  refine o_box (cs := clsC n) rfl rfl rfl rfl ?_
  refine o_box (cs := clsC m) rfl rfl rfl rfl ?_
  refine o_alloc rfl ?_
  repeat (first | (first
      | refine o_movd rfl rfl ?_
      | refine o_movp rfl rfl ?_
      | refine o_mova rfl rfl ?_
      | refine o_mov rfl rfl ?_
      | refine o_asgd rfl rfl ?_
      | refine o_asgo rfl rfl ?_
      | refine o_toInt rfl rfl (by (first | omega | (simp only [m64, mU, m8, n64, nU, n8, b64, bU, b8]; omega))) (by (first | omega | (simp only [m64, mU, m8, n64, nU, n8, b64, bU, b8]; omega))) ?_
      | refine o_lssn rfl rfl rfl ?_
      | refine o_addkn rfl rfl rfl (by decide) (by (first | omega | (simp only [m64, mU, m8, n64, nU, n8, b64, bU, b8]; omega))) ?_
      | refine o_cat rfl rfl rfl (by (first | omega | (simp only [m64, mU, m8, n64, nU, n8, b64, bU, b8]; omega))) ?_
      | refine o_add rfl rfl rfl (by omega) (by omega) ?_
      | refine op_nil ?_
      | refine o_bin rfl rfl rfl rfl ?_) | (first
      | refine wp_seq ?_
      | refine wp_ops ?_
      | refine wp_keep ?_
      | refine keepN (by (simp +decide only [Slots.keep, Slots.get, reduceIte]); exact rfl) ?_
      | refine wp_block ?_
      | refine wp_skip ?_
      | refine wp_ret ?_
      | refine wp_exit ?_
      | refine bx_ret ?_
      | refine bx_here ?_
      | refine bx_exit rfl ?_))
  simp only [List.length_append, List.length_cons, List.length_nil, List.append_assoc, List.cons_append, List.nil_append, Nat.zero_add, Nat.add_assoc, Nat.reduceAdd]
  refine wp_loop (m := 256) (fun k st => ∃ i : Nat, i + k = 256 ∧ st = ⟨[(2, .ptr rf.length 0), (3, .ptr (rf.length + 1) 0), (4, .ptr (rf.length + 2) 0), (5, i64 i)], rf ++ [clsC (orTo n m i), clsC m, z4], [], none, rf.length⟩) ⟨0, by omega, rfl⟩ ?_
  rintro k st ⟨i, hik, rfl⟩ -
  repeat (first | (first
      | refine o_movd rfl rfl ?_
      | refine o_movp rfl rfl ?_
      | refine o_mova rfl rfl ?_
      | refine o_mov rfl rfl ?_
      | refine o_asgd rfl rfl ?_
      | refine o_asgo rfl rfl ?_
      | refine o_toInt rfl rfl (by (first | omega | (simp only [m64, mU, m8, n64, nU, n8, b64, bU, b8]; omega))) (by (first | omega | (simp only [m64, mU, m8, n64, nU, n8, b64, bU, b8]; omega))) ?_
      | refine o_lssn rfl rfl rfl ?_
      | refine o_addkn rfl rfl rfl (by decide) (by (first | omega | (simp only [m64, mU, m8, n64, nU, n8, b64, bU, b8]; omega))) ?_
      | refine o_cat rfl rfl rfl (by (first | omega | (simp only [m64, mU, m8, n64, nU, n8, b64, bU, b8]; omega))) ?_
      | refine o_add rfl rfl rfl (by omega) (by omega) ?_
      | refine op_nil ?_
      | refine o_bin rfl rfl rfl rfl ?_) | (first
      | refine wp_seq ?_
      | refine wp_ops ?_
      | refine wp_keep ?_
      | refine keepN (by (simp +decide only [Slots.keep, Slots.get, reduceIte]); exact rfl) ?_
      | refine wp_block ?_
      | refine wp_skip ?_
      | refine wp_ret ?_
      | refine wp_exit ?_
      | refine bx_ret ?_
      | refine bx_here ?_
      | refine bx_exit rfl ?_))
  refine wp_if rfl ?_ ?_ <;> intro hi
  · have hs : orTo n m (i + 1) = if m.testBit i then orTo n m i ||| 2 ^ i else orTo n m i := rfl
    have hH := fun rf => rHas_ev (T := T) m i hi rf
    repeat (first | (first
      | refine o_movd rfl rfl ?_
      | refine o_movp rfl rfl ?_
      | refine o_mova rfl rfl ?_
      | refine o_mov rfl rfl ?_
      | refine o_asgd rfl rfl ?_
      | refine o_asgo rfl rfl ?_
      | refine o_toInt rfl rfl (by (first | omega | (simp only [m64, mU, m8, n64, nU, n8, b64, bU, b8]; omega))) (by (first | omega | (simp only [m64, mU, m8, n64, nU, n8, b64, bU, b8]; omega))) ?_
      | refine o_lssn rfl rfl rfl ?_
      | refine o_addkn rfl rfl rfl (by decide) (by (first | omega | (simp only [m64, mU, m8, n64, nU, n8, b64, bU, b8]; omega))) ?_
      | refine o_cat rfl rfl rfl (by (first | omega | (simp only [m64, mU, m8, n64, nU, n8, b64, bU, b8]; omega))) ?_
      | refine o_add rfl rfl rfl (by omega) (by omega) ?_
      | refine op_nil ?_
      | refine o_bin rfl rfl rfl rfl ?_) | (first
      | refine wp_seq ?_
      | refine wp_ops ?_
      | refine wp_keep ?_
      | refine keepN (by (simp +decide only [Slots.keep, Slots.get, reduceIte]); exact rfl) ?_
      | refine wp_block ?_
      | refine wp_skip ?_
      | refine wp_ret ?_
      | refine wp_exit ?_
      | refine bx_ret ?_
      | refine bx_here ?_
      | refine bx_exit rfl ?_))
    refine o_lcls rfl rfl (rfget1 _ _ _ _) ?_
    repeat (first | (first
      | refine o_movd rfl rfl ?_
      | refine o_movp rfl rfl ?_
      | refine o_mova rfl rfl ?_
      | refine o_mov rfl rfl ?_
      | refine o_asgd rfl rfl ?_
      | refine o_asgo rfl rfl ?_
      | refine o_toInt rfl rfl (by (first | omega | (simp only [m64, mU, m8, n64, nU, n8, b64, bU, b8]; omega))) (by (first | omega | (simp only [m64, mU, m8, n64, nU, n8, b64, bU, b8]; omega))) ?_
      | refine o_lssn rfl rfl rfl ?_
      | refine o_addkn rfl rfl rfl (by decide) (by (first | omega | (simp only [m64, mU, m8, n64, nU, n8, b64, bU, b8]; omega))) ?_
      | refine o_cat rfl rfl rfl (by (first | omega | (simp only [m64, mU, m8, n64, nU, n8, b64, bU, b8]; omega))) ?_
      | refine o_add rfl rfl rfl (by omega) (by omega) ?_
      | refine op_nil ?_
      | refine o_bin rfl rfl rfl rfl ?_) | (first
      | refine wp_seq ?_
      | refine wp_ops ?_
      | refine wp_keep ?_
      | refine keepN (by (simp +decide only [Slots.keep, Slots.get, reduceIte]); exact rfl) ?_
      | refine wp_block ?_
      | refine wp_skip ?_
      | refine wp_ret ?_
      | refine wp_exit ?_
      | refine bx_ret ?_
      | refine bx_here ?_
      | refine bx_exit rfl ?_))
    refine o_call rfl rfl rfl (hH _) ?_
    cases hx : m.testBit i
    · rw [hx] at hs
      repeat (first | (first
      | refine o_movd rfl rfl ?_
      | refine o_movp rfl rfl ?_
      | refine o_mova rfl rfl ?_
      | refine o_mov rfl rfl ?_
      | refine o_asgd rfl rfl ?_
      | refine o_asgo rfl rfl ?_
      | refine o_toInt rfl rfl (by (first | omega | (simp only [m64, mU, m8, n64, nU, n8, b64, bU, b8]; omega))) (by (first | omega | (simp only [m64, mU, m8, n64, nU, n8, b64, bU, b8]; omega))) ?_
      | refine o_lssn rfl rfl rfl ?_
      | refine o_addkn rfl rfl rfl (by decide) (by (first | omega | (simp only [m64, mU, m8, n64, nU, n8, b64, bU, b8]; omega))) ?_
      | refine o_cat rfl rfl rfl (by (first | omega | (simp only [m64, mU, m8, n64, nU, n8, b64, bU, b8]; omega))) ?_
      | refine o_add rfl rfl rfl (by omega) (by omega) ?_
      | refine op_nil ?_
      | refine o_bin rfl rfl rfl rfl ?_) | (first
      | refine wp_seq ?_
      | refine wp_ops ?_
      | refine wp_keep ?_
      | refine keepN (by (simp +decide only [Slots.keep, Slots.get, reduceIte]); exact rfl) ?_
      | refine wp_block ?_
      | refine wp_skip ?_
      | refine wp_ret ?_
      | refine wp_exit ?_
      | refine bx_ret ?_
      | refine bx_here ?_
      | refine bx_exit rfl ?_))
      refine wp_cond (b := false) rfl (fun h => absurd h (by decide)) (fun _ => ?_)
      repeat (first | (first
      | refine o_movd rfl rfl ?_
      | refine o_movp rfl rfl ?_
      | refine o_mova rfl rfl ?_
      | refine o_mov rfl rfl ?_
      | refine o_asgd rfl rfl ?_
      | refine o_asgo rfl rfl ?_
      | refine o_toInt rfl rfl (by (first | omega | (simp only [m64, mU, m8, n64, nU, n8, b64, bU, b8]; omega))) (by (first | omega | (simp only [m64, mU, m8, n64, nU, n8, b64, bU, b8]; omega))) ?_
      | refine o_lssn rfl rfl rfl ?_
      | refine o_addkn rfl rfl rfl (by decide) (by (first | omega | (simp only [m64, mU, m8, n64, nU, n8, b64, bU, b8]; omega))) ?_
      | refine o_cat rfl rfl rfl (by (first | omega | (simp only [m64, mU, m8, n64, nU, n8, b64, bU, b8]; omega))) ?_
      | refine o_add rfl rfl rfl (by omega) (by omega) ?_
      | refine op_nil ?_
      | refine o_bin rfl rfl rfl rfl ?_) | (first
      | refine wp_seq ?_
      | refine wp_ops ?_
      | refine wp_keep ?_
      | refine keepN (by (simp +decide only [Slots.keep, Slots.get, reduceIte]); exact rfl) ?_
      | refine wp_block ?_
      | refine wp_skip ?_
      | refine wp_ret ?_
      | refine wp_exit ?_
      | refine bx_ret ?_
      | refine bx_here ?_
      | refine bx_exit rfl ?_))
      refine ⟨by simp, k - 1, by omega, i + 1, by omega, ?_⟩
      rw [hs]; rfl
    · rw [hx] at hs
      repeat (first | (first
      | refine o_movd rfl rfl ?_
      | refine o_movp rfl rfl ?_
      | refine o_mova rfl rfl ?_
      | refine o_mov rfl rfl ?_
      | refine o_asgd rfl rfl ?_
      | refine o_asgo rfl rfl ?_
      | refine o_toInt rfl rfl (by (first | omega | (simp only [m64, mU, m8, n64, nU, n8, b64, bU, b8]; omega))) (by (first | omega | (simp only [m64, mU, m8, n64, nU, n8, b64, bU, b8]; omega))) ?_
      | refine o_lssn rfl rfl rfl ?_
      | refine o_addkn rfl rfl rfl (by decide) (by (first | omega | (simp only [m64, mU, m8, n64, nU, n8, b64, bU, b8]; omega))) ?_
      | refine o_cat rfl rfl rfl (by (first | omega | (simp only [m64, mU, m8, n64, nU, n8, b64, bU, b8]; omega))) ?_
      | refine o_add rfl rfl rfl (by omega) (by omega) ?_
      | refine op_nil ?_
      | refine o_bin rfl rfl rfl rfl ?_) | (first
      | refine wp_seq ?_
      | refine wp_ops ?_
      | refine wp_keep ?_
      | refine keepN (by (simp +decide only [Slots.keep, Slots.get, reduceIte]); exact rfl) ?_
      | refine wp_block ?_
      | refine wp_skip ?_
      | refine wp_ret ?_
      | refine wp_exit ?_
      | refine bx_ret ?_
      | refine bx_here ?_
      | refine bx_exit rfl ?_))
      refine wp_cond (b := true) rfl (fun _ => ?_) (fun h => absurd h (by decide))
      repeat (first | (first
      | refine o_movd rfl rfl ?_
      | refine o_movp rfl rfl ?_
      | refine o_mova rfl rfl ?_
      | refine o_mov rfl rfl ?_
      | refine o_asgd rfl rfl ?_
      | refine o_asgo rfl rfl ?_
      | refine o_toInt rfl rfl (by (first | omega | (simp only [m64, mU, m8, n64, nU, n8, b64, bU, b8]; omega))) (by (first | omega | (simp only [m64, mU, m8, n64, nU, n8, b64, bU, b8]; omega))) ?_
      | refine o_lssn rfl rfl rfl ?_
      | refine o_addkn rfl rfl rfl (by decide) (by (first | omega | (simp only [m64, mU, m8, n64, nU, n8, b64, bU, b8]; omega))) ?_
      | refine o_cat rfl rfl rfl (by (first | omega | (simp only [m64, mU, m8, n64, nU, n8, b64, bU, b8]; omega))) ?_
      | refine o_add rfl rfl rfl (by omega) (by omega) ?_
      | refine op_nil ?_
      | refine o_bin rfl rfl rfl rfl ?_) | (first
      | refine wp_seq ?_
      | refine wp_ops ?_
      | refine wp_keep ?_
      | refine keepN (by (simp +decide only [Slots.keep, Slots.get, reduceIte]); exact rfl) ?_
      | refine wp_block ?_
      | refine wp_skip ?_
      | refine wp_ret ?_
      | refine wp_exit ?_
      | refine bx_ret ?_
      | refine bx_here ?_
      | refine bx_exit rfl ?_))
      refine o_lcls rfl rfl (rfget0 _ _ _) ?_
      repeat (first | (first
      | refine o_movd rfl rfl ?_
      | refine o_movp rfl rfl ?_
      | refine o_mova rfl rfl ?_
      | refine o_mov rfl rfl ?_
      | refine o_asgd rfl rfl ?_
      | refine o_asgo rfl rfl ?_
      | refine o_toInt rfl rfl (by (first | omega | (simp only [m64, mU, m8, n64, nU, n8, b64, bU, b8]; omega))) (by (first | omega | (simp only [m64, mU, m8, n64, nU, n8, b64, bU, b8]; omega))) ?_
      | refine o_lssn rfl rfl rfl ?_
      | refine o_addkn rfl rfl rfl (by decide) (by (first | omega | (simp only [m64, mU, m8, n64, nU, n8, b64, bU, b8]; omega))) ?_
      | refine o_cat rfl rfl rfl (by (first | omega | (simp only [m64, mU, m8, n64, nU, n8, b64, bU, b8]; omega))) ?_
      | refine o_add rfl rfl rfl (by omega) (by omega) ?_
      | refine op_nil ?_
      | refine o_bin rfl rfl rfl rfl ?_) | (first
      | refine wp_seq ?_
      | refine wp_ops ?_
      | refine wp_keep ?_
      | refine keepN (by (simp +decide only [Slots.keep, Slots.get, reduceIte]); exact rfl) ?_
      | refine wp_block ?_
      | refine wp_skip ?_
      | refine wp_ret ?_
      | refine wp_exit ?_
      | refine bx_ret ?_
      | refine bx_here ?_
      | refine bx_exit rfl ?_))
      refine o_call rfl rfl rfl (with_ev _ _ hi _) ?_
      refine o_scls rfl rfl rfl (rfget0 _ _ _) rfl (rfset0 _ _ _ _) ?_
      repeat (first | (first
      | refine o_movd rfl rfl ?_
      | refine o_movp rfl rfl ?_
      | refine o_mova rfl rfl ?_
      | refine o_mov rfl rfl ?_
      | refine o_asgd rfl rfl ?_
      | refine o_asgo rfl rfl ?_
      | refine o_toInt rfl rfl (by (first | omega | (simp only [m64, mU, m8, n64, nU, n8, b64, bU, b8]; omega))) (by (first | omega | (simp only [m64, mU, m8, n64, nU, n8, b64, bU, b8]; omega))) ?_
      | refine o_lssn rfl rfl rfl ?_
      | refine o_addkn rfl rfl rfl (by decide) (by (first | omega | (simp only [m64, mU, m8, n64, nU, n8, b64, bU, b8]; omega))) ?_
      | refine o_cat rfl rfl rfl (by (first | omega | (simp only [m64, mU, m8, n64, nU, n8, b64, bU, b8]; omega))) ?_
      | refine o_add rfl rfl rfl (by omega) (by omega) ?_
      | refine op_nil ?_
      | refine o_bin rfl rfl rfl rfl ?_) | (first
      | refine wp_seq ?_
      | refine wp_ops ?_
      | refine wp_keep ?_
      | refine keepN (by (simp +decide only [Slots.keep, Slots.get, reduceIte]); exact rfl) ?_
      | refine wp_block ?_
      | refine wp_skip ?_
      | refine wp_ret ?_
      | refine wp_exit ?_
      | refine bx_ret ?_
      | refine bx_here ?_
      | refine bx_exit rfl ?_))
      refine ⟨by simp, k - 1, by omega, i + 1, by omega, ?_⟩
      rw [hs]; rfl
  · have : i = 256 := by omega
    subst this
    repeat (first | (first
      | refine o_movd rfl rfl ?_
      | refine o_movp rfl rfl ?_
      | refine o_mova rfl rfl ?_
      | refine o_mov rfl rfl ?_
      | refine o_asgd rfl rfl ?_
      | refine o_asgo rfl rfl ?_
      | refine o_toInt rfl rfl (by (first | omega | (simp only [m64, mU, m8, n64, nU, n8, b64, bU, b8]; omega))) (by (first | omega | (simp only [m64, mU, m8, n64, nU, n8, b64, bU, b8]; omega))) ?_
      | refine o_lssn rfl rfl rfl ?_
      | refine o_addkn rfl rfl rfl (by decide) (by (first | omega | (simp only [m64, mU, m8, n64, nU, n8, b64, bU, b8]; omega))) ?_
      | refine o_cat rfl rfl rfl (by (first | omega | (simp only [m64, mU, m8, n64, nU, n8, b64, bU, b8]; omega))) ?_
      | refine o_add rfl rfl rfl (by omega) (by omega) ?_
      | refine op_nil ?_
      | refine o_bin rfl rfl rfl rfl ?_) | (first
      | refine wp_seq ?_
      | refine wp_ops ?_
      | refine wp_keep ?_
      | refine keepN (by (simp +decide only [Slots.keep, Slots.get, reduceIte]); exact rfl) ?_
      | refine wp_block ?_
      | refine wp_skip ?_
      | refine wp_ret ?_
      | refine wp_exit ?_
      | refine bx_ret ?_
      | refine bx_here ?_
      | refine bx_exit rfl ?_))
    refine o_lcls rfl rfl (rfget0 _ _ _) ?_
    refine o_scls rfl rfl rfl (rfget2 _ _ _ _ _) rfl (rfset2 _ _ _ _ _ _) ?_
    repeat (first | (first
      | refine o_movd rfl rfl ?_
      | refine o_movp rfl rfl ?_
      | refine o_mova rfl rfl ?_
      | refine o_mov rfl rfl ?_
      | refine o_asgd rfl rfl ?_
      | refine o_asgo rfl rfl ?_
      | refine o_toInt rfl rfl (by (first | omega | (simp only [m64, mU, m8, n64, nU, n8, b64, bU, b8]; omega))) (by (first | omega | (simp only [m64, mU, m8, n64, nU, n8, b64, bU, b8]; omega))) ?_
      | refine o_lssn rfl rfl rfl ?_
      | refine o_addkn rfl rfl rfl (by decide) (by (first | omega | (simp only [m64, mU, m8, n64, nU, n8, b64, bU, b8]; omega))) ?_
      | refine o_cat rfl rfl rfl (by (first | omega | (simp only [m64, mU, m8, n64, nU, n8, b64, bU, b8]; omega))) ?_
      | refine o_add rfl rfl rfl (by omega) (by omega) ?_
      | refine op_nil ?_
      | refine o_bin rfl rfl rfl rfl ?_) | (first
      | refine wp_seq ?_
      | refine wp_ops ?_
      | refine wp_keep ?_
      | refine keepN (by (simp +decide only [Slots.keep, Slots.get, reduceIte]); exact rfl) ?_
      | refine wp_block ?_
      | refine wp_skip ?_
      | refine wp_ret ?_
      | refine wp_exit ?_
      | refine bx_ret ?_
      | refine bx_here ?_
      | refine bx_exit rfl ?_))
    refine end_cls rfl rfl rfl (rfget2 _ _ _ _ _) (by simp)

/-- the others among the first i -/
def notTo (n : Nat) : Nat → Nat
  | 0 => 0
  | i + 1 => if n.testBit i then notTo n i else notTo n i ||| 2 ^ i

theorem notTo_bit (n i c : Nat) : (notTo n i).testBit c = (decide (c < i) && !n.testBit c) := by
  induction i with
  | zero => simp [notTo]
  | succ i ih =>
    simp only [notTo]
    by_cases h : n.testBit i
    · rw [if_pos h, ih]
      by_cases hc : i = c
      · subst hc; simp [h]
      · rw [show decide (c < i + 1) = decide (c < i) by rw [Bool.eq_iff_iff]; simp; omega]
    · rw [if_neg h, Nat.testBit_or, ih, Nat.testBit_two_pow]
      by_cases hc : i = c
      · subst hc; simp [h]
      · rw [show decide (c < i + 1) = decide (c < i) by rw [Bool.eq_iff_iff]; simp; omega]
        simp [hc]

theorem notTo_all (n : Nat) : notTo n 256 = notN n := by
  apply Nat.eq_of_testBit_eq
  intro i
  rw [notTo_bit, notN_bit]

theorem rNot_ev (n : Nat) (rf : Refs) : Ev T f_ref04_Not [cls n] rf (.ret (cls (notN n))) rf := by
  rw [← notTo_all n]
  refine ev_callB rfl rfl ?_
  repeat (first | (first
      | refine o_movd rfl rfl ?_
      | refine o_movp rfl rfl ?_
      | refine o_mova rfl rfl ?_
      | refine o_mov rfl rfl ?_
      | refine o_asgd rfl rfl ?_
      | refine o_asgo rfl rfl ?_
      | refine o_toInt rfl rfl (by (first | omega | (simp only [m64, mU, m8, n64, nU, n8, b64, bU, b8]; omega))) (by (first | omega | (simp only [m64, mU, m8, n64, nU, n8, b64, bU, b8]; omega))) ?_
      | refine o_lssn rfl rfl rfl ?_
      | refine o_not rfl rfl ?_
      | refine o_addkn rfl rfl rfl (by decide) (by (first | omega | (simp only [m64, mU, m8, n64, nU, n8, b64, bU, b8]; omega))) ?_
      | refine o_cat rfl rfl rfl (by (first | omega | (simp only [m64, mU, m8, n64, nU, n8, b64, bU, b8]; omega))) ?_
      | refine o_add rfl rfl rfl (by omega) (by omega) ?_
      | refine op_nil ?_
      | refine o_bin rfl rfl rfl rfl ?_) | (first
      | refine wp_seq ?_
      | refine wp_ops ?_
      | refine wp_keep ?_
      | refine keepN (by (simp +decide only [Slots.keep, Slots.get, reduceIte]); exact rfl) ?_
      | refine wp_block ?_
      | refine wp_skip ?_
      | refine wp_ret ?_
      | refine wp_exit ?_
      | refine bx_ret ?_
      | refine bx_here ?_
      | refine bx_exit rfl ?_))
  refine o_box (cs := clsC n) rfl rfl rfl rfl ?_
  refine o_alloc rfl ?_
  repeat (first | (first
      | refine o_movd rfl rfl ?_
      | refine o_movp rfl rfl ?_
      | refine o_mova rfl rfl ?_
      | refine o_mov rfl rfl ?_
      | refine o_asgd rfl rfl ?_
      | refine o_asgo rfl rfl ?_
      | refine o_toInt rfl rfl (by (first | omega | (simp only [m64, mU, m8, n64, nU, n8, b64, bU, b8]; omega))) (by (first | omega | (simp only [m64, mU, m8, n64, nU, n8, b64, bU, b8]; omega))) ?_
      | refine o_lssn rfl rfl rfl ?_
      | refine o_not rfl rfl ?_
      | refine o_addkn rfl rfl rfl (by decide) (by (first | omega | (simp only [m64, mU, m8, n64, nU, n8, b64, bU, b8]; omega))) ?_
      | refine o_cat rfl rfl rfl (by (first | omega | (simp only [m64, mU, m8, n64, nU, n8, b64, bU, b8]; omega))) ?_
      | refine o_add rfl rfl rfl (by omega) (by omega) ?_
      | refine op_nil ?_
      | refine o_bin rfl rfl rfl rfl ?_) | (first
      | refine wp_seq ?_
      | refine wp_ops ?_
      | refine wp_keep ?_
      | refine keepN (by (simp +decide only [Slots.keep, Slots.get, reduceIte]); exact rfl) ?_
      | refine wp_block ?_
      | refine wp_skip ?_
      | refine wp_ret ?_
      | refine wp_exit ?_
      | refine bx_ret ?_
      | refine bx_here ?_
      | refine bx_exit rfl ?_))
  refine o_build (cs := clsC 0) rfl rfl ?_
  refine o_alloc rfl ?_
  simp only [List.length_append, List.length_cons, List.length_nil, List.append_assoc, List.cons_append, List.nil_append, Nat.zero_add, Nat.add_assoc, Nat.reduceAdd]
  refine o_scls (k := 0) rfl rfl rfl (rfget2 _ _ _ _ _) rfl (rfset2 _ _ _ _ _ _) ?_
  repeat (first | (first
      | refine o_movd rfl rfl ?_
      | refine o_movp rfl rfl ?_
      | refine o_mova rfl rfl ?_
      | refine o_mov rfl rfl ?_
      | refine o_asgd rfl rfl ?_
      | refine o_asgo rfl rfl ?_
      | refine o_toInt rfl rfl (by (first | omega | (simp only [m64, mU, m8, n64, nU, n8, b64, bU, b8]; omega))) (by (first | omega | (simp only [m64, mU, m8, n64, nU, n8, b64, bU, b8]; omega))) ?_
      | refine o_lssn rfl rfl rfl ?_
      | refine o_not rfl rfl ?_
      | refine o_addkn rfl rfl rfl (by decide) (by (first | omega | (simp only [m64, mU, m8, n64, nU, n8, b64, bU, b8]; omega))) ?_
      | refine o_cat rfl rfl rfl (by (first | omega | (simp only [m64, mU, m8, n64, nU, n8, b64, bU, b8]; omega))) ?_
      | refine o_add rfl rfl rfl (by omega) (by omega) ?_
      | refine op_nil ?_
      | refine o_bin rfl rfl rfl rfl ?_) | (first
      | refine wp_seq ?_
      | refine wp_ops ?_
      | refine wp_keep ?_
      | refine keepN (by (simp +decide only [Slots.keep, Slots.get, reduceIte]); exact rfl) ?_
      | refine wp_block ?_
      | refine wp_skip ?_
      | refine wp_ret ?_
      | refine wp_exit ?_
      | refine bx_ret ?_
      | refine bx_here ?_
      | refine bx_exit rfl ?_))
  refine wp_loop (m := 256) (fun k st => ∃ i : Nat, i + k = 256 ∧ st = ⟨[(1, .ptr rf.length 0), (2, .ptr (rf.length + 1) 0), (3, .ptr (rf.length + 2) 0), (4, i64 i)], rf ++ [clsC n, z4, clsC (notTo n i)], [], none, rf.length⟩) ⟨0, by omega, rfl⟩ ?_
  rintro k st ⟨i, hik, rfl⟩ -
  repeat (first | (first
      | refine o_movd rfl rfl ?_
      | refine o_movp rfl rfl ?_
      | refine o_mova rfl rfl ?_
      | refine o_mov rfl rfl ?_
      | refine o_asgd rfl rfl ?_
      | refine o_asgo rfl rfl ?_
      | refine o_toInt rfl rfl (by (first | omega | (simp only [m64, mU, m8, n64, nU, n8, b64, bU, b8]; omega))) (by (first | omega | (simp only [m64, mU, m8, n64, nU, n8, b64, bU, b8]; omega))) ?_
      | refine o_lssn rfl rfl rfl ?_
      | refine o_not rfl rfl ?_
      | refine o_addkn rfl rfl rfl (by decide) (by (first | omega | (simp only [m64, mU, m8, n64, nU, n8, b64, bU, b8]; omega))) ?_
      | refine o_cat rfl rfl rfl (by (first | omega | (simp only [m64, mU, m8, n64, nU, n8, b64, bU, b8]; omega))) ?_
      | refine o_add rfl rfl rfl (by omega) (by omega) ?_
      | refine op_nil ?_
      | refine o_bin rfl rfl rfl rfl ?_) | (first
      | refine wp_seq ?_
      | refine wp_ops ?_
      | refine wp_keep ?_
      | refine keepN (by (simp +decide only [Slots.keep, Slots.get, reduceIte]); exact rfl) ?_
      | refine wp_block ?_
      | refine wp_skip ?_
      | refine wp_ret ?_
      | refine wp_exit ?_
      | refine bx_ret ?_
      | refine bx_here ?_
      | refine bx_exit rfl ?_))
  refine wp_if rfl ?_ ?_ <;> intro hi
  · have hs : notTo n (i + 1) = if n.testBit i then notTo n i else notTo n i ||| 2 ^ i := rfl
    have hH := fun rf => rHas_ev (T := T) n i hi rf
    repeat (first | (first
      | refine o_movd rfl rfl ?_
      | refine o_movp rfl rfl ?_
      | refine o_mova rfl rfl ?_
      | refine o_mov rfl rfl ?_
      | refine o_asgd rfl rfl ?_
      | refine o_asgo rfl rfl ?_
      | refine o_toInt rfl rfl (by (first | omega | (simp only [m64, mU, m8, n64, nU, n8, b64, bU, b8]; omega))) (by (first | omega | (simp only [m64, mU, m8, n64, nU, n8, b64, bU, b8]; omega))) ?_
      | refine o_lssn rfl rfl rfl ?_
      | refine o_not rfl rfl ?_
      | refine o_addkn rfl rfl rfl (by decide) (by (first | omega | (simp only [m64, mU, m8, n64, nU, n8, b64, bU, b8]; omega))) ?_
      | refine o_cat rfl rfl rfl (by (first | omega | (simp only [m64, mU, m8, n64, nU, n8, b64, bU, b8]; omega))) ?_
      | refine o_add rfl rfl rfl (by omega) (by omega) ?_
      | refine op_nil ?_
      | refine o_bin rfl rfl rfl rfl ?_) | (first
      | refine wp_seq ?_
      | refine wp_ops ?_
      | refine wp_keep ?_
      | refine keepN (by (simp +decide only [Slots.keep, Slots.get, reduceIte]); exact rfl) ?_
      | refine wp_block ?_
      | refine wp_skip ?_
      | refine wp_ret ?_
      | refine wp_exit ?_
      | refine bx_ret ?_
      | refine bx_here ?_
      | refine bx_exit rfl ?_))
    refine o_lcls rfl rfl (rfget0 _ _ _) ?_
    repeat (first | (first
      | refine o_movd rfl rfl ?_
      | refine o_movp rfl rfl ?_
      | refine o_mova rfl rfl ?_
      | refine o_mov rfl rfl ?_
      | refine o_asgd rfl rfl ?_
      | refine o_asgo rfl rfl ?_
      | refine o_toInt rfl rfl (by (first | omega | (simp only [m64, mU, m8, n64, nU, n8, b64, bU, b8]; omega))) (by (first | omega | (simp only [m64, mU, m8, n64, nU, n8, b64, bU, b8]; omega))) ?_
      | refine o_lssn rfl rfl rfl ?_
      | refine o_not rfl rfl ?_
      | refine o_addkn rfl rfl rfl (by decide) (by (first | omega | (simp only [m64, mU, m8, n64, nU, n8, b64, bU, b8]; omega))) ?_
      | refine o_cat rfl rfl rfl (by (first | omega | (simp only [m64, mU, m8, n64, nU, n8, b64, bU, b8]; omega))) ?_
      | refine o_add rfl rfl rfl (by omega) (by omega) ?_
      | refine op_nil ?_
      | refine o_bin rfl rfl rfl rfl ?_) | (first
      | refine wp_seq ?_
      | refine wp_ops ?_
      | refine wp_keep ?_
      | refine keepN (by (simp +decide only [Slots.keep, Slots.get, reduceIte]); exact rfl) ?_
      | refine wp_block ?_
      | refine wp_skip ?_
      | refine wp_ret ?_
      | refine wp_exit ?_
      | refine bx_ret ?_
      | refine bx_here ?_
      | refine bx_exit rfl ?_))
    refine o_call rfl rfl rfl (hH _) ?_
    cases hx : n.testBit i
    · rw [hx] at hs
      repeat (first | (first
      | refine o_movd rfl rfl ?_
      | refine o_movp rfl rfl ?_
      | refine o_mova rfl rfl ?_
      | refine o_mov rfl rfl ?_
      | refine o_asgd rfl rfl ?_
      | refine o_asgo rfl rfl ?_
      | refine o_toInt rfl rfl (by (first | omega | (simp only [m64, mU, m8, n64, nU, n8, b64, bU, b8]; omega))) (by (first | omega | (simp only [m64, mU, m8, n64, nU, n8, b64, bU, b8]; omega))) ?_
      | refine o_lssn rfl rfl rfl ?_
      | refine o_not rfl rfl ?_
      | refine o_addkn rfl rfl rfl (by decide) (by (first | omega | (simp only [m64, mU, m8, n64, nU, n8, b64, bU, b8]; omega))) ?_
      | refine o_cat rfl rfl rfl (by (first | omega | (simp only [m64, mU, m8, n64, nU, n8, b64, bU, b8]; omega))) ?_
      | refine o_add rfl rfl rfl (by omega) (by omega) ?_
      | refine op_nil ?_
      | refine o_bin rfl rfl rfl rfl ?_) | (first
      | refine wp_seq ?_
      | refine wp_ops ?_
      | refine wp_keep ?_
      | refine keepN (by (simp +decide only [Slots.keep, Slots.get, reduceIte]); exact rfl) ?_
      | refine wp_block ?_
      | refine wp_skip ?_
      | refine wp_ret ?_
      | refine wp_exit ?_
      | refine bx_ret ?_
      | refine bx_here ?_
      | refine bx_exit rfl ?_))
      refine wp_cond (b := true) rfl (fun _ => ?_) (fun h => absurd h (by decide))
      repeat (first | (first
      | refine o_movd rfl rfl ?_
      | refine o_movp rfl rfl ?_
      | refine o_mova rfl rfl ?_
      | refine o_mov rfl rfl ?_
      | refine o_asgd rfl rfl ?_
      | refine o_asgo rfl rfl ?_
      | refine o_toInt rfl rfl (by (first | omega | (simp only [m64, mU, m8, n64, nU, n8, b64, bU, b8]; omega))) (by (first | omega | (simp only [m64, mU, m8, n64, nU, n8, b64, bU, b8]; omega))) ?_
      | refine o_lssn rfl rfl rfl ?_
      | refine o_not rfl rfl ?_
      | refine o_addkn rfl rfl rfl (by decide) (by (first | omega | (simp only [m64, mU, m8, n64, nU, n8, b64, bU, b8]; omega))) ?_
      | refine o_cat rfl rfl rfl (by (first | omega | (simp only [m64, mU, m8, n64, nU, n8, b64, bU, b8]; omega))) ?_
      | refine o_add rfl rfl rfl (by omega) (by omega) ?_
      | refine op_nil ?_
      | refine o_bin rfl rfl rfl rfl ?_) | (first
      | refine wp_seq ?_
      | refine wp_ops ?_
      | refine wp_keep ?_
      | refine keepN (by (simp +decide only [Slots.keep, Slots.get, reduceIte]); exact rfl) ?_
      | refine wp_block ?_
      | refine wp_skip ?_
      | refine wp_ret ?_
      | refine wp_exit ?_
      | refine bx_ret ?_
      | refine bx_here ?_
      | refine bx_exit rfl ?_))
      refine o_lcls rfl rfl (rfget2 _ _ _ _ _) ?_
      repeat (first | (first
      | refine o_movd rfl rfl ?_
      | refine o_movp rfl rfl ?_
      | refine o_mova rfl rfl ?_
      | refine o_mov rfl rfl ?_
      | refine o_asgd rfl rfl ?_
      | refine o_asgo rfl rfl ?_
      | refine o_toInt rfl rfl (by (first | omega | (simp only [m64, mU, m8, n64, nU, n8, b64, bU, b8]; omega))) (by (first | omega | (simp only [m64, mU, m8, n64, nU, n8, b64, bU, b8]; omega))) ?_
      | refine o_lssn rfl rfl rfl ?_
      | refine o_not rfl rfl ?_
      | refine o_addkn rfl rfl rfl (by decide) (by (first | omega | (simp only [m64, mU, m8, n64, nU, n8, b64, bU, b8]; omega))) ?_
      | refine o_cat rfl rfl rfl (by (first | omega | (simp only [m64, mU, m8, n64, nU, n8, b64, bU, b8]; omega))) ?_
      | refine o_add rfl rfl rfl (by omega) (by omega) ?_
      | refine op_nil ?_
      | refine o_bin rfl rfl rfl rfl ?_) | (first
      | refine wp_seq ?_
      | refine wp_ops ?_
      | refine wp_keep ?_
      | refine keepN (by (simp +decide only [Slots.keep, Slots.get, reduceIte]); exact rfl) ?_
      | refine wp_block ?_
      | refine wp_skip ?_
      | refine wp_ret ?_
      | refine wp_exit ?_
      | refine bx_ret ?_
      | refine bx_here ?_
      | refine bx_exit rfl ?_))
      refine o_call rfl rfl rfl (with_ev _ _ hi _) ?_
      refine o_scls rfl rfl rfl (rfget2 _ _ _ _ _) rfl (rfset2 _ _ _ _ _ _) ?_
      repeat (first | (first
      | refine o_movd rfl rfl ?_
      | refine o_movp rfl rfl ?_
      | refine o_mova rfl rfl ?_
      | refine o_mov rfl rfl ?_
      | refine o_asgd rfl rfl ?_
      | refine o_asgo rfl rfl ?_
      | refine o_toInt rfl rfl (by (first | omega | (simp only [m64, mU, m8, n64, nU, n8, b64, bU, b8]; omega))) (by (first | omega | (simp only [m64, mU, m8, n64, nU, n8, b64, bU, b8]; omega))) ?_
      | refine o_lssn rfl rfl rfl ?_
      | refine o_not rfl rfl ?_
      | refine o_addkn rfl rfl rfl (by decide) (by (first | omega | (simp only [m64, mU, m8, n64, nU, n8, b64, bU, b8]; omega))) ?_
      | refine o_cat rfl rfl rfl (by (first | omega | (simp only [m64, mU, m8, n64, nU, n8, b64, bU, b8]; omega))) ?_
      | refine o_add rfl rfl rfl (by omega) (by omega) ?_
      | refine op_nil ?_
      | refine o_bin rfl rfl rfl rfl ?_) | (first
      | refine wp_seq ?_
      | refine wp_ops ?_
      | refine wp_keep ?_
      | refine keepN (by (simp +decide only [Slots.keep, Slots.get, reduceIte]); exact rfl) ?_
      | refine wp_block ?_
      | refine wp_skip ?_
      | refine wp_ret ?_
      | refine wp_exit ?_
      | refine bx_ret ?_
      | refine bx_here ?_
      | refine bx_exit rfl ?_))
      refine ⟨by simp, k - 1, by omega, i + 1, by omega, ?_⟩
      rw [hs]; rfl
    · rw [hx] at hs
      repeat (first | (first
      | refine o_movd rfl rfl ?_
      | refine o_movp rfl rfl ?_
      | refine o_mova rfl rfl ?_
      | refine o_mov rfl rfl ?_
      | refine o_asgd rfl rfl ?_
      | refine o_asgo rfl rfl ?_
      | refine o_toInt rfl rfl (by (first | omega | (simp only [m64, mU, m8, n64, nU, n8, b64, bU, b8]; omega))) (by (first | omega | (simp only [m64, mU, m8, n64, nU, n8, b64, bU, b8]; omega))) ?_
      | refine o_lssn rfl rfl rfl ?_
      | refine o_not rfl rfl ?_
      | refine o_addkn rfl rfl rfl (by decide) (by (first | omega | (simp only [m64, mU, m8, n64, nU, n8, b64, bU, b8]; omega))) ?_
      | refine o_cat rfl rfl rfl (by (first | omega | (simp only [m64, mU, m8, n64, nU, n8, b64, bU, b8]; omega))) ?_
      | refine o_add rfl rfl rfl (by omega) (by omega) ?_
      | refine op_nil ?_
      | refine o_bin rfl rfl rfl rfl ?_) | (first
      | refine wp_seq ?_
      | refine wp_ops ?_
      | refine wp_keep ?_
      | refine keepN (by (simp +decide only [Slots.keep, Slots.get, reduceIte]); exact rfl) ?_
      | refine wp_block ?_
      | refine wp_skip ?_
      | refine wp_ret ?_
      | refine wp_exit ?_
      | refine bx_ret ?_
      | refine bx_here ?_
      | refine bx_exit rfl ?_))
      refine wp_cond (b := false) rfl (fun h => absurd h (by decide)) (fun _ => ?_)
      repeat (first | (first
      | refine o_movd rfl rfl ?_
      | refine o_movp rfl rfl ?_
      | refine o_mova rfl rfl ?_
      | refine o_mov rfl rfl ?_
      | refine o_asgd rfl rfl ?_
      | refine o_asgo rfl rfl ?_
      | refine o_toInt rfl rfl (by (first | omega | (simp only [m64, mU, m8, n64, nU, n8, b64, bU, b8]; omega))) (by (first | omega | (simp only [m64, mU, m8, n64, nU, n8, b64, bU, b8]; omega))) ?_
      | refine o_lssn rfl rfl rfl ?_
      | refine o_not rfl rfl ?_
      | refine o_addkn rfl rfl rfl (by decide) (by (first | omega | (simp only [m64, mU, m8, n64, nU, n8, b64, bU, b8]; omega))) ?_
      | refine o_cat rfl rfl rfl (by (first | omega | (simp only [m64, mU, m8, n64, nU, n8, b64, bU, b8]; omega))) ?_
      | refine o_add rfl rfl rfl (by omega) (by omega) ?_
      | refine op_nil ?_
      | refine o_bin rfl rfl rfl rfl ?_) | (first
      | refine wp_seq ?_
      | refine wp_ops ?_
      | refine wp_keep ?_
      | refine keepN (by (simp +decide only [Slots.keep, Slots.get, reduceIte]); exact rfl) ?_
      | refine wp_block ?_
      | refine wp_skip ?_
      | refine wp_ret ?_
      | refine wp_exit ?_
      | refine bx_ret ?_
      | refine bx_here ?_
      | refine bx_exit rfl ?_))
      refine ⟨by simp, k - 1, by omega, i + 1, by omega, ?_⟩
      rw [hs]; rfl
  · have : i = 256 := by omega
    subst this
    repeat (first | (first
      | refine o_movd rfl rfl ?_
      | refine o_movp rfl rfl ?_
      | refine o_mova rfl rfl ?_
      | refine o_mov rfl rfl ?_
      | refine o_asgd rfl rfl ?_
      | refine o_asgo rfl rfl ?_
      | refine o_toInt rfl rfl (by (first | omega | (simp only [m64, mU, m8, n64, nU, n8, b64, bU, b8]; omega))) (by (first | omega | (simp only [m64, mU, m8, n64, nU, n8, b64, bU, b8]; omega))) ?_
      | refine o_lssn rfl rfl rfl ?_
      | refine o_not rfl rfl ?_
      | refine o_addkn rfl rfl rfl (by decide) (by (first | omega | (simp only [m64, mU, m8, n64, nU, n8, b64, bU, b8]; omega))) ?_
      | refine o_cat rfl rfl rfl (by (first | omega | (simp only [m64, mU, m8, n64, nU, n8, b64, bU, b8]; omega))) ?_
      | refine o_add rfl rfl rfl (by omega) (by omega) ?_
      | refine op_nil ?_
      | refine o_bin rfl rfl rfl rfl ?_) | (first
      | refine wp_seq ?_
      | refine wp_ops ?_
      | refine wp_keep ?_
      | refine keepN (by (simp +decide only [Slots.keep, Slots.get, reduceIte]); exact rfl) ?_
      | refine wp_block ?_
      | refine wp_skip ?_
      | refine wp_ret ?_
      | refine wp_exit ?_
      | refine bx_ret ?_
      | refine bx_here ?_
      | refine bx_exit rfl ?_))
    refine o_lcls rfl rfl (rfget2 _ _ _ _ _) ?_
    refine o_scls rfl rfl rfl (rfget1 _ _ _ _) rfl (rfset1 _ _ _ _ _) ?_
    repeat (first | (first
      | refine o_movd rfl rfl ?_
      | refine o_movp rfl rfl ?_
      | refine o_mova rfl rfl ?_
      | refine o_mov rfl rfl ?_
      | refine o_asgd rfl rfl ?_
      | refine o_asgo rfl rfl ?_
      | refine o_toInt rfl rfl (by (first | omega | (simp only [m64, mU, m8, n64, nU, n8, b64, bU, b8]; omega))) (by (first | omega | (simp only [m64, mU, m8, n64, nU, n8, b64, bU, b8]; omega))) ?_
      | refine o_lssn rfl rfl rfl ?_
      | refine o_not rfl rfl ?_
      | refine o_addkn rfl rfl rfl (by decide) (by (first | omega | (simp only [m64, mU, m8, n64, nU, n8, b64, bU, b8]; omega))) ?_
      | refine o_cat rfl rfl rfl (by (first | omega | (simp only [m64, mU, m8, n64, nU, n8, b64, bU, b8]; omega))) ?_
      | refine o_add rfl rfl rfl (by omega) (by omega) ?_
      | refine op_nil ?_
      | refine o_bin rfl rfl rfl rfl ?_) | (first
      | refine wp_seq ?_
      | refine wp_ops ?_
      | refine wp_keep ?_
      | refine keepN (by (simp +decide only [Slots.keep, Slots.get, reduceIte]); exact rfl) ?_
      | refine wp_block ?_
      | refine wp_skip ?_
      | refine wp_ret ?_
      | refine wp_exit ?_
      | refine bx_ret ?_
      | refine bx_here ?_
      | refine bx_exit rfl ?_))
    refine end_cls rfl rfl rfl (rfget1 _ _ _ _) (by simp)
end Go.Ab.R04
