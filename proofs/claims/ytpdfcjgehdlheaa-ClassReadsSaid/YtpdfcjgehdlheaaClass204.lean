/- Sets of bytes as numbers; texts of bytes. -/
import Derived.Test.YtpdfcjgehdlheaaClass104
import Derived.Test.YtpdfcjgehdlheaaA33
namespace Go.Ab.R04
set_option maxRecDepth 100000
set_option linter.all false
set_option maxHeartbeats 4000000
variable {T : Tb} [hT : Base T]

def wd (n i : Nat) : Nat := n / 2 ^ (64 * i) % 2 ^ 64
def wdv (n i : Nat) : AV := .nat .u64 (wd n i)
def clsC (n : Nat) : List AV := [wdv n 0, wdv n 1, wdv n 2, wdv n 3]
def cls (n : Nat) : AV := .agg (clsC n)

theorem clsC_get {n j : Nat} (h : j < 4) : (clsC n)[j]? = some (.d (.int .u64 (wd n j : Nat))) := by
  rcases j with _ | _ | _ | _ | j
  · rfl
  · rfl
  · rfl
  · rfl
  · omega

theorem get_last (rf : Refs) (x : List AV) : (rf ++ [x])[rf.length]? = some x := by simp

theorem wd_bit (n c : Nat) : wd n (c / 64) / 2 ^ (c % 64) % 2 = (n.testBit c).toNat := by
  have h : (n / 2 ^ (64 * (c / 64)) % 2 ^ 64).testBit (c % 64) = n.testBit c := by
    rw [Nat.testBit_mod_two_pow, Nat.testBit_div_two_pow]
    have : c % 64 < 64 := Nat.mod_lt _ (by omega)
    rw [show c % 64 + 64 * (c / 64) = c by omega]
    simp [this]
  rw [← h, Nat.testBit_eq_decide_div_mod_eq]
  unfold wd
  generalize n / 2 ^ (64 * (c / 64)) % 2 ^ 64 / 2 ^ (c % 64) = y
  rcases Nat.mod_two_eq_zero_or_one y with h | h <;> simp [h]


theorem Has_ev (n c : Nat) (hc : c < 256) (rf : Refs) : Ev T f_class_Has [cls n, u8 c] rf (.ret (bl (n.testBit c))) rf := by
  have hb : n.testBit c = decide (wd n (c / 64) / 2 ^ (c % 64) % 2 = 1) := by
    rw [wd_bit]; cases n.testBit c <;> rfl
  have hw : wd n (c / 64) < 2 ^ 64 := Nat.mod_lt _ (by omega)
  have hw2 := Nat.div_le_self (wd n (c / 64)) (2 ^ (c % 64))
  rw [hb]
  refine ev_callB rfl rfl ?_
  repeat (first | (first
      | refine o_asgd rfl rfl ?_
      | refine o_asgo rfl rfl ?_
      | refine o_movd rfl rfl ?_
      | refine o_movp rfl rfl ?_
      | refine o_mova rfl rfl ?_
      | refine o_mov rfl rfl ?_
      | refine o_quon rfl rfl rfl (by (first | omega | (simp only [m64, mU, m8, n64, nU, n8, b64, bU, b8]; omega))) (by decide) (by (first | omega | (simp only [m64, mU, m8, n64, nU, n8, b64, bU, b8]; omega))) ?_
      | refine o_remn rfl rfl rfl (by (first | omega | (simp only [m64, mU, m8, n64, nU, n8, b64, bU, b8]; omega))) ?_
      | refine o_shrn rfl rfl rfl (by (first | omega | (simp only [m64, mU, m8, n64, nU, n8, b64, bU, b8]; omega))) ?_
      | refine o_andn rfl rfl rfl (by (first | omega | (simp only [m64, mU, m8, n64, nU, n8, b64, bU, b8]; omega))) (by (first | omega | (simp only [m64, mU, m8, n64, nU, n8, b64, bU, b8]; omega))) (by decide) ?_
      | refine o_eqln rfl rfl rfl ?_
      | refine o_eqs rfl rfl rfl ?_
      | refine op_nil ?_
      | refine o_bin rfl rfl rfl rfl ?_) | (first
      | refine wp_seq ?_
      | refine wp_ops ?_
      | refine wp_keep ?_
      | refine keepN (by (simp +decide only [Slots.keep, Slots.get, reduceIte]); exact rfl) ?_
      | refine wp_block ?_
      | refine wp_skip ?_
      | refine wp_ret ?_
      | refine wp_exit ?_
      | refine bx_ret ?_
      | refine bx_here ?_
      | refine bx_exit rfl ?_))
  refine o_box rfl rfl rfl rfl ?_
  repeat (first | (first
      | refine o_asgd rfl rfl ?_
      | refine o_asgo rfl rfl ?_
      | refine o_movd rfl rfl ?_
      | refine o_movp rfl rfl ?_
      | refine o_mova rfl rfl ?_
      | refine o_mov rfl rfl ?_
      | refine o_quon rfl rfl rfl (by (first | omega | (simp only [m64, mU, m8, n64, nU, n8, b64, bU, b8]; omega))) (by decide) (by (first | omega | (simp only [m64, mU, m8, n64, nU, n8, b64, bU, b8]; omega))) ?_
      | refine o_remn rfl rfl rfl (by (first | omega | (simp only [m64, mU, m8, n64, nU, n8, b64, bU, b8]; omega))) ?_
      | refine o_shrn rfl rfl rfl (by (first | omega | (simp only [m64, mU, m8, n64, nU, n8, b64, bU, b8]; omega))) ?_
      | refine o_andn rfl rfl rfl (by (first | omega | (simp only [m64, mU, m8, n64, nU, n8, b64, bU, b8]; omega))) (by (first | omega | (simp only [m64, mU, m8, n64, nU, n8, b64, bU, b8]; omega))) (by decide) ?_
      | refine o_eqln rfl rfl rfl ?_
      | refine o_eqs rfl rfl rfl ?_
      | refine op_nil ?_
      | refine o_bin rfl rfl rfl rfl ?_) | (first
      | refine wp_seq ?_
      | refine wp_ops ?_
      | refine wp_keep ?_
      | refine keepN (by (simp +decide only [Slots.keep, Slots.get, reduceIte]); exact rfl) ?_
      | refine wp_block ?_
      | refine wp_skip ?_
      | refine wp_ret ?_
      | refine wp_exit ?_
      | refine bx_ret ?_
      | refine bx_here ?_
      | refine bx_exit rfl ?_))
  refine o_idxA (j := c / 64) rfl rfl rfl rfl (by omega) ?_
  refine o_load rfl rfl (get_last _ _) (clsC_get (j := 0 + c / 64 * 1) (by omega)) ?_
  rw [show 0 + c / 64 * 1 = c / 64 by omega]
  generalize wd n (c / 64) = w at *
  repeat (first | (first
      | refine o_asgd rfl rfl ?_
      | refine o_asgo rfl rfl ?_
      | refine o_movd rfl rfl ?_
      | refine o_movp rfl rfl ?_
      | refine o_mova rfl rfl ?_
      | refine o_mov rfl rfl ?_
      | refine o_quon rfl rfl rfl (by (first | omega | (simp only [m64, mU, m8, n64, nU, n8, b64, bU, b8]; omega))) (by decide) (by (first | omega | (simp only [m64, mU, m8, n64, nU, n8, b64, bU, b8]; omega))) ?_
      | refine o_remn rfl rfl rfl (by (first | omega | (simp only [m64, mU, m8, n64, nU, n8, b64, bU, b8]; omega))) ?_
      | refine o_shrn rfl rfl rfl (by (first | omega | (simp only [m64, mU, m8, n64, nU, n8, b64, bU, b8]; omega))) ?_
      | refine o_andn rfl rfl rfl (by (first | omega | (simp only [m64, mU, m8, n64, nU, n8, b64, bU, b8]; omega))) (by (first | omega | (simp only [m64, mU, m8, n64, nU, n8, b64, bU, b8]; omega))) (by decide) ?_
      | refine o_eqln rfl rfl rfl ?_
      | refine o_eqs rfl rfl rfl ?_
      | refine op_nil ?_
      | refine o_bin rfl rfl rfl rfl ?_) | (first
      | refine wp_seq ?_
      | refine wp_ops ?_
      | refine wp_keep ?_
      | refine keepN (by (simp +decide only [Slots.keep, Slots.get, reduceIte]); exact rfl) ?_
      | refine wp_block ?_
      | refine wp_skip ?_
      | refine wp_ret ?_
      | refine wp_exit ?_
      | refine bx_ret ?_
      | refine bx_here ?_
      | refine bx_exit rfl ?_))
  refine end1 rfl rfl rfl ?_ (by first | rfl | simp)
  rw [Nat.and_one_is_mod]

def hexd (c : Nat) : UInt8 := if c < 10 then UInt8.ofNat (48 + c) else UInt8.ofNat (87 + c)
def hexOf : List UInt8 → List UInt8
  | [] => []
  | b :: s => hexd (b.toNat / 16) :: hexd (b.toNat % 16) :: hexOf s

end Go.Ab.R04
