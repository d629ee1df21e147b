/- class.Read: what it comes to. -/
import Derived.Test.YtpdfcjgehdlheaaClass1004
namespace Go.Ab.R04
set_option maxRecDepth 100000
set_option linter.all false
set_option maxHeartbeats 4000000
variable {T : Tb} [hT : Base T]

def sa (x : Option (Nat × Nat)) : Nat := match x with | some (a, _) => a | none => 0
def sn (x : Option (Nat × Nat)) : Nat := match x with | some (_, n) => n | none => 0
def se (x : Option (Nat × Nat)) : Nat := match x with | some _ => 0 | none => 2

theorem signA_eq (x : Option (Nat × Nat)) : signA x = .tup [u8 (sa x), i64 (sn x), i64 (se x)] := by
  rcases x with _ | ⟨a, n⟩ <;> rfl

theorem sa_lt (s : List UInt8) : sa (sign s) < 256 := by
  rcases h : sign s with _ | ⟨a, n⟩
  · show 0 < 256; omega
  · exact (sign_len h).2.2
theorem sn_le (s : List UInt8) (i : Nat) (h : i ≤ s.length) : i + sn (sign (s.drop i)) ≤ s.length := by
  rcases h' : sign (s.drop i) with _ | ⟨a, n⟩
  · show i + 0 ≤ _; omega
  · exact (sign_drop h').2.1
theorem se_ne {x : Option (Nat × Nat)} (h : se x ≠ 0) : x = none := by
  rcases x with _ | ⟨a, n⟩
  · rfl
  · exact absurd rfl h
theorem se_two {x : Option (Nat × Nat)} (h : se x ≠ 0) : se x = 2 := by rw [se_ne h]; rfl
theorem se_eq {x : Option (Nat × Nat)} (h : ¬ se x ≠ 0) : x = some (sa x, sn x) := by
  rcases x with _ | ⟨a, n⟩
  · exact absurd (by decide) h
  · rfl
theorem sn_pos {s : List UInt8} (h : ¬ se (sign s) ≠ 0) : 1 ≤ sn (sign s) := by
  rcases h' : sign s with _ | ⟨a, n⟩
  · rw [h'] at h; exact absurd (by decide) h
  · exact (sign_len h').1
theorem hit_lt {s : List UInt8} {i c : Nat} (h : hit s i c = true) : i < s.length := by
  by_cases h' : i < s.length
  · exact h'
  · rw [hit_none (by omega)] at h; cases h

theorem SignP_ev (s : List UInt8) (rf : Refs) : Ev T f_class_Sign [str s] rf (.ret (.tup [u8 (sa (sign s)), i64 (sn (sign s)), i64 (se (sign s))])) rf := by
  have := Sign_ev (T := T) s rf
  rwa [signA_eq] at this

def fin (b : Bool) : Option (Nat × Nat) → Option (Nat × Nat)
  | none => none
  | some (k, i) => some (if b then notN (k ||| spanN 10 1) else k, i)

theorem readS_eq {s : List UInt8} (h : hit s 0 91 = true) : readS s = fin (hit s 1 94) (itms s s.length (if hit s 1 94 then 2 else 1) 0) := by
  unfold readS; rw [if_pos h]; unfold fin
  rcases itms s s.length (if hit s 1 94 then 2 else 1) 0 with _ | ⟨k, i⟩ <;> rfl

theorem itm_two {s : List UInt8} {i a n b m : Nat} (h : sign (s.drop i) = some (a, n)) (hh : hit s (i + n) 45 = true) (h2 : sign (s.drop (i + n + 1)) = some (b, m)) (h3 : ¬ b < a) : itm s i = some (a, b, i + n + 1 + m) := by
  unfold itm; rw [h]; simp only [hh, if_true]; rw [h2]; simp only [h3, if_false]
theorem itm_one {s : List UInt8} {i a n : Nat} (h : sign (s.drop i) = some (a, n)) (hh : hit s (i + n) 45 = false) : itm s i = some (a, a, i + n) := by
  unfold itm; rw [h]; simp only [hh, if_false, Bool.false_eq_true]
theorem lf1 {s : List UInt8} {f i k : Nat} (hf : s.length ≤ i + f) (h : se (sign (s.drop i)) ≠ 0) : itms s f i k = none := by
  rw [itms_step hf]; unfold itm; rw [se_ne h]
theorem lf2 {s : List UInt8} {f i k : Nat} (hf : s.length ≤ i + f) (h : ¬ se (sign (s.drop i)) ≠ 0) (hh : hit s (i + sn (sign (s.drop i))) 45 = true) (h2 : se (sign (s.drop (i + sn (sign (s.drop i)) + 1))) ≠ 0) : itms s f i k = none := by
  rw [itms_step hf]; unfold itm; rw [se_eq h]; simp only [hh, if_true]; rw [se_ne h2]
theorem lf3 {s : List UInt8} {f i k : Nat} (hf : s.length ≤ i + f) (h : ¬ se (sign (s.drop i)) ≠ 0) (hh : hit s (i + sn (sign (s.drop i))) 45 = true) (h2 : ¬ se (sign (s.drop (i + sn (sign (s.drop i)) + 1))) ≠ 0)
    (h3 : sa (sign (s.drop (i + sn (sign (s.drop i)) + 1))) < sa (sign (s.drop i))) : itms s f i k = none := by
  rw [itms_step hf]; unfold itm; rw [se_eq h]; simp only [hh, if_true]; rw [se_eq h2]; simp only [h3, if_true]
theorem lf4 {s : List UInt8} {f i k : Nat} (hf : s.length ≤ i + f) (h : ¬ se (sign (s.drop i)) ≠ 0) (hh : hit s (i + sn (sign (s.drop i))) 45 = true) (h2 : ¬ se (sign (s.drop (i + sn (sign (s.drop i)) + 1))) ≠ 0)
    (h3 : ¬ sa (sign (s.drop (i + sn (sign (s.drop i)) + 1))) < sa (sign (s.drop i))) : itms s f i k =
      if hit s (i + sn (sign (s.drop i)) + 1 + sn (sign (s.drop (i + sn (sign (s.drop i)) + 1)))) 93 then some (k ||| spanN (sa (sign (s.drop i))) (sa (sign (s.drop (i + sn (sign (s.drop i)) + 1))) + 1 - sa (sign (s.drop i))), i + sn (sign (s.drop i)) + 1 + sn (sign (s.drop (i + sn (sign (s.drop i)) + 1))) + 1)
      else itms s (f - 1) (i + sn (sign (s.drop i)) + 1 + sn (sign (s.drop (i + sn (sign (s.drop i)) + 1)))) (k ||| spanN (sa (sign (s.drop i))) (sa (sign (s.drop (i + sn (sign (s.drop i)) + 1))) + 1 - sa (sign (s.drop i)))) := by
  rw [itms_step hf, itm_two (se_eq h) hh (se_eq h2) h3]
theorem lf5 {s : List UInt8} {f i k : Nat} (hf : s.length ≤ i + f) (h : ¬ se (sign (s.drop i)) ≠ 0) (hh : hit s (i + sn (sign (s.drop i))) 45 = false) : itms s f i k =
      if hit s (i + sn (sign (s.drop i))) 93 then some (k ||| spanN (sa (sign (s.drop i))) (sa (sign (s.drop i)) + 1 - sa (sign (s.drop i))), i + sn (sign (s.drop i)) + 1)
      else itms s (f - 1) (i + sn (sign (s.drop i))) (k ||| spanN (sa (sign (s.drop i))) (sa (sign (s.drop i)) + 1 - sa (sign (s.drop i)))) := by
  rw [itms_step hf, itm_one (se_eq h) hh]

def fnT (n : Nat) : AV := .fn (.func f_class_Read_1) [] [.ptr (n + 3) 0, .ptr n 0]

theorem Read_ev (s : List UInt8) (hs : s.length < 2 ^ 38) (rf : Refs) : Ev T f_class_Read [str s] rf (.ret (readA (readS s))) rf := by
  have ht0 := takes_ev (T := T) s 0 91 (by omega) (by omega) rf z4 z4
  have ht1 := takes_ev (T := T) s 1 94 (by omega) (by omega) rf z4 z4
  refine ev_callB rfl rfl ?_
  repeat (first | (first
      | refine o_skip rfl ?_
      | (refine o_ifp rfl ?_ ?_ <;> intro hq_ hg_ <;> first | (exfalso; omega) | (simp only [hg_]; clear hg_))
      | refine o_asgd rfl rfl ?_
      | refine o_asgo rfl rfl ?_
      | refine o_movd rfl rfl ?_
      | refine o_movp rfl rfl ?_
      | refine o_mova rfl rfl ?_
      | refine o_mov rfl rfl ?_
      | refine o_extr rfl rfl rfl ?_
      | refine o_addkn rfl rfl rfl (by decide) (by (first | omega | (simp only [m64, mU, m8, n64, nU, n8, b64, bU, b8]; omega))) ?_
      | refine o_cat rfl rfl rfl (by (first | omega | (simp only [m64, mU, m8, n64, nU, n8, b64, bU, b8]; omega))) ?_
      | refine o_add rfl rfl rfl (by omega) (by omega) ?_
      | refine o_gtrn rfl rfl rfl ?_
      | refine o_pickt rfl rfl rfl ?_
      | refine o_pickf rfl rfl rfl ?_
      | refine o_neqn rfl rfl rfl ?_
      | refine o_nes rfl rfl rfl ?_
      | refine o_not rfl rfl ?_
      | refine op_nil ?_
      | refine o_bin rfl rfl rfl rfl ?_) | (first
      | refine wp_seq ?_
      | refine wp_ops ?_
      | refine wp_keep ?_
      | refine keepN (by (simp +decide only [Slots.keep, Slots.get, reduceIte]); exact rfl) ?_
      | refine wp_block ?_
      | refine wp_skip ?_
      | refine wp_ret ?_
      | refine wp_exit ?_
      | refine bx_ret ?_
      | refine bx_here ?_
      | refine bx_exit rfl ?_))
  refine o_box (cs := [str s]) rfl rfl rfl rfl ?_
  refine o_alloc rfl ?_
  repeat (first | (first
      | refine o_skip rfl ?_
      | (refine o_ifp rfl ?_ ?_ <;> intro hq_ hg_ <;> first | (exfalso; omega) | (simp only [hg_]; clear hg_))
      | refine o_asgd rfl rfl ?_
      | refine o_asgo rfl rfl ?_
      | refine o_movd rfl rfl ?_
      | refine o_movp rfl rfl ?_
      | refine o_mova rfl rfl ?_
      | refine o_mov rfl rfl ?_
      | refine o_extr rfl rfl rfl ?_
      | refine o_addkn rfl rfl rfl (by decide) (by (first | omega | (simp only [m64, mU, m8, n64, nU, n8, b64, bU, b8]; omega))) ?_
      | refine o_cat rfl rfl rfl (by (first | omega | (simp only [m64, mU, m8, n64, nU, n8, b64, bU, b8]; omega))) ?_
      | refine o_add rfl rfl rfl (by omega) (by omega) ?_
      | refine o_gtrn rfl rfl rfl ?_
      | refine o_pickt rfl rfl rfl ?_
      | refine o_pickf rfl rfl rfl ?_
      | refine o_neqn rfl rfl rfl ?_
      | refine o_nes rfl rfl rfl ?_
      | refine o_not rfl rfl ?_
      | refine op_nil ?_
      | refine o_bin rfl rfl rfl rfl ?_) | (first
      | refine wp_seq ?_
      | refine wp_ops ?_
      | refine wp_keep ?_
      | refine keepN (by (simp +decide only [Slots.keep, Slots.get, reduceIte]); exact rfl) ?_
      | refine wp_block ?_
      | refine wp_skip ?_
      | refine wp_ret ?_
      | refine wp_exit ?_
      | refine bx_ret ?_
      | refine bx_here ?_
      | refine bx_exit rfl ?_))
  refine o_alloc rfl ?_
  repeat (first | (first
      | refine o_skip rfl ?_
      | (refine o_ifp rfl ?_ ?_ <;> intro hq_ hg_ <;> first | (exfalso; omega) | (simp only [hg_]; clear hg_))
      | refine o_asgd rfl rfl ?_
      | refine o_asgo rfl rfl ?_
      | refine o_movd rfl rfl ?_
      | refine o_movp rfl rfl ?_
      | refine o_mova rfl rfl ?_
      | refine o_mov rfl rfl ?_
      | refine o_extr rfl rfl rfl ?_
      | refine o_addkn rfl rfl rfl (by decide) (by (first | omega | (simp only [m64, mU, m8, n64, nU, n8, b64, bU, b8]; omega))) ?_
      | refine o_cat rfl rfl rfl (by (first | omega | (simp only [m64, mU, m8, n64, nU, n8, b64, bU, b8]; omega))) ?_
      | refine o_add rfl rfl rfl (by omega) (by omega) ?_
      | refine o_gtrn rfl rfl rfl ?_
      | refine o_pickt rfl rfl rfl ?_
      | refine o_pickf rfl rfl rfl ?_
      | refine o_neqn rfl rfl rfl ?_
      | refine o_nes rfl rfl rfl ?_
      | refine o_not rfl rfl ?_
      | refine op_nil ?_
      | refine o_bin rfl rfl rfl rfl ?_) | (first
      | refine wp_seq ?_
      | refine wp_ops ?_
      | refine wp_keep ?_
      | refine keepN (by (simp +decide only [Slots.keep, Slots.get, reduceIte]); exact rfl) ?_
      | refine wp_block ?_
      | refine wp_skip ?_
      | refine wp_ret ?_
      | refine wp_exit ?_
      | refine bx_ret ?_
      | refine bx_here ?_
      | refine bx_exit rfl ?_))
  refine o_alloc rfl ?_
  simp only [List.length_append, List.length_cons, List.length_nil, List.append_assoc, List.cons_append, List.nil_append, Nat.zero_add, Nat.add_assoc, Nat.reduceAdd]
  refine o_store1 rfl rfl rfl (rfget3 _ _ _ _ _ _) (by show 0 < 1; decide) rfl (rfset3 _ _ _ _ _ _ _) ?_
  repeat (first | (first
      | refine o_skip rfl ?_
      | (refine o_ifp rfl ?_ ?_ <;> intro hq_ hg_ <;> first | (exfalso; omega) | (simp only [hg_]; clear hg_))
      | refine o_asgd rfl rfl ?_
      | refine o_asgo rfl rfl ?_
      | refine o_movd rfl rfl ?_
      | refine o_movp rfl rfl ?_
      | refine o_mova rfl rfl ?_
      | refine o_mov rfl rfl ?_
      | refine o_extr rfl rfl rfl ?_
      | refine o_addkn rfl rfl rfl (by decide) (by (first | omega | (simp only [m64, mU, m8, n64, nU, n8, b64, bU, b8]; omega))) ?_
      | refine o_cat rfl rfl rfl (by (first | omega | (simp only [m64, mU, m8, n64, nU, n8, b64, bU, b8]; omega))) ?_
      | refine o_add rfl rfl rfl (by omega) (by omega) ?_
      | refine o_gtrn rfl rfl rfl ?_
      | refine o_pickt rfl rfl rfl ?_
      | refine o_pickf rfl rfl rfl ?_
      | refine o_neqn rfl rfl rfl ?_
      | refine o_nes rfl rfl rfl ?_
      | refine o_not rfl rfl ?_
      | refine op_nil ?_
      | refine o_bin rfl rfl rfl rfl ?_) | (first
      | refine wp_seq ?_
      | refine wp_ops ?_
      | refine wp_keep ?_
      | refine keepN (by (simp +decide only [Slots.keep, Slots.get, reduceIte]); exact rfl) ?_
      | refine wp_block ?_
      | refine wp_skip ?_
      | refine wp_ret ?_
      | refine wp_exit ?_
      | refine bx_ret ?_
      | refine bx_here ?_
      | refine bx_exit rfl ?_))
  refine o_mkfn rfl rfl rfl ?_
  refine o_asg rfl rfl (fun _ h_ => by cases h_) ?_
  repeat (first | (first
      | refine o_skip rfl ?_
      | (refine o_ifp rfl ?_ ?_ <;> intro hq_ hg_ <;> first | (exfalso; omega) | (simp only [hg_]; clear hg_))
      | refine o_asgd rfl rfl ?_
      | refine o_asgo rfl rfl ?_
      | refine o_movd rfl rfl ?_
      | refine o_movp rfl rfl ?_
      | refine o_mova rfl rfl ?_
      | refine o_mov rfl rfl ?_
      | refine o_extr rfl rfl rfl ?_
      | refine o_addkn rfl rfl rfl (by decide) (by (first | omega | (simp only [m64, mU, m8, n64, nU, n8, b64, bU, b8]; omega))) ?_
      | refine o_cat rfl rfl rfl (by (first | omega | (simp only [m64, mU, m8, n64, nU, n8, b64, bU, b8]; omega))) ?_
      | refine o_add rfl rfl rfl (by omega) (by omega) ?_
      | refine o_gtrn rfl rfl rfl ?_
      | refine o_pickt rfl rfl rfl ?_
      | refine o_pickf rfl rfl rfl ?_
      | refine o_neqn rfl rfl rfl ?_
      | refine o_nes rfl rfl rfl ?_
      | refine o_not rfl rfl ?_
      | refine op_nil ?_
      | refine o_bin rfl rfl rfl rfl ?_) | (first
      | refine wp_seq ?_
      | refine wp_ops ?_
      | refine wp_keep ?_
      | refine keepN (by (simp +decide only [Slots.keep, Slots.get, reduceIte]); exact rfl) ?_
      | refine wp_block ?_
      | refine wp_skip ?_
      | refine wp_ret ?_
      | refine wp_exit ?_
      | refine bx_ret ?_
      | refine bx_here ?_
      | refine bx_exit rfl ?_))
  refine o_callc rfl rfl rfl ht0 ?_
  cases h91 : hit s 0 91
  · have hR : readS s = none := by unfold readS; rw [h91]; rfl
    rw [hR]
    repeat (first | (first
      | refine o_skip rfl ?_
      | (refine o_ifp rfl ?_ ?_ <;> intro hq_ hg_ <;> first | (exfalso; omega) | (simp only [hg_]; clear hg_))
      | refine o_asgd rfl rfl ?_
      | refine o_asgo rfl rfl ?_
      | refine o_movd rfl rfl ?_
      | refine o_movp rfl rfl ?_
      | refine o_mova rfl rfl ?_
      | refine o_mov rfl rfl ?_
      | refine o_extr rfl rfl rfl ?_
      | refine o_addkn rfl rfl rfl (by decide) (by (first | omega | (simp only [m64, mU, m8, n64, nU, n8, b64, bU, b8]; omega))) ?_
      | refine o_cat rfl rfl rfl (by (first | omega | (simp only [m64, mU, m8, n64, nU, n8, b64, bU, b8]; omega))) ?_
      | refine o_add rfl rfl rfl (by omega) (by omega) ?_
      | refine o_gtrn rfl rfl rfl ?_
      | refine o_pickt rfl rfl rfl ?_
      | refine o_pickf rfl rfl rfl ?_
      | refine o_neqn rfl rfl rfl ?_
      | refine o_nes rfl rfl rfl ?_
      | refine o_not rfl rfl ?_
      | refine op_nil ?_
      | refine o_bin rfl rfl rfl rfl ?_) | (first
      | refine wp_seq ?_
      | refine wp_ops ?_
      | refine wp_keep ?_
      | refine keepN (by (simp +decide only [Slots.keep, Slots.get, reduceIte]); exact rfl) ?_
      | refine wp_block ?_
      | refine wp_skip ?_
      | refine wp_ret ?_
      | refine wp_exit ?_
      | refine bx_ret ?_
      | refine bx_here ?_
      | refine bx_exit rfl ?_))
    refine wp_cond (b := true) rfl (fun _ => ?_) (fun h => absurd h (by decide))
    repeat (first | (first
      | refine o_skip rfl ?_
      | (refine o_ifp rfl ?_ ?_ <;> intro hq_ hg_ <;> first | (exfalso; omega) | (simp only [hg_]; clear hg_))
      | refine o_asgd rfl rfl ?_
      | refine o_asgo rfl rfl ?_
      | refine o_movd rfl rfl ?_
      | refine o_movp rfl rfl ?_
      | refine o_mova rfl rfl ?_
      | refine o_mov rfl rfl ?_
      | refine o_extr rfl rfl rfl ?_
      | refine o_addkn rfl rfl rfl (by decide) (by (first | omega | (simp only [m64, mU, m8, n64, nU, n8, b64, bU, b8]; omega))) ?_
      | refine o_cat rfl rfl rfl (by (first | omega | (simp only [m64, mU, m8, n64, nU, n8, b64, bU, b8]; omega))) ?_
      | refine o_add rfl rfl rfl (by omega) (by omega) ?_
      | refine o_gtrn rfl rfl rfl ?_
      | refine o_pickt rfl rfl rfl ?_
      | refine o_pickf rfl rfl rfl ?_
      | refine o_neqn rfl rfl rfl ?_
      | refine o_nes rfl rfl rfl ?_
      | refine o_not rfl rfl ?_
      | refine op_nil ?_
      | refine o_bin rfl rfl rfl rfl ?_) | (first
      | refine wp_seq ?_
      | refine wp_ops ?_
      | refine wp_keep ?_
      | refine keepN (by (simp +decide only [Slots.keep, Slots.get, reduceIte]); exact rfl) ?_
      | refine wp_block ?_
      | refine wp_skip ?_
      | refine wp_ret ?_
      | refine wp_exit ?_
      | refine bx_ret ?_
      | refine bx_here ?_
      | refine bx_exit rfl ?_))
    refine o_lcls (k := 0) rfl rfl (rfget2 _ _ _ _ _) ?_
    refine o_scls rfl rfl rfl (rfget1 _ _ _ _) rfl (rfset1 _ _ _ _ _) ?_
    repeat (first | (first
      | refine o_skip rfl ?_
      | (refine o_ifp rfl ?_ ?_ <;> intro hq_ hg_ <;> first | (exfalso; omega) | (simp only [hg_]; clear hg_))
      | refine o_asgd rfl rfl ?_
      | refine o_asgo rfl rfl ?_
      | refine o_movd rfl rfl ?_
      | refine o_movp rfl rfl ?_
      | refine o_mova rfl rfl ?_
      | refine o_mov rfl rfl ?_
      | refine o_extr rfl rfl rfl ?_
      | refine o_addkn rfl rfl rfl (by decide) (by (first | omega | (simp only [m64, mU, m8, n64, nU, n8, b64, bU, b8]; omega))) ?_
      | refine o_cat rfl rfl rfl (by (first | omega | (simp only [m64, mU, m8, n64, nU, n8, b64, bU, b8]; omega))) ?_
      | refine o_add rfl rfl rfl (by omega) (by omega) ?_
      | refine o_gtrn rfl rfl rfl ?_
      | refine o_pickt rfl rfl rfl ?_
      | refine o_pickf rfl rfl rfl ?_
      | refine o_neqn rfl rfl rfl ?_
      | refine o_nes rfl rfl rfl ?_
      | refine o_not rfl rfl ?_
      | refine op_nil ?_
      | refine o_bin rfl rfl rfl rfl ?_) | (first
      | refine wp_seq ?_
      | refine wp_ops ?_
      | refine wp_keep ?_
      | refine keepN (by (simp +decide only [Slots.keep, Slots.get, reduceIte]); exact rfl) ?_
      | refine wp_block ?_
      | refine wp_skip ?_
      | refine wp_ret ?_
      | refine wp_exit ?_
      | refine bx_ret ?_
      | refine bx_here ?_
      | refine bx_exit rfl ?_))
    refine end_read rfl rfl rfl (rfget1 _ _ _ _) rfl rfl rfl (by simp)
  · rw [readS_eq h91]
    repeat (first | (first
      | refine o_skip rfl ?_
      | (refine o_ifp rfl ?_ ?_ <;> intro hq_ hg_ <;> first | (exfalso; omega) | (simp only [hg_]; clear hg_))
      | refine o_asgd rfl rfl ?_
      | refine o_asgo rfl rfl ?_
      | refine o_movd rfl rfl ?_
      | refine o_movp rfl rfl ?_
      | refine o_mova rfl rfl ?_
      | refine o_mov rfl rfl ?_
      | refine o_extr rfl rfl rfl ?_
      | refine o_addkn rfl rfl rfl (by decide) (by (first | omega | (simp only [m64, mU, m8, n64, nU, n8, b64, bU, b8]; omega))) ?_
      | refine o_cat rfl rfl rfl (by (first | omega | (simp only [m64, mU, m8, n64, nU, n8, b64, bU, b8]; omega))) ?_
      | refine o_add rfl rfl rfl (by omega) (by omega) ?_
      | refine o_gtrn rfl rfl rfl ?_
      | refine o_pickt rfl rfl rfl ?_
      | refine o_pickf rfl rfl rfl ?_
      | refine o_neqn rfl rfl rfl ?_
      | refine o_nes rfl rfl rfl ?_
      | refine o_not rfl rfl ?_
      | refine op_nil ?_
      | refine o_bin rfl rfl rfl rfl ?_) | (first
      | refine wp_seq ?_
      | refine wp_ops ?_
      | refine wp_keep ?_
      | refine keepN (by (simp +decide only [Slots.keep, Slots.get, reduceIte]); exact rfl) ?_
      | refine wp_block ?_
      | refine wp_skip ?_
      | refine wp_ret ?_
      | refine wp_exit ?_
      | refine bx_ret ?_
      | refine bx_here ?_
      | refine bx_exit rfl ?_))
    refine wp_cond (b := false) rfl (fun h => absurd h (by decide)) (fun _ => ?_)
    repeat (first | (first
      | refine o_skip rfl ?_
      | (refine o_ifp rfl ?_ ?_ <;> intro hq_ hg_ <;> first | (exfalso; omega) | (simp only [hg_]; clear hg_))
      | refine o_asgd rfl rfl ?_
      | refine o_asgo rfl rfl ?_
      | refine o_movd rfl rfl ?_
      | refine o_movp rfl rfl ?_
      | refine o_mova rfl rfl ?_
      | refine o_mov rfl rfl ?_
      | refine o_extr rfl rfl rfl ?_
      | refine o_addkn rfl rfl rfl (by decide) (by (first | omega | (simp only [m64, mU, m8, n64, nU, n8, b64, bU, b8]; omega))) ?_
      | refine o_cat rfl rfl rfl (by (first | omega | (simp only [m64, mU, m8, n64, nU, n8, b64, bU, b8]; omega))) ?_
      | refine o_add rfl rfl rfl (by omega) (by omega) ?_
      | refine o_gtrn rfl rfl rfl ?_
      | refine o_pickt rfl rfl rfl ?_
      | refine o_pickf rfl rfl rfl ?_
      | refine o_neqn rfl rfl rfl ?_
      | refine o_nes rfl rfl rfl ?_
      | refine o_not rfl rfl ?_
      | refine op_nil ?_
      | refine o_bin rfl rfl rfl rfl ?_) | (first
      | refine wp_seq ?_
      | refine wp_ops ?_
      | refine wp_keep ?_
      | refine keepN (by (simp +decide only [Slots.keep, Slots.get, reduceIte]); exact rfl) ?_
      | refine wp_block ?_
      | refine wp_skip ?_
      | refine wp_ret ?_
      | refine wp_exit ?_
      | refine bx_ret ?_
      | refine bx_here ?_
      | refine bx_exit rfl ?_))
    refine o_callc rfl rfl rfl ht1 ?_
    have h0 : 0 < s.length := hit_lt h91
    have h94l : hit s 1 94 = true → 1 < s.length := hit_lt
    generalize hit s 1 94 = b94 at *
    have hi0 : (if b94 = true then 1 + 1 else 1) ≤ s.length ∧ (if b94 = true then 2 else 1) = (if b94 = true then 1 + 1 else 1) := by cases b94 <;> simp_all <;> omega
    rw [hi0.2]
    have hi0 := hi0.1
    generalize (if b94 = true then 1 + 1 else 1) = i0 at *
    repeat (first | (first
      | refine o_skip rfl ?_
      | (refine o_ifp rfl ?_ ?_ <;> intro hq_ hg_ <;> first | (exfalso; omega) | (simp only [hg_]; clear hg_))
      | refine o_asgd rfl rfl ?_
      | refine o_asgo rfl rfl ?_
      | refine o_movd rfl rfl ?_
      | refine o_movp rfl rfl ?_
      | refine o_mova rfl rfl ?_
      | refine o_mov rfl rfl ?_
      | refine o_extr rfl rfl rfl ?_
      | refine o_addkn rfl rfl rfl (by decide) (by (first | omega | (simp only [m64, mU, m8, n64, nU, n8, b64, bU, b8]; omega))) ?_
      | refine o_cat rfl rfl rfl (by (first | omega | (simp only [m64, mU, m8, n64, nU, n8, b64, bU, b8]; omega))) ?_
      | refine o_add rfl rfl rfl (by omega) (by omega) ?_
      | refine o_gtrn rfl rfl rfl ?_
      | refine o_pickt rfl rfl rfl ?_
      | refine o_pickf rfl rfl rfl ?_
      | refine o_neqn rfl rfl rfl ?_
      | refine o_nes rfl rfl rfl ?_
      | refine o_not rfl rfl ?_
      | refine op_nil ?_
      | refine o_bin rfl rfl rfl rfl ?_) | (first
      | refine wp_seq ?_
      | refine wp_ops ?_
      | refine wp_keep ?_
      | refine keepN (by (simp +decide only [Slots.keep, Slots.get, reduceIte]); exact rfl) ?_
      | refine wp_block ?_
      | refine wp_skip ?_
      | refine wp_ret ?_
      | refine wp_exit ?_
      | refine bx_ret ?_
      | refine bx_here ?_
      | refine bx_exit rfl ?_))
    obtain ⟨R, hR0⟩ : ∃ R, R = itms s s.length i0 0 := ⟨_, rfl⟩
    rw [← hR0]
    refine wp_loop (m := s.length + 1 - i0) (fun m st => ∃ many i k f, m = s.length + 1 - i ∧ i ≤ s.length ∧ many ≤ i ∧ s.length ≤ i + f ∧ R = (if many = 0 then itms s f i k else if hit s i 93 then some (k, i + 1) else itms s f i k) ∧
      st = ⟨[(1, .ptr rf.length 0), (2, .ptr (rf.length + 1) 0), (5, .ptr (rf.length + 2) 0), (6, .ptr (rf.length + 3) 0), (7, fnT rf.length), (8, bl b94), (9, i64 (many : Nat))], rf ++ [[str s], z4, clsC k, [i64 (i : Nat)]], [], none, rf.length⟩) ⟨0, i0, 0, s.length, rfl, hi0, by omega, by omega, hR0, rfl⟩ ?_
    clear hR0
    rintro m st ⟨many, i, k, f, rfl, hi, hmany, hf, hR, rfl⟩ -
    refine wp_seq ?_
    refine wp_keep ?_
    refine wp_block ?_
    refine wp_seq ?_
    refine wp_seq ?_
    refine wp_ops ?_
    first | refine o_movd rfl rfl ?_ | refine o_movp rfl rfl ?_ | refine o_mova rfl rfl ?_ | refine o_mov rfl rfl ?_
    first | refine o_gtrn rfl rfl rfl ?_ | refine o_bin rfl rfl rfl rfl ?_
    first | refine o_movd rfl rfl ?_ | refine o_movp rfl rfl ?_ | refine o_mova rfl rfl ?_ | refine o_mov rfl rfl ?_
    refine o_ifp rfl ?_ ?_ <;> intro hq_ hg_ <;> simp only [hg_] <;> clear hg_
    · first
      | exfalso; omega
      | skip
        refine o_mov rfl rfl ?_
        refine o_callc rfl rfl rfl (takes_ev s i 93 (by omega) (by omega) rf _ _) ?_
        refine o_pickt rfl rfl rfl ?_
        refine op_nil ?_
        first | refine wp_if rfl ?_ ?_ <;> intro hq_ | refine wp_cond rfl ?_ ?_ <;> intro hq_
        · first
          | exfalso; omega
          | skip
            refine wp_exit ?_
            refine bx_exit rfl ?_
            refine bx_here ?_
            refine keepN (by (simp +decide only [Slots.keep, Slots.get, reduceIte]); exact rfl) ?_
            refine wp_seq ?_
            refine wp_seq ?_
            refine wp_ops ?_
            first | refine o_movd rfl rfl ?_ | refine o_movp rfl rfl ?_ | refine o_mova rfl rfl ?_ | refine o_mov rfl rfl ?_
            refine op_nil ?_
            first | refine wp_if rfl ?_ ?_ <;> intro hq_ | refine wp_cond rfl ?_ ?_ <;> intro hq_
            · first
              | exfalso; omega
              | skip
                refine wp_ops ?_
                refine o_lcls rfl rfl (rfget2 _ _ _ _ _) ?_
                refine o_callz rfl rfl rfl rfl (One_ev 10 (by decide) _) ?_
                refine o_call rfl rfl rfl (Or_ev _ _ _) ?_
                refine o_call rfl rfl rfl (Not_ev _ _) ?_
                first | (refine o_store1 rfl rfl rfl (rfget3 _ _ _ _ _ _) (by show 0 < 1; decide) rfl (rfset3 _ _ _ _ _ _ _) ?_) | (refine o_scls (k := 0) rfl rfl rfl (rfget1 _ _ _ _) rfl (rfset1 _ _ _ _ _) ?_) | (refine o_scls rfl rfl rfl (rfget2 _ _ _ _ _) rfl (rfset2 _ _ _ _ _ _) ?_)
                refine op_nil ?_
                refine wp_seq ?_
                refine wp_ops ?_
                refine o_lcls rfl rfl (rfget2 _ _ _ _ _) ?_
                refine o_loadB rfl rfl rfl (rfget3 _ _ _ _ _ _) rfl ?_
                refine o_swcls rfl rfl rfl (by simp +decide [apartB, getO, rawO, Slots.get, AV.strip]) (rfget1 _ _ _ _) rfl (rfset1 _ _ _ _ _) ?_
                first | refine o_asgd rfl rfl ?_ | refine o_asgo rfl rfl ?_ | refine o_asg rfl rfl (fun _ h_ => by cases h_) ?_
                first | refine o_asgd rfl rfl ?_ | refine o_asgo rfl rfl ?_ | refine o_asg rfl rfl (fun _ h_ => by cases h_) ?_
                refine op_nil ?_
                refine wp_ret ?_
                refine end_read rfl rfl rfl (rfget1 _ _ _ _) rfl rfl ?_ (by simp)
                first
                | (have hR2 : R = itms s f i k := by
                     rw [hR]
                     first
                     | rw [if_pos (show many = 0 by omega)]
                     | (rw [if_neg (show ¬ many = 0 by omega)]; simp only [show hit s i 93 = false by assumption, Bool.false_eq_true, if_false])
                   rw [hR2, lf1 hf (by assumption), se_two (x := sign (s.drop i)) (by assumption)]; rfl)
                | (have hR2 : R = itms s f i k := by
                     rw [hR]
                     first
                     | rw [if_pos (show many = 0 by omega)]
                     | (rw [if_neg (show ¬ many = 0 by omega)]; simp only [show hit s i 93 = false by assumption, Bool.false_eq_true, if_false])
                   rw [hR2, lf2 hf (by assumption) (by assumption) (by assumption)]; rfl)
                | (have hR2 : R = itms s f i k := by
                     rw [hR]
                     first
                     | rw [if_pos (show many = 0 by omega)]
                     | (rw [if_neg (show ¬ many = 0 by omega)]; simp only [show hit s i 93 = false by assumption, Bool.false_eq_true, if_false])
                   rw [hR2, lf3 hf (by assumption) (by assumption) (by assumption) (by assumption)]; rfl)
                | (have hR3 : R = some (k, i + 1) := by rw [hR, if_neg (show ¬ many = 0 by omega), if_pos (by assumption)]
                   rw [hR3]; simp_all [fin, readA]; done)
            · first
              | exfalso; omega
              | skip
                refine wp_skip ?_
                refine wp_seq ?_
                refine wp_ops ?_
                refine o_lcls rfl rfl (rfget2 _ _ _ _ _) ?_
                refine o_loadB rfl rfl rfl (rfget3 _ _ _ _ _ _) rfl ?_
                refine o_swcls rfl rfl rfl (by simp +decide [apartB, getO, rawO, Slots.get, AV.strip]) (rfget1 _ _ _ _) rfl (rfset1 _ _ _ _ _) ?_
                first | refine o_asgd rfl rfl ?_ | refine o_asgo rfl rfl ?_ | refine o_asg rfl rfl (fun _ h_ => by cases h_) ?_
                first | refine o_asgd rfl rfl ?_ | refine o_asgo rfl rfl ?_ | refine o_asg rfl rfl (fun _ h_ => by cases h_) ?_
                refine op_nil ?_
                refine wp_ret ?_
                refine end_read rfl rfl rfl (rfget1 _ _ _ _) rfl rfl ?_ (by simp)
                first
                | (have hR2 : R = itms s f i k := by
                     rw [hR]
                     first
                     | rw [if_pos (show many = 0 by omega)]
                     | (rw [if_neg (show ¬ many = 0 by omega)]; simp only [show hit s i 93 = false by assumption, Bool.false_eq_true, if_false])
                   rw [hR2, lf1 hf (by assumption), se_two (x := sign (s.drop i)) (by assumption)]; rfl)
                | (have hR2 : R = itms s f i k := by
                     rw [hR]
                     first
                     | rw [if_pos (show many = 0 by omega)]
                     | (rw [if_neg (show ¬ many = 0 by omega)]; simp only [show hit s i 93 = false by assumption, Bool.false_eq_true, if_false])
                   rw [hR2, lf2 hf (by assumption) (by assumption) (by assumption)]; rfl)
                | (have hR2 : R = itms s f i k := by
                     rw [hR]
                     first
                     | rw [if_pos (show many = 0 by omega)]
                     | (rw [if_neg (show ¬ many = 0 by omega)]; simp only [show hit s i 93 = false by assumption, Bool.false_eq_true, if_false])
                   rw [hR2, lf3 hf (by assumption) (by assumption) (by assumption) (by assumption)]; rfl)
                | (have hR3 : R = some (k, i + 1) := by rw [hR, if_neg (show ¬ many = 0 by omega), if_pos (by assumption)]
                   rw [hR3]; simp_all [fin, readA]; done)
        · first
          | exfalso; omega
          | skip
            refine wp_skip ?_
            refine wp_seq ?_
            refine wp_ops ?_
            (try simp only [hq_, Bool.false_eq_true, if_false]); refine o_load rfl rfl (rfget0 _ _ _) rfl ?_
            refine o_load rfl rfl (rfget3 _ _ _ _ _ _) rfl ?_
            refine o_sub0 rfl rfl rfl rfl (by omega) ?_
            refine o_call rfl rfl rfl (SignP_ev (s.drop i) _) ?_
            refine o_mov rfl rfl ?_
            refine o_extr rfl rfl rfl ?_
            refine o_extr rfl rfl rfl ?_
            refine o_extr rfl rfl rfl ?_
            first | refine o_asgd rfl rfl ?_ | refine o_asgo rfl rfl ?_ | refine o_asg rfl rfl (fun _ h_ => by cases h_) ?_
            first | refine o_asgd rfl rfl ?_ | refine o_asgo rfl rfl ?_ | refine o_asg rfl rfl (fun _ h_ => by cases h_) ?_
            first | refine o_asgd rfl rfl ?_ | refine o_asgo rfl rfl ?_ | refine o_asg rfl rfl (fun _ h_ => by cases h_) ?_
            refine op_nil ?_
            refine wp_seq ?_
            refine wp_seq ?_
            refine wp_ops ?_
            first | refine o_movd rfl rfl ?_ | refine o_movp rfl rfl ?_ | refine o_mova rfl rfl ?_ | refine o_mov rfl rfl ?_
            first | refine o_neqn rfl rfl rfl ?_ | refine o_nes rfl rfl rfl ?_ | refine o_bin rfl rfl rfl rfl ?_
            refine op_nil ?_
            first | refine wp_if rfl ?_ ?_ <;> intro hq_ | refine wp_cond rfl ?_ ?_ <;> intro hq_
            · first
              | exfalso; omega
              | skip
                refine wp_seq ?_
                refine wp_ops ?_
                refine o_build (cs := clsC 0) rfl rfl ?_
                first | refine o_movd rfl rfl ?_ | refine o_movp rfl rfl ?_ | refine o_mova rfl rfl ?_ | refine o_mov rfl rfl ?_
                first | (refine o_store1 rfl rfl rfl (rfget3 _ _ _ _ _ _) (by show 0 < 1; decide) rfl (rfset3 _ _ _ _ _ _ _) ?_) | (refine o_scls (k := 0) rfl rfl rfl (rfget1 _ _ _ _) rfl (rfset1 _ _ _ _ _) ?_) | (refine o_scls rfl rfl rfl (rfget2 _ _ _ _ _) rfl (rfset2 _ _ _ _ _ _) ?_)
                first | refine o_asgd rfl rfl ?_ | refine o_asgo rfl rfl ?_ | refine o_asg rfl rfl (fun _ h_ => by cases h_) ?_
                first | refine o_asgd rfl rfl ?_ | refine o_asgo rfl rfl ?_ | refine o_asg rfl rfl (fun _ h_ => by cases h_) ?_
                refine op_nil ?_
                refine wp_ret ?_
                refine bx_ret ?_
                refine bx_ret ?_
                refine end_read rfl rfl rfl (rfget1 _ _ _ _) rfl rfl ?_ (by simp)
                first
                | (have hR2 : R = itms s f i k := by
                     rw [hR]
                     first
                     | rw [if_pos (show many = 0 by omega)]
                     | (rw [if_neg (show ¬ many = 0 by omega)]; simp only [show hit s i 93 = false by assumption, Bool.false_eq_true, if_false])
                   rw [hR2, lf1 hf (by assumption), se_two (x := sign (s.drop i)) (by assumption)]; rfl)
                | (have hR2 : R = itms s f i k := by
                     rw [hR]
                     first
                     | rw [if_pos (show many = 0 by omega)]
                     | (rw [if_neg (show ¬ many = 0 by omega)]; simp only [show hit s i 93 = false by assumption, Bool.false_eq_true, if_false])
                   rw [hR2, lf2 hf (by assumption) (by assumption) (by assumption)]; rfl)
                | (have hR2 : R = itms s f i k := by
                     rw [hR]
                     first
                     | rw [if_pos (show many = 0 by omega)]
                     | (rw [if_neg (show ¬ many = 0 by omega)]; simp only [show hit s i 93 = false by assumption, Bool.false_eq_true, if_false])
                   rw [hR2, lf3 hf (by assumption) (by assumption) (by assumption) (by assumption)]; rfl)
                | (have hR3 : R = some (k, i + 1) := by rw [hR, if_neg (show ¬ many = 0 by omega), if_pos (by assumption)]
                   rw [hR3]; simp_all [fin, readA]; done)
            · first
              | exfalso; omega
              | skip
                refine wp_skip ?_
                refine wp_seq ?_
                refine wp_ops ?_
                refine o_load rfl rfl (rfget3 _ _ _ _ _ _) rfl ?_
                first | refine o_movd rfl rfl ?_ | refine o_movp rfl rfl ?_ | refine o_mova rfl rfl ?_ | refine o_mov rfl rfl ?_
                (have hs1_ := sn_le s i hi; refine o_addkn rfl rfl rfl (by decide) (by simp only [m64]; omega) ?_)
                first | (refine o_store1 rfl rfl rfl (rfget3 _ _ _ _ _ _) (by show 0 < 1; decide) rfl (rfset3 _ _ _ _ _ _ _) ?_) | (refine o_scls (k := 0) rfl rfl rfl (rfget1 _ _ _ _) rfl (rfset1 _ _ _ _ _) ?_) | (refine o_scls rfl rfl rfl (rfget2 _ _ _ _ _) rfl (rfset2 _ _ _ _ _ _) ?_)
                refine op_nil ?_
                refine wp_seq ?_
                refine wp_ops ?_
                first | refine o_movd rfl rfl ?_ | refine o_movp rfl rfl ?_ | refine o_mova rfl rfl ?_ | refine o_mov rfl rfl ?_
                first | refine o_asgd rfl rfl ?_ | refine o_asgo rfl rfl ?_ | refine o_asg rfl rfl (fun _ h_ => by cases h_) ?_
                refine op_nil ?_
                refine wp_seq ?_
                refine wp_seq ?_
                refine wp_ops ?_
                refine o_mov rfl rfl ?_
                refine o_callc rfl rfl rfl (takes_ev s (i + sn (sign (s.drop i))) 45 (by omega) (by omega) rf _ _) ?_
                refine op_nil ?_
                first | refine wp_if rfl ?_ ?_ <;> intro hq_ | refine wp_cond rfl ?_ ?_ <;> intro hq_
                · first
                  | exfalso; omega
                  | skip
                    refine wp_seq ?_
                    refine wp_seq ?_
                    refine wp_ops ?_
                    (have hl_ := hit_lt hq_; simp only [hq_, if_true]; refine o_load rfl rfl (rfget0 _ _ _) rfl ?_)
                    refine o_load rfl rfl (rfget3 _ _ _ _ _ _) rfl ?_
                    refine o_sub0 rfl rfl rfl rfl (by omega) ?_
                    refine o_call rfl rfl rfl (SignP_ev (s.drop (i + sn (sign (s.drop i)) + 1)) _) ?_
                    refine o_mov rfl rfl ?_
                    refine o_extr rfl rfl rfl ?_
                    refine o_extr rfl rfl rfl ?_
                    refine o_extr rfl rfl rfl ?_
                    first | refine o_asgd rfl rfl ?_ | refine o_asgo rfl rfl ?_ | refine o_asg rfl rfl (fun _ h_ => by cases h_) ?_
                    first | refine o_asgd rfl rfl ?_ | refine o_asgo rfl rfl ?_ | refine o_asg rfl rfl (fun _ h_ => by cases h_) ?_
                    first | refine o_asgd rfl rfl ?_ | refine o_asgo rfl rfl ?_ | refine o_asg rfl rfl (fun _ h_ => by cases h_) ?_
                    refine op_nil ?_
                    refine wp_seq ?_
                    refine wp_ops ?_
                    first | refine o_movd rfl rfl ?_ | refine o_movp rfl rfl ?_ | refine o_mova rfl rfl ?_ | refine o_mov rfl rfl ?_
                    first | refine o_neqn rfl rfl rfl ?_ | refine o_nes rfl rfl rfl ?_ | refine o_bin rfl rfl rfl rfl ?_
                    first | refine o_movd rfl rfl ?_ | refine o_movp rfl rfl ?_ | refine o_mova rfl rfl ?_ | refine o_mov rfl rfl ?_
                    refine o_ifp rfl ?_ ?_ <;> intro hq_ hg_ <;> simp only [hg_] <;> clear hg_
                    · first
                      | exfalso; omega
                      | skip
                        refine o_skip rfl ?_
                        refine o_skip rfl ?_
                        refine o_skip rfl ?_
                        refine o_pickt rfl rfl rfl ?_
                        refine op_nil ?_
                        refine wp_cond rfl (fun _ => ?_) (fun h_ => absurd h_ (by decide))
                        refine wp_seq ?_
                        refine wp_ops ?_
                        refine o_build (cs := clsC 0) rfl rfl ?_
                        first | (refine o_store1 rfl rfl rfl (rfget3 _ _ _ _ _ _) (by show 0 < 1; decide) rfl (rfset3 _ _ _ _ _ _ _) ?_) | (refine o_scls (k := 0) rfl rfl rfl (rfget1 _ _ _ _) rfl (rfset1 _ _ _ _ _) ?_) | (refine o_scls rfl rfl rfl (rfget2 _ _ _ _ _) rfl (rfset2 _ _ _ _ _ _) ?_)
                        first | refine o_asgd rfl rfl ?_ | refine o_asgo rfl rfl ?_ | refine o_asg rfl rfl (fun _ h_ => by cases h_) ?_
                        first | refine o_asgd rfl rfl ?_ | refine o_asgo rfl rfl ?_ | refine o_asg rfl rfl (fun _ h_ => by cases h_) ?_
                        refine op_nil ?_
                        refine wp_ret ?_
                        refine bx_ret ?_
                        refine bx_ret ?_
                        refine end_read rfl rfl rfl (rfget1 _ _ _ _) rfl rfl ?_ (by simp)
                        first
                        | (have hR2 : R = itms s f i k := by
                             rw [hR]
                             first
                             | rw [if_pos (show many = 0 by omega)]
                             | (rw [if_neg (show ¬ many = 0 by omega)]; simp only [show hit s i 93 = false by assumption, Bool.false_eq_true, if_false])
                           rw [hR2, lf1 hf (by assumption), se_two (x := sign (s.drop i)) (by assumption)]; rfl)
                        | (have hR2 : R = itms s f i k := by
                             rw [hR]
                             first
                             | rw [if_pos (show many = 0 by omega)]
                             | (rw [if_neg (show ¬ many = 0 by omega)]; simp only [show hit s i 93 = false by assumption, Bool.false_eq_true, if_false])
                           rw [hR2, lf2 hf (by assumption) (by assumption) (by assumption)]; rfl)
                        | (have hR2 : R = itms s f i k := by
                             rw [hR]
                             first
                             | rw [if_pos (show many = 0 by omega)]
                             | (rw [if_neg (show ¬ many = 0 by omega)]; simp only [show hit s i 93 = false by assumption, Bool.false_eq_true, if_false])
                           rw [hR2, lf3 hf (by assumption) (by assumption) (by assumption) (by assumption)]; rfl)
                        | (have hR3 : R = some (k, i + 1) := by rw [hR, if_neg (show ¬ many = 0 by omega), if_pos (by assumption)]
                           rw [hR3]; simp_all [fin, readA]; done)
                    · first
                      | exfalso; omega
                      | skip
                        first | refine o_movd rfl rfl ?_ | refine o_movp rfl rfl ?_ | refine o_mova rfl rfl ?_ | refine o_mov rfl rfl ?_
                        first | refine o_movd rfl rfl ?_ | refine o_movp rfl rfl ?_ | refine o_mova rfl rfl ?_ | refine o_mov rfl rfl ?_
                        first | refine o_gtrn rfl rfl rfl ?_ | refine o_bin rfl rfl rfl rfl ?_
                        refine o_pickf rfl rfl rfl ?_
                        refine op_nil ?_
                        first | refine wp_if rfl ?_ ?_ <;> intro hq_ | refine wp_cond rfl ?_ ?_ <;> intro hq_
                        · first
                          | exfalso; omega
                          | skip
                            refine wp_seq ?_
                            refine wp_ops ?_
                            refine o_build (cs := clsC 0) rfl rfl ?_
                            first | (refine o_store1 rfl rfl rfl (rfget3 _ _ _ _ _ _) (by show 0 < 1; decide) rfl (rfset3 _ _ _ _ _ _ _) ?_) | (refine o_scls (k := 0) rfl rfl rfl (rfget1 _ _ _ _) rfl (rfset1 _ _ _ _ _) ?_) | (refine o_scls rfl rfl rfl (rfget2 _ _ _ _ _) rfl (rfset2 _ _ _ _ _ _) ?_)
                            first | refine o_asgd rfl rfl ?_ | refine o_asgo rfl rfl ?_ | refine o_asg rfl rfl (fun _ h_ => by cases h_) ?_
                            first | refine o_asgd rfl rfl ?_ | refine o_asgo rfl rfl ?_ | refine o_asg rfl rfl (fun _ h_ => by cases h_) ?_
                            refine op_nil ?_
                            refine wp_ret ?_
                            refine bx_ret ?_
                            refine bx_ret ?_
                            refine end_read rfl rfl rfl (rfget1 _ _ _ _) rfl rfl ?_ (by simp)
                            first
                            | (have hR2 : R = itms s f i k := by
                                 rw [hR]
                                 first
                                 | rw [if_pos (show many = 0 by omega)]
                                 | (rw [if_neg (show ¬ many = 0 by omega)]; simp only [show hit s i 93 = false by assumption, Bool.false_eq_true, if_false])
                               rw [hR2, lf1 hf (by assumption), se_two (x := sign (s.drop i)) (by assumption)]; rfl)
                            | (have hR2 : R = itms s f i k := by
                                 rw [hR]
                                 first
                                 | rw [if_pos (show many = 0 by omega)]
                                 | (rw [if_neg (show ¬ many = 0 by omega)]; simp only [show hit s i 93 = false by assumption, Bool.false_eq_true, if_false])
                               rw [hR2, lf2 hf (by assumption) (by assumption) (by assumption)]; rfl)
                            | (have hR2 : R = itms s f i k := by
                                 rw [hR]
                                 first
                                 | rw [if_pos (show many = 0 by omega)]
                                 | (rw [if_neg (show ¬ many = 0 by omega)]; simp only [show hit s i 93 = false by assumption, Bool.false_eq_true, if_false])
                               rw [hR2, lf3 hf (by assumption) (by assumption) (by assumption) (by assumption)]; rfl)
                            | (have hR3 : R = some (k, i + 1) := by rw [hR, if_neg (show ¬ many = 0 by omega), if_pos (by assumption)]
                               rw [hR3]; simp_all [fin, readA]; done)
                        · first
                          | exfalso; omega
                          | skip
                            refine wp_skip ?_
                            refine wp_ops ?_
                            refine o_load rfl rfl (rfget3 _ _ _ _ _ _) rfl ?_
                            first | refine o_movd rfl rfl ?_ | refine o_movp rfl rfl ?_ | refine o_mova rfl rfl ?_ | refine o_mov rfl rfl ?_
                            (have hs2_ := sn_le s (i + sn (sign (s.drop i)) + 1) (by omega); refine o_addkn rfl rfl rfl (by decide) (by simp only [m64]; omega) ?_)
                            first | (refine o_store1 rfl rfl rfl (rfget3 _ _ _ _ _ _) (by show 0 < 1; decide) rfl (rfset3 _ _ _ _ _ _ _) ?_) | (refine o_scls (k := 0) rfl rfl rfl (rfget1 _ _ _ _) rfl (rfset1 _ _ _ _ _) ?_) | (refine o_scls rfl rfl rfl (rfget2 _ _ _ _ _) rfl (rfset2 _ _ _ _ _ _) ?_)
                            refine op_nil ?_
                            refine wp_ops ?_
                            (try simp only [hq_, Bool.false_eq_true, if_false]); refine o_lcls rfl rfl (rfget2 _ _ _ _ _) ?_
                            first | refine o_movd rfl rfl ?_ | refine o_movp rfl rfl ?_ | refine o_mova rfl rfl ?_ | refine o_mov rfl rfl ?_
                            first | refine o_movd rfl rfl ?_ | refine o_movp rfl rfl ?_ | refine o_mova rfl rfl ?_ | refine o_mov rfl rfl ?_
                            refine o_callz rfl rfl rfl rfl (Span_ev _ _ (sa_lt _) (sa_lt _) _) ?_
                            refine o_call rfl rfl rfl (Or_ev _ _ _) ?_
                            first | (refine o_store1 rfl rfl rfl (rfget3 _ _ _ _ _ _) (by show 0 < 1; decide) rfl (rfset3 _ _ _ _ _ _ _) ?_) | (refine o_scls (k := 0) rfl rfl rfl (rfget1 _ _ _ _) rfl (rfset1 _ _ _ _ _) ?_) | (refine o_scls rfl rfl rfl (rfget2 _ _ _ _ _) rfl (rfset2 _ _ _ _ _ _) ?_)
                            refine op_nil ?_
                            refine keepN (by (simp +decide only [Slots.keep, Slots.get, reduceIte]); exact rfl) ?_
                            refine wp_ops ?_
                            first | refine o_movd rfl rfl ?_ | refine o_movp rfl rfl ?_ | refine o_mova rfl rfl ?_ | refine o_mov rfl rfl ?_
                            first | refine o_addkn rfl rfl rfl (by decide) (by (first | omega | (simp only [m64, mU, m8, n64, nU, n8, b64, bU, b8]; omega))) ?_ | refine o_cat rfl rfl rfl (by (first | omega | (simp only [m64, mU, m8, n64, nU, n8, b64, bU, b8]; omega))) ?_ | refine o_add rfl rfl rfl rfl (by omega) (by omega) ?_
                            first | refine o_asgd rfl rfl ?_ | refine o_asgo rfl rfl ?_ | refine o_asg rfl rfl (fun _ h_ => by cases h_) ?_
                            refine op_nil ?_
                            have hR2 : R = itms s f i k := by
                              rw [hR]
                              first
                              | rw [if_pos (show many = 0 by omega)]
                              | (rw [if_neg (show ¬ many = 0 by omega)]; simp only [show hit s i 93 = false by assumption, Bool.false_eq_true, if_false])
                            have p1 := sn_pos (s := s.drop i) (by assumption)
                            first
                            | (have p2 := sn_pos (s := s.drop (i + sn (sign (s.drop i)) + 1)) (by assumption)
                               have hR4 := hR2.trans (lf4 hf (by assumption) (by assumption) (by assumption) (by assumption))
                               refine ⟨by simp, _, ?_, many + 1, _, _, f - 1, rfl, ?_, ?_, ?_, hR4.trans (if_neg (by omega)).symm, rfl⟩ <;> omega)
                            | (have hR4 := hR2.trans (lf5 hf (by assumption) (by assumption))
                               refine ⟨by simp, _, ?_, many + 1, _, _, f - 1, rfl, ?_, ?_, ?_, hR4.trans (if_neg (by omega)).symm, rfl⟩ <;> omega)
                · first
                  | exfalso; omega
                  | skip
                    refine wp_skip ?_
                    refine wp_ops ?_
                    (try simp only [hq_, Bool.false_eq_true, if_false]); refine o_lcls rfl rfl (rfget2 _ _ _ _ _) ?_
                    first | refine o_movd rfl rfl ?_ | refine o_movp rfl rfl ?_ | refine o_mova rfl rfl ?_ | refine o_mov rfl rfl ?_
                    first | refine o_movd rfl rfl ?_ | refine o_movp rfl rfl ?_ | refine o_mova rfl rfl ?_ | refine o_mov rfl rfl ?_
                    refine o_callz rfl rfl rfl rfl (Span_ev _ _ (sa_lt _) (sa_lt _) _) ?_
                    refine o_call rfl rfl rfl (Or_ev _ _ _) ?_
                    first | (refine o_store1 rfl rfl rfl (rfget3 _ _ _ _ _ _) (by show 0 < 1; decide) rfl (rfset3 _ _ _ _ _ _ _) ?_) | (refine o_scls (k := 0) rfl rfl rfl (rfget1 _ _ _ _) rfl (rfset1 _ _ _ _ _) ?_) | (refine o_scls rfl rfl rfl (rfget2 _ _ _ _ _) rfl (rfset2 _ _ _ _ _ _) ?_)
                    refine op_nil ?_
                    refine keepN (by (simp +decide only [Slots.keep, Slots.get, reduceIte]); exact rfl) ?_
                    refine wp_ops ?_
                    first | refine o_movd rfl rfl ?_ | refine o_movp rfl rfl ?_ | refine o_mova rfl rfl ?_ | refine o_mov rfl rfl ?_
                    first | refine o_addkn rfl rfl rfl (by decide) (by (first | omega | (simp only [m64, mU, m8, n64, nU, n8, b64, bU, b8]; omega))) ?_ | refine o_cat rfl rfl rfl (by (first | omega | (simp only [m64, mU, m8, n64, nU, n8, b64, bU, b8]; omega))) ?_ | refine o_add rfl rfl rfl rfl (by omega) (by omega) ?_
                    first | refine o_asgd rfl rfl ?_ | refine o_asgo rfl rfl ?_ | refine o_asg rfl rfl (fun _ h_ => by cases h_) ?_
                    refine op_nil ?_
                    have hR2 : R = itms s f i k := by
                      rw [hR]
                      first
                      | rw [if_pos (show many = 0 by omega)]
                      | (rw [if_neg (show ¬ many = 0 by omega)]; simp only [show hit s i 93 = false by assumption, Bool.false_eq_true, if_false])
                    have p1 := sn_pos (s := s.drop i) (by assumption)
                    first
                    | (have p2 := sn_pos (s := s.drop (i + sn (sign (s.drop i)) + 1)) (by assumption)
                       have hR4 := hR2.trans (lf4 hf (by assumption) (by assumption) (by assumption) (by assumption))
                       refine ⟨by simp, _, ?_, many + 1, _, _, f - 1, rfl, ?_, ?_, ?_, hR4.trans (if_neg (by omega)).symm, rfl⟩ <;> omega)
                    | (have hR4 := hR2.trans (lf5 hf (by assumption) (by assumption))
                       refine ⟨by simp, _, ?_, many + 1, _, _, f - 1, rfl, ?_, ?_, ?_, hR4.trans (if_neg (by omega)).symm, rfl⟩ <;> omega)
    · first
      | exfalso; omega
      | skip
        refine o_skip rfl ?_
        refine o_skip rfl ?_
        refine o_pickf rfl rfl rfl ?_
        refine op_nil ?_
        refine wp_cond rfl (fun h_ => absurd h_ (by decide)) (fun _ => ?_)
        refine wp_skip ?_
        refine wp_seq ?_
        refine wp_ops ?_
        (try simp only [hq_, Bool.false_eq_true, if_false]); refine o_load rfl rfl (rfget0 _ _ _) rfl ?_
        refine o_load rfl rfl (rfget3 _ _ _ _ _ _) rfl ?_
        refine o_sub0 rfl rfl rfl rfl (by omega) ?_
        refine o_call rfl rfl rfl (SignP_ev (s.drop i) _) ?_
        refine o_mov rfl rfl ?_
        refine o_extr rfl rfl rfl ?_
        refine o_extr rfl rfl rfl ?_
        refine o_extr rfl rfl rfl ?_
        first | refine o_asgd rfl rfl ?_ | refine o_asgo rfl rfl ?_ | refine o_asg rfl rfl (fun _ h_ => by cases h_) ?_
        first | refine o_asgd rfl rfl ?_ | refine o_asgo rfl rfl ?_ | refine o_asg rfl rfl (fun _ h_ => by cases h_) ?_
        first | refine o_asgd rfl rfl ?_ | refine o_asgo rfl rfl ?_ | refine o_asg rfl rfl (fun _ h_ => by cases h_) ?_
        refine op_nil ?_
        refine wp_seq ?_
        refine wp_seq ?_
        refine wp_ops ?_
        first | refine o_movd rfl rfl ?_ | refine o_movp rfl rfl ?_ | refine o_mova rfl rfl ?_ | refine o_mov rfl rfl ?_
        first | refine o_neqn rfl rfl rfl ?_ | refine o_nes rfl rfl rfl ?_ | refine o_bin rfl rfl rfl rfl ?_
        refine op_nil ?_
        first | refine wp_if rfl ?_ ?_ <;> intro hq_ | refine wp_cond rfl ?_ ?_ <;> intro hq_
        · first
          | exfalso; omega
          | skip
            refine wp_seq ?_
            refine wp_ops ?_
            refine o_build (cs := clsC 0) rfl rfl ?_
            first | refine o_movd rfl rfl ?_ | refine o_movp rfl rfl ?_ | refine o_mova rfl rfl ?_ | refine o_mov rfl rfl ?_
            first | (refine o_store1 rfl rfl rfl (rfget3 _ _ _ _ _ _) (by show 0 < 1; decide) rfl (rfset3 _ _ _ _ _ _ _) ?_) | (refine o_scls (k := 0) rfl rfl rfl (rfget1 _ _ _ _) rfl (rfset1 _ _ _ _ _) ?_) | (refine o_scls rfl rfl rfl (rfget2 _ _ _ _ _) rfl (rfset2 _ _ _ _ _ _) ?_)
            first | refine o_asgd rfl rfl ?_ | refine o_asgo rfl rfl ?_ | refine o_asg rfl rfl (fun _ h_ => by cases h_) ?_
            first | refine o_asgd rfl rfl ?_ | refine o_asgo rfl rfl ?_ | refine o_asg rfl rfl (fun _ h_ => by cases h_) ?_
            refine op_nil ?_
            refine wp_ret ?_
            refine bx_ret ?_
            refine bx_ret ?_
            refine end_read rfl rfl rfl (rfget1 _ _ _ _) rfl rfl ?_ (by simp)
            first
            | (have hR2 : R = itms s f i k := by
                 rw [hR]
                 first
                 | rw [if_pos (show many = 0 by omega)]
                 | (rw [if_neg (show ¬ many = 0 by omega)]; simp only [show hit s i 93 = false by assumption, Bool.false_eq_true, if_false])
               rw [hR2, lf1 hf (by assumption), se_two (x := sign (s.drop i)) (by assumption)]; rfl)
            | (have hR2 : R = itms s f i k := by
                 rw [hR]
                 first
                 | rw [if_pos (show many = 0 by omega)]
                 | (rw [if_neg (show ¬ many = 0 by omega)]; simp only [show hit s i 93 = false by assumption, Bool.false_eq_true, if_false])
               rw [hR2, lf2 hf (by assumption) (by assumption) (by assumption)]; rfl)
            | (have hR2 : R = itms s f i k := by
                 rw [hR]
                 first
                 | rw [if_pos (show many = 0 by omega)]
                 | (rw [if_neg (show ¬ many = 0 by omega)]; simp only [show hit s i 93 = false by assumption, Bool.false_eq_true, if_false])
               rw [hR2, lf3 hf (by assumption) (by assumption) (by assumption) (by assumption)]; rfl)
            | (have hR3 : R = some (k, i + 1) := by rw [hR, if_neg (show ¬ many = 0 by omega), if_pos (by assumption)]
               rw [hR3]; simp_all [fin, readA]; done)
        · first
          | exfalso; omega
          | skip
            refine wp_skip ?_
            refine wp_seq ?_
            refine wp_ops ?_
            refine o_load rfl rfl (rfget3 _ _ _ _ _ _) rfl ?_
            first | refine o_movd rfl rfl ?_ | refine o_movp rfl rfl ?_ | refine o_mova rfl rfl ?_ | refine o_mov rfl rfl ?_
            (have hs1_ := sn_le s i hi; refine o_addkn rfl rfl rfl (by decide) (by simp only [m64]; omega) ?_)
            first | (refine o_store1 rfl rfl rfl (rfget3 _ _ _ _ _ _) (by show 0 < 1; decide) rfl (rfset3 _ _ _ _ _ _ _) ?_) | (refine o_scls (k := 0) rfl rfl rfl (rfget1 _ _ _ _) rfl (rfset1 _ _ _ _ _) ?_) | (refine o_scls rfl rfl rfl (rfget2 _ _ _ _ _) rfl (rfset2 _ _ _ _ _ _) ?_)
            refine op_nil ?_
            refine wp_seq ?_
            refine wp_ops ?_
            first | refine o_movd rfl rfl ?_ | refine o_movp rfl rfl ?_ | refine o_mova rfl rfl ?_ | refine o_mov rfl rfl ?_
            first | refine o_asgd rfl rfl ?_ | refine o_asgo rfl rfl ?_ | refine o_asg rfl rfl (fun _ h_ => by cases h_) ?_
            refine op_nil ?_
            refine wp_seq ?_
            refine wp_seq ?_
            refine wp_ops ?_
            refine o_mov rfl rfl ?_
            refine o_callc rfl rfl rfl (takes_ev s (i + sn (sign (s.drop i))) 45 (by omega) (by omega) rf _ _) ?_
            refine op_nil ?_
            first | refine wp_if rfl ?_ ?_ <;> intro hq_ | refine wp_cond rfl ?_ ?_ <;> intro hq_
            · first
              | exfalso; omega
              | skip
                refine wp_seq ?_
                refine wp_seq ?_
                refine wp_ops ?_
                (have hl_ := hit_lt hq_; simp only [hq_, if_true]; refine o_load rfl rfl (rfget0 _ _ _) rfl ?_)
                refine o_load rfl rfl (rfget3 _ _ _ _ _ _) rfl ?_
                refine o_sub0 rfl rfl rfl rfl (by omega) ?_
                refine o_call rfl rfl rfl (SignP_ev (s.drop (i + sn (sign (s.drop i)) + 1)) _) ?_
                refine o_mov rfl rfl ?_
                refine o_extr rfl rfl rfl ?_
                refine o_extr rfl rfl rfl ?_
                refine o_extr rfl rfl rfl ?_
                first | refine o_asgd rfl rfl ?_ | refine o_asgo rfl rfl ?_ | refine o_asg rfl rfl (fun _ h_ => by cases h_) ?_
                first | refine o_asgd rfl rfl ?_ | refine o_asgo rfl rfl ?_ | refine o_asg rfl rfl (fun _ h_ => by cases h_) ?_
                first | refine o_asgd rfl rfl ?_ | refine o_asgo rfl rfl ?_ | refine o_asg rfl rfl (fun _ h_ => by cases h_) ?_
                refine op_nil ?_
                refine wp_seq ?_
                refine wp_ops ?_
                first | refine o_movd rfl rfl ?_ | refine o_movp rfl rfl ?_ | refine o_mova rfl rfl ?_ | refine o_mov rfl rfl ?_
                first | refine o_neqn rfl rfl rfl ?_ | refine o_nes rfl rfl rfl ?_ | refine o_bin rfl rfl rfl rfl ?_
                first | refine o_movd rfl rfl ?_ | refine o_movp rfl rfl ?_ | refine o_mova rfl rfl ?_ | refine o_mov rfl rfl ?_
                refine o_ifp rfl ?_ ?_ <;> intro hq_ hg_ <;> simp only [hg_] <;> clear hg_
                · first
                  | exfalso; omega
                  | skip
                    refine o_skip rfl ?_
                    refine o_skip rfl ?_
                    refine o_skip rfl ?_
                    refine o_pickt rfl rfl rfl ?_
                    refine op_nil ?_
                    refine wp_cond rfl (fun _ => ?_) (fun h_ => absurd h_ (by decide))
                    refine wp_seq ?_
                    refine wp_ops ?_
                    refine o_build (cs := clsC 0) rfl rfl ?_
                    first | (refine o_store1 rfl rfl rfl (rfget3 _ _ _ _ _ _) (by show 0 < 1; decide) rfl (rfset3 _ _ _ _ _ _ _) ?_) | (refine o_scls (k := 0) rfl rfl rfl (rfget1 _ _ _ _) rfl (rfset1 _ _ _ _ _) ?_) | (refine o_scls rfl rfl rfl (rfget2 _ _ _ _ _) rfl (rfset2 _ _ _ _ _ _) ?_)
                    first | refine o_asgd rfl rfl ?_ | refine o_asgo rfl rfl ?_ | refine o_asg rfl rfl (fun _ h_ => by cases h_) ?_
                    first | refine o_asgd rfl rfl ?_ | refine o_asgo rfl rfl ?_ | refine o_asg rfl rfl (fun _ h_ => by cases h_) ?_
                    refine op_nil ?_
                    refine wp_ret ?_
                    refine bx_ret ?_
                    refine bx_ret ?_
                    refine end_read rfl rfl rfl (rfget1 _ _ _ _) rfl rfl ?_ (by simp)
                    first
                    | (have hR2 : R = itms s f i k := by
                         rw [hR]
                         first
                         | rw [if_pos (show many = 0 by omega)]
                         | (rw [if_neg (show ¬ many = 0 by omega)]; simp only [show hit s i 93 = false by assumption, Bool.false_eq_true, if_false])
                       rw [hR2, lf1 hf (by assumption), se_two (x := sign (s.drop i)) (by assumption)]; rfl)
                    | (have hR2 : R = itms s f i k := by
                         rw [hR]
                         first
                         | rw [if_pos (show many = 0 by omega)]
                         | (rw [if_neg (show ¬ many = 0 by omega)]; simp only [show hit s i 93 = false by assumption, Bool.false_eq_true, if_false])
                       rw [hR2, lf2 hf (by assumption) (by assumption) (by assumption)]; rfl)
                    | (have hR2 : R = itms s f i k := by
                         rw [hR]
                         first
                         | rw [if_pos (show many = 0 by omega)]
                         | (rw [if_neg (show ¬ many = 0 by omega)]; simp only [show hit s i 93 = false by assumption, Bool.false_eq_true, if_false])
                       rw [hR2, lf3 hf (by assumption) (by assumption) (by assumption) (by assumption)]; rfl)
                    | (have hR3 : R = some (k, i + 1) := by rw [hR, if_neg (show ¬ many = 0 by omega), if_pos (by assumption)]
                       rw [hR3]; simp_all [fin, readA]; done)
                · first
                  | exfalso; omega
                  | skip
                    first | refine o_movd rfl rfl ?_ | refine o_movp rfl rfl ?_ | refine o_mova rfl rfl ?_ | refine o_mov rfl rfl ?_
                    first | refine o_movd rfl rfl ?_ | refine o_movp rfl rfl ?_ | refine o_mova rfl rfl ?_ | refine o_mov rfl rfl ?_
                    first | refine o_gtrn rfl rfl rfl ?_ | refine o_bin rfl rfl rfl rfl ?_
                    refine o_pickf rfl rfl rfl ?_
                    refine op_nil ?_
                    first | refine wp_if rfl ?_ ?_ <;> intro hq_ | refine wp_cond rfl ?_ ?_ <;> intro hq_
                    · first
                      | exfalso; omega
                      | skip
                        refine wp_seq ?_
                        refine wp_ops ?_
                        refine o_build (cs := clsC 0) rfl rfl ?_
                        first | (refine o_store1 rfl rfl rfl (rfget3 _ _ _ _ _ _) (by show 0 < 1; decide) rfl (rfset3 _ _ _ _ _ _ _) ?_) | (refine o_scls (k := 0) rfl rfl rfl (rfget1 _ _ _ _) rfl (rfset1 _ _ _ _ _) ?_) | (refine o_scls rfl rfl rfl (rfget2 _ _ _ _ _) rfl (rfset2 _ _ _ _ _ _) ?_)
                        first | refine o_asgd rfl rfl ?_ | refine o_asgo rfl rfl ?_ | refine o_asg rfl rfl (fun _ h_ => by cases h_) ?_
                        first | refine o_asgd rfl rfl ?_ | refine o_asgo rfl rfl ?_ | refine o_asg rfl rfl (fun _ h_ => by cases h_) ?_
                        refine op_nil ?_
                        refine wp_ret ?_
                        refine bx_ret ?_
                        refine bx_ret ?_
                        refine end_read rfl rfl rfl (rfget1 _ _ _ _) rfl rfl ?_ (by simp)
                        first
                        | (have hR2 : R = itms s f i k := by
                             rw [hR]
                             first
                             | rw [if_pos (show many = 0 by omega)]
                             | (rw [if_neg (show ¬ many = 0 by omega)]; simp only [show hit s i 93 = false by assumption, Bool.false_eq_true, if_false])
                           rw [hR2, lf1 hf (by assumption), se_two (x := sign (s.drop i)) (by assumption)]; rfl)
                        | (have hR2 : R = itms s f i k := by
                             rw [hR]
                             first
                             | rw [if_pos (show many = 0 by omega)]
                             | (rw [if_neg (show ¬ many = 0 by omega)]; simp only [show hit s i 93 = false by assumption, Bool.false_eq_true, if_false])
                           rw [hR2, lf2 hf (by assumption) (by assumption) (by assumption)]; rfl)
                        | (have hR2 : R = itms s f i k := by
                             rw [hR]
                             first
                             | rw [if_pos (show many = 0 by omega)]
                             | (rw [if_neg (show ¬ many = 0 by omega)]; simp only [show hit s i 93 = false by assumption, Bool.false_eq_true, if_false])
                           rw [hR2, lf3 hf (by assumption) (by assumption) (by assumption) (by assumption)]; rfl)
                        | (have hR3 : R = some (k, i + 1) := by rw [hR, if_neg (show ¬ many = 0 by omega), if_pos (by assumption)]
                           rw [hR3]; simp_all [fin, readA]; done)
                    · first
                      | exfalso; omega
                      | skip
                        refine wp_skip ?_
                        refine wp_ops ?_
                        refine o_load rfl rfl (rfget3 _ _ _ _ _ _) rfl ?_
                        first | refine o_movd rfl rfl ?_ | refine o_movp rfl rfl ?_ | refine o_mova rfl rfl ?_ | refine o_mov rfl rfl ?_
                        (have hs2_ := sn_le s (i + sn (sign (s.drop i)) + 1) (by omega); refine o_addkn rfl rfl rfl (by decide) (by simp only [m64]; omega) ?_)
                        first | (refine o_store1 rfl rfl rfl (rfget3 _ _ _ _ _ _) (by show 0 < 1; decide) rfl (rfset3 _ _ _ _ _ _ _) ?_) | (refine o_scls (k := 0) rfl rfl rfl (rfget1 _ _ _ _) rfl (rfset1 _ _ _ _ _) ?_) | (refine o_scls rfl rfl rfl (rfget2 _ _ _ _ _) rfl (rfset2 _ _ _ _ _ _) ?_)
                        refine op_nil ?_
                        refine wp_ops ?_
                        (try simp only [hq_, Bool.false_eq_true, if_false]); refine o_lcls rfl rfl (rfget2 _ _ _ _ _) ?_
                        first | refine o_movd rfl rfl ?_ | refine o_movp rfl rfl ?_ | refine o_mova rfl rfl ?_ | refine o_mov rfl rfl ?_
                        first | refine o_movd rfl rfl ?_ | refine o_movp rfl rfl ?_ | refine o_mova rfl rfl ?_ | refine o_mov rfl rfl ?_
                        refine o_callz rfl rfl rfl rfl (Span_ev _ _ (sa_lt _) (sa_lt _) _) ?_
                        refine o_call rfl rfl rfl (Or_ev _ _ _) ?_
                        first | (refine o_store1 rfl rfl rfl (rfget3 _ _ _ _ _ _) (by show 0 < 1; decide) rfl (rfset3 _ _ _ _ _ _ _) ?_) | (refine o_scls (k := 0) rfl rfl rfl (rfget1 _ _ _ _) rfl (rfset1 _ _ _ _ _) ?_) | (refine o_scls rfl rfl rfl (rfget2 _ _ _ _ _) rfl (rfset2 _ _ _ _ _ _) ?_)
                        refine op_nil ?_
                        refine keepN (by (simp +decide only [Slots.keep, Slots.get, reduceIte]); exact rfl) ?_
                        refine wp_ops ?_
                        first | refine o_movd rfl rfl ?_ | refine o_movp rfl rfl ?_ | refine o_mova rfl rfl ?_ | refine o_mov rfl rfl ?_
                        first | refine o_addkn rfl rfl rfl (by decide) (by (first | omega | (simp only [m64, mU, m8, n64, nU, n8, b64, bU, b8]; omega))) ?_ | refine o_cat rfl rfl rfl (by (first | omega | (simp only [m64, mU, m8, n64, nU, n8, b64, bU, b8]; omega))) ?_ | refine o_add rfl rfl rfl rfl (by omega) (by omega) ?_
                        first | refine o_asgd rfl rfl ?_ | refine o_asgo rfl rfl ?_ | refine o_asg rfl rfl (fun _ h_ => by cases h_) ?_
                        refine op_nil ?_
                        have hR2 : R = itms s f i k := by
                          rw [hR]
                          first
                          | rw [if_pos (show many = 0 by omega)]
                          | (rw [if_neg (show ¬ many = 0 by omega)]; simp only [show hit s i 93 = false by assumption, Bool.false_eq_true, if_false])
                        have p1 := sn_pos (s := s.drop i) (by assumption)
                        first
                        | (have p2 := sn_pos (s := s.drop (i + sn (sign (s.drop i)) + 1)) (by assumption)
                           have hR4 := hR2.trans (lf4 hf (by assumption) (by assumption) (by assumption) (by assumption))
                           refine ⟨by simp, _, ?_, many + 1, _, _, f - 1, rfl, ?_, ?_, ?_, hR4.trans (if_neg (by omega)).symm, rfl⟩ <;> omega)
                        | (have hR4 := hR2.trans (lf5 hf (by assumption) (by assumption))
                           refine ⟨by simp, _, ?_, many + 1, _, _, f - 1, rfl, ?_, ?_, ?_, hR4.trans (if_neg (by omega)).symm, rfl⟩ <;> omega)
            · first
              | exfalso; omega
              | skip
                refine wp_skip ?_
                refine wp_ops ?_
                (try simp only [hq_, Bool.false_eq_true, if_false]); refine o_lcls rfl rfl (rfget2 _ _ _ _ _) ?_
                first | refine o_movd rfl rfl ?_ | refine o_movp rfl rfl ?_ | refine o_mova rfl rfl ?_ | refine o_mov rfl rfl ?_
                first | refine o_movd rfl rfl ?_ | refine o_movp rfl rfl ?_ | refine o_mova rfl rfl ?_ | refine o_mov rfl rfl ?_
                refine o_callz rfl rfl rfl rfl (Span_ev _ _ (sa_lt _) (sa_lt _) _) ?_
                refine o_call rfl rfl rfl (Or_ev _ _ _) ?_
                first | (refine o_store1 rfl rfl rfl (rfget3 _ _ _ _ _ _) (by show 0 < 1; decide) rfl (rfset3 _ _ _ _ _ _ _) ?_) | (refine o_scls (k := 0) rfl rfl rfl (rfget1 _ _ _ _) rfl (rfset1 _ _ _ _ _) ?_) | (refine o_scls rfl rfl rfl (rfget2 _ _ _ _ _) rfl (rfset2 _ _ _ _ _ _) ?_)
                refine op_nil ?_
                refine keepN (by (simp +decide only [Slots.keep, Slots.get, reduceIte]); exact rfl) ?_
                refine wp_ops ?_
                first | refine o_movd rfl rfl ?_ | refine o_movp rfl rfl ?_ | refine o_mova rfl rfl ?_ | refine o_mov rfl rfl ?_
                first | refine o_addkn rfl rfl rfl (by decide) (by (first | omega | (simp only [m64, mU, m8, n64, nU, n8, b64, bU, b8]; omega))) ?_ | refine o_cat rfl rfl rfl (by (first | omega | (simp only [m64, mU, m8, n64, nU, n8, b64, bU, b8]; omega))) ?_ | refine o_add rfl rfl rfl rfl (by omega) (by omega) ?_
                first | refine o_asgd rfl rfl ?_ | refine o_asgo rfl rfl ?_ | refine o_asg rfl rfl (fun _ h_ => by cases h_) ?_
                refine op_nil ?_
                have hR2 : R = itms s f i k := by
                  rw [hR]
                  first
                  | rw [if_pos (show many = 0 by omega)]
                  | (rw [if_neg (show ¬ many = 0 by omega)]; simp only [show hit s i 93 = false by assumption, Bool.false_eq_true, if_false])
                have p1 := sn_pos (s := s.drop i) (by assumption)
                first
                | (have p2 := sn_pos (s := s.drop (i + sn (sign (s.drop i)) + 1)) (by assumption)
                   have hR4 := hR2.trans (lf4 hf (by assumption) (by assumption) (by assumption) (by assumption))
                   refine ⟨by simp, _, ?_, many + 1, _, _, f - 1, rfl, ?_, ?_, ?_, hR4.trans (if_neg (by omega)).symm, rfl⟩ <;> omega)
                | (have hR4 := hR2.trans (lf5 hf (by assumption) (by assumption))
                   refine ⟨by simp, _, ?_, many + 1, _, _, f - 1, rfl, ?_, ?_, ?_, hR4.trans (if_neg (by omega)).symm, rfl⟩ <;> omega)
end Go.Ab.R04
