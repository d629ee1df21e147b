/- ref04.Read: the same. -/
import Derived.Test.YtpdfcjgehdlheaaClass1104
namespace Go.Ab.R04
set_option maxRecDepth 100000
set_option linter.all false
set_option maxHeartbeats 4000000
variable {T : Tb} [hT : Base T]

theorem rSignP_ev (s : List UInt8) (rf : Refs) : Ev T f_ref04_Sign [str s] rf (.ret (.tup [u8 (sa (sign s)), i64 (sn (sign s)), i64 (se (sign s))])) rf := by
 have := rSign_ev (T := T) s rf
 rwa [signA_eq] at this

theorem rd_none {s : List UInt8} (h : hit s 0 91 = false) : readS s = none := by unfold readS; rw [h]; rfl
theorem rd_short {s : List UInt8} (h : s.length < 2) : readS s = none := by
 cases h0 : hit s 0 91
 ·exact rd_none h0
 ·have := hit_lt h0
  rw [readS_eq h0, hit_none (show s.length ≤ 1 by omega), itms_step (by omega), itm_end (show s.length ≤ _ by simp; omega)]; rfl

theorem lfe {s : List UInt8} {g j k : Nat} {A : Option (Nat × Nat)} (h : s.length ≤ j) : (if hit s j 93 = true then A else itms s g j k) = none := by
 rw [hit_none h, itms_step (by omega), itm_end h]; rfl
theorem lf6 {s : List UInt8} {f i k : Nat} (hf : s.length ≤ i + f) (h : ¬ se (sign (s.drop i)) ≠ 0) (hh : hit s (i + sn (sign (s.drop i))) 45 = false) : itms s f i k =
   if hit s (i + sn (sign (s.drop i))) 93 then some (k ||| 2 ^ sa (sign (s.drop i)), i + sn (sign (s.drop i)) + 1)
   else itms s (f - 1) (i + sn (sign (s.drop i))) (k ||| 2 ^ sa (sign (s.drop i))) := by
 have := lf5 (k := k) hf h hh
 rwa [spanN_one] at this

theorem rRead_ev (s : List UInt8) (hs : s.length < 2 ^ 38) (rf : Refs) : Ev T f_ref04_Read [str s] rf (.ret (readA (readS s))) rf := by
 refine ev_callB rfl rfl ?_
 refine wp_seq ?_
 refine wp_ops ?_
 (refine o_alloc rfl ?_; try simp only [List.length_append, List.length_cons, List.length_nil, List.append_assoc, List.cons_append, List.nil_append, Nat.zero_add, Nat.add_assoc, Nat.reduceAdd])
 first | refine o_asgd rfl rfl ?_ | refine o_asgo rfl rfl ?_ | refine o_asg rfl rfl (fun _ h_ => by cases h_) ?_
 first | refine o_asgd rfl rfl ?_ | refine o_asgo rfl rfl ?_ | refine o_asg rfl rfl (fun _ h_ => by cases h_) ?_
 refine op_nil ?_
 refine wp_seq ?_
 refine wp_seq ?_
 refine wp_ops ?_
 first | refine o_movd rfl rfl ?_ | refine o_movp rfl rfl ?_ | refine o_mova rfl rfl ?_ | refine o_mov rfl rfl ?_
 refine o_lenS rfl rfl ?_
 first | refine o_lssn rfl rfl rfl ?_ | refine o_bin rfl rfl rfl rfl ?_
 first | refine o_movd rfl rfl ?_ | refine o_movp rfl rfl ?_ | refine o_mova rfl rfl ?_ | refine o_mov rfl rfl ?_
 refine o_ifp rfl ?_ ?_ <;> intro hq_ hg_ <;> simp only [hg_] <;> clear hg_
 ·first
  | exfalso; omega
  |skip
   refine o_skip rfl ?_
   refine o_skip rfl ?_
   refine o_skip rfl ?_
   refine o_pickt rfl rfl rfl ?_
   refine op_nil ?_
   refine wp_cond rfl (fun _ => ?_) (fun h_ => absurd h_ (by decide))
   refine wp_seq ?_
   refine wp_ops ?_
   refine o_build (cs := clsC 0) rfl rfl ?_
   first | (refine o_scls (k := 0) rfl rfl rfl (rfget1 _ _ _ _) rfl (rfset1 _ _ _ _ _) ?_) | (refine o_scls (k := 0) rfl rfl rfl (rfget0 _ _ _) rfl (rfset0 _ _ _ _) ?_)
   first | refine o_asgd rfl rfl ?_ | refine o_asgo rfl rfl ?_ | refine o_asg rfl rfl (fun _ h_ => by cases h_) ?_
   first | refine o_asgd rfl rfl ?_ | refine o_asgo rfl rfl ?_ | refine o_asg rfl rfl (fun _ h_ => by cases h_) ?_
   refine op_nil ?_
   refine wp_ret ?_
   refine end_read rfl rfl rfl (rfget0 _ _ _) rfl rfl ?_ (by simp)
   first
   | (rw [rd_short (by omega)]; rfl)
   | (rw [rd_none (by rw [hit_some hc0_]; exact decide_eq_false (by omega))]; rfl)
 ·first
  | exfalso; omega
  |skip
   first | refine o_movd rfl rfl ?_ | refine o_movp rfl rfl ?_ | refine o_mova rfl rfl ?_ | refine o_mov rfl rfl ?_
   (obtain ⟨c0_, hc0_⟩ := getS (show 0 < s.length by omega); refine o_idxS (m := 0) rfl rfl rfl rfl hc0_ ?_)
   first | refine o_neqn rfl rfl rfl ?_ | refine o_nes rfl rfl rfl ?_ | refine o_bin rfl rfl rfl rfl ?_
   refine o_pickf rfl rfl rfl ?_
   refine op_nil ?_
   first | refine wp_if rfl ?_ ?_ <;> intro hq_ | refine wp_cond rfl ?_ ?_ <;> intro hq_
   ·first
    | exfalso; omega
    |skip
     refine wp_seq ?_
     refine wp_ops ?_
     refine o_build (cs := clsC 0) rfl rfl ?_
     first | (refine o_scls (k := 0) rfl rfl rfl (rfget1 _ _ _ _) rfl (rfset1 _ _ _ _ _) ?_) | (refine o_scls (k := 0) rfl rfl rfl (rfget0 _ _ _) rfl (rfset0 _ _ _ _) ?_)
     first | refine o_asgd rfl rfl ?_ | refine o_asgo rfl rfl ?_ | refine o_asg rfl rfl (fun _ h_ => by cases h_) ?_
     first | refine o_asgd rfl rfl ?_ | refine o_asgo rfl rfl ?_ | refine o_asg rfl rfl (fun _ h_ => by cases h_) ?_
     refine op_nil ?_
     refine wp_ret ?_
     refine end_read rfl rfl rfl (rfget0 _ _ _) rfl rfl ?_ (by simp)
     first
     | (rw [rd_short (by omega)]; rfl)
     | (rw [rd_none (by rw [hit_some hc0_]; exact decide_eq_false (by omega))]; rfl)
   ·first
    | exfalso; omega
    |skip
     refine wp_skip ?_
     refine wp_seq ?_
     refine wp_ops ?_
     first | refine o_asgd rfl rfl ?_ | refine o_asgo rfl rfl ?_ | refine o_asg rfl rfl (fun _ h_ => by cases h_) ?_
     refine op_nil ?_
     refine wp_seq ?_
     refine wp_ops ?_
     first | refine o_movd rfl rfl ?_ | refine o_movp rfl rfl ?_ | refine o_mova rfl rfl ?_ | refine o_mov rfl rfl ?_
     (obtain ⟨c1_, hc1_⟩ := getS (show 1 < s.length by omega); refine o_idxS (m := 1) rfl rfl rfl rfl hc1_ ?_)
     first | refine o_eqln rfl rfl rfl ?_ | refine o_eqs rfl rfl rfl ?_ | refine o_bin rfl rfl rfl rfl ?_
     first | refine o_asgd rfl rfl ?_ | refine o_asgo rfl rfl ?_ | refine o_asg rfl rfl (fun _ h_ => by cases h_) ?_
     refine op_nil ?_
     refine wp_seq ?_
     refine wp_seq ?_
     refine wp_ops ?_
     first | refine o_movd rfl rfl ?_ | refine o_movp rfl rfl ?_ | refine o_mova rfl rfl ?_ | refine o_mov rfl rfl ?_
     refine op_nil ?_
     first | refine wp_if rfl ?_ ?_ <;> intro hq_ | refine wp_cond rfl ?_ ?_ <;> intro hq_
     ·first
      | exfalso; omega
      |skip
       refine wp_ops ?_
       first | refine o_asgd rfl rfl ?_ | refine o_asgo rfl rfl ?_ | refine o_asg rfl rfl (fun _ h_ => by cases h_) ?_
       refine op_nil ?_
       refine wp_seq ?_
       refine wp_ops ?_
       refine o_build (cs := clsC 0) rfl rfl ?_
       (refine o_alloc rfl ?_; try simp only [List.length_append, List.length_cons, List.length_nil, List.append_assoc, List.cons_append, List.nil_append, Nat.zero_add, Nat.add_assoc, Nat.reduceAdd])
       first | (refine o_scls (k := 0) rfl rfl rfl (rfget1 _ _ _ _) rfl (rfset1 _ _ _ _ _) ?_) | (refine o_scls (k := 0) rfl rfl rfl (rfget0 _ _ _) rfl (rfset0 _ _ _ _) ?_)
       refine op_nil ?_
       refine wp_seq ?_
       refine wp_ops ?_
       first | refine o_asgd rfl rfl ?_ | refine o_asgo rfl rfl ?_ | refine o_asg rfl rfl (fun _ h_ => by cases h_) ?_
       refine op_nil ?_
       refine wp_seq ?_
       refine wp_keep ?_
       refine wp_block ?_
       have h91 : hit s 0 91 = true := by rw [hit_some hc0_]; exact decide_eq_true (by omega)
       have h94 : hit s 1 94 = decide (c1_.toNat = 94) := hit_some hc1_
       rw [readS_eq h91, h94]
       obtain ⟨b94, hb⟩ : ∃ b94, decide (c1_.toNat = 94) = b94 := ⟨_, rfl⟩
       have hi0 : (if b94 = true then 2 else 1) = 2 ∧ c1_.toNat = 94 ∨ (if b94 = true then 2 else 1) = 1 ∧ ¬ c1_.toNat = 94 := by rw [← hb]; by_cases h : c1_.toNat = 94 <;> simp [h]
       simp only [hb]
       obtain ⟨R, hR0⟩ : ∃ R, R = itms s s.length (if b94 = true then 2 else 1) 0 := ⟨_, rfl⟩
       rw [← hR0]
       have hi1 : (if b94 = true then 2 else 1) = 2 ∨ (if b94 = true then 2 else 1) = 1 := by omega
       refine wp_loop (m := s.length + 1 - (if b94 = true then 2 else 1)) (fun m st => ∃ (b : Bool) (i k f : Nat), m = s.length + 1 - i ∧ i ≤ s.length ∧ (b = false → i < s.length) ∧ s.length ≤ i + f ∧ R = (if b = true then itms s f i k else if hit s i 93 then some (k, i + 1) else itms s f i k) ∧
        st = ⟨[(0, str s), (2, .ptr rf.length 0), (5, i64 (i : Nat)), (6, bl b94), (7, .ptr (rf.length + 1) 0), (8, bl b)], rf ++ [z4, clsC k], [], none, rf.length⟩) ?_ ?_
       ·first
        | (
          have hv : (if b94 = true then 2 else 1) = 2 := by omega
          rw [hv] at hR0 ⊢
          exact ⟨true, 2, 0, s.length, rfl, by omega, (fun h => nomatch h), by omega, hR0, rfl⟩)
        | (
          have hv : (if b94 = true then 2 else 1) = 1 := by omega
          rw [hv] at hR0 ⊢
          exact ⟨true, 1, 0, s.length, rfl, by omega, (fun h => nomatch h), by omega, hR0, rfl⟩)
       clear hR0 hi0 hi1 hb
       rintro m st ⟨b, i, k, f, rfl, hi, hb, hf, hR, rfl⟩ -
       cases b
       ·have hi' : i < s.length := hb rfl
        clear hb
        refine wp_seq ?_
        refine wp_seq ?_
        refine wp_ops ?_
        first | refine o_movd rfl rfl ?_ | refine o_movp rfl rfl ?_ | refine o_mova rfl rfl ?_ | refine o_mov rfl rfl ?_
        first | refine o_movd rfl rfl ?_ | refine o_movp rfl rfl ?_ | refine o_mova rfl rfl ?_ | refine o_mov rfl rfl ?_
        first | refine o_movd rfl rfl ?_ | refine o_movp rfl rfl ?_ | refine o_mova rfl rfl ?_ | refine o_mov rfl rfl ?_
        first | refine o_movd rfl rfl ?_ | refine o_movp rfl rfl ?_ | refine o_mova rfl rfl ?_ | refine o_mov rfl rfl ?_
        refine o_lenS rfl rfl ?_
        first | refine o_geqn rfl rfl rfl ?_ | refine o_bin rfl rfl rfl rfl ?_
        refine o_pickf rfl rfl rfl ?_
        first | refine o_movd rfl rfl ?_ | refine o_movp rfl rfl ?_ | refine o_mova rfl rfl ?_ | refine o_mov rfl rfl ?_
        refine o_ifp rfl ?_ ?_ <;> intro hq_ hg_ <;> simp only [hg_] <;> clear hg_
        ·first
         | exfalso; omega
         |skip
          refine o_skip rfl ?_
          refine o_skip rfl ?_
          refine o_skip rfl ?_
          refine o_skip rfl ?_
          refine o_pickt rfl rfl rfl ?_
          refine op_nil ?_
          refine wp_cond rfl (fun _ => ?_) (fun h_ => absurd h_ (by decide))
          refine wp_skip ?_
          refine wp_keep ?_
          refine wp_block ?_
          refine wp_seq ?_
          refine wp_ops ?_
          first | refine o_asgd rfl rfl ?_ | refine o_asgo rfl rfl ?_ | refine o_asg rfl rfl (fun _ h_ => by cases h_) ?_
          refine op_nil ?_
          refine wp_seq ?_
          refine wp_ops ?_
          first | refine o_movd rfl rfl ?_ | refine o_movp rfl rfl ?_ | refine o_mova rfl rfl ?_ | refine o_mov rfl rfl ?_
          first | refine o_movd rfl rfl ?_ | refine o_movp rfl rfl ?_ | refine o_mova rfl rfl ?_ | refine o_mov rfl rfl ?_
          refine o_sub0 rfl rfl rfl rfl (by omega) ?_
          refine o_call rfl rfl rfl (rSignP_ev (s.drop i) _) ?_
          refine o_mov rfl rfl ?_
          refine o_extr rfl rfl rfl ?_
          refine o_extr rfl rfl rfl ?_
          refine o_extr rfl rfl rfl ?_
          first | refine o_asgd rfl rfl ?_ | refine o_asgo rfl rfl ?_ | refine o_asg rfl rfl (fun _ h_ => by cases h_) ?_
          first | refine o_asgd rfl rfl ?_ | refine o_asgo rfl rfl ?_ | refine o_asg rfl rfl (fun _ h_ => by cases h_) ?_
          first | refine o_asgd rfl rfl ?_ | refine o_asgo rfl rfl ?_ | refine o_asg rfl rfl (fun _ h_ => by cases h_) ?_
          refine op_nil ?_
          refine wp_seq ?_
          refine wp_seq ?_
          refine wp_ops ?_
          first | refine o_movd rfl rfl ?_ | refine o_movp rfl rfl ?_ | refine o_mova rfl rfl ?_ | refine o_mov rfl rfl ?_
          first | refine o_neqn rfl rfl rfl ?_ | refine o_nes rfl rfl rfl ?_ | refine o_bin rfl rfl rfl rfl ?_
          refine op_nil ?_
          first | refine wp_if rfl ?_ ?_ <;> intro hq_ | refine wp_cond rfl ?_ ?_ <;> intro hq_
          ·first
           | exfalso; omega
           |skip
            refine wp_seq ?_
            refine wp_ops ?_
            refine o_build (cs := clsC 0) rfl rfl ?_
            first | (refine o_scls (k := 0) rfl rfl rfl (rfget0 _ _ _) rfl (rfset0 _ _ _ _) ?_) | (refine o_scls rfl rfl rfl (rfget1 _ _ _ _) rfl (rfset1 _ _ _ _ _) ?_) | (refine o_scls rfl rfl rfl (rfget0 _ _ _) rfl (rfset0 _ _ _ _) ?_)
            first | refine o_asgd rfl rfl ?_ | refine o_asgo rfl rfl ?_ | refine o_asg rfl rfl (fun _ h_ => by cases h_) ?_
            first | refine o_asgd rfl rfl ?_ | refine o_asgo rfl rfl ?_ | refine o_asg rfl rfl (fun _ h_ => by cases h_) ?_
            refine op_nil ?_
            refine wp_ret ?_
            refine bx_ret ?_
            refine bx_ret ?_
            refine end_read rfl rfl rfl (rfget0 _ _ _) rfl rfl ?_ (by simp)
            first
            | (
              have hR2 : R = itms s f i k := by
               rw [hR]
               first
               | exact if_pos rfl
               | (rw [if_neg (by decide), if_neg (by rw [hit_some hx_]; simp; omega)])
              rw [hR2, lf1 hf (by assumption)]; rfl)
            | (
              have hR2 : R = itms s f i k := by
               rw [hR]
               first
               | exact if_pos rfl
               | (rw [if_neg (by decide), if_neg (by rw [hit_some hx_]; simp; omega)])
              rw [hR2, lf2 hf (by assumption) (by rw [hit_some hy_]; exact decide_eq_true (by omega)) (by assumption)]; rfl)
            | (
              have hR2 : R = itms s f i k := by
               rw [hR]
               first
               | exact if_pos rfl
               | (rw [if_neg (by decide), if_neg (by rw [hit_some hx_]; simp; omega)])
              rw [hR2, lf3 hf (by assumption) (by rw [hit_some hy_]; exact decide_eq_true (by omega)) (by assumption) (by assumption)]; rfl)
            | (
              have hR2 : R = itms s f i k := by
               rw [hR]
               first
               | exact if_pos rfl
               | (rw [if_neg (by decide), if_neg (by rw [hit_some hx_]; simp; omega)])
              rw [hR2, lf4 hf (by assumption) (by rw [hit_some hy_]; exact decide_eq_true (by omega)) (by assumption) (by assumption), lfe (by omega)]; rfl)
            | (
              have hR2 : R = itms s f i k := by
               rw [hR]
               first
               | exact if_pos rfl
               | (rw [if_neg (by decide), if_neg (by rw [hit_some hx_]; simp; omega)])
              rw [hR2, lf6 hf (by assumption) (by first | exact hit_none (by omega) | (rw [hit_some hy_]; exact decide_eq_false (by omega))), lfe (by omega)]; rfl)
            | (
              have hR3 : R = some (k, i + 1) := by rw [hR, if_neg (by decide), if_pos (by rw [hit_some hx_]; exact decide_eq_true (by omega))]
              rw [hR3]; simp_all [fin, readA, spanN]; done)
            | trace_state
          ·first
           | exfalso; omega
           |skip
            refine wp_skip ?_
            refine wp_seq ?_
            refine wp_ops ?_
            first | refine o_movd rfl rfl ?_ | refine o_movp rfl rfl ?_ | refine o_mova rfl rfl ?_ | refine o_mov rfl rfl ?_
            first | refine o_movd rfl rfl ?_ | refine o_movp rfl rfl ?_ | refine o_mova rfl rfl ?_ | refine o_mov rfl rfl ?_
            (have hs1_ := sn_le s i hi; refine o_addkn rfl rfl rfl (by decide) (by simp only [m64]; omega) ?_)
            first | refine o_asgd rfl rfl ?_ | refine o_asgo rfl rfl ?_ | refine o_asg rfl rfl (fun _ h_ => by cases h_) ?_
            refine op_nil ?_
            refine wp_seq ?_
            refine wp_seq ?_
            refine wp_ops ?_
            first | refine o_movd rfl rfl ?_ | refine o_movp rfl rfl ?_ | refine o_mova rfl rfl ?_ | refine o_mov rfl rfl ?_
            first | refine o_movd rfl rfl ?_ | refine o_movp rfl rfl ?_ | refine o_mova rfl rfl ?_ | refine o_mov rfl rfl ?_
            refine o_lenS rfl rfl ?_
            first | refine o_lssn rfl rfl rfl ?_ | refine o_bin rfl rfl rfl rfl ?_
            first | refine o_movd rfl rfl ?_ | refine o_movp rfl rfl ?_ | refine o_mova rfl rfl ?_ | refine o_mov rfl rfl ?_
            refine o_ifp rfl ?_ ?_ <;> intro hq_ hg_ <;> simp only [hg_] <;> clear hg_
            ·first
             | exfalso; omega
             |skip
              first | refine o_movd rfl rfl ?_ | refine o_movp rfl rfl ?_ | refine o_mova rfl rfl ?_ | refine o_mov rfl rfl ?_
              first | refine o_movd rfl rfl ?_ | refine o_movp rfl rfl ?_ | refine o_mova rfl rfl ?_ | refine o_mov rfl rfl ?_
              (obtain ⟨y_, hy_⟩ := getS (show i + sn (sign (s.drop i)) < s.length by omega); refine o_idxS (m := i + sn (sign (s.drop i))) rfl rfl rfl rfl hy_ ?_)
              first | refine o_eqln rfl rfl rfl ?_ | refine o_eqs rfl rfl rfl ?_ | refine o_bin rfl rfl rfl rfl ?_
              refine o_pickt rfl rfl rfl ?_
              refine op_nil ?_
              first | refine wp_if rfl ?_ ?_ <;> intro hq_ | refine wp_cond rfl ?_ ?_ <;> intro hq_
              ·first
               | exfalso; omega
               |skip
                refine wp_seq ?_
                refine wp_ops ?_
                first | refine o_movd rfl rfl ?_ | refine o_movp rfl rfl ?_ | refine o_mova rfl rfl ?_ | refine o_mov rfl rfl ?_
                first | refine o_movd rfl rfl ?_ | refine o_movp rfl rfl ?_ | refine o_mova rfl rfl ?_ | refine o_mov rfl rfl ?_
                refine o_addkn rfl rfl rfl (by decide) (by simp only [m64]; omega) ?_
                refine o_sub0 rfl rfl rfl rfl (by omega) ?_
                refine o_call rfl rfl rfl (rSignP_ev (s.drop (i + sn (sign (s.drop i)) + 1)) _) ?_
                refine o_mov rfl rfl ?_
                refine o_extr rfl rfl rfl ?_
                refine o_extr rfl rfl rfl ?_
                refine o_extr rfl rfl rfl ?_
                first | refine o_asgd rfl rfl ?_ | refine o_asgo rfl rfl ?_ | refine o_asg rfl rfl (fun _ h_ => by cases h_) ?_
                first | refine o_asgd rfl rfl ?_ | refine o_asgo rfl rfl ?_ | refine o_asg rfl rfl (fun _ h_ => by cases h_) ?_
                first | refine o_asgd rfl rfl ?_ | refine o_asgo rfl rfl ?_ | refine o_asg rfl rfl (fun _ h_ => by cases h_) ?_
                refine op_nil ?_
                refine wp_seq ?_
                refine wp_seq ?_
                refine wp_ops ?_
                first | refine o_movd rfl rfl ?_ | refine o_movp rfl rfl ?_ | refine o_mova rfl rfl ?_ | refine o_mov rfl rfl ?_
                first | refine o_neqn rfl rfl rfl ?_ | refine o_nes rfl rfl rfl ?_ | refine o_bin rfl rfl rfl rfl ?_
                first | refine o_movd rfl rfl ?_ | refine o_movp rfl rfl ?_ | refine o_mova rfl rfl ?_ | refine o_mov rfl rfl ?_
                refine o_ifp rfl ?_ ?_ <;> intro hq_ hg_ <;> simp only [hg_] <;> clear hg_
                ·first
                 | exfalso; omega
                 |skip
                  refine o_skip rfl ?_
                  refine o_skip rfl ?_
                  refine o_skip rfl ?_
                  refine o_pickt rfl rfl rfl ?_
                  refine op_nil ?_
                  refine wp_cond rfl (fun _ => ?_) (fun h_ => absurd h_ (by decide))
                  refine wp_seq ?_
                  refine wp_ops ?_
                  refine o_build (cs := clsC 0) rfl rfl ?_
                  first | (refine o_scls (k := 0) rfl rfl rfl (rfget0 _ _ _) rfl (rfset0 _ _ _ _) ?_) | (refine o_scls rfl rfl rfl (rfget1 _ _ _ _) rfl (rfset1 _ _ _ _ _) ?_) | (refine o_scls rfl rfl rfl (rfget0 _ _ _) rfl (rfset0 _ _ _ _) ?_)
                  first | refine o_asgd rfl rfl ?_ | refine o_asgo rfl rfl ?_ | refine o_asg rfl rfl (fun _ h_ => by cases h_) ?_
                  first | refine o_asgd rfl rfl ?_ | refine o_asgo rfl rfl ?_ | refine o_asg rfl rfl (fun _ h_ => by cases h_) ?_
                  refine op_nil ?_
                  refine wp_ret ?_
                  refine bx_ret ?_
                  refine bx_ret ?_
                  refine end_read rfl rfl rfl (rfget0 _ _ _) rfl rfl ?_ (by simp)
                  first
                  | (
                    have hR2 : R = itms s f i k := by
                     rw [hR]
                     first
                     | exact if_pos rfl
                     | (rw [if_neg (by decide), if_neg (by rw [hit_some hx_]; simp; omega)])
                    rw [hR2, lf1 hf (by assumption)]; rfl)
                  | (
                    have hR2 : R = itms s f i k := by
                     rw [hR]
                     first
                     | exact if_pos rfl
                     | (rw [if_neg (by decide), if_neg (by rw [hit_some hx_]; simp; omega)])
                    rw [hR2, lf2 hf (by assumption) (by rw [hit_some hy_]; exact decide_eq_true (by omega)) (by assumption)]; rfl)
                  | (
                    have hR2 : R = itms s f i k := by
                     rw [hR]
                     first
                     | exact if_pos rfl
                     | (rw [if_neg (by decide), if_neg (by rw [hit_some hx_]; simp; omega)])
                    rw [hR2, lf3 hf (by assumption) (by rw [hit_some hy_]; exact decide_eq_true (by omega)) (by assumption) (by assumption)]; rfl)
                  | (
                    have hR2 : R = itms s f i k := by
                     rw [hR]
                     first
                     | exact if_pos rfl
                     | (rw [if_neg (by decide), if_neg (by rw [hit_some hx_]; simp; omega)])
                    rw [hR2, lf4 hf (by assumption) (by rw [hit_some hy_]; exact decide_eq_true (by omega)) (by assumption) (by assumption), lfe (by omega)]; rfl)
                  | (
                    have hR2 : R = itms s f i k := by
                     rw [hR]
                     first
                     | exact if_pos rfl
                     | (rw [if_neg (by decide), if_neg (by rw [hit_some hx_]; simp; omega)])
                    rw [hR2, lf6 hf (by assumption) (by first | exact hit_none (by omega) | (rw [hit_some hy_]; exact decide_eq_false (by omega))), lfe (by omega)]; rfl)
                  | (
                    have hR3 : R = some (k, i + 1) := by rw [hR, if_neg (by decide), if_pos (by rw [hit_some hx_]; exact decide_eq_true (by omega))]
                    rw [hR3]; simp_all [fin, readA, spanN]; done)
                  | trace_state
                ·first
                 | exfalso; omega
                 |skip
                  first | refine o_movd rfl rfl ?_ | refine o_movp rfl rfl ?_ | refine o_mova rfl rfl ?_ | refine o_mov rfl rfl ?_
                  first | refine o_movd rfl rfl ?_ | refine o_movp rfl rfl ?_ | refine o_mova rfl rfl ?_ | refine o_mov rfl rfl ?_
                  first | refine o_gtrn rfl rfl rfl ?_ | refine o_bin rfl rfl rfl rfl ?_
                  refine o_pickf rfl rfl rfl ?_
                  refine op_nil ?_
                  first | refine wp_if rfl ?_ ?_ <;> intro hq_ | refine wp_cond rfl ?_ ?_ <;> intro hq_
                  ·first
                   | exfalso; omega
                   |skip
                    refine wp_seq ?_
                    refine wp_ops ?_
                    refine o_build (cs := clsC 0) rfl rfl ?_
                    first | (refine o_scls (k := 0) rfl rfl rfl (rfget0 _ _ _) rfl (rfset0 _ _ _ _) ?_) | (refine o_scls rfl rfl rfl (rfget1 _ _ _ _) rfl (rfset1 _ _ _ _ _) ?_) | (refine o_scls rfl rfl rfl (rfget0 _ _ _) rfl (rfset0 _ _ _ _) ?_)
                    first | refine o_asgd rfl rfl ?_ | refine o_asgo rfl rfl ?_ | refine o_asg rfl rfl (fun _ h_ => by cases h_) ?_
                    first | refine o_asgd rfl rfl ?_ | refine o_asgo rfl rfl ?_ | refine o_asg rfl rfl (fun _ h_ => by cases h_) ?_
                    refine op_nil ?_
                    refine wp_ret ?_
                    refine bx_ret ?_
                    refine bx_ret ?_
                    refine end_read rfl rfl rfl (rfget0 _ _ _) rfl rfl ?_ (by simp)
                    first
                    | (
                      have hR2 : R = itms s f i k := by
                       rw [hR]
                       first
                       | exact if_pos rfl
                       | (rw [if_neg (by decide), if_neg (by rw [hit_some hx_]; simp; omega)])
                      rw [hR2, lf1 hf (by assumption)]; rfl)
                    | (
                      have hR2 : R = itms s f i k := by
                       rw [hR]
                       first
                       | exact if_pos rfl
                       | (rw [if_neg (by decide), if_neg (by rw [hit_some hx_]; simp; omega)])
                      rw [hR2, lf2 hf (by assumption) (by rw [hit_some hy_]; exact decide_eq_true (by omega)) (by assumption)]; rfl)
                    | (
                      have hR2 : R = itms s f i k := by
                       rw [hR]
                       first
                       | exact if_pos rfl
                       | (rw [if_neg (by decide), if_neg (by rw [hit_some hx_]; simp; omega)])
                      rw [hR2, lf3 hf (by assumption) (by rw [hit_some hy_]; exact decide_eq_true (by omega)) (by assumption) (by assumption)]; rfl)
                    | (
                      have hR2 : R = itms s f i k := by
                       rw [hR]
                       first
                       | exact if_pos rfl
                       | (rw [if_neg (by decide), if_neg (by rw [hit_some hx_]; simp; omega)])
                      rw [hR2, lf4 hf (by assumption) (by rw [hit_some hy_]; exact decide_eq_true (by omega)) (by assumption) (by assumption), lfe (by omega)]; rfl)
                    | (
                      have hR2 : R = itms s f i k := by
                       rw [hR]
                       first
                       | exact if_pos rfl
                       | (rw [if_neg (by decide), if_neg (by rw [hit_some hx_]; simp; omega)])
                      rw [hR2, lf6 hf (by assumption) (by first | exact hit_none (by omega) | (rw [hit_some hy_]; exact decide_eq_false (by omega))), lfe (by omega)]; rfl)
                    | (
                      have hR3 : R = some (k, i + 1) := by rw [hR, if_neg (by decide), if_pos (by rw [hit_some hx_]; exact decide_eq_true (by omega))]
                      rw [hR3]; simp_all [fin, readA, spanN]; done)
                    | trace_state
                  ·first
                   | exfalso; omega
                   |skip
                    refine wp_skip ?_
                    refine wp_seq ?_
                    refine wp_ops ?_
                    first | refine o_movd rfl rfl ?_ | refine o_movp rfl rfl ?_ | refine o_mova rfl rfl ?_ | refine o_mov rfl rfl ?_
                    refine o_addkn rfl rfl rfl (by decide) (by simp only [m64]; omega) ?_
                    first | refine o_movd rfl rfl ?_ | refine o_movp rfl rfl ?_ | refine o_mova rfl rfl ?_ | refine o_mov rfl rfl ?_
                    (have hs2_ := sn_le s (i + sn (sign (s.drop i)) + 1) (by omega); refine o_addkn rfl rfl rfl (by decide) (by simp only [m64]; omega) ?_)
                    first | refine o_asgd rfl rfl ?_ | refine o_asgo rfl rfl ?_ | refine o_asg rfl rfl (fun _ h_ => by cases h_) ?_
                    refine op_nil ?_
                    refine wp_ops ?_
                    refine o_lcls rfl rfl (rfget1 _ _ _ _) ?_
                    first | refine o_movd rfl rfl ?_ | refine o_movp rfl rfl ?_ | refine o_mova rfl rfl ?_ | refine o_mov rfl rfl ?_
                    first | refine o_movd rfl rfl ?_ | refine o_movp rfl rfl ?_ | refine o_mova rfl rfl ?_ | refine o_mov rfl rfl ?_
                    refine o_callz rfl rfl rfl rfl (rSpan_ev _ _ (sa_lt _) (sa_lt _) _) ?_
                    refine o_call rfl rfl rfl (rOr_ev _ _ (spanN_lt _ _ (by have := sa_lt (s.drop i); have := sa_lt (s.drop (i + sn (sign (s.drop i)) + 1)); omega)) _) ?_
                    first | (refine o_scls (k := 0) rfl rfl rfl (rfget0 _ _ _) rfl (rfset0 _ _ _ _) ?_) | (refine o_scls rfl rfl rfl (rfget1 _ _ _ _) rfl (rfset1 _ _ _ _ _) ?_) | (refine o_scls rfl rfl rfl (rfget0 _ _ _) rfl (rfset0 _ _ _ _) ?_)
                    refine op_nil ?_
                    refine wp_seq ?_
                    refine wp_ops ?_
                    first | refine o_movd rfl rfl ?_ | refine o_movp rfl rfl ?_ | refine o_mova rfl rfl ?_ | refine o_mov rfl rfl ?_
                    first | refine o_movd rfl rfl ?_ | refine o_movp rfl rfl ?_ | refine o_mova rfl rfl ?_ | refine o_mov rfl rfl ?_
                    refine o_lenS rfl rfl ?_
                    first | refine o_geqn rfl rfl rfl ?_ | refine o_bin rfl rfl rfl rfl ?_
                    refine op_nil ?_
                    first | refine wp_if rfl ?_ ?_ <;> intro hq_ | refine wp_cond rfl ?_ ?_ <;> intro hq_
                    ·first
                     | exfalso; omega
                     |skip
                      refine wp_seq ?_
                      refine wp_ops ?_
                      refine o_build (cs := clsC 0) rfl rfl ?_
                      first | (refine o_scls (k := 0) rfl rfl rfl (rfget0 _ _ _) rfl (rfset0 _ _ _ _) ?_) | (refine o_scls rfl rfl rfl (rfget1 _ _ _ _) rfl (rfset1 _ _ _ _ _) ?_) | (refine o_scls rfl rfl rfl (rfget0 _ _ _) rfl (rfset0 _ _ _ _) ?_)
                      first | refine o_asgd rfl rfl ?_ | refine o_asgo rfl rfl ?_ | refine o_asg rfl rfl (fun _ h_ => by cases h_) ?_
                      first | refine o_asgd rfl rfl ?_ | refine o_asgo rfl rfl ?_ | refine o_asg rfl rfl (fun _ h_ => by cases h_) ?_
                      refine op_nil ?_
                      refine wp_ret ?_
                      refine bx_ret ?_
                      refine bx_ret ?_
                      refine end_read rfl rfl rfl (rfget0 _ _ _) rfl rfl ?_ (by simp)
                      first
                      | (
                        have hR2 : R = itms s f i k := by
                         rw [hR]
                         first
                         | exact if_pos rfl
                         | (rw [if_neg (by decide), if_neg (by rw [hit_some hx_]; simp; omega)])
                        rw [hR2, lf1 hf (by assumption)]; rfl)
                      | (
                        have hR2 : R = itms s f i k := by
                         rw [hR]
                         first
                         | exact if_pos rfl
                         | (rw [if_neg (by decide), if_neg (by rw [hit_some hx_]; simp; omega)])
                        rw [hR2, lf2 hf (by assumption) (by rw [hit_some hy_]; exact decide_eq_true (by omega)) (by assumption)]; rfl)
                      | (
                        have hR2 : R = itms s f i k := by
                         rw [hR]
                         first
                         | exact if_pos rfl
                         | (rw [if_neg (by decide), if_neg (by rw [hit_some hx_]; simp; omega)])
                        rw [hR2, lf3 hf (by assumption) (by rw [hit_some hy_]; exact decide_eq_true (by omega)) (by assumption) (by assumption)]; rfl)
                      | (
                        have hR2 : R = itms s f i k := by
                         rw [hR]
                         first
                         | exact if_pos rfl
                         | (rw [if_neg (by decide), if_neg (by rw [hit_some hx_]; simp; omega)])
                        rw [hR2, lf4 hf (by assumption) (by rw [hit_some hy_]; exact decide_eq_true (by omega)) (by assumption) (by assumption), lfe (by omega)]; rfl)
                      | (
                        have hR2 : R = itms s f i k := by
                         rw [hR]
                         first
                         | exact if_pos rfl
                         | (rw [if_neg (by decide), if_neg (by rw [hit_some hx_]; simp; omega)])
                        rw [hR2, lf6 hf (by assumption) (by first | exact hit_none (by omega) | (rw [hit_some hy_]; exact decide_eq_false (by omega))), lfe (by omega)]; rfl)
                      | (
                        have hR3 : R = some (k, i + 1) := by rw [hR, if_neg (by decide), if_pos (by rw [hit_some hx_]; exact decide_eq_true (by omega))]
                        rw [hR3]; simp_all [fin, readA, spanN]; done)
                      | trace_state
                    ·first
                     | exfalso; omega
                     |skip
                      refine wp_skip ?_
                      refine keepN (by (simp +decide only [Slots.keep, Slots.get, reduceIte]); exact rfl) ?_
                      have hR2 : R = itms s f i k := by
                       rw [hR]
                       first
                       | exact if_pos rfl
                       | (rw [if_neg (by decide), if_neg (by rw [hit_some hx_]; simp; omega)])
                      have p1 := sn_pos (s := s.drop i) (by assumption)
                      first
                      | (
                        have p2 := sn_pos (s := s.drop (i + sn (sign (s.drop i)) + 1)) (by assumption)
                        have hR4 := hR2.trans (lf4 hf (by assumption) (by rw [hit_some hy_]; exact decide_eq_true (by omega)) (by assumption) (by assumption))
                        refine ⟨by simp, _, ?_, false, _, _, f - 1, rfl, ?_, fun _ => ?_, ?_, hR4.trans (if_neg (by decide)).symm, rfl⟩ <;> omega)
                      | (
                        have hR4 := hR2.trans (lf6 hf (by assumption) (by first | exact hit_none (by omega) | (rw [hit_some hy_]; exact decide_eq_false (by omega))))
                        refine ⟨by simp, _, ?_, false, _, _, f - 1, rfl, ?_, fun _ => ?_, ?_, hR4.trans (if_neg (by decide)).symm, rfl⟩ <;> omega)
              ·first
               | exfalso; omega
               |skip
                refine wp_ops ?_
                refine o_lcls rfl rfl (rfget1 _ _ _ _) ?_
                first | refine o_movd rfl rfl ?_ | refine o_movp rfl rfl ?_ | refine o_mova rfl rfl ?_ | refine o_mov rfl rfl ?_
                refine o_call rfl rfl rfl (with_ev _ _ (sa_lt _) _) ?_
                first | (refine o_scls (k := 0) rfl rfl rfl (rfget0 _ _ _) rfl (rfset0 _ _ _ _) ?_) | (refine o_scls rfl rfl rfl (rfget1 _ _ _ _) rfl (rfset1 _ _ _ _ _) ?_) | (refine o_scls rfl rfl rfl (rfget0 _ _ _) rfl (rfset0 _ _ _ _) ?_)
                refine op_nil ?_
                refine wp_seq ?_
                refine wp_ops ?_
                first | refine o_movd rfl rfl ?_ | refine o_movp rfl rfl ?_ | refine o_mova rfl rfl ?_ | refine o_mov rfl rfl ?_
                first | refine o_movd rfl rfl ?_ | refine o_movp rfl rfl ?_ | refine o_mova rfl rfl ?_ | refine o_mov rfl rfl ?_
                refine o_lenS rfl rfl ?_
                first | refine o_geqn rfl rfl rfl ?_ | refine o_bin rfl rfl rfl rfl ?_
                refine op_nil ?_
                first | refine wp_if rfl ?_ ?_ <;> intro hq_ | refine wp_cond rfl ?_ ?_ <;> intro hq_
                ·first
                 | exfalso; omega
                 |skip
                  refine wp_seq ?_
                  refine wp_ops ?_
                  refine o_build (cs := clsC 0) rfl rfl ?_
                  first | (refine o_scls (k := 0) rfl rfl rfl (rfget0 _ _ _) rfl (rfset0 _ _ _ _) ?_) | (refine o_scls rfl rfl rfl (rfget1 _ _ _ _) rfl (rfset1 _ _ _ _ _) ?_) | (refine o_scls rfl rfl rfl (rfget0 _ _ _) rfl (rfset0 _ _ _ _) ?_)
                  first | refine o_asgd rfl rfl ?_ | refine o_asgo rfl rfl ?_ | refine o_asg rfl rfl (fun _ h_ => by cases h_) ?_
                  first | refine o_asgd rfl rfl ?_ | refine o_asgo rfl rfl ?_ | refine o_asg rfl rfl (fun _ h_ => by cases h_) ?_
                  refine op_nil ?_
                  refine wp_ret ?_
                  refine bx_ret ?_
                  refine bx_ret ?_
                  refine end_read rfl rfl rfl (rfget0 _ _ _) rfl rfl ?_ (by simp)
                  first
                  | (
                    have hR2 : R = itms s f i k := by
                     rw [hR]
                     first
                     | exact if_pos rfl
                     | (rw [if_neg (by decide), if_neg (by rw [hit_some hx_]; simp; omega)])
                    rw [hR2, lf1 hf (by assumption)]; rfl)
                  | (
                    have hR2 : R = itms s f i k := by
                     rw [hR]
                     first
                     | exact if_pos rfl
                     | (rw [if_neg (by decide), if_neg (by rw [hit_some hx_]; simp; omega)])
                    rw [hR2, lf2 hf (by assumption) (by rw [hit_some hy_]; exact decide_eq_true (by omega)) (by assumption)]; rfl)
                  | (
                    have hR2 : R = itms s f i k := by
                     rw [hR]
                     first
                     | exact if_pos rfl
                     | (rw [if_neg (by decide), if_neg (by rw [hit_some hx_]; simp; omega)])
                    rw [hR2, lf3 hf (by assumption) (by rw [hit_some hy_]; exact decide_eq_true (by omega)) (by assumption) (by assumption)]; rfl)
                  | (
                    have hR2 : R = itms s f i k := by
                     rw [hR]
                     first
                     | exact if_pos rfl
                     | (rw [if_neg (by decide), if_neg (by rw [hit_some hx_]; simp; omega)])
                    rw [hR2, lf4 hf (by assumption) (by rw [hit_some hy_]; exact decide_eq_true (by omega)) (by assumption) (by assumption), lfe (by omega)]; rfl)
                  | (
                    have hR2 : R = itms s f i k := by
                     rw [hR]
                     first
                     | exact if_pos rfl
                     | (rw [if_neg (by decide), if_neg (by rw [hit_some hx_]; simp; omega)])
                    rw [hR2, lf6 hf (by assumption) (by first | exact hit_none (by omega) | (rw [hit_some hy_]; exact decide_eq_false (by omega))), lfe (by omega)]; rfl)
                  | (
                    have hR3 : R = some (k, i + 1) := by rw [hR, if_neg (by decide), if_pos (by rw [hit_some hx_]; exact decide_eq_true (by omega))]
                    rw [hR3]; simp_all [fin, readA, spanN]; done)
                  | trace_state
                ·first
                 | exfalso; omega
                 |skip
                  refine wp_skip ?_
                  refine keepN (by (simp +decide only [Slots.keep, Slots.get, reduceIte]); exact rfl) ?_
                  have hR2 : R = itms s f i k := by
                   rw [hR]
                   first
                   | exact if_pos rfl
                   | (rw [if_neg (by decide), if_neg (by rw [hit_some hx_]; simp; omega)])
                  have p1 := sn_pos (s := s.drop i) (by assumption)
                  first
                  | (
                    have p2 := sn_pos (s := s.drop (i + sn (sign (s.drop i)) + 1)) (by assumption)
                    have hR4 := hR2.trans (lf4 hf (by assumption) (by rw [hit_some hy_]; exact decide_eq_true (by omega)) (by assumption) (by assumption))
                    refine ⟨by simp, _, ?_, false, _, _, f - 1, rfl, ?_, fun _ => ?_, ?_, hR4.trans (if_neg (by decide)).symm, rfl⟩ <;> omega)
                  | (
                    have hR4 := hR2.trans (lf6 hf (by assumption) (by first | exact hit_none (by omega) | (rw [hit_some hy_]; exact decide_eq_false (by omega))))
                    refine ⟨by simp, _, ?_, false, _, _, f - 1, rfl, ?_, fun _ => ?_, ?_, hR4.trans (if_neg (by decide)).symm, rfl⟩ <;> omega)
            ·first
             | exfalso; omega
             |skip
              refine o_skip rfl ?_
              refine o_skip rfl ?_
              refine o_skip rfl ?_
              refine o_skip rfl ?_
              refine o_pickf rfl rfl rfl ?_
              refine op_nil ?_
              refine wp_cond rfl (fun h_ => absurd h_ (by decide)) (fun _ => ?_)
              refine wp_ops ?_
              refine o_lcls rfl rfl (rfget1 _ _ _ _) ?_
              first | refine o_movd rfl rfl ?_ | refine o_movp rfl rfl ?_ | refine o_mova rfl rfl ?_ | refine o_mov rfl rfl ?_
              refine o_call rfl rfl rfl (with_ev _ _ (sa_lt _) _) ?_
              first | (refine o_scls (k := 0) rfl rfl rfl (rfget0 _ _ _) rfl (rfset0 _ _ _ _) ?_) | (refine o_scls rfl rfl rfl (rfget1 _ _ _ _) rfl (rfset1 _ _ _ _ _) ?_) | (refine o_scls rfl rfl rfl (rfget0 _ _ _) rfl (rfset0 _ _ _ _) ?_)
              refine op_nil ?_
              refine wp_seq ?_
              refine wp_ops ?_
              first | refine o_movd rfl rfl ?_ | refine o_movp rfl rfl ?_ | refine o_mova rfl rfl ?_ | refine o_mov rfl rfl ?_
              first | refine o_movd rfl rfl ?_ | refine o_movp rfl rfl ?_ | refine o_mova rfl rfl ?_ | refine o_mov rfl rfl ?_
              refine o_lenS rfl rfl ?_
              first | refine o_geqn rfl rfl rfl ?_ | refine o_bin rfl rfl rfl rfl ?_
              refine op_nil ?_
              first | refine wp_if rfl ?_ ?_ <;> intro hq_ | refine wp_cond rfl ?_ ?_ <;> intro hq_
              ·first
               | exfalso; omega
               |skip
                refine wp_seq ?_
                refine wp_ops ?_
                refine o_build (cs := clsC 0) rfl rfl ?_
                first | (refine o_scls (k := 0) rfl rfl rfl (rfget0 _ _ _) rfl (rfset0 _ _ _ _) ?_) | (refine o_scls rfl rfl rfl (rfget1 _ _ _ _) rfl (rfset1 _ _ _ _ _) ?_) | (refine o_scls rfl rfl rfl (rfget0 _ _ _) rfl (rfset0 _ _ _ _) ?_)
                first | refine o_asgd rfl rfl ?_ | refine o_asgo rfl rfl ?_ | refine o_asg rfl rfl (fun _ h_ => by cases h_) ?_
                first | refine o_asgd rfl rfl ?_ | refine o_asgo rfl rfl ?_ | refine o_asg rfl rfl (fun _ h_ => by cases h_) ?_
                refine op_nil ?_
                refine wp_ret ?_
                refine bx_ret ?_
                refine bx_ret ?_
                refine end_read rfl rfl rfl (rfget0 _ _ _) rfl rfl ?_ (by simp)
                first
                | (
                  have hR2 : R = itms s f i k := by
                   rw [hR]
                   first
                   | exact if_pos rfl
                   | (rw [if_neg (by decide), if_neg (by rw [hit_some hx_]; simp; omega)])
                  rw [hR2, lf1 hf (by assumption)]; rfl)
                | (
                  have hR2 : R = itms s f i k := by
                   rw [hR]
                   first
                   | exact if_pos rfl
                   | (rw [if_neg (by decide), if_neg (by rw [hit_some hx_]; simp; omega)])
                  rw [hR2, lf2 hf (by assumption) (by rw [hit_some hy_]; exact decide_eq_true (by omega)) (by assumption)]; rfl)
                | (
                  have hR2 : R = itms s f i k := by
                   rw [hR]
                   first
                   | exact if_pos rfl
                   | (rw [if_neg (by decide), if_neg (by rw [hit_some hx_]; simp; omega)])
                  rw [hR2, lf3 hf (by assumption) (by rw [hit_some hy_]; exact decide_eq_true (by omega)) (by assumption) (by assumption)]; rfl)
                | (
                  have hR2 : R = itms s f i k := by
                   rw [hR]
                   first
                   | exact if_pos rfl
                   | (rw [if_neg (by decide), if_neg (by rw [hit_some hx_]; simp; omega)])
                  rw [hR2, lf4 hf (by assumption) (by rw [hit_some hy_]; exact decide_eq_true (by omega)) (by assumption) (by assumption), lfe (by omega)]; rfl)
                | (
                  have hR2 : R = itms s f i k := by
                   rw [hR]
                   first
                   | exact if_pos rfl
                   | (rw [if_neg (by decide), if_neg (by rw [hit_some hx_]; simp; omega)])
                  rw [hR2, lf6 hf (by assumption) (by first | exact hit_none (by omega) | (rw [hit_some hy_]; exact decide_eq_false (by omega))), lfe (by omega)]; rfl)
                | (
                  have hR3 : R = some (k, i + 1) := by rw [hR, if_neg (by decide), if_pos (by rw [hit_some hx_]; exact decide_eq_true (by omega))]
                  rw [hR3]; simp_all [fin, readA, spanN]; done)
                | trace_state
              ·first
               | exfalso; omega
               |skip
                refine wp_skip ?_
                refine keepN (by (simp +decide only [Slots.keep, Slots.get, reduceIte]); exact rfl) ?_
                have hR2 : R = itms s f i k := by
                 rw [hR]
                 first
                 | exact if_pos rfl
                 | (rw [if_neg (by decide), if_neg (by rw [hit_some hx_]; simp; omega)])
                have p1 := sn_pos (s := s.drop i) (by assumption)
                first
                | (
                  have p2 := sn_pos (s := s.drop (i + sn (sign (s.drop i)) + 1)) (by assumption)
                  have hR4 := hR2.trans (lf4 hf (by assumption) (by rw [hit_some hy_]; exact decide_eq_true (by omega)) (by assumption) (by assumption))
                  refine ⟨by simp, _, ?_, false, _, _, f - 1, rfl, ?_, fun _ => ?_, ?_, hR4.trans (if_neg (by decide)).symm, rfl⟩ <;> omega)
                | (
                  have hR4 := hR2.trans (lf6 hf (by assumption) (by first | exact hit_none (by omega) | (rw [hit_some hy_]; exact decide_eq_false (by omega))))
                  refine ⟨by simp, _, ?_, false, _, _, f - 1, rfl, ?_, fun _ => ?_, ?_, hR4.trans (if_neg (by decide)).symm, rfl⟩ <;> omega)
        ·first
         | exfalso; omega
         |skip
          first | refine o_movd rfl rfl ?_ | refine o_movp rfl rfl ?_ | refine o_mova rfl rfl ?_ | refine o_mov rfl rfl ?_
          first | refine o_movd rfl rfl ?_ | refine o_movp rfl rfl ?_ | refine o_mova rfl rfl ?_ | refine o_mov rfl rfl ?_
          (obtain ⟨x_, hx_⟩ := getS (show i < s.length by omega); refine o_idxS (m := i) rfl rfl rfl rfl hx_ ?_)
          first | refine o_neqn rfl rfl rfl ?_ | refine o_nes rfl rfl rfl ?_ | refine o_bin rfl rfl rfl rfl ?_
          refine o_pickf rfl rfl rfl ?_
          refine op_nil ?_
          first | refine wp_if rfl ?_ ?_ <;> intro hq_ | refine wp_cond rfl ?_ ?_ <;> intro hq_
          ·first
           | exfalso; omega
           |skip
            refine wp_skip ?_
            refine wp_keep ?_
            refine wp_block ?_
            refine wp_seq ?_
            refine wp_ops ?_
            first | refine o_asgd rfl rfl ?_ | refine o_asgo rfl rfl ?_ | refine o_asg rfl rfl (fun _ h_ => by cases h_) ?_
            refine op_nil ?_
            refine wp_seq ?_
            refine wp_ops ?_
            first | refine o_movd rfl rfl ?_ | refine o_movp rfl rfl ?_ | refine o_mova rfl rfl ?_ | refine o_mov rfl rfl ?_
            first | refine o_movd rfl rfl ?_ | refine o_movp rfl rfl ?_ | refine o_mova rfl rfl ?_ | refine o_mov rfl rfl ?_
            refine o_sub0 rfl rfl rfl rfl (by omega) ?_
            refine o_call rfl rfl rfl (rSignP_ev (s.drop i) _) ?_
            refine o_mov rfl rfl ?_
            refine o_extr rfl rfl rfl ?_
            refine o_extr rfl rfl rfl ?_
            refine o_extr rfl rfl rfl ?_
            first | refine o_asgd rfl rfl ?_ | refine o_asgo rfl rfl ?_ | refine o_asg rfl rfl (fun _ h_ => by cases h_) ?_
            first | refine o_asgd rfl rfl ?_ | refine o_asgo rfl rfl ?_ | refine o_asg rfl rfl (fun _ h_ => by cases h_) ?_
            first | refine o_asgd rfl rfl ?_ | refine o_asgo rfl rfl ?_ | refine o_asg rfl rfl (fun _ h_ => by cases h_) ?_
            refine op_nil ?_
            refine wp_seq ?_
            refine wp_seq ?_
            refine wp_ops ?_
            first | refine o_movd rfl rfl ?_ | refine o_movp rfl rfl ?_ | refine o_mova rfl rfl ?_ | refine o_mov rfl rfl ?_
            first | refine o_neqn rfl rfl rfl ?_ | refine o_nes rfl rfl rfl ?_ | refine o_bin rfl rfl rfl rfl ?_
            refine op_nil ?_
            first | refine wp_if rfl ?_ ?_ <;> intro hq_ | refine wp_cond rfl ?_ ?_ <;> intro hq_
            ·first
             | exfalso; omega
             |skip
              refine wp_seq ?_
              refine wp_ops ?_
              refine o_build (cs := clsC 0) rfl rfl ?_
              first | (refine o_scls (k := 0) rfl rfl rfl (rfget0 _ _ _) rfl (rfset0 _ _ _ _) ?_) | (refine o_scls rfl rfl rfl (rfget1 _ _ _ _) rfl (rfset1 _ _ _ _ _) ?_) | (refine o_scls rfl rfl rfl (rfget0 _ _ _) rfl (rfset0 _ _ _ _) ?_)
              first | refine o_asgd rfl rfl ?_ | refine o_asgo rfl rfl ?_ | refine o_asg rfl rfl (fun _ h_ => by cases h_) ?_
              first | refine o_asgd rfl rfl ?_ | refine o_asgo rfl rfl ?_ | refine o_asg rfl rfl (fun _ h_ => by cases h_) ?_
              refine op_nil ?_
              refine wp_ret ?_
              refine bx_ret ?_
              refine bx_ret ?_
              refine end_read rfl rfl rfl (rfget0 _ _ _) rfl rfl ?_ (by simp)
              first
              | (
                have hR2 : R = itms s f i k := by
                 rw [hR]
                 first
                 | exact if_pos rfl
                 | (rw [if_neg (by decide), if_neg (by rw [hit_some hx_]; simp; omega)])
                rw [hR2, lf1 hf (by assumption)]; rfl)
              | (
                have hR2 : R = itms s f i k := by
                 rw [hR]
                 first
                 | exact if_pos rfl
                 | (rw [if_neg (by decide), if_neg (by rw [hit_some hx_]; simp; omega)])
                rw [hR2, lf2 hf (by assumption) (by rw [hit_some hy_]; exact decide_eq_true (by omega)) (by assumption)]; rfl)
              | (
                have hR2 : R = itms s f i k := by
                 rw [hR]
                 first
                 | exact if_pos rfl
                 | (rw [if_neg (by decide), if_neg (by rw [hit_some hx_]; simp; omega)])
                rw [hR2, lf3 hf (by assumption) (by rw [hit_some hy_]; exact decide_eq_true (by omega)) (by assumption) (by assumption)]; rfl)
              | (
                have hR2 : R = itms s f i k := by
                 rw [hR]
                 first
                 | exact if_pos rfl
                 | (rw [if_neg (by decide), if_neg (by rw [hit_some hx_]; simp; omega)])
                rw [hR2, lf4 hf (by assumption) (by rw [hit_some hy_]; exact decide_eq_true (by omega)) (by assumption) (by assumption), lfe (by omega)]; rfl)
              | (
                have hR2 : R = itms s f i k := by
                 rw [hR]
                 first
                 | exact if_pos rfl
                 | (rw [if_neg (by decide), if_neg (by rw [hit_some hx_]; simp; omega)])
                rw [hR2, lf6 hf (by assumption) (by first | exact hit_none (by omega) | (rw [hit_some hy_]; exact decide_eq_false (by omega))), lfe (by omega)]; rfl)
              | (
                have hR3 : R = some (k, i + 1) := by rw [hR, if_neg (by decide), if_pos (by rw [hit_some hx_]; exact decide_eq_true (by omega))]
                rw [hR3]; simp_all [fin, readA, spanN]; done)
              | trace_state
            ·first
             | exfalso; omega
             |skip
              refine wp_skip ?_
              refine wp_seq ?_
              refine wp_ops ?_
              first | refine o_movd rfl rfl ?_ | refine o_movp rfl rfl ?_ | refine o_mova rfl rfl ?_ | refine o_mov rfl rfl ?_
              first | refine o_movd rfl rfl ?_ | refine o_movp rfl rfl ?_ | refine o_mova rfl rfl ?_ | refine o_mov rfl rfl ?_
              (have hs1_ := sn_le s i hi; refine o_addkn rfl rfl rfl (by decide) (by simp only [m64]; omega) ?_)
              first | refine o_asgd rfl rfl ?_ | refine o_asgo rfl rfl ?_ | refine o_asg rfl rfl (fun _ h_ => by cases h_) ?_
              refine op_nil ?_
              refine wp_seq ?_
              refine wp_seq ?_
              refine wp_ops ?_
              first | refine o_movd rfl rfl ?_ | refine o_movp rfl rfl ?_ | refine o_mova rfl rfl ?_ | refine o_mov rfl rfl ?_
              first | refine o_movd rfl rfl ?_ | refine o_movp rfl rfl ?_ | refine o_mova rfl rfl ?_ | refine o_mov rfl rfl ?_
              refine o_lenS rfl rfl ?_
              first | refine o_lssn rfl rfl rfl ?_ | refine o_bin rfl rfl rfl rfl ?_
              first | refine o_movd rfl rfl ?_ | refine o_movp rfl rfl ?_ | refine o_mova rfl rfl ?_ | refine o_mov rfl rfl ?_
              refine o_ifp rfl ?_ ?_ <;> intro hq_ hg_ <;> simp only [hg_] <;> clear hg_
              ·first
               | exfalso; omega
               |skip
                first | refine o_movd rfl rfl ?_ | refine o_movp rfl rfl ?_ | refine o_mova rfl rfl ?_ | refine o_mov rfl rfl ?_
                first | refine o_movd rfl rfl ?_ | refine o_movp rfl rfl ?_ | refine o_mova rfl rfl ?_ | refine o_mov rfl rfl ?_
                (obtain ⟨y_, hy_⟩ := getS (show i + sn (sign (s.drop i)) < s.length by omega); refine o_idxS (m := i + sn (sign (s.drop i))) rfl rfl rfl rfl hy_ ?_)
                first | refine o_eqln rfl rfl rfl ?_ | refine o_eqs rfl rfl rfl ?_ | refine o_bin rfl rfl rfl rfl ?_
                refine o_pickt rfl rfl rfl ?_
                refine op_nil ?_
                first | refine wp_if rfl ?_ ?_ <;> intro hq_ | refine wp_cond rfl ?_ ?_ <;> intro hq_
                ·first
                 | exfalso; omega
                 |skip
                  refine wp_seq ?_
                  refine wp_ops ?_
                  first | refine o_movd rfl rfl ?_ | refine o_movp rfl rfl ?_ | refine o_mova rfl rfl ?_ | refine o_mov rfl rfl ?_
                  first | refine o_movd rfl rfl ?_ | refine o_movp rfl rfl ?_ | refine o_mova rfl rfl ?_ | refine o_mov rfl rfl ?_
                  refine o_addkn rfl rfl rfl (by decide) (by simp only [m64]; omega) ?_
                  refine o_sub0 rfl rfl rfl rfl (by omega) ?_
                  refine o_call rfl rfl rfl (rSignP_ev (s.drop (i + sn (sign (s.drop i)) + 1)) _) ?_
                  refine o_mov rfl rfl ?_
                  refine o_extr rfl rfl rfl ?_
                  refine o_extr rfl rfl rfl ?_
                  refine o_extr rfl rfl rfl ?_
                  first | refine o_asgd rfl rfl ?_ | refine o_asgo rfl rfl ?_ | refine o_asg rfl rfl (fun _ h_ => by cases h_) ?_
                  first | refine o_asgd rfl rfl ?_ | refine o_asgo rfl rfl ?_ | refine o_asg rfl rfl (fun _ h_ => by cases h_) ?_
                  first | refine o_asgd rfl rfl ?_ | refine o_asgo rfl rfl ?_ | refine o_asg rfl rfl (fun _ h_ => by cases h_) ?_
                  refine op_nil ?_
                  refine wp_seq ?_
                  refine wp_seq ?_
                  refine wp_ops ?_
                  first | refine o_movd rfl rfl ?_ | refine o_movp rfl rfl ?_ | refine o_mova rfl rfl ?_ | refine o_mov rfl rfl ?_
                  first | refine o_neqn rfl rfl rfl ?_ | refine o_nes rfl rfl rfl ?_ | refine o_bin rfl rfl rfl rfl ?_
                  first | refine o_movd rfl rfl ?_ | refine o_movp rfl rfl ?_ | refine o_mova rfl rfl ?_ | refine o_mov rfl rfl ?_
                  refine o_ifp rfl ?_ ?_ <;> intro hq_ hg_ <;> simp only [hg_] <;> clear hg_
                  ·first
                   | exfalso; omega
                   |skip
                    refine o_skip rfl ?_
                    refine o_skip rfl ?_
                    refine o_skip rfl ?_
                    refine o_pickt rfl rfl rfl ?_
                    refine op_nil ?_
                    refine wp_cond rfl (fun _ => ?_) (fun h_ => absurd h_ (by decide))
                    refine wp_seq ?_
                    refine wp_ops ?_
                    refine o_build (cs := clsC 0) rfl rfl ?_
                    first | (refine o_scls (k := 0) rfl rfl rfl (rfget0 _ _ _) rfl (rfset0 _ _ _ _) ?_) | (refine o_scls rfl rfl rfl (rfget1 _ _ _ _) rfl (rfset1 _ _ _ _ _) ?_) | (refine o_scls rfl rfl rfl (rfget0 _ _ _) rfl (rfset0 _ _ _ _) ?_)
                    first | refine o_asgd rfl rfl ?_ | refine o_asgo rfl rfl ?_ | refine o_asg rfl rfl (fun _ h_ => by cases h_) ?_
                    first | refine o_asgd rfl rfl ?_ | refine o_asgo rfl rfl ?_ | refine o_asg rfl rfl (fun _ h_ => by cases h_) ?_
                    refine op_nil ?_
                    refine wp_ret ?_
                    refine bx_ret ?_
                    refine bx_ret ?_
                    refine end_read rfl rfl rfl (rfget0 _ _ _) rfl rfl ?_ (by simp)
                    first
                    | (
                      have hR2 : R = itms s f i k := by
                       rw [hR]
                       first
                       | exact if_pos rfl
                       | (rw [if_neg (by decide), if_neg (by rw [hit_some hx_]; simp; omega)])
                      rw [hR2, lf1 hf (by assumption)]; rfl)
                    | (
                      have hR2 : R = itms s f i k := by
                       rw [hR]
                       first
                       | exact if_pos rfl
                       | (rw [if_neg (by decide), if_neg (by rw [hit_some hx_]; simp; omega)])
                      rw [hR2, lf2 hf (by assumption) (by rw [hit_some hy_]; exact decide_eq_true (by omega)) (by assumption)]; rfl)
                    | (
                      have hR2 : R = itms s f i k := by
                       rw [hR]
                       first
                       | exact if_pos rfl
                       | (rw [if_neg (by decide), if_neg (by rw [hit_some hx_]; simp; omega)])
                      rw [hR2, lf3 hf (by assumption) (by rw [hit_some hy_]; exact decide_eq_true (by omega)) (by assumption) (by assumption)]; rfl)
                    | (
                      have hR2 : R = itms s f i k := by
                       rw [hR]
                       first
                       | exact if_pos rfl
                       | (rw [if_neg (by decide), if_neg (by rw [hit_some hx_]; simp; omega)])
                      rw [hR2, lf4 hf (by assumption) (by rw [hit_some hy_]; exact decide_eq_true (by omega)) (by assumption) (by assumption), lfe (by omega)]; rfl)
                    | (
                      have hR2 : R = itms s f i k := by
                       rw [hR]
                       first
                       | exact if_pos rfl
                       | (rw [if_neg (by decide), if_neg (by rw [hit_some hx_]; simp; omega)])
                      rw [hR2, lf6 hf (by assumption) (by first | exact hit_none (by omega) | (rw [hit_some hy_]; exact decide_eq_false (by omega))), lfe (by omega)]; rfl)
                    | (
                      have hR3 : R = some (k, i + 1) := by rw [hR, if_neg (by decide), if_pos (by rw [hit_some hx_]; exact decide_eq_true (by omega))]
                      rw [hR3]; simp_all [fin, readA, spanN]; done)
                    | trace_state
                  ·first
                   | exfalso; omega
                   |skip
                    first | refine o_movd rfl rfl ?_ | refine o_movp rfl rfl ?_ | refine o_mova rfl rfl ?_ | refine o_mov rfl rfl ?_
                    first | refine o_movd rfl rfl ?_ | refine o_movp rfl rfl ?_ | refine o_mova rfl rfl ?_ | refine o_mov rfl rfl ?_
                    first | refine o_gtrn rfl rfl rfl ?_ | refine o_bin rfl rfl rfl rfl ?_
                    refine o_pickf rfl rfl rfl ?_
                    refine op_nil ?_
                    first | refine wp_if rfl ?_ ?_ <;> intro hq_ | refine wp_cond rfl ?_ ?_ <;> intro hq_
                    ·first
                     | exfalso; omega
                     |skip
                      refine wp_seq ?_
                      refine wp_ops ?_
                      refine o_build (cs := clsC 0) rfl rfl ?_
                      first | (refine o_scls (k := 0) rfl rfl rfl (rfget0 _ _ _) rfl (rfset0 _ _ _ _) ?_) | (refine o_scls rfl rfl rfl (rfget1 _ _ _ _) rfl (rfset1 _ _ _ _ _) ?_) | (refine o_scls rfl rfl rfl (rfget0 _ _ _) rfl (rfset0 _ _ _ _) ?_)
                      first | refine o_asgd rfl rfl ?_ | refine o_asgo rfl rfl ?_ | refine o_asg rfl rfl (fun _ h_ => by cases h_) ?_
                      first | refine o_asgd rfl rfl ?_ | refine o_asgo rfl rfl ?_ | refine o_asg rfl rfl (fun _ h_ => by cases h_) ?_
                      refine op_nil ?_
                      refine wp_ret ?_
                      refine bx_ret ?_
                      refine bx_ret ?_
                      refine end_read rfl rfl rfl (rfget0 _ _ _) rfl rfl ?_ (by simp)
                      first
                      | (
                        have hR2 : R = itms s f i k := by
                         rw [hR]
                         first
                         | exact if_pos rfl
                         | (rw [if_neg (by decide), if_neg (by rw [hit_some hx_]; simp; omega)])
                        rw [hR2, lf1 hf (by assumption)]; rfl)
                      | (
                        have hR2 : R = itms s f i k := by
                         rw [hR]
                         first
                         | exact if_pos rfl
                         | (rw [if_neg (by decide), if_neg (by rw [hit_some hx_]; simp; omega)])
                        rw [hR2, lf2 hf (by assumption) (by rw [hit_some hy_]; exact decide_eq_true (by omega)) (by assumption)]; rfl)
                      | (
                        have hR2 : R = itms s f i k := by
                         rw [hR]
                         first
                         | exact if_pos rfl
                         | (rw [if_neg (by decide), if_neg (by rw [hit_some hx_]; simp; omega)])
                        rw [hR2, lf3 hf (by assumption) (by rw [hit_some hy_]; exact decide_eq_true (by omega)) (by assumption) (by assumption)]; rfl)
                      | (
                        have hR2 : R = itms s f i k := by
                         rw [hR]
                         first
                         | exact if_pos rfl
                         | (rw [if_neg (by decide), if_neg (by rw [hit_some hx_]; simp; omega)])
                        rw [hR2, lf4 hf (by assumption) (by rw [hit_some hy_]; exact decide_eq_true (by omega)) (by assumption) (by assumption), lfe (by omega)]; rfl)
                      | (
                        have hR2 : R = itms s f i k := by
                         rw [hR]
                         first
                         | exact if_pos rfl
                         | (rw [if_neg (by decide), if_neg (by rw [hit_some hx_]; simp; omega)])
                        rw [hR2, lf6 hf (by assumption) (by first | exact hit_none (by omega) | (rw [hit_some hy_]; exact decide_eq_false (by omega))), lfe (by omega)]; rfl)
                      | (
                        have hR3 : R = some (k, i + 1) := by rw [hR, if_neg (by decide), if_pos (by rw [hit_some hx_]; exact decide_eq_true (by omega))]
                        rw [hR3]; simp_all [fin, readA, spanN]; done)
                      | trace_state
                    ·first
                     | exfalso; omega
                     |skip
                      refine wp_skip ?_
                      refine wp_seq ?_
                      refine wp_ops ?_
                      first | refine o_movd rfl rfl ?_ | refine o_movp rfl rfl ?_ | refine o_mova rfl rfl ?_ | refine o_mov rfl rfl ?_
                      refine o_addkn rfl rfl rfl (by decide) (by simp only [m64]; omega) ?_
                      first | refine o_movd rfl rfl ?_ | refine o_movp rfl rfl ?_ | refine o_mova rfl rfl ?_ | refine o_mov rfl rfl ?_
                      (have hs2_ := sn_le s (i + sn (sign (s.drop i)) + 1) (by omega); refine o_addkn rfl rfl rfl (by decide) (by simp only [m64]; omega) ?_)
                      first | refine o_asgd rfl rfl ?_ | refine o_asgo rfl rfl ?_ | refine o_asg rfl rfl (fun _ h_ => by cases h_) ?_
                      refine op_nil ?_
                      refine wp_ops ?_
                      refine o_lcls rfl rfl (rfget1 _ _ _ _) ?_
                      first | refine o_movd rfl rfl ?_ | refine o_movp rfl rfl ?_ | refine o_mova rfl rfl ?_ | refine o_mov rfl rfl ?_
                      first | refine o_movd rfl rfl ?_ | refine o_movp rfl rfl ?_ | refine o_mova rfl rfl ?_ | refine o_mov rfl rfl ?_
                      refine o_callz rfl rfl rfl rfl (rSpan_ev _ _ (sa_lt _) (sa_lt _) _) ?_
                      refine o_call rfl rfl rfl (rOr_ev _ _ (spanN_lt _ _ (by have := sa_lt (s.drop i); have := sa_lt (s.drop (i + sn (sign (s.drop i)) + 1)); omega)) _) ?_
                      first | (refine o_scls (k := 0) rfl rfl rfl (rfget0 _ _ _) rfl (rfset0 _ _ _ _) ?_) | (refine o_scls rfl rfl rfl (rfget1 _ _ _ _) rfl (rfset1 _ _ _ _ _) ?_) | (refine o_scls rfl rfl rfl (rfget0 _ _ _) rfl (rfset0 _ _ _ _) ?_)
                      refine op_nil ?_
                      refine wp_seq ?_
                      refine wp_ops ?_
                      first | refine o_movd rfl rfl ?_ | refine o_movp rfl rfl ?_ | refine o_mova rfl rfl ?_ | refine o_mov rfl rfl ?_
                      first | refine o_movd rfl rfl ?_ | refine o_movp rfl rfl ?_ | refine o_mova rfl rfl ?_ | refine o_mov rfl rfl ?_
                      refine o_lenS rfl rfl ?_
                      first | refine o_geqn rfl rfl rfl ?_ | refine o_bin rfl rfl rfl rfl ?_
                      refine op_nil ?_
                      first | refine wp_if rfl ?_ ?_ <;> intro hq_ | refine wp_cond rfl ?_ ?_ <;> intro hq_
                      ·first
                       | exfalso; omega
                       |skip
                        refine wp_seq ?_
                        refine wp_ops ?_
                        refine o_build (cs := clsC 0) rfl rfl ?_
                        first | (refine o_scls (k := 0) rfl rfl rfl (rfget0 _ _ _) rfl (rfset0 _ _ _ _) ?_) | (refine o_scls rfl rfl rfl (rfget1 _ _ _ _) rfl (rfset1 _ _ _ _ _) ?_) | (refine o_scls rfl rfl rfl (rfget0 _ _ _) rfl (rfset0 _ _ _ _) ?_)
                        first | refine o_asgd rfl rfl ?_ | refine o_asgo rfl rfl ?_ | refine o_asg rfl rfl (fun _ h_ => by cases h_) ?_
                        first | refine o_asgd rfl rfl ?_ | refine o_asgo rfl rfl ?_ | refine o_asg rfl rfl (fun _ h_ => by cases h_) ?_
                        refine op_nil ?_
                        refine wp_ret ?_
                        refine bx_ret ?_
                        refine bx_ret ?_
                        refine end_read rfl rfl rfl (rfget0 _ _ _) rfl rfl ?_ (by simp)
                        first
                        | (
                          have hR2 : R = itms s f i k := by
                           rw [hR]
                           first
                           | exact if_pos rfl
                           | (rw [if_neg (by decide), if_neg (by rw [hit_some hx_]; simp; omega)])
                          rw [hR2, lf1 hf (by assumption)]; rfl)
                        | (
                          have hR2 : R = itms s f i k := by
                           rw [hR]
                           first
                           | exact if_pos rfl
                           | (rw [if_neg (by decide), if_neg (by rw [hit_some hx_]; simp; omega)])
                          rw [hR2, lf2 hf (by assumption) (by rw [hit_some hy_]; exact decide_eq_true (by omega)) (by assumption)]; rfl)
                        | (
                          have hR2 : R = itms s f i k := by
                           rw [hR]
                           first
                           | exact if_pos rfl
                           | (rw [if_neg (by decide), if_neg (by rw [hit_some hx_]; simp; omega)])
                          rw [hR2, lf3 hf (by assumption) (by rw [hit_some hy_]; exact decide_eq_true (by omega)) (by assumption) (by assumption)]; rfl)
                        | (
                          have hR2 : R = itms s f i k := by
                           rw [hR]
                           first
                           | exact if_pos rfl
                           | (rw [if_neg (by decide), if_neg (by rw [hit_some hx_]; simp; omega)])
                          rw [hR2, lf4 hf (by assumption) (by rw [hit_some hy_]; exact decide_eq_true (by omega)) (by assumption) (by assumption), lfe (by omega)]; rfl)
                        | (
                          have hR2 : R = itms s f i k := by
                           rw [hR]
                           first
                           | exact if_pos rfl
                           | (rw [if_neg (by decide), if_neg (by rw [hit_some hx_]; simp; omega)])
                          rw [hR2, lf6 hf (by assumption) (by first | exact hit_none (by omega) | (rw [hit_some hy_]; exact decide_eq_false (by omega))), lfe (by omega)]; rfl)
                        | (
                          have hR3 : R = some (k, i + 1) := by rw [hR, if_neg (by decide), if_pos (by rw [hit_some hx_]; exact decide_eq_true (by omega))]
                          rw [hR3]; simp_all [fin, readA, spanN]; done)
                        | trace_state
                      ·first
                       | exfalso; omega
                       |skip
                        refine wp_skip ?_
                        refine keepN (by (simp +decide only [Slots.keep, Slots.get, reduceIte]); exact rfl) ?_
                        have hR2 : R = itms s f i k := by
                         rw [hR]
                         first
                         | exact if_pos rfl
                         | (rw [if_neg (by decide), if_neg (by rw [hit_some hx_]; simp; omega)])
                        have p1 := sn_pos (s := s.drop i) (by assumption)
                        first
                        | (
                          have p2 := sn_pos (s := s.drop (i + sn (sign (s.drop i)) + 1)) (by assumption)
                          have hR4 := hR2.trans (lf4 hf (by assumption) (by rw [hit_some hy_]; exact decide_eq_true (by omega)) (by assumption) (by assumption))
                          refine ⟨by simp, _, ?_, false, _, _, f - 1, rfl, ?_, fun _ => ?_, ?_, hR4.trans (if_neg (by decide)).symm, rfl⟩ <;> omega)
                        | (
                          have hR4 := hR2.trans (lf6 hf (by assumption) (by first | exact hit_none (by omega) | (rw [hit_some hy_]; exact decide_eq_false (by omega))))
                          refine ⟨by simp, _, ?_, false, _, _, f - 1, rfl, ?_, fun _ => ?_, ?_, hR4.trans (if_neg (by decide)).symm, rfl⟩ <;> omega)
                ·first
                 | exfalso; omega
                 |skip
                  refine wp_ops ?_
                  refine o_lcls rfl rfl (rfget1 _ _ _ _) ?_
                  first | refine o_movd rfl rfl ?_ | refine o_movp rfl rfl ?_ | refine o_mova rfl rfl ?_ | refine o_mov rfl rfl ?_
                  refine o_call rfl rfl rfl (with_ev _ _ (sa_lt _) _) ?_
                  first | (refine o_scls (k := 0) rfl rfl rfl (rfget0 _ _ _) rfl (rfset0 _ _ _ _) ?_) | (refine o_scls rfl rfl rfl (rfget1 _ _ _ _) rfl (rfset1 _ _ _ _ _) ?_) | (refine o_scls rfl rfl rfl (rfget0 _ _ _) rfl (rfset0 _ _ _ _) ?_)
                  refine op_nil ?_
                  refine wp_seq ?_
                  refine wp_ops ?_
                  first | refine o_movd rfl rfl ?_ | refine o_movp rfl rfl ?_ | refine o_mova rfl rfl ?_ | refine o_mov rfl rfl ?_
                  first | refine o_movd rfl rfl ?_ | refine o_movp rfl rfl ?_ | refine o_mova rfl rfl ?_ | refine o_mov rfl rfl ?_
                  refine o_lenS rfl rfl ?_
                  first | refine o_geqn rfl rfl rfl ?_ | refine o_bin rfl rfl rfl rfl ?_
                  refine op_nil ?_
                  first | refine wp_if rfl ?_ ?_ <;> intro hq_ | refine wp_cond rfl ?_ ?_ <;> intro hq_
                  ·first
                   | exfalso; omega
                   |skip
                    refine wp_seq ?_
                    refine wp_ops ?_
                    refine o_build (cs := clsC 0) rfl rfl ?_
                    first | (refine o_scls (k := 0) rfl rfl rfl (rfget0 _ _ _) rfl (rfset0 _ _ _ _) ?_) | (refine o_scls rfl rfl rfl (rfget1 _ _ _ _) rfl (rfset1 _ _ _ _ _) ?_) | (refine o_scls rfl rfl rfl (rfget0 _ _ _) rfl (rfset0 _ _ _ _) ?_)
                    first | refine o_asgd rfl rfl ?_ | refine o_asgo rfl rfl ?_ | refine o_asg rfl rfl (fun _ h_ => by cases h_) ?_
                    first | refine o_asgd rfl rfl ?_ | refine o_asgo rfl rfl ?_ | refine o_asg rfl rfl (fun _ h_ => by cases h_) ?_
                    refine op_nil ?_
                    refine wp_ret ?_
                    refine bx_ret ?_
                    refine bx_ret ?_
                    refine end_read rfl rfl rfl (rfget0 _ _ _) rfl rfl ?_ (by simp)
                    first
                    | (
                      have hR2 : R = itms s f i k := by
                       rw [hR]
                       first
                       | exact if_pos rfl
                       | (rw [if_neg (by decide), if_neg (by rw [hit_some hx_]; simp; omega)])
                      rw [hR2, lf1 hf (by assumption)]; rfl)
                    | (
                      have hR2 : R = itms s f i k := by
                       rw [hR]
                       first
                       | exact if_pos rfl
                       | (rw [if_neg (by decide), if_neg (by rw [hit_some hx_]; simp; omega)])
                      rw [hR2, lf2 hf (by assumption) (by rw [hit_some hy_]; exact decide_eq_true (by omega)) (by assumption)]; rfl)
                    | (
                      have hR2 : R = itms s f i k := by
                       rw [hR]
                       first
                       | exact if_pos rfl
                       | (rw [if_neg (by decide), if_neg (by rw [hit_some hx_]; simp; omega)])
                      rw [hR2, lf3 hf (by assumption) (by rw [hit_some hy_]; exact decide_eq_true (by omega)) (by assumption) (by assumption)]; rfl)
                    | (
                      have hR2 : R = itms s f i k := by
                       rw [hR]
                       first
                       | exact if_pos rfl
                       | (rw [if_neg (by decide), if_neg (by rw [hit_some hx_]; simp; omega)])
                      rw [hR2, lf4 hf (by assumption) (by rw [hit_some hy_]; exact decide_eq_true (by omega)) (by assumption) (by assumption), lfe (by omega)]; rfl)
                    | (
                      have hR2 : R = itms s f i k := by
                       rw [hR]
                       first
                       | exact if_pos rfl
                       | (rw [if_neg (by decide), if_neg (by rw [hit_some hx_]; simp; omega)])
                      rw [hR2, lf6 hf (by assumption) (by first | exact hit_none (by omega) | (rw [hit_some hy_]; exact decide_eq_false (by omega))), lfe (by omega)]; rfl)
                    | (
                      have hR3 : R = some (k, i + 1) := by rw [hR, if_neg (by decide), if_pos (by rw [hit_some hx_]; exact decide_eq_true (by omega))]
                      rw [hR3]; simp_all [fin, readA, spanN]; done)
                    | trace_state
                  ·first
                   | exfalso; omega
                   |skip
                    refine wp_skip ?_
                    refine keepN (by (simp +decide only [Slots.keep, Slots.get, reduceIte]); exact rfl) ?_
                    have hR2 : R = itms s f i k := by
                     rw [hR]
                     first
                     | exact if_pos rfl
                     | (rw [if_neg (by decide), if_neg (by rw [hit_some hx_]; simp; omega)])
                    have p1 := sn_pos (s := s.drop i) (by assumption)
                    first
                    | (
                      have p2 := sn_pos (s := s.drop (i + sn (sign (s.drop i)) + 1)) (by assumption)
                      have hR4 := hR2.trans (lf4 hf (by assumption) (by rw [hit_some hy_]; exact decide_eq_true (by omega)) (by assumption) (by assumption))
                      refine ⟨by simp, _, ?_, false, _, _, f - 1, rfl, ?_, fun _ => ?_, ?_, hR4.trans (if_neg (by decide)).symm, rfl⟩ <;> omega)
                    | (
                      have hR4 := hR2.trans (lf6 hf (by assumption) (by first | exact hit_none (by omega) | (rw [hit_some hy_]; exact decide_eq_false (by omega))))
                      refine ⟨by simp, _, ?_, false, _, _, f - 1, rfl, ?_, fun _ => ?_, ?_, hR4.trans (if_neg (by decide)).symm, rfl⟩ <;> omega)
              ·first
               | exfalso; omega
               |skip
                refine o_skip rfl ?_
                refine o_skip rfl ?_
                refine o_skip rfl ?_
                refine o_skip rfl ?_
                refine o_pickf rfl rfl rfl ?_
                refine op_nil ?_
                refine wp_cond rfl (fun h_ => absurd h_ (by decide)) (fun _ => ?_)
                refine wp_ops ?_
                refine o_lcls rfl rfl (rfget1 _ _ _ _) ?_
                first | refine o_movd rfl rfl ?_ | refine o_movp rfl rfl ?_ | refine o_mova rfl rfl ?_ | refine o_mov rfl rfl ?_
                refine o_call rfl rfl rfl (with_ev _ _ (sa_lt _) _) ?_
                first | (refine o_scls (k := 0) rfl rfl rfl (rfget0 _ _ _) rfl (rfset0 _ _ _ _) ?_) | (refine o_scls rfl rfl rfl (rfget1 _ _ _ _) rfl (rfset1 _ _ _ _ _) ?_) | (refine o_scls rfl rfl rfl (rfget0 _ _ _) rfl (rfset0 _ _ _ _) ?_)
                refine op_nil ?_
                refine wp_seq ?_
                refine wp_ops ?_
                first | refine o_movd rfl rfl ?_ | refine o_movp rfl rfl ?_ | refine o_mova rfl rfl ?_ | refine o_mov rfl rfl ?_
                first | refine o_movd rfl rfl ?_ | refine o_movp rfl rfl ?_ | refine o_mova rfl rfl ?_ | refine o_mov rfl rfl ?_
                refine o_lenS rfl rfl ?_
                first | refine o_geqn rfl rfl rfl ?_ | refine o_bin rfl rfl rfl rfl ?_
                refine op_nil ?_
                first | refine wp_if rfl ?_ ?_ <;> intro hq_ | refine wp_cond rfl ?_ ?_ <;> intro hq_
                ·first
                 | exfalso; omega
                 |skip
                  refine wp_seq ?_
                  refine wp_ops ?_
                  refine o_build (cs := clsC 0) rfl rfl ?_
                  first | (refine o_scls (k := 0) rfl rfl rfl (rfget0 _ _ _) rfl (rfset0 _ _ _ _) ?_) | (refine o_scls rfl rfl rfl (rfget1 _ _ _ _) rfl (rfset1 _ _ _ _ _) ?_) | (refine o_scls rfl rfl rfl (rfget0 _ _ _) rfl (rfset0 _ _ _ _) ?_)
                  first | refine o_asgd rfl rfl ?_ | refine o_asgo rfl rfl ?_ | refine o_asg rfl rfl (fun _ h_ => by cases h_) ?_
                  first | refine o_asgd rfl rfl ?_ | refine o_asgo rfl rfl ?_ | refine o_asg rfl rfl (fun _ h_ => by cases h_) ?_
                  refine op_nil ?_
                  refine wp_ret ?_
                  refine bx_ret ?_
                  refine bx_ret ?_
                  refine end_read rfl rfl rfl (rfget0 _ _ _) rfl rfl ?_ (by simp)
                  first
                  | (
                    have hR2 : R = itms s f i k := by
                     rw [hR]
                     first
                     | exact if_pos rfl
                     | (rw [if_neg (by decide), if_neg (by rw [hit_some hx_]; simp; omega)])
                    rw [hR2, lf1 hf (by assumption)]; rfl)
                  | (
                    have hR2 : R = itms s f i k := by
                     rw [hR]
                     first
                     | exact if_pos rfl
                     | (rw [if_neg (by decide), if_neg (by rw [hit_some hx_]; simp; omega)])
                    rw [hR2, lf2 hf (by assumption) (by rw [hit_some hy_]; exact decide_eq_true (by omega)) (by assumption)]; rfl)
                  | (
                    have hR2 : R = itms s f i k := by
                     rw [hR]
                     first
                     | exact if_pos rfl
                     | (rw [if_neg (by decide), if_neg (by rw [hit_some hx_]; simp; omega)])
                    rw [hR2, lf3 hf (by assumption) (by rw [hit_some hy_]; exact decide_eq_true (by omega)) (by assumption) (by assumption)]; rfl)
                  | (
                    have hR2 : R = itms s f i k := by
                     rw [hR]
                     first
                     | exact if_pos rfl
                     | (rw [if_neg (by decide), if_neg (by rw [hit_some hx_]; simp; omega)])
                    rw [hR2, lf4 hf (by assumption) (by rw [hit_some hy_]; exact decide_eq_true (by omega)) (by assumption) (by assumption), lfe (by omega)]; rfl)
                  | (
                    have hR2 : R = itms s f i k := by
                     rw [hR]
                     first
                     | exact if_pos rfl
                     | (rw [if_neg (by decide), if_neg (by rw [hit_some hx_]; simp; omega)])
                    rw [hR2, lf6 hf (by assumption) (by first | exact hit_none (by omega) | (rw [hit_some hy_]; exact decide_eq_false (by omega))), lfe (by omega)]; rfl)
                  | (
                    have hR3 : R = some (k, i + 1) := by rw [hR, if_neg (by decide), if_pos (by rw [hit_some hx_]; exact decide_eq_true (by omega))]
                    rw [hR3]; simp_all [fin, readA, spanN]; done)
                  | trace_state
                ·first
                 | exfalso; omega
                 |skip
                  refine wp_skip ?_
                  refine keepN (by (simp +decide only [Slots.keep, Slots.get, reduceIte]); exact rfl) ?_
                  have hR2 : R = itms s f i k := by
                   rw [hR]
                   first
                   | exact if_pos rfl
                   | (rw [if_neg (by decide), if_neg (by rw [hit_some hx_]; simp; omega)])
                  have p1 := sn_pos (s := s.drop i) (by assumption)
                  first
                  | (
                    have p2 := sn_pos (s := s.drop (i + sn (sign (s.drop i)) + 1)) (by assumption)
                    have hR4 := hR2.trans (lf4 hf (by assumption) (by rw [hit_some hy_]; exact decide_eq_true (by omega)) (by assumption) (by assumption))
                    refine ⟨by simp, _, ?_, false, _, _, f - 1, rfl, ?_, fun _ => ?_, ?_, hR4.trans (if_neg (by decide)).symm, rfl⟩ <;> omega)
                  | (
                    have hR4 := hR2.trans (lf6 hf (by assumption) (by first | exact hit_none (by omega) | (rw [hit_some hy_]; exact decide_eq_false (by omega))))
                    refine ⟨by simp, _, ?_, false, _, _, f - 1, rfl, ?_, fun _ => ?_, ?_, hR4.trans (if_neg (by decide)).symm, rfl⟩ <;> omega)
          ·first
           | exfalso; omega
           |skip
            refine wp_exit ?_
            refine bx_here ?_
            refine keepN (by (simp +decide only [Slots.keep, Slots.get, reduceIte]); exact rfl) ?_
            refine wp_seq ?_
            refine wp_seq ?_
            refine wp_ops ?_
            first | refine o_movd rfl rfl ?_ | refine o_movp rfl rfl ?_ | refine o_mova rfl rfl ?_ | refine o_mov rfl rfl ?_
            refine op_nil ?_
            first | refine wp_if rfl ?_ ?_ <;> intro hq_ | refine wp_cond rfl ?_ ?_ <;> intro hq_
            ·first
             | exfalso; omega
             |skip
              refine wp_ops ?_
              refine o_lcls rfl rfl (rfget1 _ _ _ _) ?_
              refine o_call rfl rfl rfl (with_ev _ 10 (by decide) _) ?_
              refine o_call rfl rfl rfl (rNot_ev _ _) ?_
              first | (refine o_scls (k := 0) rfl rfl rfl (rfget0 _ _ _) rfl (rfset0 _ _ _ _) ?_) | (refine o_scls rfl rfl rfl (rfget1 _ _ _ _) rfl (rfset1 _ _ _ _ _) ?_) | (refine o_scls rfl rfl rfl (rfget0 _ _ _) rfl (rfset0 _ _ _ _) ?_)
              refine op_nil ?_
              refine wp_seq ?_
              refine wp_ops ?_
              refine o_lcls rfl rfl (rfget1 _ _ _ _) ?_
              first | refine o_movd rfl rfl ?_ | refine o_movp rfl rfl ?_ | refine o_mova rfl rfl ?_ | refine o_mov rfl rfl ?_
              refine o_addkn rfl rfl rfl (by decide) (by simp only [m64]; omega) ?_
              first | (refine o_scls (k := 0) rfl rfl rfl (rfget0 _ _ _) rfl (rfset0 _ _ _ _) ?_) | (refine o_scls rfl rfl rfl (rfget1 _ _ _ _) rfl (rfset1 _ _ _ _ _) ?_) | (refine o_scls rfl rfl rfl (rfget0 _ _ _) rfl (rfset0 _ _ _ _) ?_)
              first | refine o_asgd rfl rfl ?_ | refine o_asgo rfl rfl ?_ | refine o_asg rfl rfl (fun _ h_ => by cases h_) ?_
              first | refine o_asgd rfl rfl ?_ | refine o_asgo rfl rfl ?_ | refine o_asg rfl rfl (fun _ h_ => by cases h_) ?_
              refine op_nil ?_
              refine wp_ret ?_
              refine end_read rfl rfl rfl (rfget0 _ _ _) rfl rfl ?_ (by simp)
              first
              | (
                have hR2 : R = itms s f i k := by
                 rw [hR]
                 first
                 | exact if_pos rfl
                 | (rw [if_neg (by decide), if_neg (by rw [hit_some hx_]; simp; omega)])
                rw [hR2, lf1 hf (by assumption)]; rfl)
              | (
                have hR2 : R = itms s f i k := by
                 rw [hR]
                 first
                 | exact if_pos rfl
                 | (rw [if_neg (by decide), if_neg (by rw [hit_some hx_]; simp; omega)])
                rw [hR2, lf2 hf (by assumption) (by rw [hit_some hy_]; exact decide_eq_true (by omega)) (by assumption)]; rfl)
              | (
                have hR2 : R = itms s f i k := by
                 rw [hR]
                 first
                 | exact if_pos rfl
                 | (rw [if_neg (by decide), if_neg (by rw [hit_some hx_]; simp; omega)])
                rw [hR2, lf3 hf (by assumption) (by rw [hit_some hy_]; exact decide_eq_true (by omega)) (by assumption) (by assumption)]; rfl)
              | (
                have hR2 : R = itms s f i k := by
                 rw [hR]
                 first
                 | exact if_pos rfl
                 | (rw [if_neg (by decide), if_neg (by rw [hit_some hx_]; simp; omega)])
                rw [hR2, lf4 hf (by assumption) (by rw [hit_some hy_]; exact decide_eq_true (by omega)) (by assumption) (by assumption), lfe (by omega)]; rfl)
              | (
                have hR2 : R = itms s f i k := by
                 rw [hR]
                 first
                 | exact if_pos rfl
                 | (rw [if_neg (by decide), if_neg (by rw [hit_some hx_]; simp; omega)])
                rw [hR2, lf6 hf (by assumption) (by first | exact hit_none (by omega) | (rw [hit_some hy_]; exact decide_eq_false (by omega))), lfe (by omega)]; rfl)
              | (
                have hR3 : R = some (k, i + 1) := by rw [hR, if_neg (by decide), if_pos (by rw [hit_some hx_]; exact decide_eq_true (by omega))]
                rw [hR3]; simp_all [fin, readA, spanN]; done)
              | trace_state
            ·first
             | exfalso; omega
             |skip
              refine wp_skip ?_
              refine wp_seq ?_
              refine wp_ops ?_
              refine o_lcls rfl rfl (rfget1 _ _ _ _) ?_
              first | refine o_movd rfl rfl ?_ | refine o_movp rfl rfl ?_ | refine o_mova rfl rfl ?_ | refine o_mov rfl rfl ?_
              refine o_addkn rfl rfl rfl (by decide) (by simp only [m64]; omega) ?_
              first | (refine o_scls (k := 0) rfl rfl rfl (rfget0 _ _ _) rfl (rfset0 _ _ _ _) ?_) | (refine o_scls rfl rfl rfl (rfget1 _ _ _ _) rfl (rfset1 _ _ _ _ _) ?_) | (refine o_scls rfl rfl rfl (rfget0 _ _ _) rfl (rfset0 _ _ _ _) ?_)
              first | refine o_asgd rfl rfl ?_ | refine o_asgo rfl rfl ?_ | refine o_asg rfl rfl (fun _ h_ => by cases h_) ?_
              first | refine o_asgd rfl rfl ?_ | refine o_asgo rfl rfl ?_ | refine o_asg rfl rfl (fun _ h_ => by cases h_) ?_
              refine op_nil ?_
              refine wp_ret ?_
              refine end_read rfl rfl rfl (rfget0 _ _ _) rfl rfl ?_ (by simp)
              first
              | (
                have hR2 : R = itms s f i k := by
                 rw [hR]
                 first
                 | exact if_pos rfl
                 | (rw [if_neg (by decide), if_neg (by rw [hit_some hx_]; simp; omega)])
                rw [hR2, lf1 hf (by assumption)]; rfl)
              | (
                have hR2 : R = itms s f i k := by
                 rw [hR]
                 first
                 | exact if_pos rfl
                 | (rw [if_neg (by decide), if_neg (by rw [hit_some hx_]; simp; omega)])
                rw [hR2, lf2 hf (by assumption) (by rw [hit_some hy_]; exact decide_eq_true (by omega)) (by assumption)]; rfl)
              | (
                have hR2 : R = itms s f i k := by
                 rw [hR]
                 first
                 | exact if_pos rfl
                 | (rw [if_neg (by decide), if_neg (by rw [hit_some hx_]; simp; omega)])
                rw [hR2, lf3 hf (by assumption) (by rw [hit_some hy_]; exact decide_eq_true (by omega)) (by assumption) (by assumption)]; rfl)
              | (
                have hR2 : R = itms s f i k := by
                 rw [hR]
                 first
                 | exact if_pos rfl
                 | (rw [if_neg (by decide), if_neg (by rw [hit_some hx_]; simp; omega)])
                rw [hR2, lf4 hf (by assumption) (by rw [hit_some hy_]; exact decide_eq_true (by omega)) (by assumption) (by assumption), lfe (by omega)]; rfl)
              | (
                have hR2 : R = itms s f i k := by
                 rw [hR]
                 first
                 | exact if_pos rfl
                 | (rw [if_neg (by decide), if_neg (by rw [hit_some hx_]; simp; omega)])
                rw [hR2, lf6 hf (by assumption) (by first | exact hit_none (by omega) | (rw [hit_some hy_]; exact decide_eq_false (by omega))), lfe (by omega)]; rfl)
              | (
                have hR3 : R = some (k, i + 1) := by rw [hR, if_neg (by decide), if_pos (by rw [hit_some hx_]; exact decide_eq_true (by omega))]
                rw [hR3]; simp_all [fin, readA, spanN]; done)
              | trace_state
       ·clear hb
        refine wp_seq ?_
        refine wp_seq ?_
        refine wp_ops ?_
        first | refine o_movd rfl rfl ?_ | refine o_movp rfl rfl ?_ | refine o_mova rfl rfl ?_ | refine o_mov rfl rfl ?_
        first | refine o_movd rfl rfl ?_ | refine o_movp rfl rfl ?_ | refine o_mova rfl rfl ?_ | refine o_mov rfl rfl ?_
        refine o_skip rfl ?_
        refine o_skip rfl ?_
        refine o_skip rfl ?_
        refine o_skip rfl ?_
        refine o_pickt rfl rfl rfl ?_
        first | refine o_movd rfl rfl ?_ | refine o_movp rfl rfl ?_ | refine o_mova rfl rfl ?_ | refine o_mov rfl rfl ?_
        refine o_skip rfl ?_
        refine o_skip rfl ?_
        refine o_skip rfl ?_
        refine o_skip rfl ?_
        refine o_pickt rfl rfl rfl ?_
        refine op_nil ?_
        refine wp_cond rfl (fun _ => ?_) (fun h_ => absurd h_ (by decide))
        refine wp_skip ?_
        refine wp_keep ?_
        refine wp_block ?_
        refine wp_seq ?_
        refine wp_ops ?_
        first | refine o_asgd rfl rfl ?_ | refine o_asgo rfl rfl ?_ | refine o_asg rfl rfl (fun _ h_ => by cases h_) ?_
        refine op_nil ?_
        refine wp_seq ?_
        refine wp_ops ?_
        first | refine o_movd rfl rfl ?_ | refine o_movp rfl rfl ?_ | refine o_mova rfl rfl ?_ | refine o_mov rfl rfl ?_
        first | refine o_movd rfl rfl ?_ | refine o_movp rfl rfl ?_ | refine o_mova rfl rfl ?_ | refine o_mov rfl rfl ?_
        refine o_sub0 rfl rfl rfl rfl (by omega) ?_
        refine o_call rfl rfl rfl (rSignP_ev (s.drop i) _) ?_
        refine o_mov rfl rfl ?_
        refine o_extr rfl rfl rfl ?_
        refine o_extr rfl rfl rfl ?_
        refine o_extr rfl rfl rfl ?_
        first | refine o_asgd rfl rfl ?_ | refine o_asgo rfl rfl ?_ | refine o_asg rfl rfl (fun _ h_ => by cases h_) ?_
        first | refine o_asgd rfl rfl ?_ | refine o_asgo rfl rfl ?_ | refine o_asg rfl rfl (fun _ h_ => by cases h_) ?_
        first | refine o_asgd rfl rfl ?_ | refine o_asgo rfl rfl ?_ | refine o_asg rfl rfl (fun _ h_ => by cases h_) ?_
        refine op_nil ?_
        refine wp_seq ?_
        refine wp_seq ?_
        refine wp_ops ?_
        first | refine o_movd rfl rfl ?_ | refine o_movp rfl rfl ?_ | refine o_mova rfl rfl ?_ | refine o_mov rfl rfl ?_
        first | refine o_neqn rfl rfl rfl ?_ | refine o_nes rfl rfl rfl ?_ | refine o_bin rfl rfl rfl rfl ?_
        refine op_nil ?_
        first | refine wp_if rfl ?_ ?_ <;> intro hq_ | refine wp_cond rfl ?_ ?_ <;> intro hq_
        ·first
         | exfalso; omega
         |skip
          refine wp_seq ?_
          refine wp_ops ?_
          refine o_build (cs := clsC 0) rfl rfl ?_
          first | (refine o_scls (k := 0) rfl rfl rfl (rfget0 _ _ _) rfl (rfset0 _ _ _ _) ?_) | (refine o_scls rfl rfl rfl (rfget1 _ _ _ _) rfl (rfset1 _ _ _ _ _) ?_) | (refine o_scls rfl rfl rfl (rfget0 _ _ _) rfl (rfset0 _ _ _ _) ?_)
          first | refine o_asgd rfl rfl ?_ | refine o_asgo rfl rfl ?_ | refine o_asg rfl rfl (fun _ h_ => by cases h_) ?_
          first | refine o_asgd rfl rfl ?_ | refine o_asgo rfl rfl ?_ | refine o_asg rfl rfl (fun _ h_ => by cases h_) ?_
          refine op_nil ?_
          refine wp_ret ?_
          refine bx_ret ?_
          refine bx_ret ?_
          refine end_read rfl rfl rfl (rfget0 _ _ _) rfl rfl ?_ (by simp)
          first
          | (
            have hR2 : R = itms s f i k := by
             rw [hR]
             first
             | exact if_pos rfl
             | (rw [if_neg (by decide), if_neg (by rw [hit_some hx_]; simp; omega)])
            rw [hR2, lf1 hf (by assumption)]; rfl)
          | (
            have hR2 : R = itms s f i k := by
             rw [hR]
             first
             | exact if_pos rfl
             | (rw [if_neg (by decide), if_neg (by rw [hit_some hx_]; simp; omega)])
            rw [hR2, lf2 hf (by assumption) (by rw [hit_some hy_]; exact decide_eq_true (by omega)) (by assumption)]; rfl)
          | (
            have hR2 : R = itms s f i k := by
             rw [hR]
             first
             | exact if_pos rfl
             | (rw [if_neg (by decide), if_neg (by rw [hit_some hx_]; simp; omega)])
            rw [hR2, lf3 hf (by assumption) (by rw [hit_some hy_]; exact decide_eq_true (by omega)) (by assumption) (by assumption)]; rfl)
          | (
            have hR2 : R = itms s f i k := by
             rw [hR]
             first
             | exact if_pos rfl
             | (rw [if_neg (by decide), if_neg (by rw [hit_some hx_]; simp; omega)])
            rw [hR2, lf4 hf (by assumption) (by rw [hit_some hy_]; exact decide_eq_true (by omega)) (by assumption) (by assumption), lfe (by omega)]; rfl)
          | (
            have hR2 : R = itms s f i k := by
             rw [hR]
             first
             | exact if_pos rfl
             | (rw [if_neg (by decide), if_neg (by rw [hit_some hx_]; simp; omega)])
            rw [hR2, lf6 hf (by assumption) (by first | exact hit_none (by omega) | (rw [hit_some hy_]; exact decide_eq_false (by omega))), lfe (by omega)]; rfl)
          | (
            have hR3 : R = some (k, i + 1) := by rw [hR, if_neg (by decide), if_pos (by rw [hit_some hx_]; exact decide_eq_true (by omega))]
            rw [hR3]; simp_all [fin, readA, spanN]; done)
          | trace_state
        ·first
         | exfalso; omega
         |skip
          refine wp_skip ?_
          refine wp_seq ?_
          refine wp_ops ?_
          first | refine o_movd rfl rfl ?_ | refine o_movp rfl rfl ?_ | refine o_mova rfl rfl ?_ | refine o_mov rfl rfl ?_
          first | refine o_movd rfl rfl ?_ | refine o_movp rfl rfl ?_ | refine o_mova rfl rfl ?_ | refine o_mov rfl rfl ?_
          (have hs1_ := sn_le s i hi; refine o_addkn rfl rfl rfl (by decide) (by simp only [m64]; omega) ?_)
          first | refine o_asgd rfl rfl ?_ | refine o_asgo rfl rfl ?_ | refine o_asg rfl rfl (fun _ h_ => by cases h_) ?_
          refine op_nil ?_
          refine wp_seq ?_
          refine wp_seq ?_
          refine wp_ops ?_
          first | refine o_movd rfl rfl ?_ | refine o_movp rfl rfl ?_ | refine o_mova rfl rfl ?_ | refine o_mov rfl rfl ?_
          first | refine o_movd rfl rfl ?_ | refine o_movp rfl rfl ?_ | refine o_mova rfl rfl ?_ | refine o_mov rfl rfl ?_
          refine o_lenS rfl rfl ?_
          first | refine o_lssn rfl rfl rfl ?_ | refine o_bin rfl rfl rfl rfl ?_
          first | refine o_movd rfl rfl ?_ | refine o_movp rfl rfl ?_ | refine o_mova rfl rfl ?_ | refine o_mov rfl rfl ?_
          refine o_ifp rfl ?_ ?_ <;> intro hq_ hg_ <;> simp only [hg_] <;> clear hg_
          ·first
           | exfalso; omega
           |skip
            first | refine o_movd rfl rfl ?_ | refine o_movp rfl rfl ?_ | refine o_mova rfl rfl ?_ | refine o_mov rfl rfl ?_
            first | refine o_movd rfl rfl ?_ | refine o_movp rfl rfl ?_ | refine o_mova rfl rfl ?_ | refine o_mov rfl rfl ?_
            (obtain ⟨y_, hy_⟩ := getS (show i + sn (sign (s.drop i)) < s.length by omega); refine o_idxS (m := i + sn (sign (s.drop i))) rfl rfl rfl rfl hy_ ?_)
            first | refine o_eqln rfl rfl rfl ?_ | refine o_eqs rfl rfl rfl ?_ | refine o_bin rfl rfl rfl rfl ?_
            refine o_pickt rfl rfl rfl ?_
            refine op_nil ?_
            first | refine wp_if rfl ?_ ?_ <;> intro hq_ | refine wp_cond rfl ?_ ?_ <;> intro hq_
            ·first
             | exfalso; omega
             |skip
              refine wp_seq ?_
              refine wp_ops ?_
              first | refine o_movd rfl rfl ?_ | refine o_movp rfl rfl ?_ | refine o_mova rfl rfl ?_ | refine o_mov rfl rfl ?_
              first | refine o_movd rfl rfl ?_ | refine o_movp rfl rfl ?_ | refine o_mova rfl rfl ?_ | refine o_mov rfl rfl ?_
              refine o_addkn rfl rfl rfl (by decide) (by simp only [m64]; omega) ?_
              refine o_sub0 rfl rfl rfl rfl (by omega) ?_
              refine o_call rfl rfl rfl (rSignP_ev (s.drop (i + sn (sign (s.drop i)) + 1)) _) ?_
              refine o_mov rfl rfl ?_
              refine o_extr rfl rfl rfl ?_
              refine o_extr rfl rfl rfl ?_
              refine o_extr rfl rfl rfl ?_
              first | refine o_asgd rfl rfl ?_ | refine o_asgo rfl rfl ?_ | refine o_asg rfl rfl (fun _ h_ => by cases h_) ?_
              first | refine o_asgd rfl rfl ?_ | refine o_asgo rfl rfl ?_ | refine o_asg rfl rfl (fun _ h_ => by cases h_) ?_
              first | refine o_asgd rfl rfl ?_ | refine o_asgo rfl rfl ?_ | refine o_asg rfl rfl (fun _ h_ => by cases h_) ?_
              refine op_nil ?_
              refine wp_seq ?_
              refine wp_seq ?_
              refine wp_ops ?_
              first | refine o_movd rfl rfl ?_ | refine o_movp rfl rfl ?_ | refine o_mova rfl rfl ?_ | refine o_mov rfl rfl ?_
              first | refine o_neqn rfl rfl rfl ?_ | refine o_nes rfl rfl rfl ?_ | refine o_bin rfl rfl rfl rfl ?_
              first | refine o_movd rfl rfl ?_ | refine o_movp rfl rfl ?_ | refine o_mova rfl rfl ?_ | refine o_mov rfl rfl ?_
              refine o_ifp rfl ?_ ?_ <;> intro hq_ hg_ <;> simp only [hg_] <;> clear hg_
              ·first
               | exfalso; omega
               |skip
                refine o_skip rfl ?_
                refine o_skip rfl ?_
                refine o_skip rfl ?_
                refine o_pickt rfl rfl rfl ?_
                refine op_nil ?_
                refine wp_cond rfl (fun _ => ?_) (fun h_ => absurd h_ (by decide))
                refine wp_seq ?_
                refine wp_ops ?_
                refine o_build (cs := clsC 0) rfl rfl ?_
                first | (refine o_scls (k := 0) rfl rfl rfl (rfget0 _ _ _) rfl (rfset0 _ _ _ _) ?_) | (refine o_scls rfl rfl rfl (rfget1 _ _ _ _) rfl (rfset1 _ _ _ _ _) ?_) | (refine o_scls rfl rfl rfl (rfget0 _ _ _) rfl (rfset0 _ _ _ _) ?_)
                first | refine o_asgd rfl rfl ?_ | refine o_asgo rfl rfl ?_ | refine o_asg rfl rfl (fun _ h_ => by cases h_) ?_
                first | refine o_asgd rfl rfl ?_ | refine o_asgo rfl rfl ?_ | refine o_asg rfl rfl (fun _ h_ => by cases h_) ?_
                refine op_nil ?_
                refine wp_ret ?_
                refine bx_ret ?_
                refine bx_ret ?_
                refine end_read rfl rfl rfl (rfget0 _ _ _) rfl rfl ?_ (by simp)
                first
                | (
                  have hR2 : R = itms s f i k := by
                   rw [hR]
                   first
                   | exact if_pos rfl
                   | (rw [if_neg (by decide), if_neg (by rw [hit_some hx_]; simp; omega)])
                  rw [hR2, lf1 hf (by assumption)]; rfl)
                | (
                  have hR2 : R = itms s f i k := by
                   rw [hR]
                   first
                   | exact if_pos rfl
                   | (rw [if_neg (by decide), if_neg (by rw [hit_some hx_]; simp; omega)])
                  rw [hR2, lf2 hf (by assumption) (by rw [hit_some hy_]; exact decide_eq_true (by omega)) (by assumption)]; rfl)
                | (
                  have hR2 : R = itms s f i k := by
                   rw [hR]
                   first
                   | exact if_pos rfl
                   | (rw [if_neg (by decide), if_neg (by rw [hit_some hx_]; simp; omega)])
                  rw [hR2, lf3 hf (by assumption) (by rw [hit_some hy_]; exact decide_eq_true (by omega)) (by assumption) (by assumption)]; rfl)
                | (
                  have hR2 : R = itms s f i k := by
                   rw [hR]
                   first
                   | exact if_pos rfl
                   | (rw [if_neg (by decide), if_neg (by rw [hit_some hx_]; simp; omega)])
                  rw [hR2, lf4 hf (by assumption) (by rw [hit_some hy_]; exact decide_eq_true (by omega)) (by assumption) (by assumption), lfe (by omega)]; rfl)
                | (
                  have hR2 : R = itms s f i k := by
                   rw [hR]
                   first
                   | exact if_pos rfl
                   | (rw [if_neg (by decide), if_neg (by rw [hit_some hx_]; simp; omega)])
                  rw [hR2, lf6 hf (by assumption) (by first | exact hit_none (by omega) | (rw [hit_some hy_]; exact decide_eq_false (by omega))), lfe (by omega)]; rfl)
                | (
                  have hR3 : R = some (k, i + 1) := by rw [hR, if_neg (by decide), if_pos (by rw [hit_some hx_]; exact decide_eq_true (by omega))]
                  rw [hR3]; simp_all [fin, readA, spanN]; done)
                | trace_state
              ·first
               | exfalso; omega
               |skip
                first | refine o_movd rfl rfl ?_ | refine o_movp rfl rfl ?_ | refine o_mova rfl rfl ?_ | refine o_mov rfl rfl ?_
                first | refine o_movd rfl rfl ?_ | refine o_movp rfl rfl ?_ | refine o_mova rfl rfl ?_ | refine o_mov rfl rfl ?_
                first | refine o_gtrn rfl rfl rfl ?_ | refine o_bin rfl rfl rfl rfl ?_
                refine o_pickf rfl rfl rfl ?_
                refine op_nil ?_
                first | refine wp_if rfl ?_ ?_ <;> intro hq_ | refine wp_cond rfl ?_ ?_ <;> intro hq_
                ·first
                 | exfalso; omega
                 |skip
                  refine wp_seq ?_
                  refine wp_ops ?_
                  refine o_build (cs := clsC 0) rfl rfl ?_
                  first | (refine o_scls (k := 0) rfl rfl rfl (rfget0 _ _ _) rfl (rfset0 _ _ _ _) ?_) | (refine o_scls rfl rfl rfl (rfget1 _ _ _ _) rfl (rfset1 _ _ _ _ _) ?_) | (refine o_scls rfl rfl rfl (rfget0 _ _ _) rfl (rfset0 _ _ _ _) ?_)
                  first | refine o_asgd rfl rfl ?_ | refine o_asgo rfl rfl ?_ | refine o_asg rfl rfl (fun _ h_ => by cases h_) ?_
                  first | refine o_asgd rfl rfl ?_ | refine o_asgo rfl rfl ?_ | refine o_asg rfl rfl (fun _ h_ => by cases h_) ?_
                  refine op_nil ?_
                  refine wp_ret ?_
                  refine bx_ret ?_
                  refine bx_ret ?_
                  refine end_read rfl rfl rfl (rfget0 _ _ _) rfl rfl ?_ (by simp)
                  first
                  | (
                    have hR2 : R = itms s f i k := by
                     rw [hR]
                     first
                     | exact if_pos rfl
                     | (rw [if_neg (by decide), if_neg (by rw [hit_some hx_]; simp; omega)])
                    rw [hR2, lf1 hf (by assumption)]; rfl)
                  | (
                    have hR2 : R = itms s f i k := by
                     rw [hR]
                     first
                     | exact if_pos rfl
                     | (rw [if_neg (by decide), if_neg (by rw [hit_some hx_]; simp; omega)])
                    rw [hR2, lf2 hf (by assumption) (by rw [hit_some hy_]; exact decide_eq_true (by omega)) (by assumption)]; rfl)
                  | (
                    have hR2 : R = itms s f i k := by
                     rw [hR]
                     first
                     | exact if_pos rfl
                     | (rw [if_neg (by decide), if_neg (by rw [hit_some hx_]; simp; omega)])
                    rw [hR2, lf3 hf (by assumption) (by rw [hit_some hy_]; exact decide_eq_true (by omega)) (by assumption) (by assumption)]; rfl)
                  | (
                    have hR2 : R = itms s f i k := by
                     rw [hR]
                     first
                     | exact if_pos rfl
                     | (rw [if_neg (by decide), if_neg (by rw [hit_some hx_]; simp; omega)])
                    rw [hR2, lf4 hf (by assumption) (by rw [hit_some hy_]; exact decide_eq_true (by omega)) (by assumption) (by assumption), lfe (by omega)]; rfl)
                  | (
                    have hR2 : R = itms s f i k := by
                     rw [hR]
                     first
                     | exact if_pos rfl
                     | (rw [if_neg (by decide), if_neg (by rw [hit_some hx_]; simp; omega)])
                    rw [hR2, lf6 hf (by assumption) (by first | exact hit_none (by omega) | (rw [hit_some hy_]; exact decide_eq_false (by omega))), lfe (by omega)]; rfl)
                  | (
                    have hR3 : R = some (k, i + 1) := by rw [hR, if_neg (by decide), if_pos (by rw [hit_some hx_]; exact decide_eq_true (by omega))]
                    rw [hR3]; simp_all [fin, readA, spanN]; done)
                  | trace_state
                ·first
                 | exfalso; omega
                 |skip
                  refine wp_skip ?_
                  refine wp_seq ?_
                  refine wp_ops ?_
                  first | refine o_movd rfl rfl ?_ | refine o_movp rfl rfl ?_ | refine o_mova rfl rfl ?_ | refine o_mov rfl rfl ?_
                  refine o_addkn rfl rfl rfl (by decide) (by simp only [m64]; omega) ?_
                  first | refine o_movd rfl rfl ?_ | refine o_movp rfl rfl ?_ | refine o_mova rfl rfl ?_ | refine o_mov rfl rfl ?_
                  (have hs2_ := sn_le s (i + sn (sign (s.drop i)) + 1) (by omega); refine o_addkn rfl rfl rfl (by decide) (by simp only [m64]; omega) ?_)
                  first | refine o_asgd rfl rfl ?_ | refine o_asgo rfl rfl ?_ | refine o_asg rfl rfl (fun _ h_ => by cases h_) ?_
                  refine op_nil ?_
                  refine wp_ops ?_
                  refine o_lcls rfl rfl (rfget1 _ _ _ _) ?_
                  first | refine o_movd rfl rfl ?_ | refine o_movp rfl rfl ?_ | refine o_mova rfl rfl ?_ | refine o_mov rfl rfl ?_
                  first | refine o_movd rfl rfl ?_ | refine o_movp rfl rfl ?_ | refine o_mova rfl rfl ?_ | refine o_mov rfl rfl ?_
                  refine o_callz rfl rfl rfl rfl (rSpan_ev _ _ (sa_lt _) (sa_lt _) _) ?_
                  refine o_call rfl rfl rfl (rOr_ev _ _ (spanN_lt _ _ (by have := sa_lt (s.drop i); have := sa_lt (s.drop (i + sn (sign (s.drop i)) + 1)); omega)) _) ?_
                  first | (refine o_scls (k := 0) rfl rfl rfl (rfget0 _ _ _) rfl (rfset0 _ _ _ _) ?_) | (refine o_scls rfl rfl rfl (rfget1 _ _ _ _) rfl (rfset1 _ _ _ _ _) ?_) | (refine o_scls rfl rfl rfl (rfget0 _ _ _) rfl (rfset0 _ _ _ _) ?_)
                  refine op_nil ?_
                  refine wp_seq ?_
                  refine wp_ops ?_
                  first | refine o_movd rfl rfl ?_ | refine o_movp rfl rfl ?_ | refine o_mova rfl rfl ?_ | refine o_mov rfl rfl ?_
                  first | refine o_movd rfl rfl ?_ | refine o_movp rfl rfl ?_ | refine o_mova rfl rfl ?_ | refine o_mov rfl rfl ?_
                  refine o_lenS rfl rfl ?_
                  first | refine o_geqn rfl rfl rfl ?_ | refine o_bin rfl rfl rfl rfl ?_
                  refine op_nil ?_
                  first | refine wp_if rfl ?_ ?_ <;> intro hq_ | refine wp_cond rfl ?_ ?_ <;> intro hq_
                  ·first
                   | exfalso; omega
                   |skip
                    refine wp_seq ?_
                    refine wp_ops ?_
                    refine o_build (cs := clsC 0) rfl rfl ?_
                    first | (refine o_scls (k := 0) rfl rfl rfl (rfget0 _ _ _) rfl (rfset0 _ _ _ _) ?_) | (refine o_scls rfl rfl rfl (rfget1 _ _ _ _) rfl (rfset1 _ _ _ _ _) ?_) | (refine o_scls rfl rfl rfl (rfget0 _ _ _) rfl (rfset0 _ _ _ _) ?_)
                    first | refine o_asgd rfl rfl ?_ | refine o_asgo rfl rfl ?_ | refine o_asg rfl rfl (fun _ h_ => by cases h_) ?_
                    first | refine o_asgd rfl rfl ?_ | refine o_asgo rfl rfl ?_ | refine o_asg rfl rfl (fun _ h_ => by cases h_) ?_
                    refine op_nil ?_
                    refine wp_ret ?_
                    refine bx_ret ?_
                    refine bx_ret ?_
                    refine end_read rfl rfl rfl (rfget0 _ _ _) rfl rfl ?_ (by simp)
                    first
                    | (
                      have hR2 : R = itms s f i k := by
                       rw [hR]
                       first
                       | exact if_pos rfl
                       | (rw [if_neg (by decide), if_neg (by rw [hit_some hx_]; simp; omega)])
                      rw [hR2, lf1 hf (by assumption)]; rfl)
                    | (
                      have hR2 : R = itms s f i k := by
                       rw [hR]
                       first
                       | exact if_pos rfl
                       | (rw [if_neg (by decide), if_neg (by rw [hit_some hx_]; simp; omega)])
                      rw [hR2, lf2 hf (by assumption) (by rw [hit_some hy_]; exact decide_eq_true (by omega)) (by assumption)]; rfl)
                    | (
                      have hR2 : R = itms s f i k := by
                       rw [hR]
                       first
                       | exact if_pos rfl
                       | (rw [if_neg (by decide), if_neg (by rw [hit_some hx_]; simp; omega)])
                      rw [hR2, lf3 hf (by assumption) (by rw [hit_some hy_]; exact decide_eq_true (by omega)) (by assumption) (by assumption)]; rfl)
                    | (
                      have hR2 : R = itms s f i k := by
                       rw [hR]
                       first
                       | exact if_pos rfl
                       | (rw [if_neg (by decide), if_neg (by rw [hit_some hx_]; simp; omega)])
                      rw [hR2, lf4 hf (by assumption) (by rw [hit_some hy_]; exact decide_eq_true (by omega)) (by assumption) (by assumption), lfe (by omega)]; rfl)
                    | (
                      have hR2 : R = itms s f i k := by
                       rw [hR]
                       first
                       | exact if_pos rfl
                       | (rw [if_neg (by decide), if_neg (by rw [hit_some hx_]; simp; omega)])
                      rw [hR2, lf6 hf (by assumption) (by first | exact hit_none (by omega) | (rw [hit_some hy_]; exact decide_eq_false (by omega))), lfe (by omega)]; rfl)
                    | (
                      have hR3 : R = some (k, i + 1) := by rw [hR, if_neg (by decide), if_pos (by rw [hit_some hx_]; exact decide_eq_true (by omega))]
                      rw [hR3]; simp_all [fin, readA, spanN]; done)
                    | trace_state
                  ·first
                   | exfalso; omega
                   |skip
                    refine wp_skip ?_
                    refine keepN (by (simp +decide only [Slots.keep, Slots.get, reduceIte]); exact rfl) ?_
                    have hR2 : R = itms s f i k := by
                     rw [hR]
                     first
                     | exact if_pos rfl
                     | (rw [if_neg (by decide), if_neg (by rw [hit_some hx_]; simp; omega)])
                    have p1 := sn_pos (s := s.drop i) (by assumption)
                    first
                    | (
                      have p2 := sn_pos (s := s.drop (i + sn (sign (s.drop i)) + 1)) (by assumption)
                      have hR4 := hR2.trans (lf4 hf (by assumption) (by rw [hit_some hy_]; exact decide_eq_true (by omega)) (by assumption) (by assumption))
                      refine ⟨by simp, _, ?_, false, _, _, f - 1, rfl, ?_, fun _ => ?_, ?_, hR4.trans (if_neg (by decide)).symm, rfl⟩ <;> omega)
                    | (
                      have hR4 := hR2.trans (lf6 hf (by assumption) (by first | exact hit_none (by omega) | (rw [hit_some hy_]; exact decide_eq_false (by omega))))
                      refine ⟨by simp, _, ?_, false, _, _, f - 1, rfl, ?_, fun _ => ?_, ?_, hR4.trans (if_neg (by decide)).symm, rfl⟩ <;> omega)
            ·first
             | exfalso; omega
             |skip
              refine wp_ops ?_
              refine o_lcls rfl rfl (rfget1 _ _ _ _) ?_
              first | refine o_movd rfl rfl ?_ | refine o_movp rfl rfl ?_ | refine o_mova rfl rfl ?_ | refine o_mov rfl rfl ?_
              refine o_call rfl rfl rfl (with_ev _ _ (sa_lt _) _) ?_
              first | (refine o_scls (k := 0) rfl rfl rfl (rfget0 _ _ _) rfl (rfset0 _ _ _ _) ?_) | (refine o_scls rfl rfl rfl (rfget1 _ _ _ _) rfl (rfset1 _ _ _ _ _) ?_) | (refine o_scls rfl rfl rfl (rfget0 _ _ _) rfl (rfset0 _ _ _ _) ?_)
              refine op_nil ?_
              refine wp_seq ?_
              refine wp_ops ?_
              first | refine o_movd rfl rfl ?_ | refine o_movp rfl rfl ?_ | refine o_mova rfl rfl ?_ | refine o_mov rfl rfl ?_
              first | refine o_movd rfl rfl ?_ | refine o_movp rfl rfl ?_ | refine o_mova rfl rfl ?_ | refine o_mov rfl rfl ?_
              refine o_lenS rfl rfl ?_
              first | refine o_geqn rfl rfl rfl ?_ | refine o_bin rfl rfl rfl rfl ?_
              refine op_nil ?_
              first | refine wp_if rfl ?_ ?_ <;> intro hq_ | refine wp_cond rfl ?_ ?_ <;> intro hq_
              ·first
               | exfalso; omega
               |skip
                refine wp_seq ?_
                refine wp_ops ?_
                refine o_build (cs := clsC 0) rfl rfl ?_
                first | (refine o_scls (k := 0) rfl rfl rfl (rfget0 _ _ _) rfl (rfset0 _ _ _ _) ?_) | (refine o_scls rfl rfl rfl (rfget1 _ _ _ _) rfl (rfset1 _ _ _ _ _) ?_) | (refine o_scls rfl rfl rfl (rfget0 _ _ _) rfl (rfset0 _ _ _ _) ?_)
                first | refine o_asgd rfl rfl ?_ | refine o_asgo rfl rfl ?_ | refine o_asg rfl rfl (fun _ h_ => by cases h_) ?_
                first | refine o_asgd rfl rfl ?_ | refine o_asgo rfl rfl ?_ | refine o_asg rfl rfl (fun _ h_ => by cases h_) ?_
                refine op_nil ?_
                refine wp_ret ?_
                refine bx_ret ?_
                refine bx_ret ?_
                refine end_read rfl rfl rfl (rfget0 _ _ _) rfl rfl ?_ (by simp)
                first
                | (
                  have hR2 : R = itms s f i k := by
                   rw [hR]
                   first
                   | exact if_pos rfl
                   | (rw [if_neg (by decide), if_neg (by rw [hit_some hx_]; simp; omega)])
                  rw [hR2, lf1 hf (by assumption)]; rfl)
                | (
                  have hR2 : R = itms s f i k := by
                   rw [hR]
                   first
                   | exact if_pos rfl
                   | (rw [if_neg (by decide), if_neg (by rw [hit_some hx_]; simp; omega)])
                  rw [hR2, lf2 hf (by assumption) (by rw [hit_some hy_]; exact decide_eq_true (by omega)) (by assumption)]; rfl)
                | (
                  have hR2 : R = itms s f i k := by
                   rw [hR]
                   first
                   | exact if_pos rfl
                   | (rw [if_neg (by decide), if_neg (by rw [hit_some hx_]; simp; omega)])
                  rw [hR2, lf3 hf (by assumption) (by rw [hit_some hy_]; exact decide_eq_true (by omega)) (by assumption) (by assumption)]; rfl)
                | (
                  have hR2 : R = itms s f i k := by
                   rw [hR]
                   first
                   | exact if_pos rfl
                   | (rw [if_neg (by decide), if_neg (by rw [hit_some hx_]; simp; omega)])
                  rw [hR2, lf4 hf (by assumption) (by rw [hit_some hy_]; exact decide_eq_true (by omega)) (by assumption) (by assumption), lfe (by omega)]; rfl)
                | (
                  have hR2 : R = itms s f i k := by
                   rw [hR]
                   first
                   | exact if_pos rfl
                   | (rw [if_neg (by decide), if_neg (by rw [hit_some hx_]; simp; omega)])
                  rw [hR2, lf6 hf (by assumption) (by first | exact hit_none (by omega) | (rw [hit_some hy_]; exact decide_eq_false (by omega))), lfe (by omega)]; rfl)
                | (
                  have hR3 : R = some (k, i + 1) := by rw [hR, if_neg (by decide), if_pos (by rw [hit_some hx_]; exact decide_eq_true (by omega))]
                  rw [hR3]; simp_all [fin, readA, spanN]; done)
                | trace_state
              ·first
               | exfalso; omega
               |skip
                refine wp_skip ?_
                refine keepN (by (simp +decide only [Slots.keep, Slots.get, reduceIte]); exact rfl) ?_
                have hR2 : R = itms s f i k := by
                 rw [hR]
                 first
                 | exact if_pos rfl
                 | (rw [if_neg (by decide), if_neg (by rw [hit_some hx_]; simp; omega)])
                have p1 := sn_pos (s := s.drop i) (by assumption)
                first
                | (
                  have p2 := sn_pos (s := s.drop (i + sn (sign (s.drop i)) + 1)) (by assumption)
                  have hR4 := hR2.trans (lf4 hf (by assumption) (by rw [hit_some hy_]; exact decide_eq_true (by omega)) (by assumption) (by assumption))
                  refine ⟨by simp, _, ?_, false, _, _, f - 1, rfl, ?_, fun _ => ?_, ?_, hR4.trans (if_neg (by decide)).symm, rfl⟩ <;> omega)
                | (
                  have hR4 := hR2.trans (lf6 hf (by assumption) (by first | exact hit_none (by omega) | (rw [hit_some hy_]; exact decide_eq_false (by omega))))
                  refine ⟨by simp, _, ?_, false, _, _, f - 1, rfl, ?_, fun _ => ?_, ?_, hR4.trans (if_neg (by decide)).symm, rfl⟩ <;> omega)
          ·first
           | exfalso; omega
           |skip
            refine o_skip rfl ?_
            refine o_skip rfl ?_
            refine o_skip rfl ?_
            refine o_skip rfl ?_
            refine o_pickf rfl rfl rfl ?_
            refine op_nil ?_
            refine wp_cond rfl (fun h_ => absurd h_ (by decide)) (fun _ => ?_)
            refine wp_ops ?_
            refine o_lcls rfl rfl (rfget1 _ _ _ _) ?_
            first | refine o_movd rfl rfl ?_ | refine o_movp rfl rfl ?_ | refine o_mova rfl rfl ?_ | refine o_mov rfl rfl ?_
            refine o_call rfl rfl rfl (with_ev _ _ (sa_lt _) _) ?_
            first | (refine o_scls (k := 0) rfl rfl rfl (rfget0 _ _ _) rfl (rfset0 _ _ _ _) ?_) | (refine o_scls rfl rfl rfl (rfget1 _ _ _ _) rfl (rfset1 _ _ _ _ _) ?_) | (refine o_scls rfl rfl rfl (rfget0 _ _ _) rfl (rfset0 _ _ _ _) ?_)
            refine op_nil ?_
            refine wp_seq ?_
            refine wp_ops ?_
            first | refine o_movd rfl rfl ?_ | refine o_movp rfl rfl ?_ | refine o_mova rfl rfl ?_ | refine o_mov rfl rfl ?_
            first | refine o_movd rfl rfl ?_ | refine o_movp rfl rfl ?_ | refine o_mova rfl rfl ?_ | refine o_mov rfl rfl ?_
            refine o_lenS rfl rfl ?_
            first | refine o_geqn rfl rfl rfl ?_ | refine o_bin rfl rfl rfl rfl ?_
            refine op_nil ?_
            first | refine wp_if rfl ?_ ?_ <;> intro hq_ | refine wp_cond rfl ?_ ?_ <;> intro hq_
            ·first
             | exfalso; omega
             |skip
              refine wp_seq ?_
              refine wp_ops ?_
              refine o_build (cs := clsC 0) rfl rfl ?_
              first | (refine o_scls (k := 0) rfl rfl rfl (rfget0 _ _ _) rfl (rfset0 _ _ _ _) ?_) | (refine o_scls rfl rfl rfl (rfget1 _ _ _ _) rfl (rfset1 _ _ _ _ _) ?_) | (refine o_scls rfl rfl rfl (rfget0 _ _ _) rfl (rfset0 _ _ _ _) ?_)
              first | refine o_asgd rfl rfl ?_ | refine o_asgo rfl rfl ?_ | refine o_asg rfl rfl (fun _ h_ => by cases h_) ?_
              first | refine o_asgd rfl rfl ?_ | refine o_asgo rfl rfl ?_ | refine o_asg rfl rfl (fun _ h_ => by cases h_) ?_
              refine op_nil ?_
              refine wp_ret ?_
              refine bx_ret ?_
              refine bx_ret ?_
              refine end_read rfl rfl rfl (rfget0 _ _ _) rfl rfl ?_ (by simp)
              first
              | (
                have hR2 : R = itms s f i k := by
                 rw [hR]
                 first
                 | exact if_pos rfl
                 | (rw [if_neg (by decide), if_neg (by rw [hit_some hx_]; simp; omega)])
                rw [hR2, lf1 hf (by assumption)]; rfl)
              | (
                have hR2 : R = itms s f i k := by
                 rw [hR]
                 first
                 | exact if_pos rfl
                 | (rw [if_neg (by decide), if_neg (by rw [hit_some hx_]; simp; omega)])
                rw [hR2, lf2 hf (by assumption) (by rw [hit_some hy_]; exact decide_eq_true (by omega)) (by assumption)]; rfl)
              | (
                have hR2 : R = itms s f i k := by
                 rw [hR]
                 first
                 | exact if_pos rfl
                 | (rw [if_neg (by decide), if_neg (by rw [hit_some hx_]; simp; omega)])
                rw [hR2, lf3 hf (by assumption) (by rw [hit_some hy_]; exact decide_eq_true (by omega)) (by assumption) (by assumption)]; rfl)
              | (
                have hR2 : R = itms s f i k := by
                 rw [hR]
                 first
                 | exact if_pos rfl
                 | (rw [if_neg (by decide), if_neg (by rw [hit_some hx_]; simp; omega)])
                rw [hR2, lf4 hf (by assumption) (by rw [hit_some hy_]; exact decide_eq_true (by omega)) (by assumption) (by assumption), lfe (by omega)]; rfl)
              | (
                have hR2 : R = itms s f i k := by
                 rw [hR]
                 first
                 | exact if_pos rfl
                 | (rw [if_neg (by decide), if_neg (by rw [hit_some hx_]; simp; omega)])
                rw [hR2, lf6 hf (by assumption) (by first | exact hit_none (by omega) | (rw [hit_some hy_]; exact decide_eq_false (by omega))), lfe (by omega)]; rfl)
              | (
                have hR3 : R = some (k, i + 1) := by rw [hR, if_neg (by decide), if_pos (by rw [hit_some hx_]; exact decide_eq_true (by omega))]
                rw [hR3]; simp_all [fin, readA, spanN]; done)
              | trace_state
            ·first
             | exfalso; omega
             |skip
              refine wp_skip ?_
              refine keepN (by (simp +decide only [Slots.keep, Slots.get, reduceIte]); exact rfl) ?_
              have hR2 : R = itms s f i k := by
               rw [hR]
               first
               | exact if_pos rfl
               | (rw [if_neg (by decide), if_neg (by rw [hit_some hx_]; simp; omega)])
              have p1 := sn_pos (s := s.drop i) (by assumption)
              first
              | (
                have p2 := sn_pos (s := s.drop (i + sn (sign (s.drop i)) + 1)) (by assumption)
                have hR4 := hR2.trans (lf4 hf (by assumption) (by rw [hit_some hy_]; exact decide_eq_true (by omega)) (by assumption) (by assumption))
                refine ⟨by simp, _, ?_, false, _, _, f - 1, rfl, ?_, fun _ => ?_, ?_, hR4.trans (if_neg (by decide)).symm, rfl⟩ <;> omega)
              | (
                have hR4 := hR2.trans (lf6 hf (by assumption) (by first | exact hit_none (by omega) | (rw [hit_some hy_]; exact decide_eq_false (by omega))))
                refine ⟨by simp, _, ?_, false, _, _, f - 1, rfl, ?_, fun _ => ?_, ?_, hR4.trans (if_neg (by decide)).symm, rfl⟩ <;> omega)
     ·first
      | exfalso; omega
      |skip
       refine wp_skip ?_
       refine wp_seq ?_
       refine wp_ops ?_
       refine o_build (cs := clsC 0) rfl rfl ?_
       (refine o_alloc rfl ?_; try simp only [List.length_append, List.length_cons, List.length_nil, List.append_assoc, List.cons_append, List.nil_append, Nat.zero_add, Nat.add_assoc, Nat.reduceAdd])
       first | (refine o_scls (k := 0) rfl rfl rfl (rfget1 _ _ _ _) rfl (rfset1 _ _ _ _ _) ?_) | (refine o_scls (k := 0) rfl rfl rfl (rfget0 _ _ _) rfl (rfset0 _ _ _ _) ?_)
       refine op_nil ?_
       refine wp_seq ?_
       refine wp_ops ?_
       first | refine o_asgd rfl rfl ?_ | refine o_asgo rfl rfl ?_ | refine o_asg rfl rfl (fun _ h_ => by cases h_) ?_
       refine op_nil ?_
       refine wp_seq ?_
       refine wp_keep ?_
       refine wp_block ?_
       have h91 : hit s 0 91 = true := by rw [hit_some hc0_]; exact decide_eq_true (by omega)
       have h94 : hit s 1 94 = decide (c1_.toNat = 94) := hit_some hc1_
       rw [readS_eq h91, h94]
       obtain ⟨b94, hb⟩ : ∃ b94, decide (c1_.toNat = 94) = b94 := ⟨_, rfl⟩
       have hi0 : (if b94 = true then 2 else 1) = 2 ∧ c1_.toNat = 94 ∨ (if b94 = true then 2 else 1) = 1 ∧ ¬ c1_.toNat = 94 := by rw [← hb]; by_cases h : c1_.toNat = 94 <;> simp [h]
       simp only [hb]
       obtain ⟨R, hR0⟩ : ∃ R, R = itms s s.length (if b94 = true then 2 else 1) 0 := ⟨_, rfl⟩
       rw [← hR0]
       have hi1 : (if b94 = true then 2 else 1) = 2 ∨ (if b94 = true then 2 else 1) = 1 := by omega
       refine wp_loop (m := s.length + 1 - (if b94 = true then 2 else 1)) (fun m st => ∃ (b : Bool) (i k f : Nat), m = s.length + 1 - i ∧ i ≤ s.length ∧ (b = false → i < s.length) ∧ s.length ≤ i + f ∧ R = (if b = true then itms s f i k else if hit s i 93 then some (k, i + 1) else itms s f i k) ∧
        st = ⟨[(0, str s), (2, .ptr rf.length 0), (5, i64 (i : Nat)), (6, bl b94), (7, .ptr (rf.length + 1) 0), (8, bl b)], rf ++ [z4, clsC k], [], none, rf.length⟩) ?_ ?_
       ·first
        | (
          have hv : (if b94 = true then 2 else 1) = 2 := by omega
          rw [hv] at hR0 ⊢
          exact ⟨true, 2, 0, s.length, rfl, by omega, (fun h => nomatch h), by omega, hR0, rfl⟩)
        | (
          have hv : (if b94 = true then 2 else 1) = 1 := by omega
          rw [hv] at hR0 ⊢
          exact ⟨true, 1, 0, s.length, rfl, by omega, (fun h => nomatch h), by omega, hR0, rfl⟩)
       clear hR0 hi0 hi1 hb
       rintro m st ⟨b, i, k, f, rfl, hi, hb, hf, hR, rfl⟩ -
       cases b
       ·have hi' : i < s.length := hb rfl
        clear hb
        refine wp_seq ?_
        refine wp_seq ?_
        refine wp_ops ?_
        first | refine o_movd rfl rfl ?_ | refine o_movp rfl rfl ?_ | refine o_mova rfl rfl ?_ | refine o_mov rfl rfl ?_
        first | refine o_movd rfl rfl ?_ | refine o_movp rfl rfl ?_ | refine o_mova rfl rfl ?_ | refine o_mov rfl rfl ?_
        first | refine o_movd rfl rfl ?_ | refine o_movp rfl rfl ?_ | refine o_mova rfl rfl ?_ | refine o_mov rfl rfl ?_
        first | refine o_movd rfl rfl ?_ | refine o_movp rfl rfl ?_ | refine o_mova rfl rfl ?_ | refine o_mov rfl rfl ?_
        refine o_lenS rfl rfl ?_
        first | refine o_geqn rfl rfl rfl ?_ | refine o_bin rfl rfl rfl rfl ?_
        refine o_pickf rfl rfl rfl ?_
        first | refine o_movd rfl rfl ?_ | refine o_movp rfl rfl ?_ | refine o_mova rfl rfl ?_ | refine o_mov rfl rfl ?_
        refine o_ifp rfl ?_ ?_ <;> intro hq_ hg_ <;> simp only [hg_] <;> clear hg_
        ·first
         | exfalso; omega
         |skip
          refine o_skip rfl ?_
          refine o_skip rfl ?_
          refine o_skip rfl ?_
          refine o_skip rfl ?_
          refine o_pickt rfl rfl rfl ?_
          refine op_nil ?_
          refine wp_cond rfl (fun _ => ?_) (fun h_ => absurd h_ (by decide))
          refine wp_skip ?_
          refine wp_keep ?_
          refine wp_block ?_
          refine wp_seq ?_
          refine wp_ops ?_
          first | refine o_asgd rfl rfl ?_ | refine o_asgo rfl rfl ?_ | refine o_asg rfl rfl (fun _ h_ => by cases h_) ?_
          refine op_nil ?_
          refine wp_seq ?_
          refine wp_ops ?_
          first | refine o_movd rfl rfl ?_ | refine o_movp rfl rfl ?_ | refine o_mova rfl rfl ?_ | refine o_mov rfl rfl ?_
          first | refine o_movd rfl rfl ?_ | refine o_movp rfl rfl ?_ | refine o_mova rfl rfl ?_ | refine o_mov rfl rfl ?_
          refine o_sub0 rfl rfl rfl rfl (by omega) ?_
          refine o_call rfl rfl rfl (rSignP_ev (s.drop i) _) ?_
          refine o_mov rfl rfl ?_
          refine o_extr rfl rfl rfl ?_
          refine o_extr rfl rfl rfl ?_
          refine o_extr rfl rfl rfl ?_
          first | refine o_asgd rfl rfl ?_ | refine o_asgo rfl rfl ?_ | refine o_asg rfl rfl (fun _ h_ => by cases h_) ?_
          first | refine o_asgd rfl rfl ?_ | refine o_asgo rfl rfl ?_ | refine o_asg rfl rfl (fun _ h_ => by cases h_) ?_
          first | refine o_asgd rfl rfl ?_ | refine o_asgo rfl rfl ?_ | refine o_asg rfl rfl (fun _ h_ => by cases h_) ?_
          refine op_nil ?_
          refine wp_seq ?_
          refine wp_seq ?_
          refine wp_ops ?_
          first | refine o_movd rfl rfl ?_ | refine o_movp rfl rfl ?_ | refine o_mova rfl rfl ?_ | refine o_mov rfl rfl ?_
          first | refine o_neqn rfl rfl rfl ?_ | refine o_nes rfl rfl rfl ?_ | refine o_bin rfl rfl rfl rfl ?_
          refine op_nil ?_
          first | refine wp_if rfl ?_ ?_ <;> intro hq_ | refine wp_cond rfl ?_ ?_ <;> intro hq_
          ·first
           | exfalso; omega
           |skip
            refine wp_seq ?_
            refine wp_ops ?_
            refine o_build (cs := clsC 0) rfl rfl ?_
            first | (refine o_scls (k := 0) rfl rfl rfl (rfget0 _ _ _) rfl (rfset0 _ _ _ _) ?_) | (refine o_scls rfl rfl rfl (rfget1 _ _ _ _) rfl (rfset1 _ _ _ _ _) ?_) | (refine o_scls rfl rfl rfl (rfget0 _ _ _) rfl (rfset0 _ _ _ _) ?_)
            first | refine o_asgd rfl rfl ?_ | refine o_asgo rfl rfl ?_ | refine o_asg rfl rfl (fun _ h_ => by cases h_) ?_
            first | refine o_asgd rfl rfl ?_ | refine o_asgo rfl rfl ?_ | refine o_asg rfl rfl (fun _ h_ => by cases h_) ?_
            refine op_nil ?_
            refine wp_ret ?_
            refine bx_ret ?_
            refine bx_ret ?_
            refine end_read rfl rfl rfl (rfget0 _ _ _) rfl rfl ?_ (by simp)
            first
            | (
              have hR2 : R = itms s f i k := by
               rw [hR]
               first
               | exact if_pos rfl
               | (rw [if_neg (by decide), if_neg (by rw [hit_some hx_]; simp; omega)])
              rw [hR2, lf1 hf (by assumption)]; rfl)
            | (
              have hR2 : R = itms s f i k := by
               rw [hR]
               first
               | exact if_pos rfl
               | (rw [if_neg (by decide), if_neg (by rw [hit_some hx_]; simp; omega)])
              rw [hR2, lf2 hf (by assumption) (by rw [hit_some hy_]; exact decide_eq_true (by omega)) (by assumption)]; rfl)
            | (
              have hR2 : R = itms s f i k := by
               rw [hR]
               first
               | exact if_pos rfl
               | (rw [if_neg (by decide), if_neg (by rw [hit_some hx_]; simp; omega)])
              rw [hR2, lf3 hf (by assumption) (by rw [hit_some hy_]; exact decide_eq_true (by omega)) (by assumption) (by assumption)]; rfl)
            | (
              have hR2 : R = itms s f i k := by
               rw [hR]
               first
               | exact if_pos rfl
               | (rw [if_neg (by decide), if_neg (by rw [hit_some hx_]; simp; omega)])
              rw [hR2, lf4 hf (by assumption) (by rw [hit_some hy_]; exact decide_eq_true (by omega)) (by assumption) (by assumption), lfe (by omega)]; rfl)
            | (
              have hR2 : R = itms s f i k := by
               rw [hR]
               first
               | exact if_pos rfl
               | (rw [if_neg (by decide), if_neg (by rw [hit_some hx_]; simp; omega)])
              rw [hR2, lf6 hf (by assumption) (by first | exact hit_none (by omega) | (rw [hit_some hy_]; exact decide_eq_false (by omega))), lfe (by omega)]; rfl)
            | (
              have hR3 : R = some (k, i + 1) := by rw [hR, if_neg (by decide), if_pos (by rw [hit_some hx_]; exact decide_eq_true (by omega))]
              rw [hR3]; simp_all [fin, readA, spanN]; done)
            | trace_state
          ·first
           | exfalso; omega
           |skip
            refine wp_skip ?_
            refine wp_seq ?_
            refine wp_ops ?_
            first | refine o_movd rfl rfl ?_ | refine o_movp rfl rfl ?_ | refine o_mova rfl rfl ?_ | refine o_mov rfl rfl ?_
            first | refine o_movd rfl rfl ?_ | refine o_movp rfl rfl ?_ | refine o_mova rfl rfl ?_ | refine o_mov rfl rfl ?_
            (have hs1_ := sn_le s i hi; refine o_addkn rfl rfl rfl (by decide) (by simp only [m64]; omega) ?_)
            first | refine o_asgd rfl rfl ?_ | refine o_asgo rfl rfl ?_ | refine o_asg rfl rfl (fun _ h_ => by cases h_) ?_
            refine op_nil ?_
            refine wp_seq ?_
            refine wp_seq ?_
            refine wp_ops ?_
            first | refine o_movd rfl rfl ?_ | refine o_movp rfl rfl ?_ | refine o_mova rfl rfl ?_ | refine o_mov rfl rfl ?_
            first | refine o_movd rfl rfl ?_ | refine o_movp rfl rfl ?_ | refine o_mova rfl rfl ?_ | refine o_mov rfl rfl ?_
            refine o_lenS rfl rfl ?_
            first | refine o_lssn rfl rfl rfl ?_ | refine o_bin rfl rfl rfl rfl ?_
            first | refine o_movd rfl rfl ?_ | refine o_movp rfl rfl ?_ | refine o_mova rfl rfl ?_ | refine o_mov rfl rfl ?_
            refine o_ifp rfl ?_ ?_ <;> intro hq_ hg_ <;> simp only [hg_] <;> clear hg_
            ·first
             | exfalso; omega
             |skip
              first | refine o_movd rfl rfl ?_ | refine o_movp rfl rfl ?_ | refine o_mova rfl rfl ?_ | refine o_mov rfl rfl ?_
              first | refine o_movd rfl rfl ?_ | refine o_movp rfl rfl ?_ | refine o_mova rfl rfl ?_ | refine o_mov rfl rfl ?_
              (obtain ⟨y_, hy_⟩ := getS (show i + sn (sign (s.drop i)) < s.length by omega); refine o_idxS (m := i + sn (sign (s.drop i))) rfl rfl rfl rfl hy_ ?_)
              first | refine o_eqln rfl rfl rfl ?_ | refine o_eqs rfl rfl rfl ?_ | refine o_bin rfl rfl rfl rfl ?_
              refine o_pickt rfl rfl rfl ?_
              refine op_nil ?_
              first | refine wp_if rfl ?_ ?_ <;> intro hq_ | refine wp_cond rfl ?_ ?_ <;> intro hq_
              ·first
               | exfalso; omega
               |skip
                refine wp_seq ?_
                refine wp_ops ?_
                first | refine o_movd rfl rfl ?_ | refine o_movp rfl rfl ?_ | refine o_mova rfl rfl ?_ | refine o_mov rfl rfl ?_
                first | refine o_movd rfl rfl ?_ | refine o_movp rfl rfl ?_ | refine o_mova rfl rfl ?_ | refine o_mov rfl rfl ?_
                refine o_addkn rfl rfl rfl (by decide) (by simp only [m64]; omega) ?_
                refine o_sub0 rfl rfl rfl rfl (by omega) ?_
                refine o_call rfl rfl rfl (rSignP_ev (s.drop (i + sn (sign (s.drop i)) + 1)) _) ?_
                refine o_mov rfl rfl ?_
                refine o_extr rfl rfl rfl ?_
                refine o_extr rfl rfl rfl ?_
                refine o_extr rfl rfl rfl ?_
                first | refine o_asgd rfl rfl ?_ | refine o_asgo rfl rfl ?_ | refine o_asg rfl rfl (fun _ h_ => by cases h_) ?_
                first | refine o_asgd rfl rfl ?_ | refine o_asgo rfl rfl ?_ | refine o_asg rfl rfl (fun _ h_ => by cases h_) ?_
                first | refine o_asgd rfl rfl ?_ | refine o_asgo rfl rfl ?_ | refine o_asg rfl rfl (fun _ h_ => by cases h_) ?_
                refine op_nil ?_
                refine wp_seq ?_
                refine wp_seq ?_
                refine wp_ops ?_
                first | refine o_movd rfl rfl ?_ | refine o_movp rfl rfl ?_ | refine o_mova rfl rfl ?_ | refine o_mov rfl rfl ?_
                first | refine o_neqn rfl rfl rfl ?_ | refine o_nes rfl rfl rfl ?_ | refine o_bin rfl rfl rfl rfl ?_
                first | refine o_movd rfl rfl ?_ | refine o_movp rfl rfl ?_ | refine o_mova rfl rfl ?_ | refine o_mov rfl rfl ?_
                refine o_ifp rfl ?_ ?_ <;> intro hq_ hg_ <;> simp only [hg_] <;> clear hg_
                ·first
                 | exfalso; omega
                 |skip
                  refine o_skip rfl ?_
                  refine o_skip rfl ?_
                  refine o_skip rfl ?_
                  refine o_pickt rfl rfl rfl ?_
                  refine op_nil ?_
                  refine wp_cond rfl (fun _ => ?_) (fun h_ => absurd h_ (by decide))
                  refine wp_seq ?_
                  refine wp_ops ?_
                  refine o_build (cs := clsC 0) rfl rfl ?_
                  first | (refine o_scls (k := 0) rfl rfl rfl (rfget0 _ _ _) rfl (rfset0 _ _ _ _) ?_) | (refine o_scls rfl rfl rfl (rfget1 _ _ _ _) rfl (rfset1 _ _ _ _ _) ?_) | (refine o_scls rfl rfl rfl (rfget0 _ _ _) rfl (rfset0 _ _ _ _) ?_)
                  first | refine o_asgd rfl rfl ?_ | refine o_asgo rfl rfl ?_ | refine o_asg rfl rfl (fun _ h_ => by cases h_) ?_
                  first | refine o_asgd rfl rfl ?_ | refine o_asgo rfl rfl ?_ | refine o_asg rfl rfl (fun _ h_ => by cases h_) ?_
                  refine op_nil ?_
                  refine wp_ret ?_
                  refine bx_ret ?_
                  refine bx_ret ?_
                  refine end_read rfl rfl rfl (rfget0 _ _ _) rfl rfl ?_ (by simp)
                  first
                  | (
                    have hR2 : R = itms s f i k := by
                     rw [hR]
                     first
                     | exact if_pos rfl
                     | (rw [if_neg (by decide), if_neg (by rw [hit_some hx_]; simp; omega)])
                    rw [hR2, lf1 hf (by assumption)]; rfl)
                  | (
                    have hR2 : R = itms s f i k := by
                     rw [hR]
                     first
                     | exact if_pos rfl
                     | (rw [if_neg (by decide), if_neg (by rw [hit_some hx_]; simp; omega)])
                    rw [hR2, lf2 hf (by assumption) (by rw [hit_some hy_]; exact decide_eq_true (by omega)) (by assumption)]; rfl)
                  | (
                    have hR2 : R = itms s f i k := by
                     rw [hR]
                     first
                     | exact if_pos rfl
                     | (rw [if_neg (by decide), if_neg (by rw [hit_some hx_]; simp; omega)])
                    rw [hR2, lf3 hf (by assumption) (by rw [hit_some hy_]; exact decide_eq_true (by omega)) (by assumption) (by assumption)]; rfl)
                  | (
                    have hR2 : R = itms s f i k := by
                     rw [hR]
                     first
                     | exact if_pos rfl
                     | (rw [if_neg (by decide), if_neg (by rw [hit_some hx_]; simp; omega)])
                    rw [hR2, lf4 hf (by assumption) (by rw [hit_some hy_]; exact decide_eq_true (by omega)) (by assumption) (by assumption), lfe (by omega)]; rfl)
                  | (
                    have hR2 : R = itms s f i k := by
                     rw [hR]
                     first
                     | exact if_pos rfl
                     | (rw [if_neg (by decide), if_neg (by rw [hit_some hx_]; simp; omega)])
                    rw [hR2, lf6 hf (by assumption) (by first | exact hit_none (by omega) | (rw [hit_some hy_]; exact decide_eq_false (by omega))), lfe (by omega)]; rfl)
                  | (
                    have hR3 : R = some (k, i + 1) := by rw [hR, if_neg (by decide), if_pos (by rw [hit_some hx_]; exact decide_eq_true (by omega))]
                    rw [hR3]; simp_all [fin, readA, spanN]; done)
                  | trace_state
                ·first
                 | exfalso; omega
                 |skip
                  first | refine o_movd rfl rfl ?_ | refine o_movp rfl rfl ?_ | refine o_mova rfl rfl ?_ | refine o_mov rfl rfl ?_
                  first | refine o_movd rfl rfl ?_ | refine o_movp rfl rfl ?_ | refine o_mova rfl rfl ?_ | refine o_mov rfl rfl ?_
                  first | refine o_gtrn rfl rfl rfl ?_ | refine o_bin rfl rfl rfl rfl ?_
                  refine o_pickf rfl rfl rfl ?_
                  refine op_nil ?_
                  first | refine wp_if rfl ?_ ?_ <;> intro hq_ | refine wp_cond rfl ?_ ?_ <;> intro hq_
                  ·first
                   | exfalso; omega
                   |skip
                    refine wp_seq ?_
                    refine wp_ops ?_
                    refine o_build (cs := clsC 0) rfl rfl ?_
                    first | (refine o_scls (k := 0) rfl rfl rfl (rfget0 _ _ _) rfl (rfset0 _ _ _ _) ?_) | (refine o_scls rfl rfl rfl (rfget1 _ _ _ _) rfl (rfset1 _ _ _ _ _) ?_) | (refine o_scls rfl rfl rfl (rfget0 _ _ _) rfl (rfset0 _ _ _ _) ?_)
                    first | refine o_asgd rfl rfl ?_ | refine o_asgo rfl rfl ?_ | refine o_asg rfl rfl (fun _ h_ => by cases h_) ?_
                    first | refine o_asgd rfl rfl ?_ | refine o_asgo rfl rfl ?_ | refine o_asg rfl rfl (fun _ h_ => by cases h_) ?_
                    refine op_nil ?_
                    refine wp_ret ?_
                    refine bx_ret ?_
                    refine bx_ret ?_
                    refine end_read rfl rfl rfl (rfget0 _ _ _) rfl rfl ?_ (by simp)
                    first
                    | (
                      have hR2 : R = itms s f i k := by
                       rw [hR]
                       first
                       | exact if_pos rfl
                       | (rw [if_neg (by decide), if_neg (by rw [hit_some hx_]; simp; omega)])
                      rw [hR2, lf1 hf (by assumption)]; rfl)
                    | (
                      have hR2 : R = itms s f i k := by
                       rw [hR]
                       first
                       | exact if_pos rfl
                       | (rw [if_neg (by decide), if_neg (by rw [hit_some hx_]; simp; omega)])
                      rw [hR2, lf2 hf (by assumption) (by rw [hit_some hy_]; exact decide_eq_true (by omega)) (by assumption)]; rfl)
                    | (
                      have hR2 : R = itms s f i k := by
                       rw [hR]
                       first
                       | exact if_pos rfl
                       | (rw [if_neg (by decide), if_neg (by rw [hit_some hx_]; simp; omega)])
                      rw [hR2, lf3 hf (by assumption) (by rw [hit_some hy_]; exact decide_eq_true (by omega)) (by assumption) (by assumption)]; rfl)
                    | (
                      have hR2 : R = itms s f i k := by
                       rw [hR]
                       first
                       | exact if_pos rfl
                       | (rw [if_neg (by decide), if_neg (by rw [hit_some hx_]; simp; omega)])
                      rw [hR2, lf4 hf (by assumption) (by rw [hit_some hy_]; exact decide_eq_true (by omega)) (by assumption) (by assumption), lfe (by omega)]; rfl)
                    | (
                      have hR2 : R = itms s f i k := by
                       rw [hR]
                       first
                       | exact if_pos rfl
                       | (rw [if_neg (by decide), if_neg (by rw [hit_some hx_]; simp; omega)])
                      rw [hR2, lf6 hf (by assumption) (by first | exact hit_none (by omega) | (rw [hit_some hy_]; exact decide_eq_false (by omega))), lfe (by omega)]; rfl)
                    | (
                      have hR3 : R = some (k, i + 1) := by rw [hR, if_neg (by decide), if_pos (by rw [hit_some hx_]; exact decide_eq_true (by omega))]
                      rw [hR3]; simp_all [fin, readA, spanN]; done)
                    | trace_state
                  ·first
                   | exfalso; omega
                   |skip
                    refine wp_skip ?_
                    refine wp_seq ?_
                    refine wp_ops ?_
                    first | refine o_movd rfl rfl ?_ | refine o_movp rfl rfl ?_ | refine o_mova rfl rfl ?_ | refine o_mov rfl rfl ?_
                    refine o_addkn rfl rfl rfl (by decide) (by simp only [m64]; omega) ?_
                    first | refine o_movd rfl rfl ?_ | refine o_movp rfl rfl ?_ | refine o_mova rfl rfl ?_ | refine o_mov rfl rfl ?_
                    (have hs2_ := sn_le s (i + sn (sign (s.drop i)) + 1) (by omega); refine o_addkn rfl rfl rfl (by decide) (by simp only [m64]; omega) ?_)
                    first | refine o_asgd rfl rfl ?_ | refine o_asgo rfl rfl ?_ | refine o_asg rfl rfl (fun _ h_ => by cases h_) ?_
                    refine op_nil ?_
                    refine wp_ops ?_
                    refine o_lcls rfl rfl (rfget1 _ _ _ _) ?_
                    first | refine o_movd rfl rfl ?_ | refine o_movp rfl rfl ?_ | refine o_mova rfl rfl ?_ | refine o_mov rfl rfl ?_
                    first | refine o_movd rfl rfl ?_ | refine o_movp rfl rfl ?_ | refine o_mova rfl rfl ?_ | refine o_mov rfl rfl ?_
                    refine o_callz rfl rfl rfl rfl (rSpan_ev _ _ (sa_lt _) (sa_lt _) _) ?_
                    refine o_call rfl rfl rfl (rOr_ev _ _ (spanN_lt _ _ (by have := sa_lt (s.drop i); have := sa_lt (s.drop (i + sn (sign (s.drop i)) + 1)); omega)) _) ?_
                    first | (refine o_scls (k := 0) rfl rfl rfl (rfget0 _ _ _) rfl (rfset0 _ _ _ _) ?_) | (refine o_scls rfl rfl rfl (rfget1 _ _ _ _) rfl (rfset1 _ _ _ _ _) ?_) | (refine o_scls rfl rfl rfl (rfget0 _ _ _) rfl (rfset0 _ _ _ _) ?_)
                    refine op_nil ?_
                    refine wp_seq ?_
                    refine wp_ops ?_
                    first | refine o_movd rfl rfl ?_ | refine o_movp rfl rfl ?_ | refine o_mova rfl rfl ?_ | refine o_mov rfl rfl ?_
                    first | refine o_movd rfl rfl ?_ | refine o_movp rfl rfl ?_ | refine o_mova rfl rfl ?_ | refine o_mov rfl rfl ?_
                    refine o_lenS rfl rfl ?_
                    first | refine o_geqn rfl rfl rfl ?_ | refine o_bin rfl rfl rfl rfl ?_
                    refine op_nil ?_
                    first | refine wp_if rfl ?_ ?_ <;> intro hq_ | refine wp_cond rfl ?_ ?_ <;> intro hq_
                    ·first
                     | exfalso; omega
                     |skip
                      refine wp_seq ?_
                      refine wp_ops ?_
                      refine o_build (cs := clsC 0) rfl rfl ?_
                      first | (refine o_scls (k := 0) rfl rfl rfl (rfget0 _ _ _) rfl (rfset0 _ _ _ _) ?_) | (refine o_scls rfl rfl rfl (rfget1 _ _ _ _) rfl (rfset1 _ _ _ _ _) ?_) | (refine o_scls rfl rfl rfl (rfget0 _ _ _) rfl (rfset0 _ _ _ _) ?_)
                      first | refine o_asgd rfl rfl ?_ | refine o_asgo rfl rfl ?_ | refine o_asg rfl rfl (fun _ h_ => by cases h_) ?_
                      first | refine o_asgd rfl rfl ?_ | refine o_asgo rfl rfl ?_ | refine o_asg rfl rfl (fun _ h_ => by cases h_) ?_
                      refine op_nil ?_
                      refine wp_ret ?_
                      refine bx_ret ?_
                      refine bx_ret ?_
                      refine end_read rfl rfl rfl (rfget0 _ _ _) rfl rfl ?_ (by simp)
                      first
                      | (
                        have hR2 : R = itms s f i k := by
                         rw [hR]
                         first
                         | exact if_pos rfl
                         | (rw [if_neg (by decide), if_neg (by rw [hit_some hx_]; simp; omega)])
                        rw [hR2, lf1 hf (by assumption)]; rfl)
                      | (
                        have hR2 : R = itms s f i k := by
                         rw [hR]
                         first
                         | exact if_pos rfl
                         | (rw [if_neg (by decide), if_neg (by rw [hit_some hx_]; simp; omega)])
                        rw [hR2, lf2 hf (by assumption) (by rw [hit_some hy_]; exact decide_eq_true (by omega)) (by assumption)]; rfl)
                      | (
                        have hR2 : R = itms s f i k := by
                         rw [hR]
                         first
                         | exact if_pos rfl
                         | (rw [if_neg (by decide), if_neg (by rw [hit_some hx_]; simp; omega)])
                        rw [hR2, lf3 hf (by assumption) (by rw [hit_some hy_]; exact decide_eq_true (by omega)) (by assumption) (by assumption)]; rfl)
                      | (
                        have hR2 : R = itms s f i k := by
                         rw [hR]
                         first
                         | exact if_pos rfl
                         | (rw [if_neg (by decide), if_neg (by rw [hit_some hx_]; simp; omega)])
                        rw [hR2, lf4 hf (by assumption) (by rw [hit_some hy_]; exact decide_eq_true (by omega)) (by assumption) (by assumption), lfe (by omega)]; rfl)
                      | (
                        have hR2 : R = itms s f i k := by
                         rw [hR]
                         first
                         | exact if_pos rfl
                         | (rw [if_neg (by decide), if_neg (by rw [hit_some hx_]; simp; omega)])
                        rw [hR2, lf6 hf (by assumption) (by first | exact hit_none (by omega) | (rw [hit_some hy_]; exact decide_eq_false (by omega))), lfe (by omega)]; rfl)
                      | (
                        have hR3 : R = some (k, i + 1) := by rw [hR, if_neg (by decide), if_pos (by rw [hit_some hx_]; exact decide_eq_true (by omega))]
                        rw [hR3]; simp_all [fin, readA, spanN]; done)
                      | trace_state
                    ·first
                     | exfalso; omega
                     |skip
                      refine wp_skip ?_
                      refine keepN (by (simp +decide only [Slots.keep, Slots.get, reduceIte]); exact rfl) ?_
                      have hR2 : R = itms s f i k := by
                       rw [hR]
                       first
                       | exact if_pos rfl
                       | (rw [if_neg (by decide), if_neg (by rw [hit_some hx_]; simp; omega)])
                      have p1 := sn_pos (s := s.drop i) (by assumption)
                      first
                      | (
                        have p2 := sn_pos (s := s.drop (i + sn (sign (s.drop i)) + 1)) (by assumption)
                        have hR4 := hR2.trans (lf4 hf (by assumption) (by rw [hit_some hy_]; exact decide_eq_true (by omega)) (by assumption) (by assumption))
                        refine ⟨by simp, _, ?_, false, _, _, f - 1, rfl, ?_, fun _ => ?_, ?_, hR4.trans (if_neg (by decide)).symm, rfl⟩ <;> omega)
                      | (
                        have hR4 := hR2.trans (lf6 hf (by assumption) (by first | exact hit_none (by omega) | (rw [hit_some hy_]; exact decide_eq_false (by omega))))
                        refine ⟨by simp, _, ?_, false, _, _, f - 1, rfl, ?_, fun _ => ?_, ?_, hR4.trans (if_neg (by decide)).symm, rfl⟩ <;> omega)
              ·first
               | exfalso; omega
               |skip
                refine wp_ops ?_
                refine o_lcls rfl rfl (rfget1 _ _ _ _) ?_
                first | refine o_movd rfl rfl ?_ | refine o_movp rfl rfl ?_ | refine o_mova rfl rfl ?_ | refine o_mov rfl rfl ?_
                refine o_call rfl rfl rfl (with_ev _ _ (sa_lt _) _) ?_
                first | (refine o_scls (k := 0) rfl rfl rfl (rfget0 _ _ _) rfl (rfset0 _ _ _ _) ?_) | (refine o_scls rfl rfl rfl (rfget1 _ _ _ _) rfl (rfset1 _ _ _ _ _) ?_) | (refine o_scls rfl rfl rfl (rfget0 _ _ _) rfl (rfset0 _ _ _ _) ?_)
                refine op_nil ?_
                refine wp_seq ?_
                refine wp_ops ?_
                first | refine o_movd rfl rfl ?_ | refine o_movp rfl rfl ?_ | refine o_mova rfl rfl ?_ | refine o_mov rfl rfl ?_
                first | refine o_movd rfl rfl ?_ | refine o_movp rfl rfl ?_ | refine o_mova rfl rfl ?_ | refine o_mov rfl rfl ?_
                refine o_lenS rfl rfl ?_
                first | refine o_geqn rfl rfl rfl ?_ | refine o_bin rfl rfl rfl rfl ?_
                refine op_nil ?_
                first | refine wp_if rfl ?_ ?_ <;> intro hq_ | refine wp_cond rfl ?_ ?_ <;> intro hq_
                ·first
                 | exfalso; omega
                 |skip
                  refine wp_seq ?_
                  refine wp_ops ?_
                  refine o_build (cs := clsC 0) rfl rfl ?_
                  first | (refine o_scls (k := 0) rfl rfl rfl (rfget0 _ _ _) rfl (rfset0 _ _ _ _) ?_) | (refine o_scls rfl rfl rfl (rfget1 _ _ _ _) rfl (rfset1 _ _ _ _ _) ?_) | (refine o_scls rfl rfl rfl (rfget0 _ _ _) rfl (rfset0 _ _ _ _) ?_)
                  first | refine o_asgd rfl rfl ?_ | refine o_asgo rfl rfl ?_ | refine o_asg rfl rfl (fun _ h_ => by cases h_) ?_
                  first | refine o_asgd rfl rfl ?_ | refine o_asgo rfl rfl ?_ | refine o_asg rfl rfl (fun _ h_ => by cases h_) ?_
                  refine op_nil ?_
                  refine wp_ret ?_
                  refine bx_ret ?_
                  refine bx_ret ?_
                  refine end_read rfl rfl rfl (rfget0 _ _ _) rfl rfl ?_ (by simp)
                  first
                  | (
                    have hR2 : R = itms s f i k := by
                     rw [hR]
                     first
                     | exact if_pos rfl
                     | (rw [if_neg (by decide), if_neg (by rw [hit_some hx_]; simp; omega)])
                    rw [hR2, lf1 hf (by assumption)]; rfl)
                  | (
                    have hR2 : R = itms s f i k := by
                     rw [hR]
                     first
                     | exact if_pos rfl
                     | (rw [if_neg (by decide), if_neg (by rw [hit_some hx_]; simp; omega)])
                    rw [hR2, lf2 hf (by assumption) (by rw [hit_some hy_]; exact decide_eq_true (by omega)) (by assumption)]; rfl)
                  | (
                    have hR2 : R = itms s f i k := by
                     rw [hR]
                     first
                     | exact if_pos rfl
                     | (rw [if_neg (by decide), if_neg (by rw [hit_some hx_]; simp; omega)])
                    rw [hR2, lf3 hf (by assumption) (by rw [hit_some hy_]; exact decide_eq_true (by omega)) (by assumption) (by assumption)]; rfl)
                  | (
                    have hR2 : R = itms s f i k := by
                     rw [hR]
                     first
                     | exact if_pos rfl
                     | (rw [if_neg (by decide), if_neg (by rw [hit_some hx_]; simp; omega)])
                    rw [hR2, lf4 hf (by assumption) (by rw [hit_some hy_]; exact decide_eq_true (by omega)) (by assumption) (by assumption), lfe (by omega)]; rfl)
                  | (
                    have hR2 : R = itms s f i k := by
                     rw [hR]
                     first
                     | exact if_pos rfl
                     | (rw [if_neg (by decide), if_neg (by rw [hit_some hx_]; simp; omega)])
                    rw [hR2, lf6 hf (by assumption) (by first | exact hit_none (by omega) | (rw [hit_some hy_]; exact decide_eq_false (by omega))), lfe (by omega)]; rfl)
                  | (
                    have hR3 : R = some (k, i + 1) := by rw [hR, if_neg (by decide), if_pos (by rw [hit_some hx_]; exact decide_eq_true (by omega))]
                    rw [hR3]; simp_all [fin, readA, spanN]; done)
                  | trace_state
                ·first
                 | exfalso; omega
                 |skip
                  refine wp_skip ?_
                  refine keepN (by (simp +decide only [Slots.keep, Slots.get, reduceIte]); exact rfl) ?_
                  have hR2 : R = itms s f i k := by
                   rw [hR]
                   first
                   | exact if_pos rfl
                   | (rw [if_neg (by decide), if_neg (by rw [hit_some hx_]; simp; omega)])
                  have p1 := sn_pos (s := s.drop i) (by assumption)
                  first
                  | (
                    have p2 := sn_pos (s := s.drop (i + sn (sign (s.drop i)) + 1)) (by assumption)
                    have hR4 := hR2.trans (lf4 hf (by assumption) (by rw [hit_some hy_]; exact decide_eq_true (by omega)) (by assumption) (by assumption))
                    refine ⟨by simp, _, ?_, false, _, _, f - 1, rfl, ?_, fun _ => ?_, ?_, hR4.trans (if_neg (by decide)).symm, rfl⟩ <;> omega)
                  | (
                    have hR4 := hR2.trans (lf6 hf (by assumption) (by first | exact hit_none (by omega) | (rw [hit_some hy_]; exact decide_eq_false (by omega))))
                    refine ⟨by simp, _, ?_, false, _, _, f - 1, rfl, ?_, fun _ => ?_, ?_, hR4.trans (if_neg (by decide)).symm, rfl⟩ <;> omega)
            ·first
             | exfalso; omega
             |skip
              refine o_skip rfl ?_
              refine o_skip rfl ?_
              refine o_skip rfl ?_
              refine o_skip rfl ?_
              refine o_pickf rfl rfl rfl ?_
              refine op_nil ?_
              refine wp_cond rfl (fun h_ => absurd h_ (by decide)) (fun _ => ?_)
              refine wp_ops ?_
              refine o_lcls rfl rfl (rfget1 _ _ _ _) ?_
              first | refine o_movd rfl rfl ?_ | refine o_movp rfl rfl ?_ | refine o_mova rfl rfl ?_ | refine o_mov rfl rfl ?_
              refine o_call rfl rfl rfl (with_ev _ _ (sa_lt _) _) ?_
              first | (refine o_scls (k := 0) rfl rfl rfl (rfget0 _ _ _) rfl (rfset0 _ _ _ _) ?_) | (refine o_scls rfl rfl rfl (rfget1 _ _ _ _) rfl (rfset1 _ _ _ _ _) ?_) | (refine o_scls rfl rfl rfl (rfget0 _ _ _) rfl (rfset0 _ _ _ _) ?_)
              refine op_nil ?_
              refine wp_seq ?_
              refine wp_ops ?_
              first | refine o_movd rfl rfl ?_ | refine o_movp rfl rfl ?_ | refine o_mova rfl rfl ?_ | refine o_mov rfl rfl ?_
              first | refine o_movd rfl rfl ?_ | refine o_movp rfl rfl ?_ | refine o_mova rfl rfl ?_ | refine o_mov rfl rfl ?_
              refine o_lenS rfl rfl ?_
              first | refine o_geqn rfl rfl rfl ?_ | refine o_bin rfl rfl rfl rfl ?_
              refine op_nil ?_
              first | refine wp_if rfl ?_ ?_ <;> intro hq_ | refine wp_cond rfl ?_ ?_ <;> intro hq_
              ·first
               | exfalso; omega
               |skip
                refine wp_seq ?_
                refine wp_ops ?_
                refine o_build (cs := clsC 0) rfl rfl ?_
                first | (refine o_scls (k := 0) rfl rfl rfl (rfget0 _ _ _) rfl (rfset0 _ _ _ _) ?_) | (refine o_scls rfl rfl rfl (rfget1 _ _ _ _) rfl (rfset1 _ _ _ _ _) ?_) | (refine o_scls rfl rfl rfl (rfget0 _ _ _) rfl (rfset0 _ _ _ _) ?_)
                first | refine o_asgd rfl rfl ?_ | refine o_asgo rfl rfl ?_ | refine o_asg rfl rfl (fun _ h_ => by cases h_) ?_
                first | refine o_asgd rfl rfl ?_ | refine o_asgo rfl rfl ?_ | refine o_asg rfl rfl (fun _ h_ => by cases h_) ?_
                refine op_nil ?_
                refine wp_ret ?_
                refine bx_ret ?_
                refine bx_ret ?_
                refine end_read rfl rfl rfl (rfget0 _ _ _) rfl rfl ?_ (by simp)
                first
                | (
                  have hR2 : R = itms s f i k := by
                   rw [hR]
                   first
                   | exact if_pos rfl
                   | (rw [if_neg (by decide), if_neg (by rw [hit_some hx_]; simp; omega)])
                  rw [hR2, lf1 hf (by assumption)]; rfl)
                | (
                  have hR2 : R = itms s f i k := by
                   rw [hR]
                   first
                   | exact if_pos rfl
                   | (rw [if_neg (by decide), if_neg (by rw [hit_some hx_]; simp; omega)])
                  rw [hR2, lf2 hf (by assumption) (by rw [hit_some hy_]; exact decide_eq_true (by omega)) (by assumption)]; rfl)
                | (
                  have hR2 : R = itms s f i k := by
                   rw [hR]
                   first
                   | exact if_pos rfl
                   | (rw [if_neg (by decide), if_neg (by rw [hit_some hx_]; simp; omega)])
                  rw [hR2, lf3 hf (by assumption) (by rw [hit_some hy_]; exact decide_eq_true (by omega)) (by assumption) (by assumption)]; rfl)
                | (
                  have hR2 : R = itms s f i k := by
                   rw [hR]
                   first
                   | exact if_pos rfl
                   | (rw [if_neg (by decide), if_neg (by rw [hit_some hx_]; simp; omega)])
                  rw [hR2, lf4 hf (by assumption) (by rw [hit_some hy_]; exact decide_eq_true (by omega)) (by assumption) (by assumption), lfe (by omega)]; rfl)
                | (
                  have hR2 : R = itms s f i k := by
                   rw [hR]
                   first
                   | exact if_pos rfl
                   | (rw [if_neg (by decide), if_neg (by rw [hit_some hx_]; simp; omega)])
                  rw [hR2, lf6 hf (by assumption) (by first | exact hit_none (by omega) | (rw [hit_some hy_]; exact decide_eq_false (by omega))), lfe (by omega)]; rfl)
                | (
                  have hR3 : R = some (k, i + 1) := by rw [hR, if_neg (by decide), if_pos (by rw [hit_some hx_]; exact decide_eq_true (by omega))]
                  rw [hR3]; simp_all [fin, readA, spanN]; done)
                | trace_state
              ·first
               | exfalso; omega
               |skip
                refine wp_skip ?_
                refine keepN (by (simp +decide only [Slots.keep, Slots.get, reduceIte]); exact rfl) ?_
                have hR2 : R = itms s f i k := by
                 rw [hR]
                 first
                 | exact if_pos rfl
                 | (rw [if_neg (by decide), if_neg (by rw [hit_some hx_]; simp; omega)])
                have p1 := sn_pos (s := s.drop i) (by assumption)
                first
                | (
                  have p2 := sn_pos (s := s.drop (i + sn (sign (s.drop i)) + 1)) (by assumption)
                  have hR4 := hR2.trans (lf4 hf (by assumption) (by rw [hit_some hy_]; exact decide_eq_true (by omega)) (by assumption) (by assumption))
                  refine ⟨by simp, _, ?_, false, _, _, f - 1, rfl, ?_, fun _ => ?_, ?_, hR4.trans (if_neg (by decide)).symm, rfl⟩ <;> omega)
                | (
                  have hR4 := hR2.trans (lf6 hf (by assumption) (by first | exact hit_none (by omega) | (rw [hit_some hy_]; exact decide_eq_false (by omega))))
                  refine ⟨by simp, _, ?_, false, _, _, f - 1, rfl, ?_, fun _ => ?_, ?_, hR4.trans (if_neg (by decide)).symm, rfl⟩ <;> omega)
        ·first
         | exfalso; omega
         |skip
          first | refine o_movd rfl rfl ?_ | refine o_movp rfl rfl ?_ | refine o_mova rfl rfl ?_ | refine o_mov rfl rfl ?_
          first | refine o_movd rfl rfl ?_ | refine o_movp rfl rfl ?_ | refine o_mova rfl rfl ?_ | refine o_mov rfl rfl ?_
          (obtain ⟨x_, hx_⟩ := getS (show i < s.length by omega); refine o_idxS (m := i) rfl rfl rfl rfl hx_ ?_)
          first | refine o_neqn rfl rfl rfl ?_ | refine o_nes rfl rfl rfl ?_ | refine o_bin rfl rfl rfl rfl ?_
          refine o_pickf rfl rfl rfl ?_
          refine op_nil ?_
          first | refine wp_if rfl ?_ ?_ <;> intro hq_ | refine wp_cond rfl ?_ ?_ <;> intro hq_
          ·first
           | exfalso; omega
           |skip
            refine wp_skip ?_
            refine wp_keep ?_
            refine wp_block ?_
            refine wp_seq ?_
            refine wp_ops ?_
            first | refine o_asgd rfl rfl ?_ | refine o_asgo rfl rfl ?_ | refine o_asg rfl rfl (fun _ h_ => by cases h_) ?_
            refine op_nil ?_
            refine wp_seq ?_
            refine wp_ops ?_
            first | refine o_movd rfl rfl ?_ | refine o_movp rfl rfl ?_ | refine o_mova rfl rfl ?_ | refine o_mov rfl rfl ?_
            first | refine o_movd rfl rfl ?_ | refine o_movp rfl rfl ?_ | refine o_mova rfl rfl ?_ | refine o_mov rfl rfl ?_
            refine o_sub0 rfl rfl rfl rfl (by omega) ?_
            refine o_call rfl rfl rfl (rSignP_ev (s.drop i) _) ?_
            refine o_mov rfl rfl ?_
            refine o_extr rfl rfl rfl ?_
            refine o_extr rfl rfl rfl ?_
            refine o_extr rfl rfl rfl ?_
            first | refine o_asgd rfl rfl ?_ | refine o_asgo rfl rfl ?_ | refine o_asg rfl rfl (fun _ h_ => by cases h_) ?_
            first | refine o_asgd rfl rfl ?_ | refine o_asgo rfl rfl ?_ | refine o_asg rfl rfl (fun _ h_ => by cases h_) ?_
            first | refine o_asgd rfl rfl ?_ | refine o_asgo rfl rfl ?_ | refine o_asg rfl rfl (fun _ h_ => by cases h_) ?_
            refine op_nil ?_
            refine wp_seq ?_
            refine wp_seq ?_
            refine wp_ops ?_
            first | refine o_movd rfl rfl ?_ | refine o_movp rfl rfl ?_ | refine o_mova rfl rfl ?_ | refine o_mov rfl rfl ?_
            first | refine o_neqn rfl rfl rfl ?_ | refine o_nes rfl rfl rfl ?_ | refine o_bin rfl rfl rfl rfl ?_
            refine op_nil ?_
            first | refine wp_if rfl ?_ ?_ <;> intro hq_ | refine wp_cond rfl ?_ ?_ <;> intro hq_
            ·first
             | exfalso; omega
             |skip
              refine wp_seq ?_
              refine wp_ops ?_
              refine o_build (cs := clsC 0) rfl rfl ?_
              first | (refine o_scls (k := 0) rfl rfl rfl (rfget0 _ _ _) rfl (rfset0 _ _ _ _) ?_) | (refine o_scls rfl rfl rfl (rfget1 _ _ _ _) rfl (rfset1 _ _ _ _ _) ?_) | (refine o_scls rfl rfl rfl (rfget0 _ _ _) rfl (rfset0 _ _ _ _) ?_)
              first | refine o_asgd rfl rfl ?_ | refine o_asgo rfl rfl ?_ | refine o_asg rfl rfl (fun _ h_ => by cases h_) ?_
              first | refine o_asgd rfl rfl ?_ | refine o_asgo rfl rfl ?_ | refine o_asg rfl rfl (fun _ h_ => by cases h_) ?_
              refine op_nil ?_
              refine wp_ret ?_
              refine bx_ret ?_
              refine bx_ret ?_
              refine end_read rfl rfl rfl (rfget0 _ _ _) rfl rfl ?_ (by simp)
              first
              | (
                have hR2 : R = itms s f i k := by
                 rw [hR]
                 first
                 | exact if_pos rfl
                 | (rw [if_neg (by decide), if_neg (by rw [hit_some hx_]; simp; omega)])
                rw [hR2, lf1 hf (by assumption)]; rfl)
              | (
                have hR2 : R = itms s f i k := by
                 rw [hR]
                 first
                 | exact if_pos rfl
                 | (rw [if_neg (by decide), if_neg (by rw [hit_some hx_]; simp; omega)])
                rw [hR2, lf2 hf (by assumption) (by rw [hit_some hy_]; exact decide_eq_true (by omega)) (by assumption)]; rfl)
              | (
                have hR2 : R = itms s f i k := by
                 rw [hR]
                 first
                 | exact if_pos rfl
                 | (rw [if_neg (by decide), if_neg (by rw [hit_some hx_]; simp; omega)])
                rw [hR2, lf3 hf (by assumption) (by rw [hit_some hy_]; exact decide_eq_true (by omega)) (by assumption) (by assumption)]; rfl)
              | (
                have hR2 : R = itms s f i k := by
                 rw [hR]
                 first
                 | exact if_pos rfl
                 | (rw [if_neg (by decide), if_neg (by rw [hit_some hx_]; simp; omega)])
                rw [hR2, lf4 hf (by assumption) (by rw [hit_some hy_]; exact decide_eq_true (by omega)) (by assumption) (by assumption), lfe (by omega)]; rfl)
              | (
                have hR2 : R = itms s f i k := by
                 rw [hR]
                 first
                 | exact if_pos rfl
                 | (rw [if_neg (by decide), if_neg (by rw [hit_some hx_]; simp; omega)])
                rw [hR2, lf6 hf (by assumption) (by first | exact hit_none (by omega) | (rw [hit_some hy_]; exact decide_eq_false (by omega))), lfe (by omega)]; rfl)
              | (
                have hR3 : R = some (k, i + 1) := by rw [hR, if_neg (by decide), if_pos (by rw [hit_some hx_]; exact decide_eq_true (by omega))]
                rw [hR3]; simp_all [fin, readA, spanN]; done)
              | trace_state
            ·first
             | exfalso; omega
             |skip
              refine wp_skip ?_
              refine wp_seq ?_
              refine wp_ops ?_
              first | refine o_movd rfl rfl ?_ | refine o_movp rfl rfl ?_ | refine o_mova rfl rfl ?_ | refine o_mov rfl rfl ?_
              first | refine o_movd rfl rfl ?_ | refine o_movp rfl rfl ?_ | refine o_mova rfl rfl ?_ | refine o_mov rfl rfl ?_
              (have hs1_ := sn_le s i hi; refine o_addkn rfl rfl rfl (by decide) (by simp only [m64]; omega) ?_)
              first | refine o_asgd rfl rfl ?_ | refine o_asgo rfl rfl ?_ | refine o_asg rfl rfl (fun _ h_ => by cases h_) ?_
              refine op_nil ?_
              refine wp_seq ?_
              refine wp_seq ?_
              refine wp_ops ?_
              first | refine o_movd rfl rfl ?_ | refine o_movp rfl rfl ?_ | refine o_mova rfl rfl ?_ | refine o_mov rfl rfl ?_
              first | refine o_movd rfl rfl ?_ | refine o_movp rfl rfl ?_ | refine o_mova rfl rfl ?_ | refine o_mov rfl rfl ?_
              refine o_lenS rfl rfl ?_
              first | refine o_lssn rfl rfl rfl ?_ | refine o_bin rfl rfl rfl rfl ?_
              first | refine o_movd rfl rfl ?_ | refine o_movp rfl rfl ?_ | refine o_mova rfl rfl ?_ | refine o_mov rfl rfl ?_
              refine o_ifp rfl ?_ ?_ <;> intro hq_ hg_ <;> simp only [hg_] <;> clear hg_
              ·first
               | exfalso; omega
               |skip
                first | refine o_movd rfl rfl ?_ | refine o_movp rfl rfl ?_ | refine o_mova rfl rfl ?_ | refine o_mov rfl rfl ?_
                first | refine o_movd rfl rfl ?_ | refine o_movp rfl rfl ?_ | refine o_mova rfl rfl ?_ | refine o_mov rfl rfl ?_
                (obtain ⟨y_, hy_⟩ := getS (show i + sn (sign (s.drop i)) < s.length by omega); refine o_idxS (m := i + sn (sign (s.drop i))) rfl rfl rfl rfl hy_ ?_)
                first | refine o_eqln rfl rfl rfl ?_ | refine o_eqs rfl rfl rfl ?_ | refine o_bin rfl rfl rfl rfl ?_
                refine o_pickt rfl rfl rfl ?_
                refine op_nil ?_
                first | refine wp_if rfl ?_ ?_ <;> intro hq_ | refine wp_cond rfl ?_ ?_ <;> intro hq_
                ·first
                 | exfalso; omega
                 |skip
                  refine wp_seq ?_
                  refine wp_ops ?_
                  first | refine o_movd rfl rfl ?_ | refine o_movp rfl rfl ?_ | refine o_mova rfl rfl ?_ | refine o_mov rfl rfl ?_
                  first | refine o_movd rfl rfl ?_ | refine o_movp rfl rfl ?_ | refine o_mova rfl rfl ?_ | refine o_mov rfl rfl ?_
                  refine o_addkn rfl rfl rfl (by decide) (by simp only [m64]; omega) ?_
                  refine o_sub0 rfl rfl rfl rfl (by omega) ?_
                  refine o_call rfl rfl rfl (rSignP_ev (s.drop (i + sn (sign (s.drop i)) + 1)) _) ?_
                  refine o_mov rfl rfl ?_
                  refine o_extr rfl rfl rfl ?_
                  refine o_extr rfl rfl rfl ?_
                  refine o_extr rfl rfl rfl ?_
                  first | refine o_asgd rfl rfl ?_ | refine o_asgo rfl rfl ?_ | refine o_asg rfl rfl (fun _ h_ => by cases h_) ?_
                  first | refine o_asgd rfl rfl ?_ | refine o_asgo rfl rfl ?_ | refine o_asg rfl rfl (fun _ h_ => by cases h_) ?_
                  first | refine o_asgd rfl rfl ?_ | refine o_asgo rfl rfl ?_ | refine o_asg rfl rfl (fun _ h_ => by cases h_) ?_
                  refine op_nil ?_
                  refine wp_seq ?_
                  refine wp_seq ?_
                  refine wp_ops ?_
                  first | refine o_movd rfl rfl ?_ | refine o_movp rfl rfl ?_ | refine o_mova rfl rfl ?_ | refine o_mov rfl rfl ?_
                  first | refine o_neqn rfl rfl rfl ?_ | refine o_nes rfl rfl rfl ?_ | refine o_bin rfl rfl rfl rfl ?_
                  first | refine o_movd rfl rfl ?_ | refine o_movp rfl rfl ?_ | refine o_mova rfl rfl ?_ | refine o_mov rfl rfl ?_
                  refine o_ifp rfl ?_ ?_ <;> intro hq_ hg_ <;> simp only [hg_] <;> clear hg_
                  ·first
                   | exfalso; omega
                   |skip
                    refine o_skip rfl ?_
                    refine o_skip rfl ?_
                    refine o_skip rfl ?_
                    refine o_pickt rfl rfl rfl ?_
                    refine op_nil ?_
                    refine wp_cond rfl (fun _ => ?_) (fun h_ => absurd h_ (by decide))
                    refine wp_seq ?_
                    refine wp_ops ?_
                    refine o_build (cs := clsC 0) rfl rfl ?_
                    first | (refine o_scls (k := 0) rfl rfl rfl (rfget0 _ _ _) rfl (rfset0 _ _ _ _) ?_) | (refine o_scls rfl rfl rfl (rfget1 _ _ _ _) rfl (rfset1 _ _ _ _ _) ?_) | (refine o_scls rfl rfl rfl (rfget0 _ _ _) rfl (rfset0 _ _ _ _) ?_)
                    first | refine o_asgd rfl rfl ?_ | refine o_asgo rfl rfl ?_ | refine o_asg rfl rfl (fun _ h_ => by cases h_) ?_
                    first | refine o_asgd rfl rfl ?_ | refine o_asgo rfl rfl ?_ | refine o_asg rfl rfl (fun _ h_ => by cases h_) ?_
                    refine op_nil ?_
                    refine wp_ret ?_
                    refine bx_ret ?_
                    refine bx_ret ?_
                    refine end_read rfl rfl rfl (rfget0 _ _ _) rfl rfl ?_ (by simp)
                    first
                    | (
                      have hR2 : R = itms s f i k := by
                       rw [hR]
                       first
                       | exact if_pos rfl
                       | (rw [if_neg (by decide), if_neg (by rw [hit_some hx_]; simp; omega)])
                      rw [hR2, lf1 hf (by assumption)]; rfl)
                    | (
                      have hR2 : R = itms s f i k := by
                       rw [hR]
                       first
                       | exact if_pos rfl
                       | (rw [if_neg (by decide), if_neg (by rw [hit_some hx_]; simp; omega)])
                      rw [hR2, lf2 hf (by assumption) (by rw [hit_some hy_]; exact decide_eq_true (by omega)) (by assumption)]; rfl)
                    | (
                      have hR2 : R = itms s f i k := by
                       rw [hR]
                       first
                       | exact if_pos rfl
                       | (rw [if_neg (by decide), if_neg (by rw [hit_some hx_]; simp; omega)])
                      rw [hR2, lf3 hf (by assumption) (by rw [hit_some hy_]; exact decide_eq_true (by omega)) (by assumption) (by assumption)]; rfl)
                    | (
                      have hR2 : R = itms s f i k := by
                       rw [hR]
                       first
                       | exact if_pos rfl
                       | (rw [if_neg (by decide), if_neg (by rw [hit_some hx_]; simp; omega)])
                      rw [hR2, lf4 hf (by assumption) (by rw [hit_some hy_]; exact decide_eq_true (by omega)) (by assumption) (by assumption), lfe (by omega)]; rfl)
                    | (
                      have hR2 : R = itms s f i k := by
                       rw [hR]
                       first
                       | exact if_pos rfl
                       | (rw [if_neg (by decide), if_neg (by rw [hit_some hx_]; simp; omega)])
                      rw [hR2, lf6 hf (by assumption) (by first | exact hit_none (by omega) | (rw [hit_some hy_]; exact decide_eq_false (by omega))), lfe (by omega)]; rfl)
                    | (
                      have hR3 : R = some (k, i + 1) := by rw [hR, if_neg (by decide), if_pos (by rw [hit_some hx_]; exact decide_eq_true (by omega))]
                      rw [hR3]; simp_all [fin, readA, spanN]; done)
                    | trace_state
                  ·first
                   | exfalso; omega
                   |skip
                    first | refine o_movd rfl rfl ?_ | refine o_movp rfl rfl ?_ | refine o_mova rfl rfl ?_ | refine o_mov rfl rfl ?_
                    first | refine o_movd rfl rfl ?_ | refine o_movp rfl rfl ?_ | refine o_mova rfl rfl ?_ | refine o_mov rfl rfl ?_
                    first | refine o_gtrn rfl rfl rfl ?_ | refine o_bin rfl rfl rfl rfl ?_
                    refine o_pickf rfl rfl rfl ?_
                    refine op_nil ?_
                    first | refine wp_if rfl ?_ ?_ <;> intro hq_ | refine wp_cond rfl ?_ ?_ <;> intro hq_
                    ·first
                     | exfalso; omega
                     |skip
                      refine wp_seq ?_
                      refine wp_ops ?_
                      refine o_build (cs := clsC 0) rfl rfl ?_
                      first | (refine o_scls (k := 0) rfl rfl rfl (rfget0 _ _ _) rfl (rfset0 _ _ _ _) ?_) | (refine o_scls rfl rfl rfl (rfget1 _ _ _ _) rfl (rfset1 _ _ _ _ _) ?_) | (refine o_scls rfl rfl rfl (rfget0 _ _ _) rfl (rfset0 _ _ _ _) ?_)
                      first | refine o_asgd rfl rfl ?_ | refine o_asgo rfl rfl ?_ | refine o_asg rfl rfl (fun _ h_ => by cases h_) ?_
                      first | refine o_asgd rfl rfl ?_ | refine o_asgo rfl rfl ?_ | refine o_asg rfl rfl (fun _ h_ => by cases h_) ?_
                      refine op_nil ?_
                      refine wp_ret ?_
                      refine bx_ret ?_
                      refine bx_ret ?_
                      refine end_read rfl rfl rfl (rfget0 _ _ _) rfl rfl ?_ (by simp)
                      first
                      | (
                        have hR2 : R = itms s f i k := by
                         rw [hR]
                         first
                         | exact if_pos rfl
                         | (rw [if_neg (by decide), if_neg (by rw [hit_some hx_]; simp; omega)])
                        rw [hR2, lf1 hf (by assumption)]; rfl)
                      | (
                        have hR2 : R = itms s f i k := by
                         rw [hR]
                         first
                         | exact if_pos rfl
                         | (rw [if_neg (by decide), if_neg (by rw [hit_some hx_]; simp; omega)])
                        rw [hR2, lf2 hf (by assumption) (by rw [hit_some hy_]; exact decide_eq_true (by omega)) (by assumption)]; rfl)
                      | (
                        have hR2 : R = itms s f i k := by
                         rw [hR]
                         first
                         | exact if_pos rfl
                         | (rw [if_neg (by decide), if_neg (by rw [hit_some hx_]; simp; omega)])
                        rw [hR2, lf3 hf (by assumption) (by rw [hit_some hy_]; exact decide_eq_true (by omega)) (by assumption) (by assumption)]; rfl)
                      | (
                        have hR2 : R = itms s f i k := by
                         rw [hR]
                         first
                         | exact if_pos rfl
                         | (rw [if_neg (by decide), if_neg (by rw [hit_some hx_]; simp; omega)])
                        rw [hR2, lf4 hf (by assumption) (by rw [hit_some hy_]; exact decide_eq_true (by omega)) (by assumption) (by assumption), lfe (by omega)]; rfl)
                      | (
                        have hR2 : R = itms s f i k := by
                         rw [hR]
                         first
                         | exact if_pos rfl
                         | (rw [if_neg (by decide), if_neg (by rw [hit_some hx_]; simp; omega)])
                        rw [hR2, lf6 hf (by assumption) (by first | exact hit_none (by omega) | (rw [hit_some hy_]; exact decide_eq_false (by omega))), lfe (by omega)]; rfl)
                      | (
                        have hR3 : R = some (k, i + 1) := by rw [hR, if_neg (by decide), if_pos (by rw [hit_some hx_]; exact decide_eq_true (by omega))]
                        rw [hR3]; simp_all [fin, readA, spanN]; done)
                      | trace_state
                    ·first
                     | exfalso; omega
                     |skip
                      refine wp_skip ?_
                      refine wp_seq ?_
                      refine wp_ops ?_
                      first | refine o_movd rfl rfl ?_ | refine o_movp rfl rfl ?_ | refine o_mova rfl rfl ?_ | refine o_mov rfl rfl ?_
                      refine o_addkn rfl rfl rfl (by decide) (by simp only [m64]; omega) ?_
                      first | refine o_movd rfl rfl ?_ | refine o_movp rfl rfl ?_ | refine o_mova rfl rfl ?_ | refine o_mov rfl rfl ?_
                      (have hs2_ := sn_le s (i + sn (sign (s.drop i)) + 1) (by omega); refine o_addkn rfl rfl rfl (by decide) (by simp only [m64]; omega) ?_)
                      first | refine o_asgd rfl rfl ?_ | refine o_asgo rfl rfl ?_ | refine o_asg rfl rfl (fun _ h_ => by cases h_) ?_
                      refine op_nil ?_
                      refine wp_ops ?_
                      refine o_lcls rfl rfl (rfget1 _ _ _ _) ?_
                      first | refine o_movd rfl rfl ?_ | refine o_movp rfl rfl ?_ | refine o_mova rfl rfl ?_ | refine o_mov rfl rfl ?_
                      first | refine o_movd rfl rfl ?_ | refine o_movp rfl rfl ?_ | refine o_mova rfl rfl ?_ | refine o_mov rfl rfl ?_
                      refine o_callz rfl rfl rfl rfl (rSpan_ev _ _ (sa_lt _) (sa_lt _) _) ?_
                      refine o_call rfl rfl rfl (rOr_ev _ _ (spanN_lt _ _ (by have := sa_lt (s.drop i); have := sa_lt (s.drop (i + sn (sign (s.drop i)) + 1)); omega)) _) ?_
                      first | (refine o_scls (k := 0) rfl rfl rfl (rfget0 _ _ _) rfl (rfset0 _ _ _ _) ?_) | (refine o_scls rfl rfl rfl (rfget1 _ _ _ _) rfl (rfset1 _ _ _ _ _) ?_) | (refine o_scls rfl rfl rfl (rfget0 _ _ _) rfl (rfset0 _ _ _ _) ?_)
                      refine op_nil ?_
                      refine wp_seq ?_
                      refine wp_ops ?_
                      first | refine o_movd rfl rfl ?_ | refine o_movp rfl rfl ?_ | refine o_mova rfl rfl ?_ | refine o_mov rfl rfl ?_
                      first | refine o_movd rfl rfl ?_ | refine o_movp rfl rfl ?_ | refine o_mova rfl rfl ?_ | refine o_mov rfl rfl ?_
                      refine o_lenS rfl rfl ?_
                      first | refine o_geqn rfl rfl rfl ?_ | refine o_bin rfl rfl rfl rfl ?_
                      refine op_nil ?_
                      first | refine wp_if rfl ?_ ?_ <;> intro hq_ | refine wp_cond rfl ?_ ?_ <;> intro hq_
                      ·first
                       | exfalso; omega
                       |skip
                        refine wp_seq ?_
                        refine wp_ops ?_
                        refine o_build (cs := clsC 0) rfl rfl ?_
                        first | (refine o_scls (k := 0) rfl rfl rfl (rfget0 _ _ _) rfl (rfset0 _ _ _ _) ?_) | (refine o_scls rfl rfl rfl (rfget1 _ _ _ _) rfl (rfset1 _ _ _ _ _) ?_) | (refine o_scls rfl rfl rfl (rfget0 _ _ _) rfl (rfset0 _ _ _ _) ?_)
                        first | refine o_asgd rfl rfl ?_ | refine o_asgo rfl rfl ?_ | refine o_asg rfl rfl (fun _ h_ => by cases h_) ?_
                        first | refine o_asgd rfl rfl ?_ | refine o_asgo rfl rfl ?_ | refine o_asg rfl rfl (fun _ h_ => by cases h_) ?_
                        refine op_nil ?_
                        refine wp_ret ?_
                        refine bx_ret ?_
                        refine bx_ret ?_
                        refine end_read rfl rfl rfl (rfget0 _ _ _) rfl rfl ?_ (by simp)
                        first
                        | (
                          have hR2 : R = itms s f i k := by
                           rw [hR]
                           first
                           | exact if_pos rfl
                           | (rw [if_neg (by decide), if_neg (by rw [hit_some hx_]; simp; omega)])
                          rw [hR2, lf1 hf (by assumption)]; rfl)
                        | (
                          have hR2 : R = itms s f i k := by
                           rw [hR]
                           first
                           | exact if_pos rfl
                           | (rw [if_neg (by decide), if_neg (by rw [hit_some hx_]; simp; omega)])
                          rw [hR2, lf2 hf (by assumption) (by rw [hit_some hy_]; exact decide_eq_true (by omega)) (by assumption)]; rfl)
                        | (
                          have hR2 : R = itms s f i k := by
                           rw [hR]
                           first
                           | exact if_pos rfl
                           | (rw [if_neg (by decide), if_neg (by rw [hit_some hx_]; simp; omega)])
                          rw [hR2, lf3 hf (by assumption) (by rw [hit_some hy_]; exact decide_eq_true (by omega)) (by assumption) (by assumption)]; rfl)
                        | (
                          have hR2 : R = itms s f i k := by
                           rw [hR]
                           first
                           | exact if_pos rfl
                           | (rw [if_neg (by decide), if_neg (by rw [hit_some hx_]; simp; omega)])
                          rw [hR2, lf4 hf (by assumption) (by rw [hit_some hy_]; exact decide_eq_true (by omega)) (by assumption) (by assumption), lfe (by omega)]; rfl)
                        | (
                          have hR2 : R = itms s f i k := by
                           rw [hR]
                           first
                           | exact if_pos rfl
                           | (rw [if_neg (by decide), if_neg (by rw [hit_some hx_]; simp; omega)])
                          rw [hR2, lf6 hf (by assumption) (by first | exact hit_none (by omega) | (rw [hit_some hy_]; exact decide_eq_false (by omega))), lfe (by omega)]; rfl)
                        | (
                          have hR3 : R = some (k, i + 1) := by rw [hR, if_neg (by decide), if_pos (by rw [hit_some hx_]; exact decide_eq_true (by omega))]
                          rw [hR3]; simp_all [fin, readA, spanN]; done)
                        | trace_state
                      ·first
                       | exfalso; omega
                       |skip
                        refine wp_skip ?_
                        refine keepN (by (simp +decide only [Slots.keep, Slots.get, reduceIte]); exact rfl) ?_
                        have hR2 : R = itms s f i k := by
                         rw [hR]
                         first
                         | exact if_pos rfl
                         | (rw [if_neg (by decide), if_neg (by rw [hit_some hx_]; simp; omega)])
                        have p1 := sn_pos (s := s.drop i) (by assumption)
                        first
                        | (
                          have p2 := sn_pos (s := s.drop (i + sn (sign (s.drop i)) + 1)) (by assumption)
                          have hR4 := hR2.trans (lf4 hf (by assumption) (by rw [hit_some hy_]; exact decide_eq_true (by omega)) (by assumption) (by assumption))
                          refine ⟨by simp, _, ?_, false, _, _, f - 1, rfl, ?_, fun _ => ?_, ?_, hR4.trans (if_neg (by decide)).symm, rfl⟩ <;> omega)
                        | (
                          have hR4 := hR2.trans (lf6 hf (by assumption) (by first | exact hit_none (by omega) | (rw [hit_some hy_]; exact decide_eq_false (by omega))))
                          refine ⟨by simp, _, ?_, false, _, _, f - 1, rfl, ?_, fun _ => ?_, ?_, hR4.trans (if_neg (by decide)).symm, rfl⟩ <;> omega)
                ·first
                 | exfalso; omega
                 |skip
                  refine wp_ops ?_
                  refine o_lcls rfl rfl (rfget1 _ _ _ _) ?_
                  first | refine o_movd rfl rfl ?_ | refine o_movp rfl rfl ?_ | refine o_mova rfl rfl ?_ | refine o_mov rfl rfl ?_
                  refine o_call rfl rfl rfl (with_ev _ _ (sa_lt _) _) ?_
                  first | (refine o_scls (k := 0) rfl rfl rfl (rfget0 _ _ _) rfl (rfset0 _ _ _ _) ?_) | (refine o_scls rfl rfl rfl (rfget1 _ _ _ _) rfl (rfset1 _ _ _ _ _) ?_) | (refine o_scls rfl rfl rfl (rfget0 _ _ _) rfl (rfset0 _ _ _ _) ?_)
                  refine op_nil ?_
                  refine wp_seq ?_
                  refine wp_ops ?_
                  first | refine o_movd rfl rfl ?_ | refine o_movp rfl rfl ?_ | refine o_mova rfl rfl ?_ | refine o_mov rfl rfl ?_
                  first | refine o_movd rfl rfl ?_ | refine o_movp rfl rfl ?_ | refine o_mova rfl rfl ?_ | refine o_mov rfl rfl ?_
                  refine o_lenS rfl rfl ?_
                  first | refine o_geqn rfl rfl rfl ?_ | refine o_bin rfl rfl rfl rfl ?_
                  refine op_nil ?_
                  first | refine wp_if rfl ?_ ?_ <;> intro hq_ | refine wp_cond rfl ?_ ?_ <;> intro hq_
                  ·first
                   | exfalso; omega
                   |skip
                    refine wp_seq ?_
                    refine wp_ops ?_
                    refine o_build (cs := clsC 0) rfl rfl ?_
                    first | (refine o_scls (k := 0) rfl rfl rfl (rfget0 _ _ _) rfl (rfset0 _ _ _ _) ?_) | (refine o_scls rfl rfl rfl (rfget1 _ _ _ _) rfl (rfset1 _ _ _ _ _) ?_) | (refine o_scls rfl rfl rfl (rfget0 _ _ _) rfl (rfset0 _ _ _ _) ?_)
                    first | refine o_asgd rfl rfl ?_ | refine o_asgo rfl rfl ?_ | refine o_asg rfl rfl (fun _ h_ => by cases h_) ?_
                    first | refine o_asgd rfl rfl ?_ | refine o_asgo rfl rfl ?_ | refine o_asg rfl rfl (fun _ h_ => by cases h_) ?_
                    refine op_nil ?_
                    refine wp_ret ?_
                    refine bx_ret ?_
                    refine bx_ret ?_
                    refine end_read rfl rfl rfl (rfget0 _ _ _) rfl rfl ?_ (by simp)
                    first
                    | (
                      have hR2 : R = itms s f i k := by
                       rw [hR]
                       first
                       | exact if_pos rfl
                       | (rw [if_neg (by decide), if_neg (by rw [hit_some hx_]; simp; omega)])
                      rw [hR2, lf1 hf (by assumption)]; rfl)
                    | (
                      have hR2 : R = itms s f i k := by
                       rw [hR]
                       first
                       | exact if_pos rfl
                       | (rw [if_neg (by decide), if_neg (by rw [hit_some hx_]; simp; omega)])
                      rw [hR2, lf2 hf (by assumption) (by rw [hit_some hy_]; exact decide_eq_true (by omega)) (by assumption)]; rfl)
                    | (
                      have hR2 : R = itms s f i k := by
                       rw [hR]
                       first
                       | exact if_pos rfl
                       | (rw [if_neg (by decide), if_neg (by rw [hit_some hx_]; simp; omega)])
                      rw [hR2, lf3 hf (by assumption) (by rw [hit_some hy_]; exact decide_eq_true (by omega)) (by assumption) (by assumption)]; rfl)
                    | (
                      have hR2 : R = itms s f i k := by
                       rw [hR]
                       first
                       | exact if_pos rfl
                       | (rw [if_neg (by decide), if_neg (by rw [hit_some hx_]; simp; omega)])
                      rw [hR2, lf4 hf (by assumption) (by rw [hit_some hy_]; exact decide_eq_true (by omega)) (by assumption) (by assumption), lfe (by omega)]; rfl)
                    | (
                      have hR2 : R = itms s f i k := by
                       rw [hR]
                       first
                       | exact if_pos rfl
                       | (rw [if_neg (by decide), if_neg (by rw [hit_some hx_]; simp; omega)])
                      rw [hR2, lf6 hf (by assumption) (by first | exact hit_none (by omega) | (rw [hit_some hy_]; exact decide_eq_false (by omega))), lfe (by omega)]; rfl)
                    | (
                      have hR3 : R = some (k, i + 1) := by rw [hR, if_neg (by decide), if_pos (by rw [hit_some hx_]; exact decide_eq_true (by omega))]
                      rw [hR3]; simp_all [fin, readA, spanN]; done)
                    | trace_state
                  ·first
                   | exfalso; omega
                   |skip
                    refine wp_skip ?_
                    refine keepN (by (simp +decide only [Slots.keep, Slots.get, reduceIte]); exact rfl) ?_
                    have hR2 : R = itms s f i k := by
                     rw [hR]
                     first
                     | exact if_pos rfl
                     | (rw [if_neg (by decide), if_neg (by rw [hit_some hx_]; simp; omega)])
                    have p1 := sn_pos (s := s.drop i) (by assumption)
                    first
                    | (
                      have p2 := sn_pos (s := s.drop (i + sn (sign (s.drop i)) + 1)) (by assumption)
                      have hR4 := hR2.trans (lf4 hf (by assumption) (by rw [hit_some hy_]; exact decide_eq_true (by omega)) (by assumption) (by assumption))
                      refine ⟨by simp, _, ?_, false, _, _, f - 1, rfl, ?_, fun _ => ?_, ?_, hR4.trans (if_neg (by decide)).symm, rfl⟩ <;> omega)
                    | (
                      have hR4 := hR2.trans (lf6 hf (by assumption) (by first | exact hit_none (by omega) | (rw [hit_some hy_]; exact decide_eq_false (by omega))))
                      refine ⟨by simp, _, ?_, false, _, _, f - 1, rfl, ?_, fun _ => ?_, ?_, hR4.trans (if_neg (by decide)).symm, rfl⟩ <;> omega)
              ·first
               | exfalso; omega
               |skip
                refine o_skip rfl ?_
                refine o_skip rfl ?_
                refine o_skip rfl ?_
                refine o_skip rfl ?_
                refine o_pickf rfl rfl rfl ?_
                refine op_nil ?_
                refine wp_cond rfl (fun h_ => absurd h_ (by decide)) (fun _ => ?_)
                refine wp_ops ?_
                refine o_lcls rfl rfl (rfget1 _ _ _ _) ?_
                first | refine o_movd rfl rfl ?_ | refine o_movp rfl rfl ?_ | refine o_mova rfl rfl ?_ | refine o_mov rfl rfl ?_
                refine o_call rfl rfl rfl (with_ev _ _ (sa_lt _) _) ?_
                first | (refine o_scls (k := 0) rfl rfl rfl (rfget0 _ _ _) rfl (rfset0 _ _ _ _) ?_) | (refine o_scls rfl rfl rfl (rfget1 _ _ _ _) rfl (rfset1 _ _ _ _ _) ?_) | (refine o_scls rfl rfl rfl (rfget0 _ _ _) rfl (rfset0 _ _ _ _) ?_)
                refine op_nil ?_
                refine wp_seq ?_
                refine wp_ops ?_
                first | refine o_movd rfl rfl ?_ | refine o_movp rfl rfl ?_ | refine o_mova rfl rfl ?_ | refine o_mov rfl rfl ?_
                first | refine o_movd rfl rfl ?_ | refine o_movp rfl rfl ?_ | refine o_mova rfl rfl ?_ | refine o_mov rfl rfl ?_
                refine o_lenS rfl rfl ?_
                first | refine o_geqn rfl rfl rfl ?_ | refine o_bin rfl rfl rfl rfl ?_
                refine op_nil ?_
                first | refine wp_if rfl ?_ ?_ <;> intro hq_ | refine wp_cond rfl ?_ ?_ <;> intro hq_
                ·first
                 | exfalso; omega
                 |skip
                  refine wp_seq ?_
                  refine wp_ops ?_
                  refine o_build (cs := clsC 0) rfl rfl ?_
                  first | (refine o_scls (k := 0) rfl rfl rfl (rfget0 _ _ _) rfl (rfset0 _ _ _ _) ?_) | (refine o_scls rfl rfl rfl (rfget1 _ _ _ _) rfl (rfset1 _ _ _ _ _) ?_) | (refine o_scls rfl rfl rfl (rfget0 _ _ _) rfl (rfset0 _ _ _ _) ?_)
                  first | refine o_asgd rfl rfl ?_ | refine o_asgo rfl rfl ?_ | refine o_asg rfl rfl (fun _ h_ => by cases h_) ?_
                  first | refine o_asgd rfl rfl ?_ | refine o_asgo rfl rfl ?_ | refine o_asg rfl rfl (fun _ h_ => by cases h_) ?_
                  refine op_nil ?_
                  refine wp_ret ?_
                  refine bx_ret ?_
                  refine bx_ret ?_
                  refine end_read rfl rfl rfl (rfget0 _ _ _) rfl rfl ?_ (by simp)
                  first
                  | (
                    have hR2 : R = itms s f i k := by
                     rw [hR]
                     first
                     | exact if_pos rfl
                     | (rw [if_neg (by decide), if_neg (by rw [hit_some hx_]; simp; omega)])
                    rw [hR2, lf1 hf (by assumption)]; rfl)
                  | (
                    have hR2 : R = itms s f i k := by
                     rw [hR]
                     first
                     | exact if_pos rfl
                     | (rw [if_neg (by decide), if_neg (by rw [hit_some hx_]; simp; omega)])
                    rw [hR2, lf2 hf (by assumption) (by rw [hit_some hy_]; exact decide_eq_true (by omega)) (by assumption)]; rfl)
                  | (
                    have hR2 : R = itms s f i k := by
                     rw [hR]
                     first
                     | exact if_pos rfl
                     | (rw [if_neg (by decide), if_neg (by rw [hit_some hx_]; simp; omega)])
                    rw [hR2, lf3 hf (by assumption) (by rw [hit_some hy_]; exact decide_eq_true (by omega)) (by assumption) (by assumption)]; rfl)
                  | (
                    have hR2 : R = itms s f i k := by
                     rw [hR]
                     first
                     | exact if_pos rfl
                     | (rw [if_neg (by decide), if_neg (by rw [hit_some hx_]; simp; omega)])
                    rw [hR2, lf4 hf (by assumption) (by rw [hit_some hy_]; exact decide_eq_true (by omega)) (by assumption) (by assumption), lfe (by omega)]; rfl)
                  | (
                    have hR2 : R = itms s f i k := by
                     rw [hR]
                     first
                     | exact if_pos rfl
                     | (rw [if_neg (by decide), if_neg (by rw [hit_some hx_]; simp; omega)])
                    rw [hR2, lf6 hf (by assumption) (by first | exact hit_none (by omega) | (rw [hit_some hy_]; exact decide_eq_false (by omega))), lfe (by omega)]; rfl)
                  | (
                    have hR3 : R = some (k, i + 1) := by rw [hR, if_neg (by decide), if_pos (by rw [hit_some hx_]; exact decide_eq_true (by omega))]
                    rw [hR3]; simp_all [fin, readA, spanN]; done)
                  | trace_state
                ·first
                 | exfalso; omega
                 |skip
                  refine wp_skip ?_
                  refine keepN (by (simp +decide only [Slots.keep, Slots.get, reduceIte]); exact rfl) ?_
                  have hR2 : R = itms s f i k := by
                   rw [hR]
                   first
                   | exact if_pos rfl
                   | (rw [if_neg (by decide), if_neg (by rw [hit_some hx_]; simp; omega)])
                  have p1 := sn_pos (s := s.drop i) (by assumption)
                  first
                  | (
                    have p2 := sn_pos (s := s.drop (i + sn (sign (s.drop i)) + 1)) (by assumption)
                    have hR4 := hR2.trans (lf4 hf (by assumption) (by rw [hit_some hy_]; exact decide_eq_true (by omega)) (by assumption) (by assumption))
                    refine ⟨by simp, _, ?_, false, _, _, f - 1, rfl, ?_, fun _ => ?_, ?_, hR4.trans (if_neg (by decide)).symm, rfl⟩ <;> omega)
                  | (
                    have hR4 := hR2.trans (lf6 hf (by assumption) (by first | exact hit_none (by omega) | (rw [hit_some hy_]; exact decide_eq_false (by omega))))
                    refine ⟨by simp, _, ?_, false, _, _, f - 1, rfl, ?_, fun _ => ?_, ?_, hR4.trans (if_neg (by decide)).symm, rfl⟩ <;> omega)
          ·first
           | exfalso; omega
           |skip
            refine wp_exit ?_
            refine bx_here ?_
            refine keepN (by (simp +decide only [Slots.keep, Slots.get, reduceIte]); exact rfl) ?_
            refine wp_seq ?_
            refine wp_seq ?_
            refine wp_ops ?_
            first | refine o_movd rfl rfl ?_ | refine o_movp rfl rfl ?_ | refine o_mova rfl rfl ?_ | refine o_mov rfl rfl ?_
            refine op_nil ?_
            first | refine wp_if rfl ?_ ?_ <;> intro hq_ | refine wp_cond rfl ?_ ?_ <;> intro hq_
            ·first
             | exfalso; omega
             |skip
              refine wp_ops ?_
              refine o_lcls rfl rfl (rfget1 _ _ _ _) ?_
              refine o_call rfl rfl rfl (with_ev _ 10 (by decide) _) ?_
              refine o_call rfl rfl rfl (rNot_ev _ _) ?_
              first | (refine o_scls (k := 0) rfl rfl rfl (rfget0 _ _ _) rfl (rfset0 _ _ _ _) ?_) | (refine o_scls rfl rfl rfl (rfget1 _ _ _ _) rfl (rfset1 _ _ _ _ _) ?_) | (refine o_scls rfl rfl rfl (rfget0 _ _ _) rfl (rfset0 _ _ _ _) ?_)
              refine op_nil ?_
              refine wp_seq ?_
              refine wp_ops ?_
              refine o_lcls rfl rfl (rfget1 _ _ _ _) ?_
              first | refine o_movd rfl rfl ?_ | refine o_movp rfl rfl ?_ | refine o_mova rfl rfl ?_ | refine o_mov rfl rfl ?_
              refine o_addkn rfl rfl rfl (by decide) (by simp only [m64]; omega) ?_
              first | (refine o_scls (k := 0) rfl rfl rfl (rfget0 _ _ _) rfl (rfset0 _ _ _ _) ?_) | (refine o_scls rfl rfl rfl (rfget1 _ _ _ _) rfl (rfset1 _ _ _ _ _) ?_) | (refine o_scls rfl rfl rfl (rfget0 _ _ _) rfl (rfset0 _ _ _ _) ?_)
              first | refine o_asgd rfl rfl ?_ | refine o_asgo rfl rfl ?_ | refine o_asg rfl rfl (fun _ h_ => by cases h_) ?_
              first | refine o_asgd rfl rfl ?_ | refine o_asgo rfl rfl ?_ | refine o_asg rfl rfl (fun _ h_ => by cases h_) ?_
              refine op_nil ?_
              refine wp_ret ?_
              refine end_read rfl rfl rfl (rfget0 _ _ _) rfl rfl ?_ (by simp)
              first
              | (
                have hR2 : R = itms s f i k := by
                 rw [hR]
                 first
                 | exact if_pos rfl
                 | (rw [if_neg (by decide), if_neg (by rw [hit_some hx_]; simp; omega)])
                rw [hR2, lf1 hf (by assumption)]; rfl)
              | (
                have hR2 : R = itms s f i k := by
                 rw [hR]
                 first
                 | exact if_pos rfl
                 | (rw [if_neg (by decide), if_neg (by rw [hit_some hx_]; simp; omega)])
                rw [hR2, lf2 hf (by assumption) (by rw [hit_some hy_]; exact decide_eq_true (by omega)) (by assumption)]; rfl)
              | (
                have hR2 : R = itms s f i k := by
                 rw [hR]
                 first
                 | exact if_pos rfl
                 | (rw [if_neg (by decide), if_neg (by rw [hit_some hx_]; simp; omega)])
                rw [hR2, lf3 hf (by assumption) (by rw [hit_some hy_]; exact decide_eq_true (by omega)) (by assumption) (by assumption)]; rfl)
              | (
                have hR2 : R = itms s f i k := by
                 rw [hR]
                 first
                 | exact if_pos rfl
                 | (rw [if_neg (by decide), if_neg (by rw [hit_some hx_]; simp; omega)])
                rw [hR2, lf4 hf (by assumption) (by rw [hit_some hy_]; exact decide_eq_true (by omega)) (by assumption) (by assumption), lfe (by omega)]; rfl)
              | (
                have hR2 : R = itms s f i k := by
                 rw [hR]
                 first
                 | exact if_pos rfl
                 | (rw [if_neg (by decide), if_neg (by rw [hit_some hx_]; simp; omega)])
                rw [hR2, lf6 hf (by assumption) (by first | exact hit_none (by omega) | (rw [hit_some hy_]; exact decide_eq_false (by omega))), lfe (by omega)]; rfl)
              | (
                have hR3 : R = some (k, i + 1) := by rw [hR, if_neg (by decide), if_pos (by rw [hit_some hx_]; exact decide_eq_true (by omega))]
                rw [hR3]; simp_all [fin, readA, spanN]; done)
              | trace_state
            ·first
             | exfalso; omega
             |skip
              refine wp_skip ?_
              refine wp_seq ?_
              refine wp_ops ?_
              refine o_lcls rfl rfl (rfget1 _ _ _ _) ?_
              first | refine o_movd rfl rfl ?_ | refine o_movp rfl rfl ?_ | refine o_mova rfl rfl ?_ | refine o_mov rfl rfl ?_
              refine o_addkn rfl rfl rfl (by decide) (by simp only [m64]; omega) ?_
              first | (refine o_scls (k := 0) rfl rfl rfl (rfget0 _ _ _) rfl (rfset0 _ _ _ _) ?_) | (refine o_scls rfl rfl rfl (rfget1 _ _ _ _) rfl (rfset1 _ _ _ _ _) ?_) | (refine o_scls rfl rfl rfl (rfget0 _ _ _) rfl (rfset0 _ _ _ _) ?_)
              first | refine o_asgd rfl rfl ?_ | refine o_asgo rfl rfl ?_ | refine o_asg rfl rfl (fun _ h_ => by cases h_) ?_
              first | refine o_asgd rfl rfl ?_ | refine o_asgo rfl rfl ?_ | refine o_asg rfl rfl (fun _ h_ => by cases h_) ?_
              refine op_nil ?_
              refine wp_ret ?_
              refine end_read rfl rfl rfl (rfget0 _ _ _) rfl rfl ?_ (by simp)
              first
              | (
                have hR2 : R = itms s f i k := by
                 rw [hR]
                 first
                 | exact if_pos rfl
                 | (rw [if_neg (by decide), if_neg (by rw [hit_some hx_]; simp; omega)])
                rw [hR2, lf1 hf (by assumption)]; rfl)
              | (
                have hR2 : R = itms s f i k := by
                 rw [hR]
                 first
                 | exact if_pos rfl
                 | (rw [if_neg (by decide), if_neg (by rw [hit_some hx_]; simp; omega)])
                rw [hR2, lf2 hf (by assumption) (by rw [hit_some hy_]; exact decide_eq_true (by omega)) (by assumption)]; rfl)
              | (
                have hR2 : R = itms s f i k := by
                 rw [hR]
                 first
                 | exact if_pos rfl
                 | (rw [if_neg (by decide), if_neg (by rw [hit_some hx_]; simp; omega)])
                rw [hR2, lf3 hf (by assumption) (by rw [hit_some hy_]; exact decide_eq_true (by omega)) (by assumption) (by assumption)]; rfl)
              | (
                have hR2 : R = itms s f i k := by
                 rw [hR]
                 first
                 | exact if_pos rfl
                 | (rw [if_neg (by decide), if_neg (by rw [hit_some hx_]; simp; omega)])
                rw [hR2, lf4 hf (by assumption) (by rw [hit_some hy_]; exact decide_eq_true (by omega)) (by assumption) (by assumption), lfe (by omega)]; rfl)
              | (
                have hR2 : R = itms s f i k := by
                 rw [hR]
                 first
                 | exact if_pos rfl
                 | (rw [if_neg (by decide), if_neg (by rw [hit_some hx_]; simp; omega)])
                rw [hR2, lf6 hf (by assumption) (by first | exact hit_none (by omega) | (rw [hit_some hy_]; exact decide_eq_false (by omega))), lfe (by omega)]; rfl)
              | (
                have hR3 : R = some (k, i + 1) := by rw [hR, if_neg (by decide), if_pos (by rw [hit_some hx_]; exact decide_eq_true (by omega))]
                rw [hR3]; simp_all [fin, readA, spanN]; done)
              | trace_state
       ·clear hb
        refine wp_seq ?_
        refine wp_seq ?_
        refine wp_ops ?_
        first | refine o_movd rfl rfl ?_ | refine o_movp rfl rfl ?_ | refine o_mova rfl rfl ?_ | refine o_mov rfl rfl ?_
        first | refine o_movd rfl rfl ?_ | refine o_movp rfl rfl ?_ | refine o_mova rfl rfl ?_ | refine o_mov rfl rfl ?_
        refine o_skip rfl ?_
        refine o_skip rfl ?_
        refine o_skip rfl ?_
        refine o_skip rfl ?_
        refine o_pickt rfl rfl rfl ?_
        first | refine o_movd rfl rfl ?_ | refine o_movp rfl rfl ?_ | refine o_mova rfl rfl ?_ | refine o_mov rfl rfl ?_
        refine o_skip rfl ?_
        refine o_skip rfl ?_
        refine o_skip rfl ?_
        refine o_skip rfl ?_
        refine o_pickt rfl rfl rfl ?_
        refine op_nil ?_
        refine wp_cond rfl (fun _ => ?_) (fun h_ => absurd h_ (by decide))
        refine wp_skip ?_
        refine wp_keep ?_
        refine wp_block ?_
        refine wp_seq ?_
        refine wp_ops ?_
        first | refine o_asgd rfl rfl ?_ | refine o_asgo rfl rfl ?_ | refine o_asg rfl rfl (fun _ h_ => by cases h_) ?_
        refine op_nil ?_
        refine wp_seq ?_
        refine wp_ops ?_
        first | refine o_movd rfl rfl ?_ | refine o_movp rfl rfl ?_ | refine o_mova rfl rfl ?_ | refine o_mov rfl rfl ?_
        first | refine o_movd rfl rfl ?_ | refine o_movp rfl rfl ?_ | refine o_mova rfl rfl ?_ | refine o_mov rfl rfl ?_
        refine o_sub0 rfl rfl rfl rfl (by omega) ?_
        refine o_call rfl rfl rfl (rSignP_ev (s.drop i) _) ?_
        refine o_mov rfl rfl ?_
        refine o_extr rfl rfl rfl ?_
        refine o_extr rfl rfl rfl ?_
        refine o_extr rfl rfl rfl ?_
        first | refine o_asgd rfl rfl ?_ | refine o_asgo rfl rfl ?_ | refine o_asg rfl rfl (fun _ h_ => by cases h_) ?_
        first | refine o_asgd rfl rfl ?_ | refine o_asgo rfl rfl ?_ | refine o_asg rfl rfl (fun _ h_ => by cases h_) ?_
        first | refine o_asgd rfl rfl ?_ | refine o_asgo rfl rfl ?_ | refine o_asg rfl rfl (fun _ h_ => by cases h_) ?_
        refine op_nil ?_
        refine wp_seq ?_
        refine wp_seq ?_
        refine wp_ops ?_
        first | refine o_movd rfl rfl ?_ | refine o_movp rfl rfl ?_ | refine o_mova rfl rfl ?_ | refine o_mov rfl rfl ?_
        first | refine o_neqn rfl rfl rfl ?_ | refine o_nes rfl rfl rfl ?_ | refine o_bin rfl rfl rfl rfl ?_
        refine op_nil ?_
        first | refine wp_if rfl ?_ ?_ <;> intro hq_ | refine wp_cond rfl ?_ ?_ <;> intro hq_
        ·first
         | exfalso; omega
         |skip
          refine wp_seq ?_
          refine wp_ops ?_
          refine o_build (cs := clsC 0) rfl rfl ?_
          first | (refine o_scls (k := 0) rfl rfl rfl (rfget0 _ _ _) rfl (rfset0 _ _ _ _) ?_) | (refine o_scls rfl rfl rfl (rfget1 _ _ _ _) rfl (rfset1 _ _ _ _ _) ?_) | (refine o_scls rfl rfl rfl (rfget0 _ _ _) rfl (rfset0 _ _ _ _) ?_)
          first | refine o_asgd rfl rfl ?_ | refine o_asgo rfl rfl ?_ | refine o_asg rfl rfl (fun _ h_ => by cases h_) ?_
          first | refine o_asgd rfl rfl ?_ | refine o_asgo rfl rfl ?_ | refine o_asg rfl rfl (fun _ h_ => by cases h_) ?_
          refine op_nil ?_
          refine wp_ret ?_
          refine bx_ret ?_
          refine bx_ret ?_
          refine end_read rfl rfl rfl (rfget0 _ _ _) rfl rfl ?_ (by simp)
          first
          | (
            have hR2 : R = itms s f i k := by
             rw [hR]
             first
             | exact if_pos rfl
             | (rw [if_neg (by decide), if_neg (by rw [hit_some hx_]; simp; omega)])
            rw [hR2, lf1 hf (by assumption)]; rfl)
          | (
            have hR2 : R = itms s f i k := by
             rw [hR]
             first
             | exact if_pos rfl
             | (rw [if_neg (by decide), if_neg (by rw [hit_some hx_]; simp; omega)])
            rw [hR2, lf2 hf (by assumption) (by rw [hit_some hy_]; exact decide_eq_true (by omega)) (by assumption)]; rfl)
          | (
            have hR2 : R = itms s f i k := by
             rw [hR]
             first
             | exact if_pos rfl
             | (rw [if_neg (by decide), if_neg (by rw [hit_some hx_]; simp; omega)])
            rw [hR2, lf3 hf (by assumption) (by rw [hit_some hy_]; exact decide_eq_true (by omega)) (by assumption) (by assumption)]; rfl)
          | (
            have hR2 : R = itms s f i k := by
             rw [hR]
             first
             | exact if_pos rfl
             | (rw [if_neg (by decide), if_neg (by rw [hit_some hx_]; simp; omega)])
            rw [hR2, lf4 hf (by assumption) (by rw [hit_some hy_]; exact decide_eq_true (by omega)) (by assumption) (by assumption), lfe (by omega)]; rfl)
          | (
            have hR2 : R = itms s f i k := by
             rw [hR]
             first
             | exact if_pos rfl
             | (rw [if_neg (by decide), if_neg (by rw [hit_some hx_]; simp; omega)])
            rw [hR2, lf6 hf (by assumption) (by first | exact hit_none (by omega) | (rw [hit_some hy_]; exact decide_eq_false (by omega))), lfe (by omega)]; rfl)
          | (
            have hR3 : R = some (k, i + 1) := by rw [hR, if_neg (by decide), if_pos (by rw [hit_some hx_]; exact decide_eq_true (by omega))]
            rw [hR3]; simp_all [fin, readA, spanN]; done)
          | trace_state
        ·first
         | exfalso; omega
         |skip
          refine wp_skip ?_
          refine wp_seq ?_
          refine wp_ops ?_
          first | refine o_movd rfl rfl ?_ | refine o_movp rfl rfl ?_ | refine o_mova rfl rfl ?_ | refine o_mov rfl rfl ?_
          first | refine o_movd rfl rfl ?_ | refine o_movp rfl rfl ?_ | refine o_mova rfl rfl ?_ | refine o_mov rfl rfl ?_
          (have hs1_ := sn_le s i hi; refine o_addkn rfl rfl rfl (by decide) (by simp only [m64]; omega) ?_)
          first | refine o_asgd rfl rfl ?_ | refine o_asgo rfl rfl ?_ | refine o_asg rfl rfl (fun _ h_ => by cases h_) ?_
          refine op_nil ?_
          refine wp_seq ?_
          refine wp_seq ?_
          refine wp_ops ?_
          first | refine o_movd rfl rfl ?_ | refine o_movp rfl rfl ?_ | refine o_mova rfl rfl ?_ | refine o_mov rfl rfl ?_
          first | refine o_movd rfl rfl ?_ | refine o_movp rfl rfl ?_ | refine o_mova rfl rfl ?_ | refine o_mov rfl rfl ?_
          refine o_lenS rfl rfl ?_
          first | refine o_lssn rfl rfl rfl ?_ | refine o_bin rfl rfl rfl rfl ?_
          first | refine o_movd rfl rfl ?_ | refine o_movp rfl rfl ?_ | refine o_mova rfl rfl ?_ | refine o_mov rfl rfl ?_
          refine o_ifp rfl ?_ ?_ <;> intro hq_ hg_ <;> simp only [hg_] <;> clear hg_
          ·first
           | exfalso; omega
           |skip
            first | refine o_movd rfl rfl ?_ | refine o_movp rfl rfl ?_ | refine o_mova rfl rfl ?_ | refine o_mov rfl rfl ?_
            first | refine o_movd rfl rfl ?_ | refine o_movp rfl rfl ?_ | refine o_mova rfl rfl ?_ | refine o_mov rfl rfl ?_
            (obtain ⟨y_, hy_⟩ := getS (show i + sn (sign (s.drop i)) < s.length by omega); refine o_idxS (m := i + sn (sign (s.drop i))) rfl rfl rfl rfl hy_ ?_)
            first | refine o_eqln rfl rfl rfl ?_ | refine o_eqs rfl rfl rfl ?_ | refine o_bin rfl rfl rfl rfl ?_
            refine o_pickt rfl rfl rfl ?_
            refine op_nil ?_
            first | refine wp_if rfl ?_ ?_ <;> intro hq_ | refine wp_cond rfl ?_ ?_ <;> intro hq_
            ·first
             | exfalso; omega
             |skip
              refine wp_seq ?_
              refine wp_ops ?_
              first | refine o_movd rfl rfl ?_ | refine o_movp rfl rfl ?_ | refine o_mova rfl rfl ?_ | refine o_mov rfl rfl ?_
              first | refine o_movd rfl rfl ?_ | refine o_movp rfl rfl ?_ | refine o_mova rfl rfl ?_ | refine o_mov rfl rfl ?_
              refine o_addkn rfl rfl rfl (by decide) (by simp only [m64]; omega) ?_
              refine o_sub0 rfl rfl rfl rfl (by omega) ?_
              refine o_call rfl rfl rfl (rSignP_ev (s.drop (i + sn (sign (s.drop i)) + 1)) _) ?_
              refine o_mov rfl rfl ?_
              refine o_extr rfl rfl rfl ?_
              refine o_extr rfl rfl rfl ?_
              refine o_extr rfl rfl rfl ?_
              first | refine o_asgd rfl rfl ?_ | refine o_asgo rfl rfl ?_ | refine o_asg rfl rfl (fun _ h_ => by cases h_) ?_
              first | refine o_asgd rfl rfl ?_ | refine o_asgo rfl rfl ?_ | refine o_asg rfl rfl (fun _ h_ => by cases h_) ?_
              first | refine o_asgd rfl rfl ?_ | refine o_asgo rfl rfl ?_ | refine o_asg rfl rfl (fun _ h_ => by cases h_) ?_
              refine op_nil ?_
              refine wp_seq ?_
              refine wp_seq ?_
              refine wp_ops ?_
              first | refine o_movd rfl rfl ?_ | refine o_movp rfl rfl ?_ | refine o_mova rfl rfl ?_ | refine o_mov rfl rfl ?_
              first | refine o_neqn rfl rfl rfl ?_ | refine o_nes rfl rfl rfl ?_ | refine o_bin rfl rfl rfl rfl ?_
              first | refine o_movd rfl rfl ?_ | refine o_movp rfl rfl ?_ | refine o_mova rfl rfl ?_ | refine o_mov rfl rfl ?_
              refine o_ifp rfl ?_ ?_ <;> intro hq_ hg_ <;> simp only [hg_] <;> clear hg_
              ·first
               | exfalso; omega
               |skip
                refine o_skip rfl ?_
                refine o_skip rfl ?_
                refine o_skip rfl ?_
                refine o_pickt rfl rfl rfl ?_
                refine op_nil ?_
                refine wp_cond rfl (fun _ => ?_) (fun h_ => absurd h_ (by decide))
                refine wp_seq ?_
                refine wp_ops ?_
                refine o_build (cs := clsC 0) rfl rfl ?_
                first | (refine o_scls (k := 0) rfl rfl rfl (rfget0 _ _ _) rfl (rfset0 _ _ _ _) ?_) | (refine o_scls rfl rfl rfl (rfget1 _ _ _ _) rfl (rfset1 _ _ _ _ _) ?_) | (refine o_scls rfl rfl rfl (rfget0 _ _ _) rfl (rfset0 _ _ _ _) ?_)
                first | refine o_asgd rfl rfl ?_ | refine o_asgo rfl rfl ?_ | refine o_asg rfl rfl (fun _ h_ => by cases h_) ?_
                first | refine o_asgd rfl rfl ?_ | refine o_asgo rfl rfl ?_ | refine o_asg rfl rfl (fun _ h_ => by cases h_) ?_
                refine op_nil ?_
                refine wp_ret ?_
                refine bx_ret ?_
                refine bx_ret ?_
                refine end_read rfl rfl rfl (rfget0 _ _ _) rfl rfl ?_ (by simp)
                first
                | (
                  have hR2 : R = itms s f i k := by
                   rw [hR]
                   first
                   | exact if_pos rfl
                   | (rw [if_neg (by decide), if_neg (by rw [hit_some hx_]; simp; omega)])
                  rw [hR2, lf1 hf (by assumption)]; rfl)
                | (
                  have hR2 : R = itms s f i k := by
                   rw [hR]
                   first
                   | exact if_pos rfl
                   | (rw [if_neg (by decide), if_neg (by rw [hit_some hx_]; simp; omega)])
                  rw [hR2, lf2 hf (by assumption) (by rw [hit_some hy_]; exact decide_eq_true (by omega)) (by assumption)]; rfl)
                | (
                  have hR2 : R = itms s f i k := by
                   rw [hR]
                   first
                   | exact if_pos rfl
                   | (rw [if_neg (by decide), if_neg (by rw [hit_some hx_]; simp; omega)])
                  rw [hR2, lf3 hf (by assumption) (by rw [hit_some hy_]; exact decide_eq_true (by omega)) (by assumption) (by assumption)]; rfl)
                | (
                  have hR2 : R = itms s f i k := by
                   rw [hR]
                   first
                   | exact if_pos rfl
                   | (rw [if_neg (by decide), if_neg (by rw [hit_some hx_]; simp; omega)])
                  rw [hR2, lf4 hf (by assumption) (by rw [hit_some hy_]; exact decide_eq_true (by omega)) (by assumption) (by assumption), lfe (by omega)]; rfl)
                | (
                  have hR2 : R = itms s f i k := by
                   rw [hR]
                   first
                   | exact if_pos rfl
                   | (rw [if_neg (by decide), if_neg (by rw [hit_some hx_]; simp; omega)])
                  rw [hR2, lf6 hf (by assumption) (by first | exact hit_none (by omega) | (rw [hit_some hy_]; exact decide_eq_false (by omega))), lfe (by omega)]; rfl)
                | (
                  have hR3 : R = some (k, i + 1) := by rw [hR, if_neg (by decide), if_pos (by rw [hit_some hx_]; exact decide_eq_true (by omega))]
                  rw [hR3]; simp_all [fin, readA, spanN]; done)
                | trace_state
              ·first
               | exfalso; omega
               |skip
                first | refine o_movd rfl rfl ?_ | refine o_movp rfl rfl ?_ | refine o_mova rfl rfl ?_ | refine o_mov rfl rfl ?_
                first | refine o_movd rfl rfl ?_ | refine o_movp rfl rfl ?_ | refine o_mova rfl rfl ?_ | refine o_mov rfl rfl ?_
                first | refine o_gtrn rfl rfl rfl ?_ | refine o_bin rfl rfl rfl rfl ?_
                refine o_pickf rfl rfl rfl ?_
                refine op_nil ?_
                first | refine wp_if rfl ?_ ?_ <;> intro hq_ | refine wp_cond rfl ?_ ?_ <;> intro hq_
                ·first
                 | exfalso; omega
                 |skip
                  refine wp_seq ?_
                  refine wp_ops ?_
                  refine o_build (cs := clsC 0) rfl rfl ?_
                  first | (refine o_scls (k := 0) rfl rfl rfl (rfget0 _ _ _) rfl (rfset0 _ _ _ _) ?_) | (refine o_scls rfl rfl rfl (rfget1 _ _ _ _) rfl (rfset1 _ _ _ _ _) ?_) | (refine o_scls rfl rfl rfl (rfget0 _ _ _) rfl (rfset0 _ _ _ _) ?_)
                  first | refine o_asgd rfl rfl ?_ | refine o_asgo rfl rfl ?_ | refine o_asg rfl rfl (fun _ h_ => by cases h_) ?_
                  first | refine o_asgd rfl rfl ?_ | refine o_asgo rfl rfl ?_ | refine o_asg rfl rfl (fun _ h_ => by cases h_) ?_
                  refine op_nil ?_
                  refine wp_ret ?_
                  refine bx_ret ?_
                  refine bx_ret ?_
                  refine end_read rfl rfl rfl (rfget0 _ _ _) rfl rfl ?_ (by simp)
                  first
                  | (
                    have hR2 : R = itms s f i k := by
                     rw [hR]
                     first
                     | exact if_pos rfl
                     | (rw [if_neg (by decide), if_neg (by rw [hit_some hx_]; simp; omega)])
                    rw [hR2, lf1 hf (by assumption)]; rfl)
                  | (
                    have hR2 : R = itms s f i k := by
                     rw [hR]
                     first
                     | exact if_pos rfl
                     | (rw [if_neg (by decide), if_neg (by rw [hit_some hx_]; simp; omega)])
                    rw [hR2, lf2 hf (by assumption) (by rw [hit_some hy_]; exact decide_eq_true (by omega)) (by assumption)]; rfl)
                  | (
                    have hR2 : R = itms s f i k := by
                     rw [hR]
                     first
                     | exact if_pos rfl
                     | (rw [if_neg (by decide), if_neg (by rw [hit_some hx_]; simp; omega)])
                    rw [hR2, lf3 hf (by assumption) (by rw [hit_some hy_]; exact decide_eq_true (by omega)) (by assumption) (by assumption)]; rfl)
                  | (
                    have hR2 : R = itms s f i k := by
                     rw [hR]
                     first
                     | exact if_pos rfl
                     | (rw [if_neg (by decide), if_neg (by rw [hit_some hx_]; simp; omega)])
                    rw [hR2, lf4 hf (by assumption) (by rw [hit_some hy_]; exact decide_eq_true (by omega)) (by assumption) (by assumption), lfe (by omega)]; rfl)
                  | (
                    have hR2 : R = itms s f i k := by
                     rw [hR]
                     first
                     | exact if_pos rfl
                     | (rw [if_neg (by decide), if_neg (by rw [hit_some hx_]; simp; omega)])
                    rw [hR2, lf6 hf (by assumption) (by first | exact hit_none (by omega) | (rw [hit_some hy_]; exact decide_eq_false (by omega))), lfe (by omega)]; rfl)
                  | (
                    have hR3 : R = some (k, i + 1) := by rw [hR, if_neg (by decide), if_pos (by rw [hit_some hx_]; exact decide_eq_true (by omega))]
                    rw [hR3]; simp_all [fin, readA, spanN]; done)
                  | trace_state
                ·first
                 | exfalso; omega
                 |skip
                  refine wp_skip ?_
                  refine wp_seq ?_
                  refine wp_ops ?_
                  first | refine o_movd rfl rfl ?_ | refine o_movp rfl rfl ?_ | refine o_mova rfl rfl ?_ | refine o_mov rfl rfl ?_
                  refine o_addkn rfl rfl rfl (by decide) (by simp only [m64]; omega) ?_
                  first | refine o_movd rfl rfl ?_ | refine o_movp rfl rfl ?_ | refine o_mova rfl rfl ?_ | refine o_mov rfl rfl ?_
                  (have hs2_ := sn_le s (i + sn (sign (s.drop i)) + 1) (by omega); refine o_addkn rfl rfl rfl (by decide) (by simp only [m64]; omega) ?_)
                  first | refine o_asgd rfl rfl ?_ | refine o_asgo rfl rfl ?_ | refine o_asg rfl rfl (fun _ h_ => by cases h_) ?_
                  refine op_nil ?_
                  refine wp_ops ?_
                  refine o_lcls rfl rfl (rfget1 _ _ _ _) ?_
                  first | refine o_movd rfl rfl ?_ | refine o_movp rfl rfl ?_ | refine o_mova rfl rfl ?_ | refine o_mov rfl rfl ?_
                  first | refine o_movd rfl rfl ?_ | refine o_movp rfl rfl ?_ | refine o_mova rfl rfl ?_ | refine o_mov rfl rfl ?_
                  refine o_callz rfl rfl rfl rfl (rSpan_ev _ _ (sa_lt _) (sa_lt _) _) ?_
                  refine o_call rfl rfl rfl (rOr_ev _ _ (spanN_lt _ _ (by have := sa_lt (s.drop i); have := sa_lt (s.drop (i + sn (sign (s.drop i)) + 1)); omega)) _) ?_
                  first | (refine o_scls (k := 0) rfl rfl rfl (rfget0 _ _ _) rfl (rfset0 _ _ _ _) ?_) | (refine o_scls rfl rfl rfl (rfget1 _ _ _ _) rfl (rfset1 _ _ _ _ _) ?_) | (refine o_scls rfl rfl rfl (rfget0 _ _ _) rfl (rfset0 _ _ _ _) ?_)
                  refine op_nil ?_
                  refine wp_seq ?_
                  refine wp_ops ?_
                  first | refine o_movd rfl rfl ?_ | refine o_movp rfl rfl ?_ | refine o_mova rfl rfl ?_ | refine o_mov rfl rfl ?_
                  first | refine o_movd rfl rfl ?_ | refine o_movp rfl rfl ?_ | refine o_mova rfl rfl ?_ | refine o_mov rfl rfl ?_
                  refine o_lenS rfl rfl ?_
                  first | refine o_geqn rfl rfl rfl ?_ | refine o_bin rfl rfl rfl rfl ?_
                  refine op_nil ?_
                  first | refine wp_if rfl ?_ ?_ <;> intro hq_ | refine wp_cond rfl ?_ ?_ <;> intro hq_
                  ·first
                   | exfalso; omega
                   |skip
                    refine wp_seq ?_
                    refine wp_ops ?_
                    refine o_build (cs := clsC 0) rfl rfl ?_
                    first | (refine o_scls (k := 0) rfl rfl rfl (rfget0 _ _ _) rfl (rfset0 _ _ _ _) ?_) | (refine o_scls rfl rfl rfl (rfget1 _ _ _ _) rfl (rfset1 _ _ _ _ _) ?_) | (refine o_scls rfl rfl rfl (rfget0 _ _ _) rfl (rfset0 _ _ _ _) ?_)
                    first | refine o_asgd rfl rfl ?_ | refine o_asgo rfl rfl ?_ | refine o_asg rfl rfl (fun _ h_ => by cases h_) ?_
                    first | refine o_asgd rfl rfl ?_ | refine o_asgo rfl rfl ?_ | refine o_asg rfl rfl (fun _ h_ => by cases h_) ?_
                    refine op_nil ?_
                    refine wp_ret ?_
                    refine bx_ret ?_
                    refine bx_ret ?_
                    refine end_read rfl rfl rfl (rfget0 _ _ _) rfl rfl ?_ (by simp)
                    first
                    | (
                      have hR2 : R = itms s f i k := by
                       rw [hR]
                       first
                       | exact if_pos rfl
                       | (rw [if_neg (by decide), if_neg (by rw [hit_some hx_]; simp; omega)])
                      rw [hR2, lf1 hf (by assumption)]; rfl)
                    | (
                      have hR2 : R = itms s f i k := by
                       rw [hR]
                       first
                       | exact if_pos rfl
                       | (rw [if_neg (by decide), if_neg (by rw [hit_some hx_]; simp; omega)])
                      rw [hR2, lf2 hf (by assumption) (by rw [hit_some hy_]; exact decide_eq_true (by omega)) (by assumption)]; rfl)
                    | (
                      have hR2 : R = itms s f i k := by
                       rw [hR]
                       first
                       | exact if_pos rfl
                       | (rw [if_neg (by decide), if_neg (by rw [hit_some hx_]; simp; omega)])
                      rw [hR2, lf3 hf (by assumption) (by rw [hit_some hy_]; exact decide_eq_true (by omega)) (by assumption) (by assumption)]; rfl)
                    | (
                      have hR2 : R = itms s f i k := by
                       rw [hR]
                       first
                       | exact if_pos rfl
                       | (rw [if_neg (by decide), if_neg (by rw [hit_some hx_]; simp; omega)])
                      rw [hR2, lf4 hf (by assumption) (by rw [hit_some hy_]; exact decide_eq_true (by omega)) (by assumption) (by assumption), lfe (by omega)]; rfl)
                    | (
                      have hR2 : R = itms s f i k := by
                       rw [hR]
                       first
                       | exact if_pos rfl
                       | (rw [if_neg (by decide), if_neg (by rw [hit_some hx_]; simp; omega)])
                      rw [hR2, lf6 hf (by assumption) (by first | exact hit_none (by omega) | (rw [hit_some hy_]; exact decide_eq_false (by omega))), lfe (by omega)]; rfl)
                    | (
                      have hR3 : R = some (k, i + 1) := by rw [hR, if_neg (by decide), if_pos (by rw [hit_some hx_]; exact decide_eq_true (by omega))]
                      rw [hR3]; simp_all [fin, readA, spanN]; done)
                    | trace_state
                  ·first
                   | exfalso; omega
                   |skip
                    refine wp_skip ?_
                    refine keepN (by (simp +decide only [Slots.keep, Slots.get, reduceIte]); exact rfl) ?_
                    have hR2 : R = itms s f i k := by
                     rw [hR]
                     first
                     | exact if_pos rfl
                     | (rw [if_neg (by decide), if_neg (by rw [hit_some hx_]; simp; omega)])
                    have p1 := sn_pos (s := s.drop i) (by assumption)
                    first
                    | (
                      have p2 := sn_pos (s := s.drop (i + sn (sign (s.drop i)) + 1)) (by assumption)
                      have hR4 := hR2.trans (lf4 hf (by assumption) (by rw [hit_some hy_]; exact decide_eq_true (by omega)) (by assumption) (by assumption))
                      refine ⟨by simp, _, ?_, false, _, _, f - 1, rfl, ?_, fun _ => ?_, ?_, hR4.trans (if_neg (by decide)).symm, rfl⟩ <;> omega)
                    | (
                      have hR4 := hR2.trans (lf6 hf (by assumption) (by first | exact hit_none (by omega) | (rw [hit_some hy_]; exact decide_eq_false (by omega))))
                      refine ⟨by simp, _, ?_, false, _, _, f - 1, rfl, ?_, fun _ => ?_, ?_, hR4.trans (if_neg (by decide)).symm, rfl⟩ <;> omega)
            ·first
             | exfalso; omega
             |skip
              refine wp_ops ?_
              refine o_lcls rfl rfl (rfget1 _ _ _ _) ?_
              first | refine o_movd rfl rfl ?_ | refine o_movp rfl rfl ?_ | refine o_mova rfl rfl ?_ | refine o_mov rfl rfl ?_
              refine o_call rfl rfl rfl (with_ev _ _ (sa_lt _) _) ?_
              first | (refine o_scls (k := 0) rfl rfl rfl (rfget0 _ _ _) rfl (rfset0 _ _ _ _) ?_) | (refine o_scls rfl rfl rfl (rfget1 _ _ _ _) rfl (rfset1 _ _ _ _ _) ?_) | (refine o_scls rfl rfl rfl (rfget0 _ _ _) rfl (rfset0 _ _ _ _) ?_)
              refine op_nil ?_
              refine wp_seq ?_
              refine wp_ops ?_
              first | refine o_movd rfl rfl ?_ | refine o_movp rfl rfl ?_ | refine o_mova rfl rfl ?_ | refine o_mov rfl rfl ?_
              first | refine o_movd rfl rfl ?_ | refine o_movp rfl rfl ?_ | refine o_mova rfl rfl ?_ | refine o_mov rfl rfl ?_
              refine o_lenS rfl rfl ?_
              first | refine o_geqn rfl rfl rfl ?_ | refine o_bin rfl rfl rfl rfl ?_
              refine op_nil ?_
              first | refine wp_if rfl ?_ ?_ <;> intro hq_ | refine wp_cond rfl ?_ ?_ <;> intro hq_
              ·first
               | exfalso; omega
               |skip
                refine wp_seq ?_
                refine wp_ops ?_
                refine o_build (cs := clsC 0) rfl rfl ?_
                first | (refine o_scls (k := 0) rfl rfl rfl (rfget0 _ _ _) rfl (rfset0 _ _ _ _) ?_) | (refine o_scls rfl rfl rfl (rfget1 _ _ _ _) rfl (rfset1 _ _ _ _ _) ?_) | (refine o_scls rfl rfl rfl (rfget0 _ _ _) rfl (rfset0 _ _ _ _) ?_)
                first | refine o_asgd rfl rfl ?_ | refine o_asgo rfl rfl ?_ | refine o_asg rfl rfl (fun _ h_ => by cases h_) ?_
                first | refine o_asgd rfl rfl ?_ | refine o_asgo rfl rfl ?_ | refine o_asg rfl rfl (fun _ h_ => by cases h_) ?_
                refine op_nil ?_
                refine wp_ret ?_
                refine bx_ret ?_
                refine bx_ret ?_
                refine end_read rfl rfl rfl (rfget0 _ _ _) rfl rfl ?_ (by simp)
                first
                | (
                  have hR2 : R = itms s f i k := by
                   rw [hR]
                   first
                   | exact if_pos rfl
                   | (rw [if_neg (by decide), if_neg (by rw [hit_some hx_]; simp; omega)])
                  rw [hR2, lf1 hf (by assumption)]; rfl)
                | (
                  have hR2 : R = itms s f i k := by
                   rw [hR]
                   first
                   | exact if_pos rfl
                   | (rw [if_neg (by decide), if_neg (by rw [hit_some hx_]; simp; omega)])
                  rw [hR2, lf2 hf (by assumption) (by rw [hit_some hy_]; exact decide_eq_true (by omega)) (by assumption)]; rfl)
                | (
                  have hR2 : R = itms s f i k := by
                   rw [hR]
                   first
                   | exact if_pos rfl
                   | (rw [if_neg (by decide), if_neg (by rw [hit_some hx_]; simp; omega)])
                  rw [hR2, lf3 hf (by assumption) (by rw [hit_some hy_]; exact decide_eq_true (by omega)) (by assumption) (by assumption)]; rfl)
                | (
                  have hR2 : R = itms s f i k := by
                   rw [hR]
                   first
                   | exact if_pos rfl
                   | (rw [if_neg (by decide), if_neg (by rw [hit_some hx_]; simp; omega)])
                  rw [hR2, lf4 hf (by assumption) (by rw [hit_some hy_]; exact decide_eq_true (by omega)) (by assumption) (by assumption), lfe (by omega)]; rfl)
                | (
                  have hR2 : R = itms s f i k := by
                   rw [hR]
                   first
                   | exact if_pos rfl
                   | (rw [if_neg (by decide), if_neg (by rw [hit_some hx_]; simp; omega)])
                  rw [hR2, lf6 hf (by assumption) (by first | exact hit_none (by omega) | (rw [hit_some hy_]; exact decide_eq_false (by omega))), lfe (by omega)]; rfl)
                | (
                  have hR3 : R = some (k, i + 1) := by rw [hR, if_neg (by decide), if_pos (by rw [hit_some hx_]; exact decide_eq_true (by omega))]
                  rw [hR3]; simp_all [fin, readA, spanN]; done)
                | trace_state
              ·first
               | exfalso; omega
               |skip
                refine wp_skip ?_
                refine keepN (by (simp +decide only [Slots.keep, Slots.get, reduceIte]); exact rfl) ?_
                have hR2 : R = itms s f i k := by
                 rw [hR]
                 first
                 | exact if_pos rfl
                 | (rw [if_neg (by decide), if_neg (by rw [hit_some hx_]; simp; omega)])
                have p1 := sn_pos (s := s.drop i) (by assumption)
                first
                | (
                  have p2 := sn_pos (s := s.drop (i + sn (sign (s.drop i)) + 1)) (by assumption)
                  have hR4 := hR2.trans (lf4 hf (by assumption) (by rw [hit_some hy_]; exact decide_eq_true (by omega)) (by assumption) (by assumption))
                  refine ⟨by simp, _, ?_, false, _, _, f - 1, rfl, ?_, fun _ => ?_, ?_, hR4.trans (if_neg (by decide)).symm, rfl⟩ <;> omega)
                | (
                  have hR4 := hR2.trans (lf6 hf (by assumption) (by first | exact hit_none (by omega) | (rw [hit_some hy_]; exact decide_eq_false (by omega))))
                  refine ⟨by simp, _, ?_, false, _, _, f - 1, rfl, ?_, fun _ => ?_, ?_, hR4.trans (if_neg (by decide)).symm, rfl⟩ <;> omega)
          ·first
           | exfalso; omega
           |skip
            refine o_skip rfl ?_
            refine o_skip rfl ?_
            refine o_skip rfl ?_
            refine o_skip rfl ?_
            refine o_pickf rfl rfl rfl ?_
            refine op_nil ?_
            refine wp_cond rfl (fun h_ => absurd h_ (by decide)) (fun _ => ?_)
            refine wp_ops ?_
            refine o_lcls rfl rfl (rfget1 _ _ _ _) ?_
            first | refine o_movd rfl rfl ?_ | refine o_movp rfl rfl ?_ | refine o_mova rfl rfl ?_ | refine o_mov rfl rfl ?_
            refine o_call rfl rfl rfl (with_ev _ _ (sa_lt _) _) ?_
            first | (refine o_scls (k := 0) rfl rfl rfl (rfget0 _ _ _) rfl (rfset0 _ _ _ _) ?_) | (refine o_scls rfl rfl rfl (rfget1 _ _ _ _) rfl (rfset1 _ _ _ _ _) ?_) | (refine o_scls rfl rfl rfl (rfget0 _ _ _) rfl (rfset0 _ _ _ _) ?_)
            refine op_nil ?_
            refine wp_seq ?_
            refine wp_ops ?_
            first | refine o_movd rfl rfl ?_ | refine o_movp rfl rfl ?_ | refine o_mova rfl rfl ?_ | refine o_mov rfl rfl ?_
            first | refine o_movd rfl rfl ?_ | refine o_movp rfl rfl ?_ | refine o_mova rfl rfl ?_ | refine o_mov rfl rfl ?_
            refine o_lenS rfl rfl ?_
            first | refine o_geqn rfl rfl rfl ?_ | refine o_bin rfl rfl rfl rfl ?_
            refine op_nil ?_
            first | refine wp_if rfl ?_ ?_ <;> intro hq_ | refine wp_cond rfl ?_ ?_ <;> intro hq_
            ·first
             | exfalso; omega
             |skip
              refine wp_seq ?_
              refine wp_ops ?_
              refine o_build (cs := clsC 0) rfl rfl ?_
              first | (refine o_scls (k := 0) rfl rfl rfl (rfget0 _ _ _) rfl (rfset0 _ _ _ _) ?_) | (refine o_scls rfl rfl rfl (rfget1 _ _ _ _) rfl (rfset1 _ _ _ _ _) ?_) | (refine o_scls rfl rfl rfl (rfget0 _ _ _) rfl (rfset0 _ _ _ _) ?_)
              first | refine o_asgd rfl rfl ?_ | refine o_asgo rfl rfl ?_ | refine o_asg rfl rfl (fun _ h_ => by cases h_) ?_
              first | refine o_asgd rfl rfl ?_ | refine o_asgo rfl rfl ?_ | refine o_asg rfl rfl (fun _ h_ => by cases h_) ?_
              refine op_nil ?_
              refine wp_ret ?_
              refine bx_ret ?_
              refine bx_ret ?_
              refine end_read rfl rfl rfl (rfget0 _ _ _) rfl rfl ?_ (by simp)
              first
              | (
                have hR2 : R = itms s f i k := by
                 rw [hR]
                 first
                 | exact if_pos rfl
                 | (rw [if_neg (by decide), if_neg (by rw [hit_some hx_]; simp; omega)])
                rw [hR2, lf1 hf (by assumption)]; rfl)
              | (
                have hR2 : R = itms s f i k := by
                 rw [hR]
                 first
                 | exact if_pos rfl
                 | (rw [if_neg (by decide), if_neg (by rw [hit_some hx_]; simp; omega)])
                rw [hR2, lf2 hf (by assumption) (by rw [hit_some hy_]; exact decide_eq_true (by omega)) (by assumption)]; rfl)
              | (
                have hR2 : R = itms s f i k := by
                 rw [hR]
                 first
                 | exact if_pos rfl
                 | (rw [if_neg (by decide), if_neg (by rw [hit_some hx_]; simp; omega)])
                rw [hR2, lf3 hf (by assumption) (by rw [hit_some hy_]; exact decide_eq_true (by omega)) (by assumption) (by assumption)]; rfl)
              | (
                have hR2 : R = itms s f i k := by
                 rw [hR]
                 first
                 | exact if_pos rfl
                 | (rw [if_neg (by decide), if_neg (by rw [hit_some hx_]; simp; omega)])
                rw [hR2, lf4 hf (by assumption) (by rw [hit_some hy_]; exact decide_eq_true (by omega)) (by assumption) (by assumption), lfe (by omega)]; rfl)
              | (
                have hR2 : R = itms s f i k := by
                 rw [hR]
                 first
                 | exact if_pos rfl
                 | (rw [if_neg (by decide), if_neg (by rw [hit_some hx_]; simp; omega)])
                rw [hR2, lf6 hf (by assumption) (by first | exact hit_none (by omega) | (rw [hit_some hy_]; exact decide_eq_false (by omega))), lfe (by omega)]; rfl)
              | (
                have hR3 : R = some (k, i + 1) := by rw [hR, if_neg (by decide), if_pos (by rw [hit_some hx_]; exact decide_eq_true (by omega))]
                rw [hR3]; simp_all [fin, readA, spanN]; done)
              | trace_state
            ·first
             | exfalso; omega
             |skip
              refine wp_skip ?_
              refine keepN (by (simp +decide only [Slots.keep, Slots.get, reduceIte]); exact rfl) ?_
              have hR2 : R = itms s f i k := by
               rw [hR]
               first
               | exact if_pos rfl
               | (rw [if_neg (by decide), if_neg (by rw [hit_some hx_]; simp; omega)])
              have p1 := sn_pos (s := s.drop i) (by assumption)
              first
              | (
                have p2 := sn_pos (s := s.drop (i + sn (sign (s.drop i)) + 1)) (by assumption)
                have hR4 := hR2.trans (lf4 hf (by assumption) (by rw [hit_some hy_]; exact decide_eq_true (by omega)) (by assumption) (by assumption))
                refine ⟨by simp, _, ?_, false, _, _, f - 1, rfl, ?_, fun _ => ?_, ?_, hR4.trans (if_neg (by decide)).symm, rfl⟩ <;> omega)
              | (
                have hR4 := hR2.trans (lf6 hf (by assumption) (by first | exact hit_none (by omega) | (rw [hit_some hy_]; exact decide_eq_false (by omega))))
                refine ⟨by simp, _, ?_, false, _, _, f - 1, rfl, ?_, fun _ => ?_, ?_, hR4.trans (if_neg (by decide)).symm, rfl⟩ <;> omega)
end Go.Ab.R04
