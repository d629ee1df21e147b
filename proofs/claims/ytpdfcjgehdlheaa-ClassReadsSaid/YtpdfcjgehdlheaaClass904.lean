/- The plain answer for a sign. -/
import Derived.Test.YtpdfcjgehdlheaaClass804
namespace Go.Ab.R04
set_option maxRecDepth 100000
set_option linter.all false
set_option maxHeartbeats 4000000
variable {T : Tb} [hT : Base T]

theorem rDigit_n {c : UInt8} {n : Int} (h : digit c.toNat = n) (rf : Refs) : Ev T f_ref01_Digit [u8 c.toNat] rf (.ret (i64 n)) rf := by
  rw [← h]; exact refDigit_ev _ c.toNat_lt rf

section
variable {sl : Slots} {rf : Refs} {df : List (AV × List AV)} {pn : Option (Option AV)} {nb : Nat} {N : St → Prop} {X : Ex → St → Prop} {r : List AOp} {d : Nat} {g : Option (Nat × Bool)} {may : Bool}
theorem o_rdigit {as : List Opd} {c : UInt8} (hg : wantedL sl g = some true) (ha : (getOs sl as).map AV.bares = some [u8 c.toNat])
    (h : ∀ n : Int, digit c.toNat = n → n < 16 → OP T r ⟨(d, i64 n) :: sl, rf, df, pn, nb⟩ N X) : OP T (⟨some d, .call (.f f_ref01_Digit) as, g, may⟩ :: r) ⟨sl, rf, df, pn, nb⟩ N X :=
  o_call hg rfl ha (rDigit_n rfl rf) (h _ rfl digit_lt)
end

theorem mem_badB (c : UInt8) : c ∈ badB ↔ (c.toNat = 10 ∨ c.toNat = 93 ∨ c.toNat = 91 ∨ c.toNat = 94 ∨ c.toNat = 45) := by
  simp only [badB, List.mem_cons, List.not_mem_nil, or_false, ← UInt8.toNat_inj]
  rfl

theorem sg_none {s : List UInt8} (h : s.length < 1) : signA (sign s) = .tup [u8 0, i64 (0 : Nat), i64 (2 : Nat)] := by
  have : s = [] := by cases s <;> simp_all
  subst this; rfl
theorem sg_bad {s : List UInt8} {c : UInt8} (h : s[0]? = some c) (hb : c.toNat = 10 ∨ c.toNat = 93 ∨ c.toNat = 91 ∨ c.toNat = 94 ∨ c.toNat = 45) : signA (sign s) = .tup [u8 0, i64 (0 : Nat), i64 (2 : Nat)] := by
  simp only [sign, h, if_pos ((mem_badB c).2 hb), if_pos (show c.toNat ≠ 92 by omega)]; rfl
theorem sg_one {s : List UInt8} {c : UInt8} (h : s[0]? = some c) (hn : c.toNat ≠ 92) (hb : ¬ (c.toNat = 10 ∨ c.toNat = 93 ∨ c.toNat = 91 ∨ c.toNat = 94 ∨ c.toNat = 45)) : signA (sign s) = .tup [u8 c.toNat, i64 (1 : Nat), i64 (0 : Nat)] := by
  simp only [sign, h, if_neg (fun x => hb ((mem_badB c).1 x)), if_pos hn]; rfl
theorem sg_short {s : List UInt8} {c : UInt8} (h : s[0]? = some c) (hn : c.toNat = 92) (hl : s.length < 2) : signA (sign s) = .tup [u8 0, i64 (0 : Nat), i64 (2 : Nat)] := by
  simp only [sign, h, if_neg (show ¬ c.toNat ≠ 92 by omega), List.getElem?_eq_none (show s.length ≤ 1 by omega)]; rfl
theorem sg_named {s : List UInt8} {c e : UInt8} (h : s[0]? = some c) (hn : c.toNat = 92) (he : s[1]? = some e) (hm : e ∈ named) : signA (sign s) = .tup [u8 e.toNat, i64 (2 : Nat), i64 (0 : Nat)] := by
  simp only [sign, h, if_neg (show ¬ c.toNat ≠ 92 by omega), he, if_pos hm]; rfl
theorem sg_form {s : List UInt8} {c e : UInt8} (h : s[0]? = some c) (hn : c.toNat = 92) (he : s[1]? = some e) (hm : e ∉ named)
    (hx : s.length < 4 ∨ e.toNat ≠ 120 ∨ (∃ a, s[2]? = some a ∧ digit a.toNat < 0) ∨ (∃ a, s[3]? = some a ∧ digit a.toNat < 0)) : signA (sign s) = .tup [u8 0, i64 (0 : Nat), i64 (2 : Nat)] := by
  simp only [sign, h, if_neg (show ¬ c.toNat ≠ 92 by omega), he, if_neg hm]
  rcases h2 : s[2]? with _ | a
  · rfl
  rcases h3 : s[3]? with _ | b
  · rfl
  simp only
  have h4 : 3 < s.length := (List.getElem?_eq_some_iff.1 h3).1
  rw [if_neg]
  · rfl
  rintro ⟨p, q, r⟩
  rcases hx with hx | hx | ⟨a', ha, hx⟩ | ⟨a', ha, hx⟩
  · omega
  · exact hx p
  · rw [h2] at ha; cases ha; omega
  · rw [h3] at ha; cases ha; omega
theorem sg_hex {s : List UInt8} {c e a b : UInt8} {x y : Nat} (h : s[0]? = some c) (hn : c.toNat = 92) (he : s[1]? = some e) (hm : e ∉ named) (hx : e.toNat = 120) (h2 : s[2]? = some a) (h3 : s[3]? = some b) (ha : digit a.toNat = (x : Int)) (hb : digit b.toNat = (y : Int)) :
    signA (sign s) = .tup [u8 (16 * x + y), i64 (4 : Nat), i64 (0 : Nat)] := by
  rw [sign_ok' h hn he hm hx h2 h3 ha hb]; rfl

theorem rSign_ev (s : List UInt8) (rf : Refs) : Ev T f_ref04_Sign [str s] rf (.ret (signA (sign s))) rf := by
  refine ev_callB rfl rfl ?_
  refine wp_seq ?_
  refine wp_ops ?_
  first | refine o_asgd rfl rfl ?_ | refine o_asgo rfl rfl ?_ | refine o_asg rfl rfl (fun _ h_ => by cases h_) ?_
  first | refine o_asgd rfl rfl ?_ | refine o_asgo rfl rfl ?_ | refine o_asg rfl rfl (fun _ h_ => by cases h_) ?_
  first | refine o_asgd rfl rfl ?_ | refine o_asgo rfl rfl ?_ | refine o_asg rfl rfl (fun _ h_ => by cases h_) ?_
  refine op_nil ?_
  refine wp_seq ?_
  refine wp_seq ?_
  refine wp_ops ?_
  first | refine o_movd rfl rfl ?_ | refine o_movp rfl rfl ?_ | refine o_mova rfl rfl ?_ | refine o_mov rfl rfl ?_
  refine o_lenS rfl rfl ?_
  first | refine o_lssn rfl rfl rfl ?_ | refine o_bin rfl rfl rfl rfl ?_
  refine op_nil ?_
  first | refine wp_if rfl ?_ ?_ <;> intro hq_ | refine wp_cond rfl ?_ ?_ <;> intro hq_
  · first
    | exfalso; omega
    | skip
      refine wp_seq ?_
      refine wp_ops ?_
      first | refine o_asgd rfl rfl ?_ | refine o_asgo rfl rfl ?_ | refine o_asg rfl rfl (fun _ h_ => by cases h_) ?_
      first | refine o_asgd rfl rfl ?_ | refine o_asgo rfl rfl ?_ | refine o_asg rfl rfl (fun _ h_ => by cases h_) ?_
      first | refine o_asgd rfl rfl ?_ | refine o_asgo rfl rfl ?_ | refine o_asg rfl rfl (fun _ h_ => by cases h_) ?_
      refine op_nil ?_
      refine wp_ret ?_
      refine end3 rfl rfl rfl rfl rfl ?_ (by first | rfl | simp)
      first
      | exact congrArg Out.ret (sg_none (s := s) (by omega))
      | exact congrArg Out.ret (sg_bad hc_ (by omega))
      | exact congrArg Out.ret (sg_one hc_ (by omega) (by omega))
      | exact congrArg Out.ret (sg_short hc_ (by omega) (by omega))
      | trace_state
  · first
    | exfalso; omega
    | skip
      refine wp_skip ?_
      refine wp_seq ?_
      refine wp_ops ?_
      first | refine o_movd rfl rfl ?_ | refine o_movp rfl rfl ?_ | refine o_mova rfl rfl ?_ | refine o_mov rfl rfl ?_
      (have hlen0_ : 0 < s.length := (by omega); obtain ⟨c_, hc_⟩ := getS hlen0_; refine o_idxS rfl rfl rfl rfl hc_ ?_)
      first | refine o_asgd rfl rfl ?_ | refine o_asgo rfl rfl ?_ | refine o_asg rfl rfl (fun _ h_ => by cases h_) ?_
      refine op_nil ?_
      refine wp_seq ?_
      refine wp_seq ?_
      refine wp_ops ?_
      first | refine o_movd rfl rfl ?_ | refine o_movp rfl rfl ?_ | refine o_mova rfl rfl ?_ | refine o_mov rfl rfl ?_
      first | refine o_eqln rfl rfl rfl ?_ | refine o_eqs rfl rfl rfl ?_ | refine o_bin rfl rfl rfl rfl ?_
      first | refine o_movd rfl rfl ?_ | refine o_movp rfl rfl ?_ | refine o_mova rfl rfl ?_ | refine o_mov rfl rfl ?_
      refine o_ifp rfl ?_ ?_ <;> intro hq_ hg_ <;> simp only [hg_] <;> clear hg_
      · first
        | exfalso; omega
        | skip
          refine o_skip rfl ?_
          refine o_skip rfl ?_
          refine o_pickt rfl rfl rfl ?_
          first | refine o_movd rfl rfl ?_ | refine o_movp rfl rfl ?_ | refine o_mova rfl rfl ?_ | refine o_mov rfl rfl ?_
          refine o_skip rfl ?_
          refine o_skip rfl ?_
          refine o_pickt rfl rfl rfl ?_
          first | refine o_movd rfl rfl ?_ | refine o_movp rfl rfl ?_ | refine o_mova rfl rfl ?_ | refine o_mov rfl rfl ?_
          refine o_skip rfl ?_
          refine o_skip rfl ?_
          refine o_pickt rfl rfl rfl ?_
          first | refine o_movd rfl rfl ?_ | refine o_movp rfl rfl ?_ | refine o_mova rfl rfl ?_ | refine o_mov rfl rfl ?_
          refine o_skip rfl ?_
          refine o_skip rfl ?_
          refine o_pickt rfl rfl rfl ?_
          refine op_nil ?_
          refine wp_cond rfl (fun _ => ?_) (fun h_ => absurd h_ (by decide))
          refine wp_seq ?_
          refine wp_ops ?_
          first | refine o_asgd rfl rfl ?_ | refine o_asgo rfl rfl ?_ | refine o_asg rfl rfl (fun _ h_ => by cases h_) ?_
          first | refine o_asgd rfl rfl ?_ | refine o_asgo rfl rfl ?_ | refine o_asg rfl rfl (fun _ h_ => by cases h_) ?_
          first | refine o_asgd rfl rfl ?_ | refine o_asgo rfl rfl ?_ | refine o_asg rfl rfl (fun _ h_ => by cases h_) ?_
          refine op_nil ?_
          refine wp_ret ?_
          refine end3 rfl rfl rfl rfl rfl ?_ (by first | rfl | simp)
          first
          | exact congrArg Out.ret (sg_none (s := s) (by omega))
          | exact congrArg Out.ret (sg_bad hc_ (by omega))
          | exact congrArg Out.ret (sg_one hc_ (by omega) (by omega))
          | exact congrArg Out.ret (sg_short hc_ (by omega) (by omega))
          | trace_state
      · first
        | exfalso; omega
        | skip
          first | refine o_movd rfl rfl ?_ | refine o_movp rfl rfl ?_ | refine o_mova rfl rfl ?_ | refine o_mov rfl rfl ?_
          first | refine o_eqln rfl rfl rfl ?_ | refine o_eqs rfl rfl rfl ?_ | refine o_bin rfl rfl rfl rfl ?_
          refine o_pickf rfl rfl rfl ?_
          first | refine o_movd rfl rfl ?_ | refine o_movp rfl rfl ?_ | refine o_mova rfl rfl ?_ | refine o_mov rfl rfl ?_
          refine o_ifp rfl ?_ ?_ <;> intro hq_ hg_ <;> simp only [hg_] <;> clear hg_
          · first
            | exfalso; omega
            | skip
              refine o_skip rfl ?_
              refine o_skip rfl ?_
              refine o_pickt rfl rfl rfl ?_
              first | refine o_movd rfl rfl ?_ | refine o_movp rfl rfl ?_ | refine o_mova rfl rfl ?_ | refine o_mov rfl rfl ?_
              refine o_skip rfl ?_
              refine o_skip rfl ?_
              refine o_pickt rfl rfl rfl ?_
              first | refine o_movd rfl rfl ?_ | refine o_movp rfl rfl ?_ | refine o_mova rfl rfl ?_ | refine o_mov rfl rfl ?_
              refine o_skip rfl ?_
              refine o_skip rfl ?_
              refine o_pickt rfl rfl rfl ?_
              refine op_nil ?_
              refine wp_cond rfl (fun _ => ?_) (fun h_ => absurd h_ (by decide))
              refine wp_seq ?_
              refine wp_ops ?_
              first | refine o_asgd rfl rfl ?_ | refine o_asgo rfl rfl ?_ | refine o_asg rfl rfl (fun _ h_ => by cases h_) ?_
              first | refine o_asgd rfl rfl ?_ | refine o_asgo rfl rfl ?_ | refine o_asg rfl rfl (fun _ h_ => by cases h_) ?_
              first | refine o_asgd rfl rfl ?_ | refine o_asgo rfl rfl ?_ | refine o_asg rfl rfl (fun _ h_ => by cases h_) ?_
              refine op_nil ?_
              refine wp_ret ?_
              refine end3 rfl rfl rfl rfl rfl ?_ (by first | rfl | simp)
              first
              | exact congrArg Out.ret (sg_none (s := s) (by omega))
              | exact congrArg Out.ret (sg_bad hc_ (by omega))
              | exact congrArg Out.ret (sg_one hc_ (by omega) (by omega))
              | exact congrArg Out.ret (sg_short hc_ (by omega) (by omega))
              | trace_state
          · first
            | exfalso; omega
            | skip
              first | refine o_movd rfl rfl ?_ | refine o_movp rfl rfl ?_ | refine o_mova rfl rfl ?_ | refine o_mov rfl rfl ?_
              first | refine o_eqln rfl rfl rfl ?_ | refine o_eqs rfl rfl rfl ?_ | refine o_bin rfl rfl rfl rfl ?_
              refine o_pickf rfl rfl rfl ?_
              first | refine o_movd rfl rfl ?_ | refine o_movp rfl rfl ?_ | refine o_mova rfl rfl ?_ | refine o_mov rfl rfl ?_
              refine o_ifp rfl ?_ ?_ <;> intro hq_ hg_ <;> simp only [hg_] <;> clear hg_
              · first
                | exfalso; omega
                | skip
                  refine o_skip rfl ?_
                  refine o_skip rfl ?_
                  refine o_pickt rfl rfl rfl ?_
                  first | refine o_movd rfl rfl ?_ | refine o_movp rfl rfl ?_ | refine o_mova rfl rfl ?_ | refine o_mov rfl rfl ?_
                  refine o_skip rfl ?_
                  refine o_skip rfl ?_
                  refine o_pickt rfl rfl rfl ?_
                  refine op_nil ?_
                  refine wp_cond rfl (fun _ => ?_) (fun h_ => absurd h_ (by decide))
                  refine wp_seq ?_
                  refine wp_ops ?_
                  first | refine o_asgd rfl rfl ?_ | refine o_asgo rfl rfl ?_ | refine o_asg rfl rfl (fun _ h_ => by cases h_) ?_
                  first | refine o_asgd rfl rfl ?_ | refine o_asgo rfl rfl ?_ | refine o_asg rfl rfl (fun _ h_ => by cases h_) ?_
                  first | refine o_asgd rfl rfl ?_ | refine o_asgo rfl rfl ?_ | refine o_asg rfl rfl (fun _ h_ => by cases h_) ?_
                  refine op_nil ?_
                  refine wp_ret ?_
                  refine end3 rfl rfl rfl rfl rfl ?_ (by first | rfl | simp)
                  first
                  | exact congrArg Out.ret (sg_none (s := s) (by omega))
                  | exact congrArg Out.ret (sg_bad hc_ (by omega))
                  | exact congrArg Out.ret (sg_one hc_ (by omega) (by omega))
                  | exact congrArg Out.ret (sg_short hc_ (by omega) (by omega))
                  | trace_state
              · first
                | exfalso; omega
                | skip
                  first | refine o_movd rfl rfl ?_ | refine o_movp rfl rfl ?_ | refine o_mova rfl rfl ?_ | refine o_mov rfl rfl ?_
                  first | refine o_eqln rfl rfl rfl ?_ | refine o_eqs rfl rfl rfl ?_ | refine o_bin rfl rfl rfl rfl ?_
                  refine o_pickf rfl rfl rfl ?_
                  first | refine o_movd rfl rfl ?_ | refine o_movp rfl rfl ?_ | refine o_mova rfl rfl ?_ | refine o_mov rfl rfl ?_
                  refine o_ifp rfl ?_ ?_ <;> intro hq_ hg_ <;> simp only [hg_] <;> clear hg_
                  · first
                    | exfalso; omega
                    | skip
                      refine o_skip rfl ?_
                      refine o_skip rfl ?_
                      refine o_pickt rfl rfl rfl ?_
                      refine op_nil ?_
                      refine wp_cond rfl (fun _ => ?_) (fun h_ => absurd h_ (by decide))
                      refine wp_seq ?_
                      refine wp_ops ?_
                      first | refine o_asgd rfl rfl ?_ | refine o_asgo rfl rfl ?_ | refine o_asg rfl rfl (fun _ h_ => by cases h_) ?_
                      first | refine o_asgd rfl rfl ?_ | refine o_asgo rfl rfl ?_ | refine o_asg rfl rfl (fun _ h_ => by cases h_) ?_
                      first | refine o_asgd rfl rfl ?_ | refine o_asgo rfl rfl ?_ | refine o_asg rfl rfl (fun _ h_ => by cases h_) ?_
                      refine op_nil ?_
                      refine wp_ret ?_
                      refine end3 rfl rfl rfl rfl rfl ?_ (by first | rfl | simp)
                      first
                      | exact congrArg Out.ret (sg_none (s := s) (by omega))
                      | exact congrArg Out.ret (sg_bad hc_ (by omega))
                      | exact congrArg Out.ret (sg_one hc_ (by omega) (by omega))
                      | exact congrArg Out.ret (sg_short hc_ (by omega) (by omega))
                      | trace_state
                  · first
                    | exfalso; omega
                    | skip
                      first | refine o_movd rfl rfl ?_ | refine o_movp rfl rfl ?_ | refine o_mova rfl rfl ?_ | refine o_mov rfl rfl ?_
                      first | refine o_eqln rfl rfl rfl ?_ | refine o_eqs rfl rfl rfl ?_ | refine o_bin rfl rfl rfl rfl ?_
                      refine o_pickf rfl rfl rfl ?_
                      refine op_nil ?_
                      first | refine wp_if rfl ?_ ?_ <;> intro hq_ | refine wp_cond rfl ?_ ?_ <;> intro hq_
                      · first
                        | exfalso; omega
                        | skip
                          refine wp_seq ?_
                          refine wp_ops ?_
                          first | refine o_asgd rfl rfl ?_ | refine o_asgo rfl rfl ?_ | refine o_asg rfl rfl (fun _ h_ => by cases h_) ?_
                          first | refine o_asgd rfl rfl ?_ | refine o_asgo rfl rfl ?_ | refine o_asg rfl rfl (fun _ h_ => by cases h_) ?_
                          first | refine o_asgd rfl rfl ?_ | refine o_asgo rfl rfl ?_ | refine o_asg rfl rfl (fun _ h_ => by cases h_) ?_
                          refine op_nil ?_
                          refine wp_ret ?_
                          refine end3 rfl rfl rfl rfl rfl ?_ (by first | rfl | simp)
                          first
                          | exact congrArg Out.ret (sg_none (s := s) (by omega))
                          | exact congrArg Out.ret (sg_bad hc_ (by omega))
                          | exact congrArg Out.ret (sg_one hc_ (by omega) (by omega))
                          | exact congrArg Out.ret (sg_short hc_ (by omega) (by omega))
                          | trace_state
                      · first
                        | exfalso; omega
                        | skip
                          refine wp_skip ?_
                          refine wp_seq ?_
                          refine wp_seq ?_
                          refine wp_ops ?_
                          first | refine o_movd rfl rfl ?_ | refine o_movp rfl rfl ?_ | refine o_mova rfl rfl ?_ | refine o_mov rfl rfl ?_
                          first | refine o_neqn rfl rfl rfl ?_ | refine o_nes rfl rfl rfl ?_ | refine o_bin rfl rfl rfl rfl ?_
                          refine op_nil ?_
                          first | refine wp_if rfl ?_ ?_ <;> intro hq_ | refine wp_cond rfl ?_ ?_ <;> intro hq_
                          · first
                            | exfalso; omega
                            | skip
                              refine wp_seq ?_
                              refine wp_ops ?_
                              first | refine o_movd rfl rfl ?_ | refine o_movp rfl rfl ?_ | refine o_mova rfl rfl ?_ | refine o_mov rfl rfl ?_
                              first | refine o_asgd rfl rfl ?_ | refine o_asgo rfl rfl ?_ | refine o_asg rfl rfl (fun _ h_ => by cases h_) ?_
                              first | refine o_asgd rfl rfl ?_ | refine o_asgo rfl rfl ?_ | refine o_asg rfl rfl (fun _ h_ => by cases h_) ?_
                              first | refine o_asgd rfl rfl ?_ | refine o_asgo rfl rfl ?_ | refine o_asg rfl rfl (fun _ h_ => by cases h_) ?_
                              refine op_nil ?_
                              refine wp_ret ?_
                              refine end3 rfl rfl rfl rfl rfl ?_ (by first | rfl | simp)
                              first
                              | exact congrArg Out.ret (sg_none (s := s) (by omega))
                              | exact congrArg Out.ret (sg_bad hc_ (by omega))
                              | exact congrArg Out.ret (sg_one hc_ (by omega) (by omega))
                              | exact congrArg Out.ret (sg_short hc_ (by omega) (by omega))
                              | trace_state
                          · first
                            | exfalso; omega
                            | skip
                              refine wp_skip ?_
                              refine wp_seq ?_
                              refine wp_seq ?_
                              refine wp_ops ?_
                              first | refine o_movd rfl rfl ?_ | refine o_movp rfl rfl ?_ | refine o_mova rfl rfl ?_ | refine o_mov rfl rfl ?_
                              refine o_lenS rfl rfl ?_
                              first | refine o_lssn rfl rfl rfl ?_ | refine o_bin rfl rfl rfl rfl ?_
                              refine op_nil ?_
                              first | refine wp_if rfl ?_ ?_ <;> intro hq_ | refine wp_cond rfl ?_ ?_ <;> intro hq_
                              · first
                                | exfalso; omega
                                | skip
                                  refine wp_seq ?_
                                  refine wp_ops ?_
                                  first | refine o_asgd rfl rfl ?_ | refine o_asgo rfl rfl ?_ | refine o_asg rfl rfl (fun _ h_ => by cases h_) ?_
                                  first | refine o_asgd rfl rfl ?_ | refine o_asgo rfl rfl ?_ | refine o_asg rfl rfl (fun _ h_ => by cases h_) ?_
                                  first | refine o_asgd rfl rfl ?_ | refine o_asgo rfl rfl ?_ | refine o_asg rfl rfl (fun _ h_ => by cases h_) ?_
                                  refine op_nil ?_
                                  refine wp_ret ?_
                                  refine end3 rfl rfl rfl rfl rfl ?_ (by first | rfl | simp)
                                  first
                                  | exact congrArg Out.ret (sg_none (s := s) (by omega))
                                  | exact congrArg Out.ret (sg_bad hc_ (by omega))
                                  | exact congrArg Out.ret (sg_one hc_ (by omega) (by omega))
                                  | exact congrArg Out.ret (sg_short hc_ (by omega) (by omega))
                                  | trace_state
                              · first
                                | exfalso; omega
                                | skip
                                  refine wp_skip ?_
                                  refine wp_seq ?_
                                  refine wp_ops ?_
                                  first | refine o_asgd rfl rfl ?_ | refine o_asgo rfl rfl ?_ | refine o_asg rfl rfl (fun _ h_ => by cases h_) ?_
                                  refine op_nil ?_
                                  refine wp_seq ?_
                                  refine wp_seq ?_
                                  refine wp_ops ?_
                                  first | refine o_asgd rfl rfl ?_ | refine o_asgo rfl rfl ?_ | refine o_asg rfl rfl (fun _ h_ => by cases h_) ?_
                                  refine op_nil ?_
                                  refine wp_keep ?_
                                  refine wp_block ?_
                                  have h92 : c_.toNat = 92 := by omega
                                  have hlen1_ : 1 < s.length := by omega
                                  obtain ⟨e, he⟩ := getS hlen1_
                                  refine wp_loop (m := 16) (fun k st => ∃ i : Nat, i + k = 16 ∧ (∀ j, j < i → ∀ x : UInt8, named[j]? = some x → e.toNat ≠ x.toNat) ∧ st = ⟨[(0, str s), (6, str named), (7, i64 i)], rf, [], none, rf.length⟩) ⟨0, by omega, fun j hj => absurd hj (by omega), rfl⟩ ?_
                                  rintro k st ⟨i, hik, hno, rfl⟩ -
                                  refine wp_seq ?_
                                  refine wp_seq ?_
                                  refine wp_ops ?_
                                  first | refine o_movd rfl rfl ?_ | refine o_movp rfl rfl ?_ | refine o_mova rfl rfl ?_ | refine o_mov rfl rfl ?_
                                  first | refine o_movd rfl rfl ?_ | refine o_movp rfl rfl ?_ | refine o_mova rfl rfl ?_ | refine o_mov rfl rfl ?_
                                  refine o_lenS rfl rfl ?_
                                  first | refine o_lssn rfl rfl rfl ?_ | refine o_bin rfl rfl rfl rfl ?_
                                  refine op_nil ?_
                                  first | refine wp_if rfl ?_ ?_ <;> intro hq_ | refine wp_cond rfl ?_ ?_ <;> intro hq_
                                  · first
                                    | exfalso; omega
                                    | skip
                                      refine wp_skip ?_
                                      refine wp_seq ?_
                                      refine wp_keep ?_
                                      refine wp_block ?_
                                      refine wp_seq ?_
                                      refine wp_ops ?_
                                      first | refine o_movd rfl rfl ?_ | refine o_movp rfl rfl ?_ | refine o_mova rfl rfl ?_ | refine o_mov rfl rfl ?_
                                      refine o_idxS (m := 1) rfl rfl rfl rfl he ?_
                                      first | refine o_movd rfl rfl ?_ | refine o_movp rfl rfl ?_ | refine o_mova rfl rfl ?_ | refine o_mov rfl rfl ?_
                                      first | refine o_movd rfl rfl ?_ | refine o_movp rfl rfl ?_ | refine o_mova rfl rfl ?_ | refine o_mov rfl rfl ?_
                                      (obtain ⟨x, hx⟩ := getS (s := named) (m := i) hq_; refine o_idxS (m := i) rfl rfl rfl rfl hx ?_)
                                      first | refine o_eqln rfl rfl rfl ?_ | refine o_eqs rfl rfl rfl ?_ | refine o_bin rfl rfl rfl rfl ?_
                                      refine op_nil ?_
                                      first | refine wp_if rfl ?_ ?_ <;> intro hq_ | refine wp_cond rfl ?_ ?_ <;> intro hq_
                                      · first
                                        | exfalso; omega
                                        | skip
                                          refine wp_seq ?_
                                          refine wp_ops ?_
                                          first | refine o_movd rfl rfl ?_ | refine o_movp rfl rfl ?_ | refine o_mova rfl rfl ?_ | refine o_mov rfl rfl ?_
                                          refine o_idxS (m := 1) rfl rfl rfl rfl he ?_
                                          first | refine o_asgd rfl rfl ?_ | refine o_asgo rfl rfl ?_ | refine o_asg rfl rfl (fun _ h_ => by cases h_) ?_
                                          first | refine o_asgd rfl rfl ?_ | refine o_asgo rfl rfl ?_ | refine o_asg rfl rfl (fun _ h_ => by cases h_) ?_
                                          first | refine o_asgd rfl rfl ?_ | refine o_asgo rfl rfl ?_ | refine o_asg rfl rfl (fun _ h_ => by cases h_) ?_
                                          refine op_nil ?_
                                          refine wp_ret ?_
                                          refine bx_ret ?_
                                          refine bx_ret ?_
                                          refine end3 rfl rfl rfl rfl rfl ?_ (by first | rfl | simp)
                                          have hmem : i = 16 → e ∉ named := fun hi hm => by
                                            obtain ⟨j, hj, hjx⟩ := List.getElem_of_mem hm
                                            exact hno j (by rw [hi]; exact hj) e (by rw [List.getElem?_eq_getElem hj, hjx]) rfl
                                          have h16 : i < 16 ∨ i = 16 := by omega
                                          have h16' : ¬ i < named.length → i = 16 := fun h => by have : named.length = 16 := rfl; omega
                                          first
                                          | exact congrArg Out.ret (sg_named hc_ h92 he (by have := UInt8.toNat_inj.1 hq_; subst this; exact List.mem_of_getElem? hx))
                                          | exact congrArg Out.ret (sg_form hc_ h92 he (hmem (h16' (by assumption))) (.inl (by omega)))
                                          | exact congrArg Out.ret (sg_form hc_ h92 he (hmem (h16' (by assumption))) (.inr (.inl (by omega))))
                                          | exact congrArg Out.ret (sg_form hc_ h92 he (hmem (h16' (by assumption))) (.inr (.inr (.inl ⟨_, ha, by omega⟩))))
                                          | exact congrArg Out.ret (sg_form hc_ h92 he (hmem (h16' (by assumption))) (.inr (.inr (.inr ⟨_, hb, by omega⟩))))
                                          | exact congrArg Out.ret (sg_hex hc_ h92 he (hmem (h16' (by assumption))) (by omega) ha hb hx_ hy_)
                                          | trace_state
                                      · first
                                        | exfalso; omega
                                        | skip
                                          refine wp_skip ?_
                                          refine keepN (by (simp +decide only [Slots.keep, Slots.get, reduceIte]); exact rfl) ?_
                                          refine wp_ops ?_
                                          first | refine o_movd rfl rfl ?_ | refine o_movp rfl rfl ?_ | refine o_mova rfl rfl ?_ | refine o_mov rfl rfl ?_
                                          first | refine o_addkn rfl rfl rfl (by decide) (by (first | omega | (simp only [m64, mU, m8, n64, nU, n8, b64, bU, b8]; omega))) ?_ | refine o_cat rfl rfl rfl (by (first | omega | (simp only [m64, mU, m8, n64, nU, n8, b64, bU, b8]; omega))) ?_ | refine o_add rfl rfl rfl rfl (by omega) (by omega) ?_
                                          first | refine o_asgd rfl rfl ?_ | refine o_asgo rfl rfl ?_ | refine o_asg rfl rfl (fun _ h_ => by cases h_) ?_
                                          refine op_nil ?_
                                          have hne := hq_
                                          have hi16 : i < 16 := (List.getElem?_eq_some_iff.1 hx).1
                                          refine ⟨rfl, k - 1, by omega, i + 1, by omega, fun j hj y hy => ?_, rfl⟩
                                          rcases Nat.lt_succ_iff_lt_or_eq.1 hj with h | h
                                          · exact hno j h y hy
                                          · subst h; rw [hx] at hy; cases hy; exact hne
                                  · first
                                    | exfalso; omega
                                    | skip
                                      refine wp_exit ?_
                                      refine bx_here ?_
                                      refine keepN (by (simp +decide only [Slots.keep, Slots.get, reduceIte]); exact rfl) ?_
                                      refine wp_seq ?_
                                      refine wp_seq ?_
                                      refine wp_ops ?_
                                      first | refine o_movd rfl rfl ?_ | refine o_movp rfl rfl ?_ | refine o_mova rfl rfl ?_ | refine o_mov rfl rfl ?_
                                      refine o_lenS rfl rfl ?_
                                      first | refine o_lssn rfl rfl rfl ?_ | refine o_bin rfl rfl rfl rfl ?_
                                      first | refine o_movd rfl rfl ?_ | refine o_movp rfl rfl ?_ | refine o_mova rfl rfl ?_ | refine o_mov rfl rfl ?_
                                      refine o_ifp rfl ?_ ?_ <;> intro hq_ hg_ <;> simp only [hg_] <;> clear hg_
                                      · first
                                        | exfalso; omega
                                        | skip
                                          refine o_skip rfl ?_
                                          refine o_skip rfl ?_
                                          refine o_skip rfl ?_
                                          refine o_pickt rfl rfl rfl ?_
                                          refine op_nil ?_
                                          refine wp_cond rfl (fun _ => ?_) (fun h_ => absurd h_ (by decide))
                                          refine wp_seq ?_
                                          refine wp_ops ?_
                                          first | refine o_asgd rfl rfl ?_ | refine o_asgo rfl rfl ?_ | refine o_asg rfl rfl (fun _ h_ => by cases h_) ?_
                                          first | refine o_asgd rfl rfl ?_ | refine o_asgo rfl rfl ?_ | refine o_asg rfl rfl (fun _ h_ => by cases h_) ?_
                                          first | refine o_asgd rfl rfl ?_ | refine o_asgo rfl rfl ?_ | refine o_asg rfl rfl (fun _ h_ => by cases h_) ?_
                                          refine op_nil ?_
                                          refine wp_ret ?_
                                          refine end3 rfl rfl rfl rfl rfl ?_ (by first | rfl | simp)
                                          have hmem : i = 16 → e ∉ named := fun hi hm => by
                                            obtain ⟨j, hj, hjx⟩ := List.getElem_of_mem hm
                                            exact hno j (by rw [hi]; exact hj) e (by rw [List.getElem?_eq_getElem hj, hjx]) rfl
                                          have h16 : i < 16 ∨ i = 16 := by omega
                                          have h16' : ¬ i < named.length → i = 16 := fun h => by have : named.length = 16 := rfl; omega
                                          first
                                          | exact congrArg Out.ret (sg_named hc_ h92 he (by have := UInt8.toNat_inj.1 hq_; subst this; exact List.mem_of_getElem? hx))
                                          | exact congrArg Out.ret (sg_form hc_ h92 he (hmem (h16' (by assumption))) (.inl (by omega)))
                                          | exact congrArg Out.ret (sg_form hc_ h92 he (hmem (h16' (by assumption))) (.inr (.inl (by omega))))
                                          | exact congrArg Out.ret (sg_form hc_ h92 he (hmem (h16' (by assumption))) (.inr (.inr (.inl ⟨_, ha, by omega⟩))))
                                          | exact congrArg Out.ret (sg_form hc_ h92 he (hmem (h16' (by assumption))) (.inr (.inr (.inr ⟨_, hb, by omega⟩))))
                                          | exact congrArg Out.ret (sg_hex hc_ h92 he (hmem (h16' (by assumption))) (by omega) ha hb hx_ hy_)
                                          | trace_state
                                      · first
                                        | exfalso; omega
                                        | skip
                                          first | refine o_movd rfl rfl ?_ | refine o_movp rfl rfl ?_ | refine o_mova rfl rfl ?_ | refine o_mov rfl rfl ?_
                                          refine o_idxS (m := 1) rfl rfl rfl rfl he ?_
                                          first | refine o_neqn rfl rfl rfl ?_ | refine o_nes rfl rfl rfl ?_ | refine o_bin rfl rfl rfl rfl ?_
                                          refine o_pickf rfl rfl rfl ?_
                                          refine op_nil ?_
                                          first | refine wp_if rfl ?_ ?_ <;> intro hq_ | refine wp_cond rfl ?_ ?_ <;> intro hq_
                                          · first
                                            | exfalso; omega
                                            | skip
                                              refine wp_seq ?_
                                              refine wp_ops ?_
                                              first | refine o_asgd rfl rfl ?_ | refine o_asgo rfl rfl ?_ | refine o_asg rfl rfl (fun _ h_ => by cases h_) ?_
                                              first | refine o_asgd rfl rfl ?_ | refine o_asgo rfl rfl ?_ | refine o_asg rfl rfl (fun _ h_ => by cases h_) ?_
                                              first | refine o_asgd rfl rfl ?_ | refine o_asgo rfl rfl ?_ | refine o_asg rfl rfl (fun _ h_ => by cases h_) ?_
                                              refine op_nil ?_
                                              refine wp_ret ?_
                                              refine end3 rfl rfl rfl rfl rfl ?_ (by first | rfl | simp)
                                              have hmem : i = 16 → e ∉ named := fun hi hm => by
                                                obtain ⟨j, hj, hjx⟩ := List.getElem_of_mem hm
                                                exact hno j (by rw [hi]; exact hj) e (by rw [List.getElem?_eq_getElem hj, hjx]) rfl
                                              have h16 : i < 16 ∨ i = 16 := by omega
                                              have h16' : ¬ i < named.length → i = 16 := fun h => by have : named.length = 16 := rfl; omega
                                              first
                                              | exact congrArg Out.ret (sg_named hc_ h92 he (by have := UInt8.toNat_inj.1 hq_; subst this; exact List.mem_of_getElem? hx))
                                              | exact congrArg Out.ret (sg_form hc_ h92 he (hmem (h16' (by assumption))) (.inl (by omega)))
                                              | exact congrArg Out.ret (sg_form hc_ h92 he (hmem (h16' (by assumption))) (.inr (.inl (by omega))))
                                              | exact congrArg Out.ret (sg_form hc_ h92 he (hmem (h16' (by assumption))) (.inr (.inr (.inl ⟨_, ha, by omega⟩))))
                                              | exact congrArg Out.ret (sg_form hc_ h92 he (hmem (h16' (by assumption))) (.inr (.inr (.inr ⟨_, hb, by omega⟩))))
                                              | exact congrArg Out.ret (sg_hex hc_ h92 he (hmem (h16' (by assumption))) (by omega) ha hb hx_ hy_)
                                              | trace_state
                                          · first
                                            | exfalso; omega
                                            | skip
                                              refine wp_skip ?_
                                              refine wp_seq ?_
                                              refine wp_ops ?_
                                              first | refine o_movd rfl rfl ?_ | refine o_movp rfl rfl ?_ | refine o_mova rfl rfl ?_ | refine o_mov rfl rfl ?_
                                              (have hlen2_ : 2 < s.length := (by omega); obtain ⟨a, ha⟩ := getS hlen2_; refine o_idxS (m := 2) rfl rfl rfl rfl ha ?_)
                                              (refine o_rdigit rfl rfl ?_; intro x_ hx_ hxl_)
                                              first | refine o_asgd rfl rfl ?_ | refine o_asgo rfl rfl ?_ | refine o_asg rfl rfl (fun _ h_ => by cases h_) ?_
                                              refine op_nil ?_
                                              refine wp_seq ?_
                                              refine wp_ops ?_
                                              first | refine o_movd rfl rfl ?_ | refine o_movp rfl rfl ?_ | refine o_mova rfl rfl ?_ | refine o_mov rfl rfl ?_
                                              (have hlen3_ : 3 < s.length := (by omega); obtain ⟨b, hb⟩ := getS hlen3_; refine o_idxS (m := 3) rfl rfl rfl rfl hb ?_)
                                              (refine o_rdigit rfl rfl ?_; intro y_ hy_ hyl_)
                                              first | refine o_asgd rfl rfl ?_ | refine o_asgo rfl rfl ?_ | refine o_asg rfl rfl (fun _ h_ => by cases h_) ?_
                                              refine op_nil ?_
                                              refine wp_seq ?_
                                              refine wp_seq ?_
                                              refine wp_ops ?_
                                              first | refine o_movd rfl rfl ?_ | refine o_movp rfl rfl ?_ | refine o_mova rfl rfl ?_ | refine o_mov rfl rfl ?_
                                              first | refine o_lssn rfl rfl rfl ?_ | refine o_bin rfl rfl rfl rfl ?_
                                              first | refine o_movd rfl rfl ?_ | refine o_movp rfl rfl ?_ | refine o_mova rfl rfl ?_ | refine o_mov rfl rfl ?_
                                              refine o_ifp rfl ?_ ?_ <;> intro hq_ hg_ <;> simp only [hg_] <;> clear hg_
                                              · first
                                                | exfalso; omega
                                                | skip
                                                  refine o_skip rfl ?_
                                                  refine o_skip rfl ?_
                                                  refine o_pickt rfl rfl rfl ?_
                                                  refine op_nil ?_
                                                  refine wp_cond rfl (fun _ => ?_) (fun h_ => absurd h_ (by decide))
                                                  refine wp_seq ?_
                                                  refine wp_ops ?_
                                                  first | refine o_asgd rfl rfl ?_ | refine o_asgo rfl rfl ?_ | refine o_asg rfl rfl (fun _ h_ => by cases h_) ?_
                                                  first | refine o_asgd rfl rfl ?_ | refine o_asgo rfl rfl ?_ | refine o_asg rfl rfl (fun _ h_ => by cases h_) ?_
                                                  first | refine o_asgd rfl rfl ?_ | refine o_asgo rfl rfl ?_ | refine o_asg rfl rfl (fun _ h_ => by cases h_) ?_
                                                  refine op_nil ?_
                                                  refine wp_ret ?_
                                                  refine end3 rfl rfl rfl rfl rfl ?_ (by first | rfl | simp)
                                                  have hmem : i = 16 → e ∉ named := fun hi hm => by
                                                    obtain ⟨j, hj, hjx⟩ := List.getElem_of_mem hm
                                                    exact hno j (by rw [hi]; exact hj) e (by rw [List.getElem?_eq_getElem hj, hjx]) rfl
                                                  have h16 : i < 16 ∨ i = 16 := by omega
                                                  have h16' : ¬ i < named.length → i = 16 := fun h => by have : named.length = 16 := rfl; omega
                                                  first
                                                  | exact congrArg Out.ret (sg_named hc_ h92 he (by have := UInt8.toNat_inj.1 hq_; subst this; exact List.mem_of_getElem? hx))
                                                  | exact congrArg Out.ret (sg_form hc_ h92 he (hmem (h16' (by assumption))) (.inl (by omega)))
                                                  | exact congrArg Out.ret (sg_form hc_ h92 he (hmem (h16' (by assumption))) (.inr (.inl (by omega))))
                                                  | exact congrArg Out.ret (sg_form hc_ h92 he (hmem (h16' (by assumption))) (.inr (.inr (.inl ⟨_, ha, by omega⟩))))
                                                  | exact congrArg Out.ret (sg_form hc_ h92 he (hmem (h16' (by assumption))) (.inr (.inr (.inr ⟨_, hb, by omega⟩))))
                                                  | exact congrArg Out.ret (sg_hex hc_ h92 he (hmem (h16' (by assumption))) (by omega) ha hb hx_ hy_)
                                                  | trace_state
                                              · first
                                                | exfalso; omega
                                                | skip
                                                  first | refine o_movd rfl rfl ?_ | refine o_movp rfl rfl ?_ | refine o_mova rfl rfl ?_ | refine o_mov rfl rfl ?_
                                                  first | refine o_lssn rfl rfl rfl ?_ | refine o_bin rfl rfl rfl rfl ?_
                                                  refine o_pickf rfl rfl rfl ?_
                                                  refine op_nil ?_
                                                  first | refine wp_if rfl ?_ ?_ <;> intro hq_ | refine wp_cond rfl ?_ ?_ <;> intro hq_
                                                  · first
                                                    | exfalso; omega
                                                    | skip
                                                      refine wp_seq ?_
                                                      refine wp_ops ?_
                                                      first | refine o_asgd rfl rfl ?_ | refine o_asgo rfl rfl ?_ | refine o_asg rfl rfl (fun _ h_ => by cases h_) ?_
                                                      first | refine o_asgd rfl rfl ?_ | refine o_asgo rfl rfl ?_ | refine o_asg rfl rfl (fun _ h_ => by cases h_) ?_
                                                      first | refine o_asgd rfl rfl ?_ | refine o_asgo rfl rfl ?_ | refine o_asg rfl rfl (fun _ h_ => by cases h_) ?_
                                                      refine op_nil ?_
                                                      refine wp_ret ?_
                                                      refine end3 rfl rfl rfl rfl rfl ?_ (by first | rfl | simp)
                                                      have hmem : i = 16 → e ∉ named := fun hi hm => by
                                                        obtain ⟨j, hj, hjx⟩ := List.getElem_of_mem hm
                                                        exact hno j (by rw [hi]; exact hj) e (by rw [List.getElem?_eq_getElem hj, hjx]) rfl
                                                      have h16 : i < 16 ∨ i = 16 := by omega
                                                      have h16' : ¬ i < named.length → i = 16 := fun h => by have : named.length = 16 := rfl; omega
                                                      first
                                                      | exact congrArg Out.ret (sg_named hc_ h92 he (by have := UInt8.toNat_inj.1 hq_; subst this; exact List.mem_of_getElem? hx))
                                                      | exact congrArg Out.ret (sg_form hc_ h92 he (hmem (h16' (by assumption))) (.inl (by omega)))
                                                      | exact congrArg Out.ret (sg_form hc_ h92 he (hmem (h16' (by assumption))) (.inr (.inl (by omega))))
                                                      | exact congrArg Out.ret (sg_form hc_ h92 he (hmem (h16' (by assumption))) (.inr (.inr (.inl ⟨_, ha, by omega⟩))))
                                                      | exact congrArg Out.ret (sg_form hc_ h92 he (hmem (h16' (by assumption))) (.inr (.inr (.inr ⟨_, hb, by omega⟩))))
                                                      | exact congrArg Out.ret (sg_hex hc_ h92 he (hmem (h16' (by assumption))) (by omega) ha hb hx_ hy_)
                                                      | trace_state
                                                  · first
                                                    | exfalso; omega
                                                    | skip
                                                      refine wp_skip ?_
                                                      refine wp_seq ?_
                                                      refine wp_ops ?_
                                                      first | refine o_movd rfl rfl ?_ | refine o_movp rfl rfl ?_ | refine o_mova rfl rfl ?_ | refine o_mov rfl rfl ?_
                                                      (obtain ⟨x2_, rfl⟩ := Int.eq_ofNat_of_zero_le (show 0 ≤ x_ by omega); obtain ⟨y2_, rfl⟩ := Int.eq_ofNat_of_zero_le (show 0 ≤ y_ by omega); refine o_mulkn (a := 16) rfl rfl rfl (by decide) (by simp only [m64]; omega) ?_)
                                                      first | refine o_movd rfl rfl ?_ | refine o_movp rfl rfl ?_ | refine o_mova rfl rfl ?_ | refine o_mov rfl rfl ?_
                                                      first | refine o_addkn rfl rfl rfl (by decide) (by (first | omega | (simp only [m64, mU, m8, n64, nU, n8, b64, bU, b8]; omega))) ?_ | refine o_cat rfl rfl rfl (by (first | omega | (simp only [m64, mU, m8, n64, nU, n8, b64, bU, b8]; omega))) ?_ | refine o_add rfl rfl rfl rfl (by omega) (by omega) ?_
                                                      refine o_toInt rfl rfl (by (first | omega | (simp only [m64, mU, m8, n64, nU, n8, b64, bU, b8]; omega))) (by (first | omega | (simp only [m64, mU, m8, n64, nU, n8, b64, bU, b8]; omega))) ?_
                                                      first | refine o_asgd rfl rfl ?_ | refine o_asgo rfl rfl ?_ | refine o_asg rfl rfl (fun _ h_ => by cases h_) ?_
                                                      first | refine o_asgd rfl rfl ?_ | refine o_asgo rfl rfl ?_ | refine o_asg rfl rfl (fun _ h_ => by cases h_) ?_
                                                      first | refine o_asgd rfl rfl ?_ | refine o_asgo rfl rfl ?_ | refine o_asg rfl rfl (fun _ h_ => by cases h_) ?_
                                                      refine op_nil ?_
                                                      refine wp_ret ?_
                                                      refine end3 rfl rfl rfl rfl rfl ?_ (by first | rfl | simp)
                                                      have hmem : i = 16 → e ∉ named := fun hi hm => by
                                                        obtain ⟨j, hj, hjx⟩ := List.getElem_of_mem hm
                                                        exact hno j (by rw [hi]; exact hj) e (by rw [List.getElem?_eq_getElem hj, hjx]) rfl
                                                      have h16 : i < 16 ∨ i = 16 := by omega
                                                      have h16' : ¬ i < named.length → i = 16 := fun h => by have : named.length = 16 := rfl; omega
                                                      first
                                                      | exact congrArg Out.ret (sg_named hc_ h92 he (by have := UInt8.toNat_inj.1 hq_; subst this; exact List.mem_of_getElem? hx))
                                                      | exact congrArg Out.ret (sg_form hc_ h92 he (hmem (h16' (by assumption))) (.inl (by omega)))
                                                      | exact congrArg Out.ret (sg_form hc_ h92 he (hmem (h16' (by assumption))) (.inr (.inl (by omega))))
                                                      | exact congrArg Out.ret (sg_form hc_ h92 he (hmem (h16' (by assumption))) (.inr (.inr (.inl ⟨_, ha, by omega⟩))))
                                                      | exact congrArg Out.ret (sg_form hc_ h92 he (hmem (h16' (by assumption))) (.inr (.inr (.inr ⟨_, hb, by omega⟩))))
                                                      | exact congrArg Out.ret (sg_hex hc_ h92 he (hmem (h16' (by assumption))) (by omega) ha hb hx_ hy_)
                                                      | trace_state
end Go.Ab.R04
