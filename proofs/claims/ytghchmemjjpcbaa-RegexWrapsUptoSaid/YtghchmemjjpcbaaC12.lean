/- A part of the proof: tools. No condition. -/
import Derived.Test.YtghchmemjjpcbaaC10
import Derived.Test.YtghchmemjjpcbaaC11
set_option linter.all false
namespace Go.Ab.R05
set_option maxRecDepth 100000
set_option linter.all false
set_option maxHeartbeats 4000000

theorem err_nz {s : List UInt8} (hs : s.length ≤ 2 ^ 30) {e : Nat} (h : parse s = .error e) : e ≠ 0 := by
  cases hr : allM s 31 0 0 [] with
  | err e' =>
    rw [parse_err hr] at h
    cases h
    obtain ⟨o, rf, _, hp⟩ := rallM_ev (T := T1) s hs 30 0 0 [] rfl (Nat.zero_le _) (by simp)
    rw [show 30 + 1 = 31 from rfl, hr] at hp
    obtain ⟨_, _, _, _, _, h1, _⟩ := hp
    exact h1
  | ok a i d t =>
    by_cases hi : i < s.length
    · rw [parse_9 hr hi] at h; cases h; decide
    · rw [parse_ok hr hi] at h; cases h

theorem rdE {s : List UInt8} {rf : Refs} {k : Out → Refs → Prop} {T : Tb} [Base T] (hs : s.length ≤ 2 ^ 30) (h0 : ∀ e, parse s = .error e → e ≠ 0 → k (.ret (.tup [lst [], i64 e])) rf) (h1 : ∀ t, parse s = .ok t → t.length ≤ 2000 → k (.ret (.tup [lst (t.map reD), i64 (0 : Nat)])) rf) : CallE T f_regex_Read [str s] rf k := by
  refine callE_ev (rRd_ev s hs rf) ?_
  cases h : parse s with
  | error e => exact h0 e h (err_nz hs h)
  | ok t => exact h1 t h (by obtain ⟨_, _, _, h3⟩ := parse_run h; exact h3)

theorem small_flat : ∀ (o : Nat) (a : Tr) (r : Re), r ∈ flat o a → 0 ≤ r.k0 ∧ r.k0 ≤ o + a.size ∧ 0 ≤ r.k1 ∧ r.k1 ≤ o + a.size
  | o, .none, r, h | o, .set _, r, h | o, .beg, r, h | o, .fin, r, h => by simp [flat] at h; subst h; simp [Tr.size]; omega
  | o, .post k a, r, h => by
    simp only [flat, List.mem_append, List.mem_singleton] at h
    rcases h with h | rfl
    · have := small_flat o a r h; simp only [Tr.size]; omega
    · simp only [Tr.size]; omega
  | o, .cat a b, r, h => by
    simp only [flat, List.mem_append, List.mem_singleton] at h
    rcases h with (h | h) | rfl
    · have := small_flat o a r h; simp only [Tr.size]; omega
    · have := small_flat _ b r h; simp only [Tr.size]; omega
    · simp only [Tr.size]; omega
  | o, .alt a b, r, h => by
    simp only [flat, List.mem_append, List.mem_singleton] at h
    rcases h with (h | h) | rfl
    · have := small_flat o a r h; simp only [Tr.size]; omega
    · have := small_flat _ b r h; simp only [Tr.size]; omega
    · simp only [Tr.size]; omega

theorem parse_tree {s : List UInt8} {t : List Re} (h : parse s = .ok t) : ∃ a : Tr, a.ok ∧ t = flat 0 a ∧ a.size ≤ 2000 := by
  obtain ⟨x, h1, h2, h3⟩ := parse_run h
  obtain ⟨a, ha, rfl, _⟩ := yld_allM _ _ _ _ _ _ _ _ h1
  refine ⟨a, ha, rfl, ?_⟩
  simpa [flat_length] using h3
theorem parse_small {s : List UInt8} {t : List Re} (h : parse s = .ok t) : Small t := by
  obtain ⟨a, _, rfl, hl⟩ := parse_tree h
  intro r hr
  have := small_flat 0 a r hr
  omega

theorem RegexWraps_ev (s : List UInt8) (h1 : s.length ≤ 2 ^ 47) (t : List UInt8) (h2 : t.length ≤ 2 ^ 47) : Ev T1 f_law05_RegexWraps [str s, str t] [] (.ret (bl true)) [] := by
  by_cases hs : s.length + t.length ≤ 900
  · have h1 : s.length ≤ 2 ^ 30 := by omega
    have h2 : t.length ≤ 2 ^ 30 := by omega
    have hw1 : ([40] ++ s ++ [41] : List UInt8) = 40 :: (s ++ [41]) := by simp
    have hw2 : ([40] ++ s ++ [41, 124, 40] ++ t ++ [41] : List UInt8) = both s t := by simp [both]
    have r1 := rRd_ev (T := T1) s h1 []
    have r2 := rRd_ev (T := T1) t h2 []
    have r3 := rRd_ev (T := T1) ([40] ++ s ++ [41]) (by simp; omega) []
    have r4 := rRd_ev (T := T1) ([40] ++ s ++ [41, 124, 40] ++ t ++ [41]) (by simp; omega) []
    cases hps : parse s with
    | error e =>
      have he := err_nz h1 hps
      rw [hps] at r1
      refine ev_fn rfl rfl ?_
      (repeat' (first
        | (intro (u_ : Unit); clear u_)
        | refine condT ?_
        | refine condF ?_
        | refine condp (by assumption) ?_
        | refine condn (by assumption) ?_
        | refine condN ?_
        | refine idxSb (by assumption) ?_
        | refine callE_ev shown_ev ?_
        | refine strC (by simp; omega) ?_
        | refine callE_ev r1 ?_
        | refine rdE (by simp; omega) (fun e_ he_ hn_ => ?_) (fun t_ ht_ hl_ => ?_)
        | (refine condD ?_ ?_ <;> intro hq_ <;> first | (exfalso; omega) | skip)
        | (refine idxS (by omega) ?_; intro b_ hb_; have hl_ := b_.toNat_lt)
        | refine wrA (by omega) ?_
        | refine wrS (by omega) (by omega) ?_
        | refine wrI (by omega) (by omega) ?_
        | refine wrBA (by omega) ?_
        | refine wrB (by omega) (by omega) ?_
        | refine strC (by omega) ?_
        | refine nilB rfl ?_))
      all_goals exact ⟨rfl, rfl⟩
    | ok ts =>
    cases hpt : parse t with
    | error e =>
      have he := err_nz h2 hpt
      rw [hps] at r1
      rw [hpt] at r2
      refine ev_fn rfl rfl ?_
      (repeat' (first
        | (intro (u_ : Unit); clear u_)
        | refine condT ?_
        | refine condF ?_
        | refine condp (by assumption) ?_
        | refine condn (by assumption) ?_
        | refine condN ?_
        | refine idxSb (by assumption) ?_
        | refine callE_ev shown_ev ?_
        | refine strC (by simp; omega) ?_
        | refine callE_ev r1 ?_
        | refine callE_ev r2 ?_
        | refine rdE (by simp; omega) (fun e_ he_ hn_ => ?_) (fun t_ ht_ hl_ => ?_)
        | (refine condD ?_ ?_ <;> intro hq_ <;> first | (exfalso; omega) | skip)
        | (refine idxS (by omega) ?_; intro b_ hb_; have hl_ := b_.toNat_lt)
        | refine wrA (by omega) ?_
        | refine wrS (by omega) (by omega) ?_
        | refine wrI (by omega) (by omega) ?_
        | refine wrBA (by omega) ?_
        | refine wrB (by omega) (by omega) ?_
        | refine strC (by omega) ?_
        | refine nilB rfl ?_))
      all_goals exact ⟨rfl, rfl⟩
    | ok tt =>
    rw [hps] at r1
    rw [hpt] at r2
    obtain ⟨_, _, _, ls⟩ := parse_run hps
    obtain ⟨_, _, _, lt⟩ := parse_run hpt
    have hS := Same_ev (T := T1) ts ts [] (by omega)
    rw [sameT_self] at hS
    rcases wrap1 hps with hq1 | hq1
    · have hJ := rJoin_ev (T := T1) ts tt 3 [] (by omega) (by omega) (parse_small hpt)
      rw [hw1, hq1] at r3
      by_cases hsz : ts.length + tt.length < 2000
      · rcases wrap2 hps hpt hsz with hq2 | hq2
        · have hj : joinM ts tt 3 = .ok (ts ++ tt.map (up ts.length) ++ [⟨3, 0, ts.length - 1, ((ts.length + tt.length : Nat) : Int) - 1⟩]) := by
            unfold joinM; rw [if_neg (by omega), if_neg (by omega)]
          rw [hj] at hJ hq2
          rw [hw2, hq2] at r4
          generalize hU : ts ++ tt.map (up ts.length) ++ [⟨3, 0, ts.length - 1, ((ts.length + tt.length : Nat) : Int) - 1⟩] = w at *
          have hS2 := Same_ev (T := T1) w w [] (by rw [← hU]; simp; omega)
          rw [sameT_self] at hS2
          refine ev_fn rfl rfl ?_
          (repeat' (first
            | (intro (u_ : Unit); clear u_)
            | refine condT ?_
            | refine condF ?_
            | refine condp (by assumption) ?_
            | refine condn (by assumption) ?_
            | refine condN ?_
            | refine idxSb (by assumption) ?_
            | refine callE_ev shown_ev ?_
            | refine strC (by simp; omega) ?_
            | refine callE_ev r1 ?_
            | refine callE_ev r2 ?_
            | (rw [hw1]; refine callE_ev r3 ?_)
            | (rw [hw2]; refine callE_ev r4 ?_)
            | refine callE_ev hJ ?_
            | refine callE_ev hS ?_
            | refine callE_ev hS2 ?_
            | (refine condD ?_ ?_ <;> intro hq_ <;> first | (exfalso; omega) | skip)
            | (refine idxS (by omega) ?_; intro b_ hb_; have hl_ := b_.toNat_lt)
            | refine wrA (by omega) ?_
            | refine wrS (by omega) (by omega) ?_
            | refine wrI (by omega) (by omega) ?_
            | refine wrBA (by omega) ?_
            | refine wrB (by omega) (by omega) ?_
            | refine strC (by omega) ?_
            | refine nilB rfl ?_))
          all_goals exact ⟨rfl, rfl⟩
        · rw [hw2, hq2] at r4
          refine ev_fn rfl rfl ?_
          (repeat' (first
            | (intro (u_ : Unit); clear u_)
            | refine condT ?_
            | refine condF ?_
            | refine condp (by assumption) ?_
            | refine condn (by assumption) ?_
            | refine condN ?_
            | refine idxSb (by assumption) ?_
            | refine callE_ev shown_ev ?_
            | refine strC (by simp; omega) ?_
            | refine callE_ev r1 ?_
            | refine callE_ev r2 ?_
            | (rw [hw1]; refine callE_ev r3 ?_)
            | (rw [hw2]; refine callE_ev r4 ?_)
            | (refine condD ?_ ?_ <;> intro hq_ <;> first | (exfalso; omega) | skip)
            | (refine idxS (by omega) ?_; intro b_ hb_; have hl_ := b_.toNat_lt)
            | refine wrA (by omega) ?_
            | refine wrS (by omega) (by omega) ?_
            | refine wrI (by omega) (by omega) ?_
            | refine wrBA (by omega) ?_
            | refine wrB (by omega) (by omega) ?_
            | refine strC (by omega) ?_
            | refine nilB rfl ?_))
          all_goals exact ⟨rfl, rfl⟩
      · have hj : joinM ts tt 3 = .error 6 := by
          unfold joinM; rw [if_neg (by omega), if_pos (by omega)]
        rw [hj] at hJ
        refine ev_fn rfl rfl ?_
        (repeat' (first
          | (intro (u_ : Unit); clear u_)
          | refine condT ?_
          | refine condF ?_
          | refine condp (by assumption) ?_
          | refine condn (by assumption) ?_
          | refine condN ?_
          | refine idxSb (by assumption) ?_
          | refine callE_ev shown_ev ?_
          | refine strC (by simp; omega) ?_
          | refine callE_ev r1 ?_
          | refine callE_ev r2 ?_
          | (rw [hw1]; refine callE_ev r3 ?_)
          | refine rdE (by simp; omega) (fun e_ he_ hn_ => ?_) (fun t_ ht_ hl_ => ?_)
          | refine callE_ev hJ ?_
          | refine callE_ev hS ?_
          | (refine condD ?_ ?_ <;> intro hq_ <;> first | (exfalso; omega) | skip)
          | (refine idxS (by omega) ?_; intro b_ hb_; have hl_ := b_.toNat_lt)
          | refine wrA (by omega) ?_
          | refine wrS (by omega) (by omega) ?_
          | refine wrI (by omega) (by omega) ?_
          | refine wrBA (by omega) ?_
          | refine wrB (by omega) (by omega) ?_
          | refine strC (by omega) ?_
          | refine nilB rfl ?_))
        all_goals exact ⟨rfl, rfl⟩
    · rw [hw1, hq1] at r3
      refine ev_fn rfl rfl ?_
      (repeat' (first
        | (intro (u_ : Unit); clear u_)
        | refine condT ?_
        | refine condF ?_
        | refine condp (by assumption) ?_
        | refine condn (by assumption) ?_
        | refine condN ?_
        | refine idxSb (by assumption) ?_
        | refine callE_ev shown_ev ?_
        | refine strC (by simp; omega) ?_
        | refine callE_ev r1 ?_
        | refine callE_ev r2 ?_
        | (rw [hw1]; refine callE_ev r3 ?_)
        | refine rdE (by simp; omega) (fun e_ he_ hn_ => ?_) (fun t_ ht_ hl_ => ?_)
        | (refine condD ?_ ?_ <;> intro hq_ <;> first | (exfalso; omega) | skip)
        | (refine idxS (by omega) ?_; intro b_ hb_; have hl_ := b_.toNat_lt)
        | refine wrA (by omega) ?_
        | refine wrS (by omega) (by omega) ?_
        | refine wrI (by omega) (by omega) ?_
        | refine wrBA (by omega) ?_
        | refine wrB (by omega) (by omega) ?_
        | refine strC (by omega) ?_
        | refine nilB rfl ?_))
      all_goals exact ⟨rfl, rfl⟩
  · refine ev_fn rfl rfl ?_
    (repeat' (first
      | (intro (u_ : Unit); clear u_)
      | refine condT ?_
      | refine condF ?_
      | refine condp (by assumption) ?_
      | refine condn (by assumption) ?_
      | refine condN ?_
      | refine idxSb (by assumption) ?_
      | refine callE_ev shown_ev ?_
      | (refine condD ?_ ?_ <;> intro hq_ <;> first | (exfalso; omega) | skip)
      | (refine idxS (by omega) ?_; intro b_ hb_; have hl_ := b_.toNat_lt)
      | refine wrA (by omega) ?_
      | refine wrS (by omega) (by omega) ?_
      | refine wrI (by omega) (by omega) ?_
      | refine wrBA (by omega) ?_
      | refine wrB (by omega) (by omega) ?_
      | refine strC (by omega) ?_
      | refine nilB rfl ?_))
    exact ⟨rfl, rfl⟩
end Go.Ab.R05
