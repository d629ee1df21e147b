/- A part of the proof: tools. No condition. -/
import Derived.Test.YtghchmemjjpcbaaC7
set_option linter.all false
namespace Go.Ab.R05
set_option maxRecDepth 100000
set_option linter.all false
set_option maxHeartbeats 4000000
variable {T : Tb} [hT : Base T]
def pr (s : List UInt8) (i d : Nat) (t : List Re) (b : Nat) : List AV := [str s, i64 i, i64 d, tc t, i64 b]
theorem pr_b (s : List UInt8) (i d : Nat) (t : List Re) (b : Nat) : AV.refBs (pr s i d t b) = 0 := by
 simp [pr, AV.refBs, AV.refB, tc_b]
def PostR (s : List UInt8) (d : Nat) : R → Out → Refs → Prop
 | .ok a i d' t, o, rf => o = .ret (i64 a) ∧ rf = [pr s i d' t 0]
 | .err e, o, rf => ∃ (v : Int) (i : Nat) (t : List Re), o = .ret (i64 v) ∧ rf = [pr s i d t e] ∧ e ≠ 0 ∧ i + d ≤ s.length + 31 ∧ t.length ≤ 2000
def FitR (T : Tb) (f : FuncId) (more : List AV) (s : List UInt8) (i d : Nat) (t : List Re) (r : R) : Prop := CallE T f (.ptr 0 0 :: more) [pr s i d t 0] (PostR s d r)
section
variable {f : FuncId} {more : List AV} {s : List UInt8} {i d : Nat} {t : List Re} {r : R} {X : Refs} {k : Out → Refs → Prop}
theorem fitR (h : FitR T f more s i d t r) (hm : AV.refBs more = 0) (hok : ∀ a i d t, r = .ok a i d t → k (.ret (i64 a)) (pr s i d t 0 :: X)) (herr : ∀ e v i t, r = .err e → e ≠ 0 → i + d ≤ s.length + 31 → t.length ≤ 2000 → k (.ret (i64 v)) (pr s i d t e :: X)) :
  CallE T f (.ptr 0 0 :: more) (pr s i d t 0 :: X) k := by
 obtain ⟨o, rf', he, hp⟩ := h
 cases r with
 | ok a i' d' t' =>
   obtain ⟨rfl, rfl⟩ := hp
   exact ⟨_, _, at0 hm (pr_b _ _ _ _ _) (pr_b _ _ _ _ _) rfl he, hok _ _ _ _ rfl⟩
 | err e =>
   obtain ⟨v, i', t', rfl, rfl, h1, h2, h3⟩ := hp
   exact ⟨_, _, at0 hm (pr_b _ _ _ _ _) (pr_b _ _ _ _ _) rfl he, herr _ _ _ _ rfl h1 h2 h3⟩
end
theorem fitRA {f : FuncId} {more : List AV} {s : List UInt8} {m i d : Nat} {t : List Re} {r : R} {X : Refs} {k : Out → Refs → Prop} (h : FitR T f more s i d t r) (hA : Adv s m i d r) (hm : AV.refBs more = 0)
  (hok : ∀ a i' t', r = .ok a i' d t' → i + m ≤ i' → i' ≤ s.length → t'.length ≤ 2000 → k (.ret (i64 a)) (pr s i' d t' 0 :: X)) (herr : ∀ e v i t, r = .err e → e ≠ 0 → i + d ≤ s.length + 31 → t.length ≤ 2000 → k (.ret (i64 v)) (pr s i d t e :: X)) :
  CallE T f (.ptr 0 0 :: more) (pr s i d t 0 :: X) k :=
 fitR h hm (fun a i' d' t' e => by obtain ⟨h1, h2, rfl, h4⟩ := hA _ _ _ _ e; exact hok a i' t' e h1 h2 h4) herr
theorem hcT {s : List UInt8} {i x : Nat} {c : UInt8} (h : s[i]? = some c) (hh : hit s i x = true) : c.toNat = x := by rw [hit_some h] at hh; exact of_decide_eq_true hh
theorem hcF {s : List UInt8} {i x : Nat} {c : UInt8} (h : s[i]? = some c) (hh : hit s i x = false) : c.toNat ≠ x := by rw [hit_some h] at hh; exact of_decide_eq_false hh
theorem fail0_ev (s : List UInt8) (i d e : Nat) (t : List Re) : Ev T f_ref05_parser_fail [.ptr 0 0, i64 e] [pr s i d t 0] (.ret (.tup [])) [pr s i d t e] := by
 refine ev_fn rfl rfl ?_
 (repeat' (first| (intro (u_ : Unit); clear u_)| refine condT ?_| refine condF ?_| refine condp (by assumption) ?_| refine condn (by assumption) ?_| refine condN ?_| refine idxSb (by assumption) ?_| (refine condD ?_ ?_ <;> intro hq_ <;> first | (exfalso; omega) | skip)| (refine idxS (by omega) ?_; intro b_ hb_; have hl_ := b_.toNat_lt)| refine wrA (by omega) ?_| refine wrS (by omega) (by omega) ?_| refine wrI (by omega) (by omega) ?_| refine wrBA (by omega) ?_| refine wrB (by omega) (by omega) ?_| refine strC (by omega) ?_| refine nilB rfl ?_))
 exact ⟨rfl, rfl⟩
theorem fail1_ev (s : List UInt8) (i d e b : Nat) (t : List Re) (hb : b ≠ 0) : Ev T f_ref05_parser_fail [.ptr 0 0, i64 e] [pr s i d t b] (.ret (.tup [])) [pr s i d t b] := by
 refine ev_fn rfl rfl ?_
 (repeat' (first| (intro (u_ : Unit); clear u_)| refine condT ?_| refine condF ?_| refine condp (by assumption) ?_| refine condn (by assumption) ?_| refine condN ?_| refine idxSb (by assumption) ?_| (refine condD ?_ ?_ <;> intro hq_ <;> first | (exfalso; omega) | skip)| (refine idxS (by omega) ?_; intro b_ hb_; have hl_ := b_.toNat_lt)| refine wrA (by omega) ?_| refine wrS (by omega) (by omega) ?_| refine wrI (by omega) (by omega) ?_| refine wrBA (by omega) ?_| refine wrB (by omega) (by omega) ?_| refine strC (by omega) ?_| refine nilB rfl ?_))
 exact ⟨rfl, rfl⟩
theorem is0_ev (s : List UInt8) (i d c : Nat) (t : List Re) : Ev T f_ref05_parser_is [.ptr 0 0, u8 c] [pr s i d t 0] (.ret (bl (hit s i c))) [pr s i d t 0] := by
 refine ev_fn rfl rfl ?_
 (repeat' (first| (intro (u_ : Unit); clear u_)| refine condT ?_| refine condF ?_| refine condp (by assumption) ?_| refine condn (by assumption) ?_| refine condN ?_| refine idxSb (by assumption) ?_| (refine condD ?_ ?_ <;> intro hq_ <;> first | (exfalso; omega) | skip)| (refine idxS (by omega) ?_; intro b_ hb_; have hl_ := b_.toNat_lt)| refine wrA (by omega) ?_| refine wrS (by omega) (by omega) ?_| refine wrI (by omega) (by omega) ?_| refine wrBA (by omega) ?_| refine wrB (by omega) (by omega) ?_| refine strC (by omega) ?_| refine nilB rfl ?_))
 ·rw [hit_some hb_, show decide ((b_.toNat : Int) = (c : Int)) = decide (b_.toNat = c) from by rw [Bool.eq_iff_iff]; simp; omega]; exact ⟨rfl, rfl⟩
 ·rw [hitN hq_]; exact ⟨rfl, rfl⟩
theorem is1_ev (s : List UInt8) (i d c b : Nat) (t : List Re) (hb : b ≠ 0) : Ev T f_ref05_parser_is [.ptr 0 0, u8 c] [pr s i d t b] (.ret (bl false)) [pr s i d t b] := by
 refine ev_fn rfl rfl ?_
 (repeat' (first| (intro (u_ : Unit); clear u_)| refine condT ?_| refine condF ?_| refine condp (by assumption) ?_| refine condn (by assumption) ?_| refine condN ?_| refine idxSb (by assumption) ?_| (refine condD ?_ ?_ <;> intro hq_ <;> first | (exfalso; omega) | skip)| (refine idxS (by omega) ?_; intro b_ hb_; have hl_ := b_.toNat_lt)| refine wrA (by omega) ?_| refine wrS (by omega) (by omega) ?_| refine wrI (by omega) (by omega) ?_| refine wrBA (by omega) ?_| refine wrB (by omega) (by omega) ?_| refine strC (by omega) ?_| refine nilB rfl ?_))
 exact ⟨rfl, rfl⟩
section
variable {s : List UInt8} {i d c b e : Nat} {t : List Re} {X : Refs} {k : Out → Refs → Prop}
theorem failE0 (h : k (.ret (.tup [])) (pr s i d t e :: X)) : CallE T f_ref05_parser_fail [.ptr 0 0, i64 e] (pr s i d t 0 :: X) k := ⟨_, _, at0 rfl (pr_b _ _ _ _ _) (pr_b _ _ _ _ _) rfl (fail0_ev s i d e t), h⟩
theorem failE1 (hb : b ≠ 0) (h : k (.ret (.tup [])) (pr s i d t b :: X)) : CallE T f_ref05_parser_fail [.ptr 0 0, i64 e] (pr s i d t b :: X) k := ⟨_, _, at0 rfl (pr_b _ _ _ _ _) (pr_b _ _ _ _ _) rfl (fail1_ev s i d e b t hb), h⟩
theorem isE0 (h1 : hit s i c = true → i < s.length → k (.ret (bl true)) (pr s i d t 0 :: X)) (h2 : hit s i c = false → k (.ret (bl false)) (pr s i d t 0 :: X)) : CallE T f_ref05_parser_is [.ptr 0 0, u8 c] (pr s i d t 0 :: X) k := by
 refine ⟨_, _, at0 rfl (pr_b _ _ _ _ _) (pr_b _ _ _ _ _) rfl (is0_ev s i d c t), ?_⟩
 cases h : hit s i c
 ·exact h2 h
 ·exact h1 h (hit_lt h)
theorem isE1 (hb : b ≠ 0) (h : k (.ret (bl false)) (pr s i d t b :: X)) : CallE T f_ref05_parser_is [.ptr 0 0, u8 c] (pr s i d t b :: X) k := ⟨_, _, at0 rfl (pr_b _ _ _ _ _) (pr_b _ _ _ _ _) rfl (is1_ev s i d c b t hb), h⟩
end
theorem lay0_ev (kd : Int) (n : Nat) (a b : Int) (s : List UInt8) (i d : Nat) (t : List Re) (ht : t.length ≤ 2000) (hi : i ≤ s.length) (hd : d ≤ 30) : FitR T f_ref05_parser_lay [i64 kd, .agg [wdv n 0, wdv n 1, wdv n 2, wdv n 3], i64 a, i64 b] s i d t (putM ⟨kd, n, a, b⟩ i d t) := by
 cases t with
 | nil =>
   refine call_fn rfl rfl ?_
   (repeat' (first| (intro (u_ : Unit); clear u_)| refine condT ?_| refine condF ?_| refine condp (by assumption) ?_| refine condn (by assumption) ?_| refine condN ?_| refine idxSb (by assumption) ?_| refine failE0 ?_| refine appN1 (by simp) rfl ?_| refine wrS (b := 1) (by simp) (by simp) ?_| (refine condD ?_ ?_ <;> intro hq_ <;> first | (exfalso; omega) | skip)| (refine idxS (by omega) ?_; intro b_ hb_; have hl_ := b_.toNat_lt)| refine wrA (by omega) ?_| refine wrS (by omega) (by omega) ?_| refine wrI (by omega) (by omega) ?_| refine wrBA (by omega) ?_| refine wrB (by omega) (by omega) ?_| refine strC (by omega) ?_| refine nilB rfl ?_))
   all_goals exact ⟨rfl, rfl⟩
 | cons r0 l =>
   simp only [List.length_cons] at ht
   have hl : (List.map reD (r0 :: l)).length = l.length + 1 := by simp
   refine call_fn rfl rfl ?_
   (repeat' (first| (intro (u_ : Unit); clear u_)| refine condT ?_| refine condF ?_| refine condp (by assumption) ?_| refine condn (by assumption) ?_| refine condN ?_| refine idxSb (by assumption) ?_| refine failE0 ?_| refine appL (by simp; omega) rfl rfl ?_| refine wrS (b := 1) (by simp) (by simp; omega) ?_| (refine condD ?_ ?_ <;> intro hq_ <;> first | (exfalso; omega) | skip)| (refine idxS (by omega) ?_; intro b_ hb_; have hl_ := b_.toNat_lt)| refine wrA (by omega) ?_| refine wrS (by omega) (by omega) ?_| refine wrI (by omega) (by omega) ?_| refine wrBA (by omega) ?_| refine wrB (by omega) (by omega) ?_| refine strC (by omega) ?_| refine nilB rfl ?_))
   ·rw [hl] at hq_ ⊢
    unfold putM; rw [if_pos (by simp; omega)]
    exact ⟨_, _, _, rfl, rfl, by decide, by omega, by simp; omega⟩
   ·rw [hl] at hq_
    unfold putM; rw [if_neg (by simp; omega)]
    refine ⟨by simp, ?_⟩
    show [[_, _, _, _, _]] = [[_, _, _, AV.own _, _]]
    simp [reD, List.map_append]
theorem lay1_ev (kd : Int) (n : Nat) (a b : Int) (s : List UInt8) (i d e : Nat) (t : List Re) (ht : t.length ≤ 2 ^ 40) (he : e ≠ 0) : CallE T f_ref05_parser_lay [.ptr 0 0, i64 kd, .agg [wdv n 0, wdv n 1, wdv n 2, wdv n 3], i64 a, i64 b] [pr s i d t e] (fun o rf => ∃ v : Int, o = .ret (i64 v) ∧ rf = [pr s i d t e]) := by
 cases t with
 | nil =>
   refine call_fn rfl rfl ?_
   (repeat' (first| (intro (u_ : Unit); clear u_)| refine condT ?_| refine condF ?_| refine condp (by assumption) ?_| refine condn (by assumption) ?_| refine condN ?_| refine idxSb (by assumption) ?_| (refine condD ?_ ?_ <;> intro hq_ <;> first | (exfalso; omega) | skip)| (refine idxS (by omega) ?_; intro b_ hb_; have hl_ := b_.toNat_lt)| refine wrA (by omega) ?_| refine wrS (by omega) (by omega) ?_| refine wrI (by omega) (by omega) ?_| refine wrBA (by omega) ?_| refine wrB (by omega) (by omega) ?_| refine strC (by omega) ?_| refine nilB rfl ?_))
   all_goals exact ⟨_, rfl, rfl⟩
 | cons r0 l =>
   have hl : (List.map reD (r0 :: l)).length = l.length + 1 := by simp
   simp only [List.length_cons] at ht
   refine call_fn rfl rfl ?_
   (repeat' (first| (intro (u_ : Unit); clear u_)| refine condT ?_| refine condF ?_| refine condp (by assumption) ?_| refine condn (by assumption) ?_| refine condN ?_| refine idxSb (by assumption) ?_| refine wrS (b := 1) (by simp) (by simp; omega) ?_| (refine condD ?_ ?_ <;> intro hq_ <;> first | (exfalso; omega) | skip)| (refine idxS (by omega) ?_; intro b_ hb_; have hl_ := b_.toNat_lt)| refine wrA (by omega) ?_| refine wrS (by omega) (by omega) ?_| refine wrI (by omega) (by omega) ?_| refine wrBA (by omega) ?_| refine wrB (by omega) (by omega) ?_| refine strC (by omega) ?_| refine nilB rfl ?_))
   all_goals exact ⟨_, rfl, rfl⟩
section
variable {s : List UInt8} {i d : Nat} {t : List Re} {X : Refs} {k : Out → Refs → Prop}
theorem layE0 {kd : Int} {n : Nat} {a b : Int} (ht : t.length ≤ 2000) (hi : i ≤ s.length) (hd : d ≤ 30) (hok : ∀ a1 i' d' t', putM ⟨kd, n, a, b⟩ i d t = .ok a1 i' d' t' → k (.ret (i64 a1)) (pr s i' d' t' 0 :: X)) (herr : ∀ e v i' t', putM ⟨kd, n, a, b⟩ i d t = .err e → e ≠ 0 → i' + d ≤ s.length + 31 → t'.length ≤ 2000 → k (.ret (i64 v)) (pr s i' d t' e :: X)) :
  CallE T f_ref05_parser_lay [.ptr 0 0, i64 kd, .agg [wdv n 0, wdv n 1, wdv n 2, wdv n 3], i64 a, i64 b] (pr s i d t 0 :: X) k :=
 fitR (lay0_ev kd n a b s i d t ht hi hd) rfl hok herr
theorem layE1 {kd : Int} {n e : Nat} {a b : Int} (ht : t.length ≤ 2 ^ 40) (he : e ≠ 0) (h : ∀ v : Int, k (.ret (i64 v)) (pr s i d t e :: X)) :
  CallE T f_ref05_parser_lay [.ptr 0 0, i64 kd, .agg [wdv n 0, wdv n 1, wdv n 2, wdv n 3], i64 a, i64 b] (pr s i d t e :: X) k := by
 obtain ⟨o, rf', h1, v, rfl, rfl⟩ := lay1_ev (T := T) kd n a b s i d e t ht he
 exact ⟨_, _, at0 rfl (pr_b _ _ _ _ _) (pr_b _ _ _ _ _) rfl h1, h v⟩
end
theorem rOne_ev (c : Nat) (hc : c < 256) (rf : Refs) : Ev T f_ref04_One [u8 c] rf (.ret (cls (spanN c 1))) rf := by
 refine Ev.any ?_ rfl rf
 have h := fun rf => with_ev (T := T) 0 c hc rf
 rw [Nat.zero_or, ← spanN_1] at h
 refine ev_fn rfl rfl ?_
 (repeat' (first| (intro (u_ : Unit); clear u_)| refine condT ?_| refine condF ?_| refine condp (by assumption) ?_| refine condn (by assumption) ?_| refine condN ?_| refine idxSb (by assumption) ?_| refine callE_ev (h _) ?_| (refine condD ?_ ?_ <;> intro hq_ <;> first | (exfalso; omega) | skip)| (refine idxS (by omega) ?_; intro b_ hb_; have hl_ := b_.toNat_lt)| refine wrA (by omega) ?_| refine wrS (by omega) (by omega) ?_| refine wrI (by omega) (by omega) ?_| refine wrBA (by omega) ?_| refine wrB (by omega) (by omega) ?_| refine strC (by omega) ?_| refine nilB rfl ?_))
 exact ⟨rfl, rfl⟩
theorem rDot_ev (rf : Refs) : Ev T f_ref05_Dot [] rf (.ret (cls dotN)) rf := by
 refine Ev.any ?_ rfl rf
 refine ev_fn rfl rfl ?_
 (repeat' (first| (intro (u_ : Unit); clear u_)| refine condT ?_| refine condF ?_| refine condp (by assumption) ?_| refine condn (by assumption) ?_| refine condN ?_| refine idxSb (by assumption) ?_| refine callE_ev (rOne_ev 10 (by omega) _) ?_| refine callE_ev (rNot_ev _ _) ?_| (refine condD ?_ ?_ <;> intro hq_ <;> first | (exfalso; omega) | skip)| (refine idxS (by omega) ?_; intro b_ hb_; have hl_ := b_.toNat_lt)| refine wrA (by omega) ?_| refine wrS (by omega) (by omega) ?_| refine wrI (by omega) (by omega) ?_| refine wrBA (by omega) ?_| refine wrB (by omega) (by omega) ?_| refine strC (by omega) ?_| refine nilB rfl ?_))
 exact ⟨rfl, rfl⟩
theorem postR_ok {s : List UInt8} {r : R} {a i d d' : Nat} {t : List Re} (h : r = .ok a i d' t) : PostR s d r (.ret (i64 a)) [pr s i d' t 0] := by subst h; exact ⟨rfl, rfl⟩
theorem postR_err {s : List UInt8} {r : R} {e i d : Nat} {v : Int} {t : List Re} (h : r = .err e) (he : e ≠ 0) (hi : i + d ≤ s.length + 31) (ht : t.length ≤ 2000) : PostR s d r (.ret (i64 v)) [pr s i d t e] := by subst h; exact ⟨_, _, _, rfl, rfl, he, hi, ht⟩
theorem mem_badP (c : UInt8) : c ∈ badP ↔ (c.toNat = 42 ∨ c.toNat = 43 ∨ c.toNat = 63 ∨ c.toNat = 41 ∨ c.toNat = 124 ∨ c.toNat = 123 ∨ c.toNat = 125 ∨ c.toNat = 47) := by
 simp only [badP, List.mem_cons, List.not_mem_nil, or_false, ← UInt8.toNat_inj]
 rfl
theorem ratom_ev (A : Nat → Nat → List Re → R) (s : List UInt8) (hs : s.length ≤ 2 ^ 30) (i d : Nat) (t : List Re) (hi : i < s.length) (ht : t.length ≤ 2000) (hd : d ≤ 30) (hA : ∀ i d t, i ≤ s.length → t.length ≤ 2000 → Adv s 0 i d (A i d t))
  (hG : d < 30 → FitR T f_ref05_parser_whole [] s (i + 1) (d + 1) t (A (i + 1) (d + 1) t)) : FitR T f_ref05_parser_atom [] s i d t (atomM s (grpM s A) i d t) := by
 obtain ⟨c, hc⟩ := getS hi
 have hcl := c.toNat_lt
 refine call_fn rfl rfl ?_
 (repeat' (first| (intro (u_ : Unit); clear u_)| refine condT ?_| refine condF ?_| refine condp (by assumption) ?_| refine condn (by assumption) ?_| refine condN ?_| refine idxSb (by assumption) ?_| refine isE0 (fun hh_ hl_ => ?_) (fun hh_ => ?_)| refine isE1 (by assumption) ?_| refine failE0 ?_| refine failE1 (by assumption) ?_| refine fitRA (hG (by omega)) (hA _ _ _ (by omega) ht) rfl (fun a_ i_ t_ hr_ h1_ h2_ h3_ => ?_) (fun e_ v_ i_ t_ hr_ he_ hb_ hu_ => ?_)| refine layE0 ht (by omega) hd (fun a_ i_ d_ t_ hr2_ => ?_) (fun e_ v_ i_ t_ hr2_ he_ hb_ hu_ => ?_)| refine layE0 (n := 0) ht (by omega) hd (fun a_ i_ d_ t_ hr2_ => ?_) (fun e_ v_ i_ t_ hr2_ he_ hb_ hu_ => ?_)| refine layE1 (by omega) (by first | assumption | decide) (fun v_ => ?_)| refine layE1 (n := 0) (by omega) (by first | assumption | decide) (fun v_ => ?_)| refine callE_ev (rDot_ev _) ?_| refine callE_ev (rOne_ev _ (by omega) _) ?_| refine subLo (by omega) ?_| (refine rsignE (fun hs_ => ?_) (fun a_ n_ hs_ ha_ hn1_ hn2_ => ?_) <;> try rw [List.length_drop] at hn2_)| (refine rreadE (by rw [List.length_drop]; omega) (fun hs_ => ?_) (fun a_ n_ hs_ hn1_ hn2_ => ?_) <;> try rw [List.length_drop] at hn2_)| refine wrS (b := 1) (by omega) (by omega) ?_| (refine condD ?_ ?_ <;> intro hq_ <;> first | (exfalso; omega) | skip)| (refine idxS (by omega) ?_; intro b_ hb_; have hl_ := b_.toNat_lt)| refine wrA (by omega) ?_| refine wrS (by omega) (by omega) ?_| refine wrI (by omega) (by omega) ?_| refine wrBA (by omega) ?_| refine wrB (by omega) (by omega) ?_| refine strC (by omega) ?_| refine nilB rfl ?_))
 all_goals first
  | exact postR_err ((atom_g hc (hcT hc (by assumption))).trans (if_pos (by omega))) (by decide) (by omega) (by assumption)
  | exact postR_ok ((atom_g hc (hcT hc (by assumption))).trans ((if_neg (by omega)).trans ((bind_ok hr_).trans (if_pos hh_))))
  | exact postR_err ((atom_g hc (hcT hc (by assumption))).trans ((if_neg (by omega)).trans ((bind_ok hr_).trans (if_neg (by simp [hh_]))))) (by decide) (by omega) (by assumption)
  | exact postR_err ((atom_g hc (hcT hc (by assumption))).trans ((if_neg (by omega)).trans (bind_err hr_))) he_ (by omega) (by assumption)
  | exact postR_ok ((atom_d hc (hcT hc (by assumption))).trans hr2_)
  | exact postR_err ((atom_d hc (hcT hc (by assumption))).trans hr2_) he_ (by omega) (by assumption)
  | exact postR_ok ((atom_b hc (hcT hc (by assumption))).trans hr2_)
  | exact postR_err ((atom_b hc (hcT hc (by assumption))).trans hr2_) he_ (by omega) (by assumption)
  | exact postR_ok ((atom_e hc (hcT hc (by assumption))).trans hr2_)
  | exact postR_err ((atom_e hc (hcT hc (by assumption))).trans hr2_) he_ (by omega) (by assumption)
  | exact postR_err (atom_k0 hc (hcT hc (by assumption)) hs_) (by decide) (by omega) (by assumption)
  | exact postR_ok ((atom_k hc (hcT hc (by assumption)) hs_).trans hr2_)
  | exact postR_err ((atom_k hc (hcT hc (by assumption)) hs_).trans hr2_) he_ (by omega) (by assumption)
  | (have n1 := hcF hc (x := 40) (by assumption)
     have n2 := hcF hc (x := 46) (by assumption)
     have n3 := hcF hc (x := 94) (by assumption)
     have n4 := hcF hc (x := 36) (by assumption)
     have n5 := hcF hc (x := 91) (by assumption)
     first
     | exact postR_err (atom_bad hc n1 n2 n3 n4 n5 ((mem_badP c).2 (by omega))) (by decide) (by omega) (by assumption)
     | exact postR_err (atom_s0 hc n1 n2 n3 n4 n5 (fun h => by have := (mem_badP c).1 h; omega) hs_) (by decide) (by omega) (by assumption)
     | exact postR_ok ((atom_s hc n1 n2 n3 n4 n5 (fun h => by have := (mem_badP c).1 h; omega) hs_).trans hr2_)
     | exact postR_err ((atom_s hc n1 n2 n3 n4 n5 (fun h => by have := (mem_badP c).1 h; omega) hs_).trans hr2_) he_ (by omega) (by assumption))
theorem hit_two {s : List UInt8} {i x y : Nat} (h : hit s i x = true) (h' : hit s i y = true) : x = y := by
 obtain ⟨c, hc⟩ := getS (hit_lt h)
 rw [← hcT hc h, ← hcT hc h']
inductive PM where
 | go (f a i : Nat) (t : List Re)
 | bad (e : Nat) (a : Int) (i : Nat) (t : List Re)
 | fin (a i : Nat) (t : List Re)
 | bfin (e : Nat) (a : Int) (i : Nat) (t : List Re)
def PM.ch : PM → Slots
 | .go _ a _ _ => [(3, i64 a), (4, bl true)]
 | .bad _ a _ _ => [(3, i64 a), (4, bl true)]
 | .fin a _ _ => [(3, i64 a), (4, bl false)]
 | .bfin _ a _ _ => [(3, i64 a), (4, bl false)]
def PM.hc (s : List UInt8) (d : Nat) : PM → List (Nat × List AV)
 | .go _ _ i t => [(0, pr s i d t 0)]
 | .bad e _ i t => [(0, pr s i d t e)]
 | .fin _ i t => [(0, pr s i d t 0)]
 | .bfin e _ i t => [(0, pr s i d t e)]
def PM.m : PM → Nat
 | .go f _ _ _ => f + 4
 | .bad _ _ _ _ => 3
 | .fin _ _ _ => 1
 | .bfin _ _ _ _ => 1
def PM.P (s : List UInt8) (d : Nat) (L : Nat → Nat → Nat → Nat → List Re → R) (r : R) : PM → Prop
 | .go f a i t => s.length < i + f ∧ i ≤ s.length ∧ t.length ≤ 2000 ∧ r = L f a i d t
 | .bad e _ i t => r = .err e ∧ e ≠ 0 ∧ i + d ≤ s.length + 31 ∧ t.length ≤ 2000
 | .fin a i t => r = .ok a i d t
 | .bfin e _ i t => r = .err e ∧ e ≠ 0 ∧ i + d ≤ s.length + 31 ∧ t.length ≤ 2000
theorem rpiece_ev (G : Nat → Nat → List Re → R) (s : List UInt8) (hs : s.length ≤ 2 ^ 30) (i d : Nat) (t : List Re) (hi : i < s.length) (ht : t.length ≤ 2000) (hd : d ≤ 30) (hA : AdvG s G) (hat : FitR T f_ref05_parser_atom [] s i d t (atomM s G i d t)) : FitR T f_ref05_parser_piece [] s i d t (pieceM s G i d t) := by
 refine call_fn rfl rfl ?_
 (repeat' (first| (intro (u_ : Unit); clear u_)| refine condT ?_| refine condF ?_| refine condp (by assumption) ?_| refine condn (by assumption) ?_| refine condN ?_| refine idxSb (by assumption) ?_| refine fitRA hat (adv_atom hA hi ht) rfl (fun a_ i_ t_ hr_ h1_ h2_ h3_ => ?_) (fun e_ v_ i_ t_ hr_ he_ hb_ hu_ => ?_)| (refine condD ?_ ?_ <;> intro hq_ <;> first | (exfalso; omega) | skip)| (refine idxS (by omega) ?_; intro b_ hb_; have hl_ := b_.toNat_lt)| refine wrA (by omega) ?_| refine wrS (by omega) (by omega) ?_| refine wrI (by omega) (by omega) ?_| refine wrBA (by omega) ?_| refine wrB (by omega) (by omega) ?_| refine strC (by omega) ?_| refine nilB rfl ?_))
 all_goals
  first
  | refine loopR PM.ch (PM.hc s d) PM.m (PM.P s d (postL s) (pieceM s G i d t)) (.go (s.length + 1) _ _ _) ⟨by omega, h2_, h3_, bind_ok hr_⟩ (by rfl) (by rfl) ?_
  | refine loopR PM.ch (PM.hc s d) PM.m (PM.P s d (postL s) (pieceM s G i d t)) (.bad _ _ _ _) ⟨bind_err hr_, he_, hb_, hu_⟩ (by rfl) (by rfl) ?_
  clear hr_
  rintro (⟨f, a, j, u⟩ | ⟨e, a, j, u⟩ | ⟨a, j, u⟩ | ⟨e, a, j, u⟩) hP
  ·obtain ⟨hf, hj, hu, hP⟩ := hP
   obtain ⟨f, rfl⟩ : ∃ g, f = g + 1 := ⟨f - 1, by omega⟩
   (repeat' (first| (intro (u_ : Unit); clear u_)| refine condT ?_| refine condF ?_| refine condp (by assumption) ?_| refine condn (by assumption) ?_| refine condN ?_| refine idxSb (by assumption) ?_| refine isE0 (fun hh_ hl_ => ?_) (fun hh_ => ?_)| refine layE0 (n := 0) hu (by omega) hd (fun a_ i_ d_ t_ hr2_ => ?_) (fun e_ v_ i_ t_ hr2_ he_ hb_ hu_ => ?_)| (refine condD ?_ ?_ <;> intro hq_ <;> first | (exfalso; omega) | skip)| (refine idxS (by omega) ?_; intro b_ hb_; have hl_ := b_.toNat_lt)| refine wrA (by omega) ?_| refine wrS (by omega) (by omega) ?_| refine wrI (by omega) (by omega) ?_| refine wrBA (by omega) ?_| refine wrB (by omega) (by omega) ?_| refine strC (by omega) ?_| refine nilB rfl ?_))
   all_goals first
    | exact absurd (hit_two (x := 42) (y := 43) (by assumption) (by assumption)) (by decide)
    | exact absurd (hit_two (x := 42) (y := 63) (by assumption) (by assumption)) (by decide)
    | exact absurd (hit_two (x := 43) (y := 63) (by assumption) (by assumption)) (by decide)
    | exact ⟨.fin a j u, hP.trans (post_no (by assumption) (by assumption) (by assumption)), (by show 1 < f + 1 + 4; omega), rfl, rfl, rfl, rfl⟩
    | (have hq := hP.trans (post_42 (by assumption))
       first
       | exact ⟨.bad e_ v_ i_ t_, ⟨hq.trans (bind_err hr2_), he_, hb_, hu_⟩, (by show 3 < f + 1 + 4; omega), rfl, rfl, rfl, rfl⟩
       | (obtain ⟨rfl, rfl, rfl, rfl, hl2⟩ := putM_ok hr2_
          exact ⟨.go f _ _ _, ⟨by omega, by omega, by simp; omega, hq.trans (bind_ok hr2_)⟩, (by show f + 4 < f + 1 + 4; omega), rfl, rfl, rfl, rfl⟩))
    | (have hq := hP.trans (post_43 (by assumption) (by assumption))
       first
       | exact ⟨.bad e_ v_ i_ t_, ⟨hq.trans (bind_err hr2_), he_, hb_, hu_⟩, (by show 3 < f + 1 + 4; omega), rfl, rfl, rfl, rfl⟩
       | (obtain ⟨rfl, rfl, rfl, rfl, hl2⟩ := putM_ok hr2_
          exact ⟨.go f _ _ _, ⟨by omega, by omega, by simp; omega, hq.trans (bind_ok hr2_)⟩, (by show f + 4 < f + 1 + 4; omega), rfl, rfl, rfl, rfl⟩))
    | (have hq := hP.trans (post_63 (by assumption) (by assumption) (by assumption))
       first
       | exact ⟨.bad e_ v_ i_ t_, ⟨hq.trans (bind_err hr2_), he_, hb_, hu_⟩, (by show 3 < f + 1 + 4; omega), rfl, rfl, rfl, rfl⟩
       | (obtain ⟨rfl, rfl, rfl, rfl, hl2⟩ := putM_ok hr2_
          exact ⟨.go f _ _ _, ⟨by omega, by omega, by simp; omega, hq.trans (bind_ok hr2_)⟩, (by show f + 4 < f + 1 + 4; omega), rfl, rfl, rfl, rfl⟩))
  ·obtain ⟨hP, he, hb, hu⟩ := hP
   (repeat' (first| (intro (u_ : Unit); clear u_)| refine condT ?_| refine condF ?_| refine condp (by assumption) ?_| refine condn (by assumption) ?_| refine condN ?_| refine idxSb (by assumption) ?_| refine isE1 he ?_| (refine condD ?_ ?_ <;> intro hq_ <;> first | (exfalso; omega) | skip)| (refine idxS (by omega) ?_; intro b_ hb_; have hl_ := b_.toNat_lt)| refine wrA (by omega) ?_| refine wrS (by omega) (by omega) ?_| refine wrI (by omega) (by omega) ?_| refine wrBA (by omega) ?_| refine wrB (by omega) (by omega) ?_| refine strC (by omega) ?_| refine nilB rfl ?_))
   exact ⟨.bfin e a j u, ⟨hP, he, hb, hu⟩, (by show 1 < 3; decide), rfl, rfl, rfl, rfl⟩
  ·(repeat' (first
    | (intro (u_ : Unit); clear u_)
    | refine condT ?_
    | refine condF ?_
    | refine condp (by assumption) ?_
    | refine condn (by assumption) ?_
    | refine condN ?_
    | refine idxSb (by assumption) ?_
    | (refine condD ?_ ?_ <;> intro hq_ <;> first | (exfalso; omega) | skip)
    | (refine idxS (by omega) ?_; intro b_ hb_; have hl_ := b_.toNat_lt)
    | refine wrA (by omega) ?_
    | refine wrS (by omega) (by omega) ?_
    | refine wrI (by omega) (by omega) ?_
    | refine wrBA (by omega) ?_
    | refine wrB (by omega) (by omega) ?_
    | refine strC (by omega) ?_
    | refine nilB rfl ?_))
   exact postR_ok hP
  ·obtain ⟨hP, he, hb, hu⟩ := hP
   (repeat' (first| (intro (u_ : Unit); clear u_)| refine condT ?_| refine condF ?_| refine condp (by assumption) ?_| refine condn (by assumption) ?_| refine condN ?_| refine idxSb (by assumption) ?_| (refine condD ?_ ?_ <;> intro hq_ <;> first | (exfalso; omega) | skip)| (refine idxS (by omega) ?_; intro b_ hb_; have hl_ := b_.toNat_lt)| refine wrA (by omega) ?_| refine wrS (by omega) (by omega) ?_| refine wrI (by omega) (by omega) ?_| refine wrBA (by omega) ?_| refine wrB (by omega) (by omega) ?_| refine strC (by omega) ?_| refine nilB rfl ?_))
   exact postR_err hP he hb hu
end Go.Ab.R05
namespace Go.Ab.R05
set_option maxRecDepth 100000
set_option linter.all false
set_option maxHeartbeats 4000000
variable {T : Tb} [hT : Base T]
inductive QM where
 | go (f a i : Nat) (t : List Re)
 | bad (e : Nat) (a : Int) (i : Nat) (t : List Re)
def QM.ch : QM → Slots
 | .go _ a _ _ => [(3, i64 a)]
 | .bad _ a _ _ => [(3, i64 a)]
def QM.hc (s : List UInt8) (d : Nat) : QM → List (Nat × List AV)
 | .go _ _ i t => [(0, pr s i d t 0)]
 | .bad e _ i t => [(0, pr s i d t e)]
def QM.m : QM → Nat
 | .go f _ _ _ => f + 1
 | .bad _ _ _ _ => 0
def QM.P (s : List UInt8) (d : Nat) (L : Nat → Nat → Nat → Nat → List Re → R) (r : R) : QM → Prop
 | .go f a i t => s.length < i + f ∧ i ≤ s.length ∧ t.length ≤ 2000 ∧ r = L f a i d t
 | .bad e _ i t => r = .err e ∧ e ≠ 0 ∧ i + d ≤ s.length + 31 ∧ t.length ≤ 2000
theorem rrow_ev (G : Nat → Nat → List Re → R) (s : List UInt8) (hs : s.length ≤ 2 ^ 30) (i d : Nat) (t : List Re) (hi : i ≤ s.length) (ht : t.length ≤ 2000) (hd : d ≤ 30) (hA : AdvG s G) (hat : ∀ i t, i < s.length → t.length ≤ 2000 → FitR T f_ref05_parser_atom [] s i d t (atomM s G i d t)) : FitR T f_ref05_parser_row [] s i d t (catM s G i d t) := by
 refine call_fn rfl rfl ?_
 (repeat' (first| (intro (u_ : Unit); clear u_)| refine condT ?_| refine condF ?_| refine condp (by assumption) ?_| refine condn (by assumption) ?_| refine condN ?_| refine idxSb (by assumption) ?_| refine isE0 (fun hh_ hl_ => ?_) (fun hh_ => ?_)| refine layE0 (n := 0) ht hi hd (fun a_ i_ d_ t_ hr2_ => ?_) (fun e_ v_ i_ t_ hr2_ he_ hb_ hu_ => ?_)| refine fitRA (rpiece_ev G s hs _ _ _ (by omega) ht hd hA (hat _ _ (by omega) ht)) (adv_piece hA (by omega) ht) rfl (fun a_ i_ t_ hr_ h1_ h2_ h3_ => ?_) (fun e_ v_ i_ t_ hr_ he_ hb_ hu_ => ?_)| (refine condD ?_ ?_ <;> intro hq_ <;> first | (exfalso; omega) | skip)| (refine idxS (by omega) ?_; intro b_ hb_; have hl_ := b_.toNat_lt)| refine wrA (by omega) ?_| refine wrS (by omega) (by omega) ?_| refine wrI (by omega) (by omega) ?_| refine wrBA (by omega) ?_| refine wrB (by omega) (by omega) ?_| refine strC (by omega) ?_| refine nilB rfl ?_))
 all_goals first
  | exact postR_ok ((catM_stop (stopT (by first | exact .inl (by assumption) | exact .inr (.inl (by assumption)) | exact .inr (.inr (by omega))))).trans hr2_)
  | exact postR_err ((catM_stop (stopT (by first | exact .inl (by assumption) | exact .inr (.inl (by assumption)) | exact .inr (.inr (by omega))))).trans hr2_) he_ hb_ hu_
  | skip
 all_goals
  have hgo := catM_go (G := G) (d := d) (t := t) (stopF (show i < s.length by omega) (by assumption) (by assumption))
  first
  | refine loopR QM.ch (QM.hc s d) QM.m (QM.P s d (catL s G) (catM s G i d t)) (.go (s.length + 1) _ _ _) ⟨by omega, h2_, h3_, hgo.trans (bind_ok hr_)⟩ (by rfl) (by rfl) ?_
  | refine loopR QM.ch (QM.hc s d) QM.m (QM.P s d (catL s G) (catM s G i d t)) (.bad _ _ _ _) ⟨hgo.trans (bind_err hr_), he_, hb_, hu_⟩ (by rfl) (by rfl) ?_
  clear hr_ hgo
  rintro (⟨f, a, j, u⟩ | ⟨e, a, j, u⟩) hP
  ·obtain ⟨hf, hj, hu, hP⟩ := hP
   obtain ⟨f, rfl⟩ : ∃ g, f = g + 1 := ⟨f - 1, by omega⟩
   (repeat' (first| (intro (u_ : Unit); clear u_)| refine condT ?_| refine condF ?_| refine condp (by assumption) ?_| refine condn (by assumption) ?_| refine condN ?_| refine idxSb (by assumption) ?_| refine fitRA (rpiece_ev G s hs _ _ _ (by omega) hu hd hA (hat _ _ (by omega) hu)) (adv_piece hA (by omega) hu) rfl (fun a_ i_ t_ hr_ h1_ h2_ h3_ => ?_) (fun e_ v_ i_ t_ hr_ he_ hb_ hu_ => ?_)| refine layE0 (n := 0) h3_ h2_ hd (fun a_ i_ d_ t_ hr2_ => ?_) (fun e_ v_ i_ t_ hr2_ he_ hb_ hu_ => ?_)| refine layE1 (n := 0) (by omega) he_ (fun v_ => ?_)| (refine condD ?_ ?_ <;> intro hq_ <;> first | (exfalso; omega) | skip)| (refine idxS (by omega) ?_; intro b_ hb_; have hl_ := b_.toNat_lt)| refine wrA (by omega) ?_| refine wrS (by omega) (by omega) ?_| refine wrI (by omega) (by omega) ?_| refine wrBA (by omega) ?_| refine wrB (by omega) (by omega) ?_| refine strC (by omega) ?_| refine nilB rfl ?_))
   all_goals first
    | exact postR_ok (hP.trans (catL_stop (stopT (by first | exact .inr (.inr (by omega)) | exact .inl (hitT (by assumption) (by omega)) | exact .inr (.inl (hitT (by assumption) (by omega)))))))
    | (have hq := hP.trans (catL_go (stopF (show j < s.length by omega) (hitF (by assumption) (by omega)) (hitF (by assumption) (by omega))))
       first
       | exact ⟨.bad e_ _ i_ t_, ⟨hq.trans (bind_err hr_), he_, hb_, hu_⟩, (by show 0 < f + 1 + 1; omega), rfl, rfl, rfl, rfl⟩
       | exact ⟨.bad e_ _ i_ t_, ⟨hq.trans ((bind_ok hr_).trans (bind_err hr2_)), he_, hb_, hu_⟩, (by show 0 < f + 1 + 1; omega), rfl, rfl, rfl, rfl⟩
       | (obtain ⟨rfl, rfl, rfl, rfl, hl2⟩ := putM_ok hr2_
          exact ⟨.go f _ _ _, ⟨by omega, h2_, by simp; omega, hq.trans ((bind_ok hr_).trans (bind_ok hr2_))⟩, (by show f + 1 < f + 1 + 1; omega), rfl, rfl, rfl, rfl⟩))
  ·obtain ⟨hP, he, hb, hu⟩ := hP
   (repeat' (first| (intro (u_ : Unit); clear u_)| refine condT ?_| refine condF ?_| refine condp (by assumption) ?_| refine condn (by assumption) ?_| refine condN ?_| refine idxSb (by assumption) ?_| (refine condD ?_ ?_ <;> intro hq_ <;> first | (exfalso; omega) | skip)| (refine idxS (by omega) ?_; intro b_ hb_; have hl_ := b_.toNat_lt)| refine wrA (by omega) ?_| refine wrS (by omega) (by omega) ?_| refine wrI (by omega) (by omega) ?_| refine wrBA (by omega) ?_| refine wrB (by omega) (by omega) ?_| refine strC (by omega) ?_| refine nilB rfl ?_))
   exact postR_err hP he hb hu
theorem rwhole_ev (G : Nat → Nat → List Re → R) (s : List UInt8) (hs : s.length ≤ 2 ^ 30) (i d : Nat) (t : List Re) (hi : i ≤ s.length) (ht : t.length ≤ 2000) (hd : d ≤ 30) (hA : AdvG s G) (hat : ∀ i t, i < s.length → t.length ≤ 2000 → FitR T f_ref05_parser_atom [] s i d t (atomM s G i d t)) : FitR T f_ref05_parser_whole [] s i d t (allB s G i d t) := by
 refine call_fn rfl rfl ?_
 (repeat' (first| (intro (u_ : Unit); clear u_)| refine condT ?_| refine condF ?_| refine condp (by assumption) ?_| refine condn (by assumption) ?_| refine condN ?_| refine idxSb (by assumption) ?_| refine fitRA (rrow_ev G s hs _ _ _ hi ht hd hA hat) (adv_catM hA hi ht) rfl (fun a_ i_ t_ hr_ h1_ h2_ h3_ => ?_) (fun e_ v_ i_ t_ hr_ he_ hb_ hu_ => ?_)| (refine condD ?_ ?_ <;> intro hq_ <;> first | (exfalso; omega) | skip)| (refine idxS (by omega) ?_; intro b_ hb_; have hl_ := b_.toNat_lt)| refine wrA (by omega) ?_| refine wrS (by omega) (by omega) ?_| refine wrI (by omega) (by omega) ?_| refine wrBA (by omega) ?_| refine wrB (by omega) (by omega) ?_| refine strC (by omega) ?_| refine nilB rfl ?_))
 all_goals
  first
  | refine loopR QM.ch (QM.hc s d) QM.m (QM.P s d (altL s G) (allB s G i d t)) (.go (s.length + 1) _ _ _) ⟨by omega, h2_, h3_, bind_ok hr_⟩ (by rfl) (by rfl) ?_
  | refine loopR QM.ch (QM.hc s d) QM.m (QM.P s d (altL s G) (allB s G i d t)) (.bad _ _ _ _) ⟨bind_err hr_, he_, hb_, hu_⟩ (by rfl) (by rfl) ?_
  clear hr_
  rintro (⟨f, a, j, u⟩ | ⟨e, a, j, u⟩) hP
  ·obtain ⟨hf, hj, hu, hP⟩ := hP
   obtain ⟨f, rfl⟩ : ∃ g, f = g + 1 := ⟨f - 1, by omega⟩
   (repeat' (first| (intro (u_ : Unit); clear u_)| refine condT ?_| refine condF ?_| refine condp (by assumption) ?_| refine condn (by assumption) ?_| refine condN ?_| refine idxSb (by assumption) ?_| refine isE0 (fun hh_ hl_ => ?_) (fun hh_ => ?_)| refine fitRA (rrow_ev G s hs _ _ _ (by omega) hu hd hA hat) (adv_catM hA (by omega) hu) rfl (fun a_ i_ t_ hr_ h1_ h2_ h3_ => ?_) (fun e_ v_ i_ t_ hr_ he_ hb_ hu_ => ?_)| refine layE0 (n := 0) h3_ h2_ hd (fun a_ i_ d_ t_ hr2_ => ?_) (fun e_ v_ i_ t_ hr2_ he_ hb_ hu_ => ?_)| refine layE1 (n := 0) (by omega) he_ (fun v_ => ?_)| (refine condD ?_ ?_ <;> intro hq_ <;> first | (exfalso; omega) | skip)| (refine idxS (by omega) ?_; intro b_ hb_; have hl_ := b_.toNat_lt)| refine wrA (by omega) ?_| refine wrS (by omega) (by omega) ?_| refine wrI (by omega) (by omega) ?_| refine wrBA (by omega) ?_| refine wrB (by omega) (by omega) ?_| refine strC (by omega) ?_| refine nilB rfl ?_))
   all_goals first
    | exact postR_ok (hP.trans (altL_stop (by assumption)))
    | (have hq := hP.trans (altL_go (by assumption))
       first
       | exact ⟨.bad e_ _ i_ t_, ⟨hq.trans (bind_err hr_), he_, hb_, hu_⟩, (by show 0 < f + 1 + 1; omega), rfl, rfl, rfl, rfl⟩
       | exact ⟨.bad e_ _ i_ t_, ⟨hq.trans ((bind_ok hr_).trans (bind_err hr2_)), he_, hb_, hu_⟩, (by show 0 < f + 1 + 1; omega), rfl, rfl, rfl, rfl⟩
       | (obtain ⟨rfl, rfl, rfl, rfl, hl2⟩ := putM_ok hr2_
          exact ⟨.go f _ _ _, ⟨by omega, h2_, by simp; omega, hq.trans ((bind_ok hr_).trans (bind_ok hr2_))⟩, (by show f + 1 < f + 1 + 1; omega), rfl, rfl, rfl, rfl⟩))
  ·obtain ⟨hP, he, hb, hu⟩ := hP
   (repeat' (first| (intro (u_ : Unit); clear u_)| refine condT ?_| refine condF ?_| refine condp (by assumption) ?_| refine condn (by assumption) ?_| refine condN ?_| refine idxSb (by assumption) ?_| refine isE1 he ?_| (refine condD ?_ ?_ <;> intro hq_ <;> first | (exfalso; omega) | skip)| (refine idxS (by omega) ?_; intro b_ hb_; have hl_ := b_.toNat_lt)| refine wrA (by omega) ?_| refine wrS (by omega) (by omega) ?_| refine wrI (by omega) (by omega) ?_| refine wrBA (by omega) ?_| refine wrB (by omega) (by omega) ?_| refine strC (by omega) ?_| refine nilB rfl ?_))
   exact postR_err hP he hb hu
theorem rallM_ev (s : List UInt8) (hs : s.length ≤ 2 ^ 30) : ∀ (n i d : Nat) (t : List Re), d + n = 30 → i ≤ s.length → t.length ≤ 2000 → FitR T f_ref05_parser_whole [] s i d t (allM s (n + 1) i d t)
 | 0, i, d, t, hd, hi, ht => rwhole_ev _ s hs i d t hi ht (by omega) (adv_grp fun i d t hi ht => adv_allM 0 hi ht) fun i t hi ht => ratom_ev _ s hs i d t hi ht (by omega) (fun i d t hi ht => adv_allM 0 hi ht) (fun h => by omega)
 | n + 1, i, d, t, hd, hi, ht => rwhole_ev _ s hs i d t hi ht (by omega) (adv_grp fun i d t hi ht => adv_allM (n + 1) hi ht) fun i t hi ht => ratom_ev _ s hs i d t hi ht (by omega) (fun i d t hi ht => adv_allM (n + 1) hi ht) (fun h => rallM_ev s hs n (i + 1) (d + 1) t (by omega) (by omega) ht)
theorem pRd_ev (s : List UInt8) (hs : s.length ≤ 2 ^ 30) (rf : Refs) : Ev T f_ref05_Read [str s] rf (.ret (resT (parse s))) rf := by
 have hall := rallM_ev (T := T) s hs 30 0 0 [] rfl (Nat.zero_le _) (by simp)
 refine Ev.any ?_ rfl rf
 cases hr : allM s 31 0 0 [] with
 | err e =>
   rw [parse_err hr]
   refine ev_fn rfl rfl ?_
   (repeat' (first| (intro (u_ : Unit); clear u_)| refine condT ?_| refine condF ?_| refine condp (by assumption) ?_| refine condn (by assumption) ?_| refine condN ?_| refine idxSb (by assumption) ?_| refine fitR hall rfl (fun a_ i_ d_ t_ hr_ => absurd (hr.symm.trans hr_) (fun h => by cases h)) (fun e_ v_ i_ t_ hr_ he_ hb_ hu_ => ?_)| (refine condD ?_ ?_ <;> intro hq_ <;> first | (exfalso; omega) | skip)| (refine idxS (by omega) ?_; intro b_ hb_; have hl_ := b_.toNat_lt)| refine wrA (by omega) ?_| refine wrS (by omega) (by omega) ?_| refine wrI (by omega) (by omega) ?_| refine wrBA (by omega) ?_| refine wrB (by omega) (by omega) ?_| refine strC (by omega) ?_| refine nilB rfl ?_))
   cases hr.symm.trans hr_
   exact ⟨rfl, rfl⟩
 | ok a i d t =>
   by_cases hi : i < s.length
   ·rw [parse_9 hr hi]
    refine ev_fn rfl rfl ?_
    (repeat' (first| (intro (u_ : Unit); clear u_)| refine condT ?_| refine condF ?_| refine condp (by assumption) ?_| refine condn (by assumption) ?_| refine condN ?_| refine idxSb (by assumption) ?_| refine fitR hall rfl (fun a_ i_ d_ t_ hr_ => ?_) (fun e_ v_ i_ t_ hr_ he_ hb_ hu_ => absurd (hr.symm.trans hr_) (fun h => by cases h))| (have he_ := hr.symm.trans hr_; clear hr_; cases he_)| refine failE0 ?_| (refine condD ?_ ?_ <;> intro hq_ <;> first | (exfalso; omega) | skip)| (refine idxS (by omega) ?_; intro b_ hb_; have hl_ := b_.toNat_lt)| refine wrA (by omega) ?_| refine wrS (by omega) (by omega) ?_| refine wrI (by omega) (by omega) ?_| refine wrBA (by omega) ?_| refine wrB (by omega) (by omega) ?_| refine strC (by omega) ?_| refine nilB rfl ?_))
    exact ⟨rfl, rfl⟩
   ·rw [parse_ok hr hi]
    cases t <;>
    (refine ev_fn rfl rfl ?_
     (repeat' (first| (intro (u_ : Unit); clear u_)| refine condT ?_| refine condF ?_| refine condp (by assumption) ?_| refine condn (by assumption) ?_| refine condN ?_| refine idxSb (by assumption) ?_| refine fitR hall rfl (fun a_ i_ d_ t_ hr_ => ?_) (fun e_ v_ i_ t_ hr_ he_ hb_ hu_ => absurd (hr.symm.trans hr_) (fun h => by cases h))| (have he_ := hr.symm.trans hr_; clear hr_; cases he_)| (refine condD ?_ ?_ <;> intro hq_ <;> first | (exfalso; omega) | skip)| (refine idxS (by omega) ?_; intro b_ hb_; have hl_ := b_.toNat_lt)| refine wrA (by omega) ?_| refine wrS (by omega) (by omega) ?_| refine wrI (by omega) (by omega) ?_| refine wrBA (by omega) ?_| refine wrB (by omega) (by omega) ?_| refine strC (by omega) ?_| refine nilB rfl ?_))
     exact ⟨rfl, rfl⟩)
end Go.Ab.R05
namespace Go.Ab.R05
set_option maxRecDepth 100000
set_option linter.all false
set_option maxHeartbeats 4000000
variable {T : Tb} [hT : Base T]
def pieceS (p : UInt8 × UInt8) : List UInt8 :=
 plainS p.1.toNat ++ (if p.2.toNat > p.1.toNat + 1 then 45 :: plainS p.2.toNat else if p.2.toNat > p.1.toNat then plainS p.2.toNat else [])
theorem plainS_length (c : Nat) : (plainS c).length ≤ 4 := by unfold plainS; split <;> simp
theorem textBody_wp (a b : UInt8) (s : List UInt8) (hs : s.length ≤ 2 ^ 30) : WP T r_class_Text_0 ⟨[(3, .ptr 0 0), (4, u8 a.toNat), (5, u8 b.toNat)], [[str s]], [], none, 1⟩
  (fun st => ∃ sl, st = ⟨sl, [[str (s ++ pieceS (a, b))]], [], none, 1⟩) (fun _ _ => False) := by
 have ha := a.toNat_lt
 have hb := b.toNat_lt
 have hpa := plainS_length a.toNat
 have hpb := plainS_length b.toNat
 refine (vc_wp (nb := 1) (N := fun _ rf df pn => rf = [[str (s ++ pieceS (a, b))]] ∧ df = [] ∧ pn = none) (X := fun _ _ _ _ _ => False) _ ?_).mono ?_ ?_
 ·(repeat' (first
   | (intro (u_ : Unit); clear u_)
   | refine condT ?_
   | refine condF ?_
   | refine condp (by assumption) ?_
   | refine condn (by assumption) ?_
   | refine condN ?_
   | refine idxSb (by assumption) ?_
   | refine callE_ev (Plain_ev _ (by omega) _) ?_
   | refine strC (by simp only [List.length_append, List.length_cons, List.length_nil]; omega) ?_
   | (refine condD ?_ ?_ <;> intro hq_ <;> first | (exfalso; omega) | skip)
   | (refine idxS (by omega) ?_; intro b_ hb_; have hl_ := b_.toNat_lt)
   | refine wrA (by omega) ?_
   | refine wrS (by omega) (by omega) ?_
   | refine wrI (by omega) (by omega) ?_
   | refine wrBA (by omega) ?_
   | refine wrB (by omega) (by omega) ?_
   | refine strC (by omega) ?_
   | refine nilB rfl ?_))
  all_goals
   refine ⟨?_, rfl, rfl⟩
   simp only [pieceS, gt_iff_lt]
   first | rw [if_pos (by omega)] | rw [if_neg (by omega), if_pos (by omega)] | rw [if_neg (by omega), if_neg (by omega)]
   simp only [List.append_assoc, List.append_nil, List.cons_append, List.nil_append]
 ·rintro ⟨sl, rf, df, pn, nb⟩ ⟨h1, h2, h3, h4⟩
  simp only at h1 h2 h3 h4
  subst h1 h2 h3 h4
  exact ⟨sl, rfl⟩
 ·rintro e s ⟨_, h⟩
  exact h
end Go.Ab.R05
