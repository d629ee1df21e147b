/- A part of the proof: tools. No condition. -/
import Derived.Test.YtghchmemjjpcbaaC8
set_option linter.all false
namespace Go.Ab.R05
set_option maxRecDepth 100000
set_option linter.all false
set_option maxHeartbeats 4000000
variable {T : Tb} [hT : Base T]
def many (k : Int) : Int := if k = 2 ∨ k = 3 then 2 else if 4 ≤ k ∧ k ≤ 6 then 1 else if k = 0 ∨ k = 1 ∨ k = 7 ∨ k = 8 then 0 else -1
def up (n : Nat) (r : Re) : Re := if many r.kind = 2 then { r with k0 := r.k0 + n, k1 := r.k1 + n } else if many r.kind = 1 then { r with k0 := r.k0 + n } else r
def joinM (t u : List Re) (kind : Int) : Except Nat (List Re) :=
 if kind ≠ 2 ∧ kind ≠ 3 then .error 1 else if 2000 ≤ t.length + u.length then .error 6
 else .ok (t ++ u.map (up t.length) ++ [⟨kind, 0, t.length - 1, ((t.length + u.length : Nat) : Int) - 1⟩])
theorem many_ev (k : Int) (rf : Refs) : Ev T f_ref05_many [i64 k] rf (.ret (i64 (many k))) rf := by
 refine Ev.any ?_ rfl rf
 refine ev_fn rfl rfl ?_
 (repeat' (first| (intro (u_ : Unit); clear u_)| refine condT ?_| refine condF ?_| refine condp (by assumption) ?_| refine condn (by assumption) ?_| refine condN ?_| refine idxSb (by assumption) ?_| (refine condD ?_ ?_ <;> intro hq_ <;> first | (exfalso; omega) | skip)| (refine idxS (by omega) ?_; intro b_ hb_; have hl_ := b_.toNat_lt)| refine wrA (by omega) ?_| refine wrS (by omega) (by omega) ?_| refine wrI (by omega) (by omega) ?_| refine wrBA (by omega) ?_| refine wrB (by omega) (by omega) ?_| refine strC (by omega) ?_| refine nilB rfl ?_))
 all_goals (refine ⟨?_, rfl⟩; unfold many; (repeat (first | rw [if_pos (by omega)] | rw [if_neg (by omega)])); first | done | rfl)
def Small (u : List Re) : Prop := ∀ r, r ∈ u → -1000000000000 ≤ r.k0 ∧ r.k0 ≤ 1000000000000 ∧ -1000000000000 ≤ r.k1 ∧ r.k1 ≤ 1000000000000
theorem many_cases (k : Int) : many k = 2 ∨ many k = 1 ∨ many k = 0 ∨ many k = -1 := by
 unfold many; split
 ·exact .inl rfl
 ·split
  ·exact .inr (.inl rfl)
  ·split
   ·exact .inr (.inr (.inl rfl))
   ·exact .inr (.inr (.inr rfl))
theorem sizesRe (t : List Re) : sizesB 7 (t.map reD) = true := by cases t <;> rfl
theorem getRe' {t : List Re} {m : Nat} (h : m < t.length) : ∃ y, t[m]? = some y := ⟨_, List.getElem?_eq_getElem h⟩
theorem idxRe' {t : List Re} {i : Nat} {r : Re} {c : List D → Prop} (h : t[i]? = some r) (h' : c (reD r)) : IdxL 7 (t.map reD) (i : Int) c := idxLb (by rw [List.getElem?_map, h]; rfl) rfl h'
theorem takeRe {u : List Re} {i : Nat} {r : Re} (h : u[i]? = some r) : u.take (i + 1) = u.take i ++ [r] := by rw [List.take_add_one, h]; rfl
theorem rJoin_ev (t u : List Re) (kind : Int) (rf : Refs) (ht : t.length ≤ 2 ^ 40) (hu : u.length ≤ 2 ^ 40) (hb : Small u) : Ev T f_ref05_Join [lst (t.map reD), lst (u.map reD), i64 kind] rf (.ret (resT (joinM t u kind))) rf := by
 refine Ev.any ?_ rfl rf
 have l1 : (t.map reD).length = t.length := by simp
 have l2 : (u.map reD).length = u.length := by simp
 unfold joinM
 by_cases h1 : kind ≠ 2 ∧ kind ≠ 3
 ·rw [if_pos h1]
  refine ev_fn rfl rfl ?_
  (repeat' (first| (intro (u_ : Unit); clear u_)| refine condT ?_| refine condF ?_| refine condp (by assumption) ?_| refine condn (by assumption) ?_| refine condN ?_| refine idxSb (by assumption) ?_| (refine condD ?_ ?_ <;> intro hq_ <;> first | (exfalso; omega) | skip)| (refine idxS (by omega) ?_; intro b_ hb_; have hl_ := b_.toNat_lt)| refine wrA (by omega) ?_| refine wrS (by omega) (by omega) ?_| refine wrI (by omega) (by omega) ?_| refine wrBA (by omega) ?_| refine wrB (by omega) (by omega) ?_| refine strC (by omega) ?_| refine nilB rfl ?_))
  all_goals exact ⟨rfl, rfl⟩
 rw [if_neg h1]
 by_cases h2 : 2000 ≤ t.length + u.length
 ·rw [if_pos h2]
  refine ev_fn rfl rfl ?_
  (repeat' (first| (intro (u_ : Unit); clear u_)| refine condT ?_| refine condF ?_| refine condp (by assumption) ?_| refine condn (by assumption) ?_| refine condN ?_| refine idxSb (by assumption) ?_| (refine condD ?_ ?_ <;> intro hq_ <;> first | (exfalso; omega) | skip)| (refine idxS (by omega) ?_; intro b_ hb_; have hl_ := b_.toNat_lt)| refine wrA (by omega) ?_| refine wrS (by omega) (by omega) ?_| refine wrI (by omega) (by omega) ?_| refine wrBA (by omega) ?_| refine wrB (by omega) (by omega) ?_| refine strC (by omega) ?_| refine nilB rfl ?_))
  all_goals exact ⟨rfl, rfl⟩
 rw [if_neg h2]
 refine ev_fn rfl rfl ?_
 (repeat' (first| (intro (u_ : Unit); clear u_)| refine condT ?_| refine condF ?_| refine condp (by assumption) ?_| refine condn (by assumption) ?_| refine condN ?_| refine idxSb (by assumption) ?_| refine appL (by simp; omega) rfl (sizesRe t) ?_| (refine condD ?_ ?_ <;> intro hq_ <;> first | (exfalso; omega) | skip)| (refine idxS (by omega) ?_; intro b_ hb_; have hl_ := b_.toNat_lt)| refine wrA (by omega) ?_| refine wrS (by omega) (by omega) ?_| refine wrI (by omega) (by omega) ?_| refine wrBA (by omega) ?_| refine wrB (by omega) (by omega) ?_| refine strC (by omega) ?_| refine nilB rfl ?_))
 all_goals
  refine loopR (fun i : Nat => [(10, i64 i), (9, .own ((t ++ (u.take i).map (up t.length)).map reD))]) (fun _ => []) (fun i => u.length - i) (fun i => i ≤ u.length) 0 (by omega) (by simp [upd, Slots.get]) (by rfl) ?_
  intro i hi
  by_cases hlt : i < u.length
  ·obtain ⟨r, hr⟩ := getRe' hlt
   have hm := many_cases r.kind
   have hk := hb r (List.mem_of_getElem? hr)
   (repeat' (first| (intro (u_ : Unit); clear u_)| refine condT ?_| refine condF ?_| refine condp (by assumption) ?_| refine condn (by assumption) ?_| refine condN ?_| refine idxSb (by assumption) ?_| refine idxRe' hr ?_| refine callE_ev (many_ev _ _) ?_| refine idxAi (i := 0) (by decide) ?_| refine idxAi (i := 1) (by decide) ?_| refine appL (by simp; omega) (sizesRe _) rfl ?_| (refine condD ?_ ?_ <;> intro hq_ <;> first | (exfalso; omega) | skip)| (refine idxS (by omega) ?_; intro b_ hb_; have hl_ := b_.toNat_lt)| refine wrA (by omega) ?_| refine wrS (by omega) (by omega) ?_| refine wrI (by omega) (by omega) ?_| refine wrBA (by omega) ?_| refine wrB (by omega) (by omega) ?_| refine strC (by omega) ?_| refine nilB rfl ?_))
   all_goals
    refine ⟨i + 1, by omega, by omega, ?_, by rfl, rfl, rfl⟩
    rw [takeRe hr, l1]
    simp only [List.map_append, List.map_cons, List.map_nil, ← List.append_assoc, upd, Slots.get, reduceIte, Option.getD, Nat.reduceEqDiff]
    unfold up
    first
    | (rw [if_pos (by omega)]; rfl)
    | (rw [if_neg (by omega), if_pos (by omega)]; rfl)
    | (rw [if_neg (by omega), if_neg (by omega)]; rfl)
  ·have : i = u.length := by omega
   subst this
   rw [List.take_of_length_le (Nat.le_refl _)]
   (repeat' (first| (intro (u_ : Unit); clear u_)| refine condT ?_| refine condF ?_| refine condp (by assumption) ?_| refine condn (by assumption) ?_| refine condN ?_| refine idxSb (by assumption) ?_| refine appL (by simp; omega) (sizesRe _) rfl ?_| (refine condD ?_ ?_ <;> intro hq_ <;> first | (exfalso; omega) | skip)| (refine idxS (by omega) ?_; intro b_ hb_; have hl_ := b_.toNat_lt)| refine wrA (by omega) ?_| refine wrS (by omega) (by omega) ?_| refine wrI (by omega) (by omega) ?_| refine wrBA (by omega) ?_| refine wrB (by omega) (by omega) ?_| refine strC (by omega) ?_| refine nilB rfl ?_))
   refine ⟨?_, rfl⟩
   rw [l1, l2]
   simp [resT, reD, wd]
end Go.Ab.R05
namespace Go.Ab.R05
set_option maxRecDepth 100000
set_option linter.all false
set_option maxHeartbeats 4000000
theorem get_app {s r : List UInt8} {i : Nat} {c : UInt8} (h : s[i]? = some c) : (s ++ r)[i]? = some c := by
 rw [List.getElem?_append_left (List.getElem?_eq_some_iff.1 h).1]; exact h
theorem sign_app {s r : List UInt8} {x : Nat × Nat} (h : sign s = some x) : sign (s ++ r) = some x := by
 unfold sign at h ⊢
 rcases h0 : s[0]? with _ | c
 ·rw [h0] at h; cases h
 rw [h0] at h
 rw [get_app h0]
 simp only at h ⊢
 split at h
 ·rename_i h1; rw [if_pos h1]; exact h
 ·rename_i h1
  rw [if_neg h1]
  rcases h2 : s[1]? with _ | e
  ·rw [h2] at h; cases h
  rw [h2] at h
  rw [get_app h2]
  simp only at h ⊢
  split at h
  ·rename_i h3; rw [if_pos h3]; exact h
  ·rename_i h3
   rw [if_neg h3]
   rcases h4 : s[2]? with _ | a
   ·rw [h4] at h; cases h
   rcases h5 : s[3]? with _ | b
   ·rw [h4, h5] at h; cases h
   rw [h4, h5] at h
   rw [get_app h4, get_app h5]
   exact h
theorem hit_app {s r : List UInt8} {i c : Nat} (h : i < s.length) : hit (s ++ r) i c = hit s i c := by
 unfold hit; rw [List.getElem?_append_left h]
theorem drop_app {s r : List UInt8} {i : Nat} (h : i ≤ s.length) : (s ++ r).drop i = s.drop i ++ r := List.drop_append_of_le_length h
theorem itm_app {s r : List UInt8} {i : Nat} {x : Nat × Nat × Nat} (hi : i ≤ s.length) (h : itm s i = some x) (hx : x.2.2 < s.length) : itm (s ++ r) i = some x := by
 unfold itm at h ⊢
 rcases h1 : sign (s.drop i) with _ | ⟨a, n⟩
 ·rw [h1] at h; cases h
 have l1 := sign_drop h1
 rw [h1] at h
 rw [drop_app hi, sign_app h1]
 simp only at h ⊢
 by_cases hl : i + n < s.length
 ·rw [hit_app hl]
  split at h
  ·rename_i hh
   rw [if_pos hh]
   rcases h2 : sign (s.drop (i + n + 1)) with _ | ⟨b, m⟩
   ·rw [h2] at h; cases h
   rw [h2] at h
   rw [drop_app (by omega), sign_app h2]
   exact h
  ·rename_i hh
   rw [if_neg hh]; exact h
 ·exfalso
  rw [hit_none (show s.length ≤ i + n by omega)] at h
  cases h
  simp only at hx
  omega
theorem itms_app {s r : List UInt8} : ∀ {f i k : Nat} {x : Nat × Nat}, i ≤ s.length → itms s f i k = some x → itms (s ++ r) f i k = some x
 | 0, i, k, x, _, h => by cases h
 | f + 1, i, k, x, hi, h => by
   unfold itms at h ⊢
   rcases h1 : itm s i with _ | ⟨a, b, j⟩
   ·rw [h1] at h; cases h
   have l1 := itm_len h1
   rw [h1] at h
   simp only at h
   have hj : j < s.length := by
    by_cases hj : j < s.length
    ·exact hj
    ·exfalso
     rw [hit_none (show s.length ≤ j by omega)] at h
     simp only [Bool.false_eq_true, if_false] at h
     cases f with
     | zero => cases h
     | succ f => unfold itms at h; rw [itm_end (show s.length ≤ j by omega)] at h; cases h
   rw [itm_app hi h1 hj]
   simp only
   rw [hit_app hj]
   split at h
   ·rename_i hh; rw [if_pos hh]; exact h
   ·rename_i hh; rw [if_neg hh]; exact itms_app (by omega) h
theorem readS_app {s r : List UInt8} {x : Nat × Nat} (h : readS s = some x) : readS (s ++ r) = some x := by
 cases h0 : hit s 0 91
 ·rw [readS_no h0] at h; cases h
 have l0 := hit_lt h0
 rw [readS_eq h0] at h
 rw [readS_eq (by rw [hit_app l0]; exact h0)]
 have l1 : 1 < s.length := by
  by_cases hl : 1 < s.length
  ·exact hl
  ·exfalso
   rw [hit_none (show s.length ≤ 1 by omega)] at h
   simp only [Bool.false_eq_true, if_false] at h
   rw [show itmsW s 1 0 = none by rw [itmsW_step, itm_end (by omega)]] at h
   cases h
 rw [hit_app l1]
 have hi : (if hit s 1 94 then 2 else 1) ≤ s.length := by split <;> omega
 generalize (if hit s 1 94 then 2 else 1) = i0 at *
 rcases hw : itmsW s i0 0 with _ | y
 ·rw [hw] at h; cases h
 have : itmsW (s ++ r) i0 0 = some y := by
  unfold itmsW at hw ⊢
  rw [itms_fuel (f' := (s ++ r).length) (by omega) (by simp; omega)] at hw
  exact itms_app hi hw
 rw [this, ← h, hw]
/-! a text within another one -/
section
variable (p s q : List UInt8) (t0 : List Re) (dl : Nat)
def out : List UInt8 := p ++ (s ++ 41 :: q)
def tr (t : List Re) : List Re := t0 ++ t.map (up t0.length)
def Emb (a : R) (b : R) : Prop := match a with
 | .ok x i d t => b = .err 7 ∨ (b = .err 6 ∧ 2000 < t0.length + t.length) ∨ b = .ok (t0.length + x) (p.length + i) (d + dl) (tr t0 t)
 | .err _ => True
def Grow (t : List Re) (a : R) : Prop := ∀ x i d u, a = .ok x i d u → t.length ≤ u.length
end
section
variable {p s q : List UInt8} {t0 : List Re} {dl : Nat}
theorem emb_bind {a b : R} {f g : Nat → Nat → Nat → List Re → R} (h : Emb p t0 dl a b) (hf : ∀ x i d t, a = .ok x i d t → Emb p t0 dl (f x i d t) (g (t0.length + x) (p.length + i) (d + dl) (tr t0 t)) ∧ Grow t (f x i d t)) : Emb p t0 dl (a.bind f) (b.bind g) := by
 cases a with
 | err e => exact trivial
 | ok x i d t =>
   obtain ⟨h1, h2⟩ := hf x i d t rfl
   simp only [R.bind]
   cases hr : f x i d t with
   | err e => exact trivial
   | ok y j d' t' =>
     have h3 := h2 y j d' t' hr
     rcases h with h | ⟨h, hl⟩ | h
     ·exact .inl (by rw [h])
     ·exact .inr (.inl ⟨by rw [h], by omega⟩)
     ·rw [h]; simp only [hr] at h1; exact h1
theorem out_get {i : Nat} (h : i < s.length) : (out p s q)[p.length + i]? = s[i]? := by
 unfold out
 rw [List.getElem?_append_right (by omega), show p.length + i - p.length = i by omega, List.getElem?_append_left h]
theorem out_end : (out p s q)[p.length + s.length]? = some 41 := by
 unfold out
 rw [List.getElem?_append_right (by omega), show p.length + s.length - p.length = s.length by omega, List.getElem?_append_right (by omega)]
 simp
theorem out_drop {i : Nat} (h : i ≤ s.length) : (out p s q).drop (p.length + i) = s.drop i ++ 41 :: q := by
 unfold out
 rw [List.drop_append, List.drop_eq_nil_of_le (by omega), show p.length + i - p.length = i by omega, drop_app h]; rfl
theorem out_hit {i c : Nat} (h : i < s.length) : hit (out p s q) (p.length + i) c = hit s i c := by unfold hit; rw [out_get h]
theorem out_hit_end {c : Nat} : hit (out p s q) (p.length + s.length) c = decide (41 = c) := by unfold hit; rw [out_end]; rfl
theorem out_len : (out p s q).length = p.length + (s.length + (1 + q.length)) := by simp [out]; omega
theorem grow_put {r : Re} {i d : Nat} {t : List Re} : Grow t (putM r i d t) := fun x i' d' u h => by
 obtain ⟨_, _, _, rfl, _⟩ := putM_ok h; simp
theorem grow_ok {x i d : Nat} {t : List Re} : Grow t (.ok x i d t) := fun _ _ _ _ h => by cases h; exact Nat.le_refl _
theorem grow_err {e : Nat} {t : List Re} : Grow t (.err e) := fun _ _ _ _ h => by cases h
theorem grow_bind {t : List Re} {a : R} {f : Nat → Nat → Nat → List Re → R} (h : Grow t a) (hf : ∀ x i d u, Grow u (f x i d u)) : Grow t (a.bind f) := fun x i d u e => by
 cases a with
 | err e' => cases e
 | ok y j d' v => have h1 := h _ _ _ _ rfl; have h2 := hf y j d' v x i d u e; omega
theorem emb_put {r r' : Re} {i d : Nat} {t : List Re} (hr : up t0.length r = r') : Emb p t0 dl (putM r i d t) (putM r' (p.length + i) (d + dl) (tr t0 t)) := by
 subst hr
 unfold putM tr
 split
 ·exact trivial
 ·rename_i h
  by_cases h2 : 2000 ≤ t0.length + t.length
  ·rw [if_pos (by simpa using h2)]
   exact .inr (.inl ⟨rfl, by simp; omega⟩)
  ·rw [if_neg (by simpa using h2)]
   refine .inr (.inr ?_)
   simp [tr]
theorem emb_ok {x i d : Nat} {t : List Re} {y j d' : Nat} {u : List Re} (h1 : y = t0.length + x) (h2 : j = p.length + i) (h3 : d' = d + dl) (h4 : u = tr t0 t) : Emb p t0 dl (.ok x i d t) (.ok y j d' u) := by
 subst h1 h2 h3 h4; exact .inr (.inr rfl)
theorem emb_7 {a : R} : Emb p t0 dl a (.err 7) := by
 cases a with
 | err e => exact trivial
 | ok x i d t => exact .inl rfl
def EmbG (p s q : List UInt8) (t0 : List Re) (dl d : Nat) (G G' : Nat → Nat → List Re → R) : Prop := ∀ i t, i < s.length → t.length ≤ 2000 → Emb p t0 dl (G i d t) (G' (p.length + i) (d + dl) (tr t0 t))
def GrowG (G : Nat → Nat → List Re → R) : Prop := ∀ i d t, Grow t (G i d t)
theorem up0 (n : Nat) (k : Int) (st : Nat) (hk : many k = 0) : up n ⟨k, st, 0, 0⟩ = ⟨k, st, 0, 0⟩ := by
 unfold up; rw [if_neg (by simp [hk]), if_neg (by simp [hk])]
theorem up1 (n : Nat) (k : Int) (st a : Nat) (hk : many k = 1) : up n ⟨k, st, a, 0⟩ = ⟨k, st, ((n + a : Nat) : Int), 0⟩ := by
 unfold up; rw [if_neg (by simp [hk]), if_pos (by simp [hk])]; simp; omega
theorem up2 (n : Nat) (k : Int) (st a b : Nat) (hk : many k = 2) : up n ⟨k, st, a, b⟩ = ⟨k, st, ((n + a : Nat) : Int), ((n + b : Nat) : Int)⟩ := by
 unfold up; rw [if_pos (by simp [hk])]; simp; omega
theorem emb_atom {d : Nat} {G G' : Nat → Nat → List Re → R} (hG : EmbG p s q t0 dl d G G') {i : Nat} {t : List Re} (hi : i < s.length) (ht : t.length ≤ 2000) : Emb p t0 dl (atomM s G i d t) (atomM (out p s q) G' (p.length + i) (d + dl) (tr t0 t)) := by
 obtain ⟨c, hc⟩ := getS hi
 have hc' : (out p s q)[p.length + i]? = some c := by rw [out_get hi, hc]
 have hd := out_drop (p := p) (q := q) (Nat.le_of_lt hi)
 unfold atomM
 rw [hc, hc', hd]
 simp only
 split
 ·exact hG i t hi ht
 split
 ·exact emb_put (up0 _ _ _ (by decide))
 split
 ·exact emb_put (up0 _ _ _ (by decide))
 split
 ·exact emb_put (up0 _ _ _ (by decide))
 split
 ·rcases hr : readS (s.drop i) with _ | ⟨k, n⟩
  ·exact trivial
  ·rw [readS_app hr]; have hh := emb_put (p := p) (dl := dl) (i := i + n) (d := d) (t := t) (up0 t0.length 1 k (by decide)); rw [← Nat.add_assoc] at hh; exact hh
 split
 ·exact trivial
 ·rcases hr : sign (s.drop i) with _ | ⟨k, n⟩
  ·exact trivial
  ·rw [sign_app hr]; have hh := emb_put (p := p) (dl := dl) (i := i + n) (d := d) (t := t) (up0 t0.length 1 (spanN k 1) (by decide)); rw [← Nat.add_assoc] at hh; exact hh
theorem grow_atom {G : Nat → Nat → List Re → R} (hG : GrowG G) {i d : Nat} {t : List Re} : Grow t (atomM s G i d t) := by
 unfold atomM
 repeat' split
 all_goals first | exact grow_err | exact hG _ _ _ | exact grow_put
theorem grow_post : ∀ {f a i d : Nat} {t : List Re}, Grow t (postL s f a i d t)
 | 0, a, i, d, t => grow_ok
 | f + 1, a, i, d, t => by
   unfold postL
   repeat' split
   all_goals first | exact grow_ok | exact grow_bind grow_put fun _ _ _ _ => grow_post
theorem emb_post {d : Nat} : ∀ {f f' a i : Nat} {t : List Re}, i ≤ s.length → s.length < i + f → (out p s q).length < p.length + i + f' → Emb p t0 dl (postL s f a i d t) (postL (out p s q) f' (t0.length + a) (p.length + i) (d + dl) (tr t0 t))
 | 0, f', a, i, t, hi, hf, _ => by omega
 | f + 1, 0, a, i, t, hi, hf, hf' => by rw [out_len] at hf'; omega
 | f + 1, f' + 1, a, i, t, hi, hf, hf' => by
   by_cases hl : i < s.length
   ·unfold postL
    rw [out_hit hl, out_hit hl, out_hit hl]
    split
    ·refine emb_bind (emb_put (up1 _ _ _ _ (by decide))) fun x j d' u h => ?_
     obtain ⟨rfl, rfl, rfl, rfl, _⟩ := putM_ok h
     exact ⟨emb_post (by omega) (by omega) (by omega), grow_post⟩
    split
    ·refine emb_bind (emb_put (up1 _ _ _ _ (by decide))) fun x j d' u h => ?_
     obtain ⟨rfl, rfl, rfl, rfl, _⟩ := putM_ok h
     exact ⟨emb_post (by omega) (by omega) (by omega), grow_post⟩
    split
    ·refine emb_bind (emb_put (up1 _ _ _ _ (by decide))) fun x j d' u h => ?_
     obtain ⟨rfl, rfl, rfl, rfl, _⟩ := putM_ok h
     exact ⟨emb_post (by omega) (by omega) (by omega), grow_post⟩
    ·exact emb_ok rfl rfl rfl rfl
   ·have : i = s.length := by omega
    subst this
    unfold postL
    rw [out_hit_end, out_hit_end, out_hit_end, hit_none (Nat.le_refl _), hit_none (Nat.le_refl _), hit_none (Nat.le_refl _)]
    exact emb_ok rfl rfl rfl rfl
theorem emb_piece {d : Nat} {G G' : Nat → Nat → List Re → R} (hG : EmbG p s q t0 dl d G G') (hA : AdvG s G) {i : Nat} {t : List Re} (hi : i < s.length) (ht : t.length ≤ 2000) : Emb p t0 dl (pieceM s G i d t) (pieceM (out p s q) G' (p.length + i) (d + dl) (tr t0 t)) :=
 emb_bind (emb_atom hG hi ht) fun x j d' u h => by
  obtain ⟨h1, h2, rfl, h4⟩ := adv_atom hA hi ht _ _ _ _ h
  exact ⟨emb_post h2 (by omega) (by omega), grow_post⟩
theorem grow_piece {G : Nat → Nat → List Re → R} (hG : GrowG G) {i d : Nat} {t : List Re} : Grow t (pieceM s G i d t) := grow_bind (grow_atom hG) fun _ _ _ _ => grow_post
theorem grow_cat {G : Nat → Nat → List Re → R} (hG : GrowG G) : ∀ {f a i d : Nat} {t : List Re}, Grow t (catL s G f a i d t)
 | 0, a, i, d, t => grow_ok
 | f + 1, a, i, d, t => by
   unfold catL
   split
   ·exact grow_ok
   ·exact grow_bind (grow_piece hG) fun _ _ _ _ => grow_bind grow_put fun _ _ _ _ => grow_cat hG
theorem out_stop {i : Nat} (h : i < s.length) : stop (out p s q) (p.length + i) = stop s i := by
 unfold stop
 rw [out_hit h, out_hit h, out_len]
 congr 2
 rw [Bool.eq_iff_iff]; simp; omega
theorem out_stop_end : stop (out p s q) (p.length + s.length) = true := by
 unfold stop; rw [out_hit_end, out_hit_end]; simp
theorem emb_cat {d : Nat} {G G' : Nat → Nat → List Re → R} (hG : EmbG p s q t0 dl d G G') (hA : AdvG s G) (hW : GrowG G) : ∀ {f f' a i : Nat} {t : List Re}, i ≤ s.length → t.length ≤ 2000 → s.length < i + f → (out p s q).length < p.length + i + f' → Emb p t0 dl (catL s G f a i d t) (catL (out p s q) G' f' (t0.length + a) (p.length + i) (d + dl) (tr t0 t))
 | 0, f', a, i, t, hi, _, hf, _ => by omega
 | f + 1, 0, a, i, t, hi, _, hf, hf' => by rw [out_len] at hf'; omega
 | f + 1, f' + 1, a, i, t, hi, ht, hf, hf' => by
   by_cases hl : i < s.length
   ·unfold catL
    rw [out_stop hl]
    split
    ·exact emb_ok rfl rfl rfl rfl
    ·refine emb_bind (emb_piece hG hA hl ht) fun x j d' u h => ?_
     obtain ⟨h1, h2, rfl, h4⟩ := adv_piece hA hl ht _ _ _ _ h
     refine ⟨emb_bind (emb_put (up2 _ _ _ _ _ (by decide))) fun x j d' u h => ?_, grow_bind grow_put fun _ _ _ _ => grow_cat hW⟩
     obtain ⟨rfl, rfl, rfl, rfl, _⟩ := putM_ok h
     exact ⟨emb_cat hG hA hW h2 (by simp; omega) (by omega) (by omega), grow_cat hW⟩
   ·have : i = s.length := by omega
    subst this
    rw [catL_stop (stopT (.inr (.inr (Nat.le_refl _)))), catL_stop out_stop_end]
    exact emb_ok rfl rfl rfl rfl
theorem emb_catM {d : Nat} {G G' : Nat → Nat → List Re → R} (hG : EmbG p s q t0 dl d G G') (hA : AdvG s G) (hW : GrowG G) {i : Nat} {t : List Re} (hi : i ≤ s.length) (ht : t.length ≤ 2000) : Emb p t0 dl (catM s G i d t) (catM (out p s q) G' (p.length + i) (d + dl) (tr t0 t)) := by
 by_cases hl : i < s.length
 ·unfold catM
  rw [out_stop hl]
  split
  ·exact emb_put (up0 _ _ _ (by decide))
  ·refine emb_bind (emb_piece hG hA hl ht) fun x j d' u h => ?_
   obtain ⟨h1, h2, rfl, h4⟩ := adv_piece hA hl ht _ _ _ _ h
   exact ⟨emb_cat hG hA hW h2 h4 (by omega) (by omega), grow_cat hW⟩
 ·have : i = s.length := by omega
  subst this
  rw [catM_stop (stopT (.inr (.inr (Nat.le_refl _)))), catM_stop out_stop_end]
  exact emb_put (up0 _ _ _ (by decide))
theorem grow_catM {G : Nat → Nat → List Re → R} (hW : GrowG G) {i d : Nat} {t : List Re} : Grow t (catM s G i d t) := by
 unfold catM
 split
 ·exact grow_put
 ·exact grow_bind (grow_piece hW) fun _ _ _ _ => grow_cat hW
theorem grow_alt {G : Nat → Nat → List Re → R} (hW : GrowG G) : ∀ {f a i d : Nat} {t : List Re}, Grow t (altL s G f a i d t)
 | 0, a, i, d, t => grow_ok
 | f + 1, a, i, d, t => by
   unfold altL
   split
   ·exact grow_bind (grow_catM hW) fun _ _ _ _ => grow_bind grow_put fun _ _ _ _ => grow_alt hW
   ·exact grow_ok
theorem emb_alt {d : Nat} {G G' : Nat → Nat → List Re → R} (hG : EmbG p s q t0 dl d G G') (hA : AdvG s G) (hW : GrowG G) : ∀ {f f' a i : Nat} {t : List Re}, i ≤ s.length → t.length ≤ 2000 → s.length < i + f → (out p s q).length < p.length + i + f' → Emb p t0 dl (altL s G f a i d t) (altL (out p s q) G' f' (t0.length + a) (p.length + i) (d + dl) (tr t0 t))
 | 0, f', a, i, t, hi, _, hf, _ => by omega
 | f + 1, 0, a, i, t, hi, _, hf, hf' => by rw [out_len] at hf'; omega
 | f + 1, f' + 1, a, i, t, hi, ht, hf, hf' => by
   by_cases hl : i < s.length
   ·unfold altL
    rw [out_hit hl]
    split
    ·refine emb_bind (emb_catM hG hA hW (i := i + 1) (by omega) ht) fun x j d' u h => ?_
     obtain ⟨h1, h2, rfl, h4⟩ := adv_catM hA (i := i + 1) (by omega) ht _ _ _ _ h
     refine ⟨emb_bind (emb_put (up2 _ _ _ _ _ (by decide))) fun x j d' u h => ?_, grow_bind grow_put fun _ _ _ _ => grow_alt hW⟩
     obtain ⟨rfl, rfl, rfl, rfl, _⟩ := putM_ok h
     exact ⟨emb_alt hG hA hW h2 (by simp; omega) (by omega) (by omega), grow_alt hW⟩
    ·exact emb_ok rfl rfl rfl rfl
   ·have : i = s.length := by omega
    subst this
    rw [altL_stop (hit_none (Nat.le_refl _)), altL_stop (by rw [out_hit_end]; rfl)]
    exact emb_ok rfl rfl rfl rfl
theorem emb_all {d : Nat} {G G' : Nat → Nat → List Re → R} (hG : EmbG p s q t0 dl d G G') (hA : AdvG s G) (hW : GrowG G) {i : Nat} {t : List Re} (hi : i ≤ s.length) (ht : t.length ≤ 2000) : Emb p t0 dl (allB s G i d t) (allB (out p s q) G' (p.length + i) (d + dl) (tr t0 t)) :=
 emb_bind (emb_catM hG hA hW hi ht) fun x j d' u h => by
  obtain ⟨h1, h2, rfl, h4⟩ := adv_catM hA hi ht _ _ _ _ h
  exact ⟨emb_alt hG hA hW h2 h4 (by omega) (by omega), grow_alt hW⟩
theorem grow_grp {A : Nat → Nat → List Re → R} (hW : GrowG A) : GrowG (grpM s A) := fun i d t => by
 unfold grpM
 split
 ·exact grow_err
 ·refine grow_bind (hW _ _ _) fun x j d' u => ?_
  split
  ·exact fun _ _ _ _ h => by cases h; exact Nat.le_refl _
  ·exact grow_err
theorem grow_allM : ∀ n, GrowG (allM s n)
 | 0 => fun _ _ _ => grow_err
 | n + 1 => fun i d t => grow_bind (grow_catM (grow_grp (grow_allM n))) fun _ _ _ _ => grow_alt (grow_grp (grow_allM n))
theorem emb_allM : ∀ (n : Nat) {i d : Nat} {t : List Re}, i ≤ s.length → t.length ≤ 2000 → d + n + dl = 31 → Emb p t0 dl (allM s (n + dl) i d t) (allM (out p s q) n (p.length + i) (d + dl) (tr t0 t))
 | 0, i, d, t, hi, ht, hd => by
   cases hr : allM s (0 + dl) i d t with
   | err e => exact trivial
   | ok x j d' u => exact .inl rfl
 | n + 1, i, d, t, hi, ht, hd => by
   have hAA := fun i d t hi ht => adv_allM (s := s) (n + dl) (i := i) (d := d) (t := t) hi ht
   have hE : EmbG p s q t0 dl d (grpM s (allM s (n + dl))) (grpM (out p s q) (allM (out p s q) n)) := fun i t hi ht => by
    unfold grpM
    split
    ·exact trivial
    ·by_cases h30 : 30 ≤ d + dl
     ·rw [if_pos h30]; exact emb_7
     ·rw [if_neg h30]
      have ih := emb_allM n (i := i + 1) (d := d + 1) (t := t) (by omega) ht (by omega)
      rw [show d + 1 + dl = d + dl + 1 by omega, show p.length + (i + 1) = p.length + i + 1 by omega] at ih
      refine emb_bind ih fun x j d' u h => ?_
      obtain ⟨h1, h2, rfl, h4⟩ := hAA _ _ _ (by omega) ht _ _ _ _ h
      refine ⟨?_, ?_⟩
      ·by_cases hj : j < s.length
       ·rw [out_hit hj]
        split
        ·exact emb_ok rfl (by omega) (by omega) rfl
        ·exact trivial
       ·rw [hit_none (show s.length ≤ j by omega)]; exact trivial
      ·split
       ·exact fun _ _ _ _ h => by cases h; exact Nat.le_refl _
       ·exact grow_err
   have := emb_all hE (adv_grp hAA) (grow_grp (grow_allM _)) hi ht
   rw [show n + 1 + dl = (n + dl) + 1 by omega]
   exact this
end
end Go.Ab.R05
namespace Go.Ab.R05
set_option maxRecDepth 100000
set_option linter.all false
set_option maxHeartbeats 4000000
inductive Tr where
 | none
 | set (n : Nat)
 | beg
 | fin
 | post (k : Nat) (a : Tr)
 | cat (a b : Tr)
 | alt (a b : Tr)
def Tr.size : Tr → Nat
 | .post _ a => a.size + 1
 | .cat a b => a.size + b.size + 1
 | .alt a b => a.size + b.size + 1
 | _ => 1
theorem Tr.size_pos : ∀ a : Tr, 1 ≤ a.size
 | .none | .set _ | .beg | .fin => Nat.le_refl _
 | .post _ a => by simp [Tr.size]
 | .cat a b => by simp [Tr.size]
 | .alt a b => by simp [Tr.size]
def flat : Nat → Tr → List Re
 | _, .none => [⟨0, 0, 0, 0⟩]
 | _, .set n => [⟨1, n, 0, 0⟩]
 | _, .beg => [⟨7, 0, 0, 0⟩]
 | _, .fin => [⟨8, 0, 0, 0⟩]
 | o, .post k a => flat o a ++ [⟨4 + k, 0, ((o + a.size - 1 : Nat) : Int), 0⟩]
 | o, .cat a b => flat o a ++ flat (o + a.size) b ++ [⟨2, 0, ((o + a.size - 1 : Nat) : Int), ((o + a.size + b.size - 1 : Nat) : Int)⟩]
 | o, .alt a b => flat o a ++ flat (o + a.size) b ++ [⟨3, 0, ((o + a.size - 1 : Nat) : Int), ((o + a.size + b.size - 1 : Nat) : Int)⟩]
theorem flat_length : ∀ (o : Nat) (a : Tr), (flat o a).length = a.size
 | o, .none | o, .set _ | o, .beg | o, .fin => rfl
 | o, .post _ a => by simp [flat, Tr.size, flat_length o a]
 | o, .cat a b => by simp [flat, Tr.size, flat_length _ a, flat_length _ b]; omega
 | o, .alt a b => by simp [flat, Tr.size, flat_length _ a, flat_length _ b]; omega
def Tr.ok : Tr → Prop
 | .set n => n < 2 ^ 256
 | .post k a => k ≤ 2 ∧ a.ok
 | .cat a b => a.ok ∧ b.ok
 | .alt a b => a.ok ∧ b.ok
 | _ => True
def Yld (b : List Re) (r : R) : Prop := ∀ x i d t, r = .ok x i d t → ∃ a : Tr, a.ok ∧ t = b ++ flat b.length a ∧ x + 1 = b.length + a.size
theorem yld_err {b : List Re} {e : Nat} : Yld b (.err e) := fun _ _ _ _ h => by cases h
theorem yld_ok {b : List Re} {x i d : Nat} {t : List Re} (a : Tr) (ha : a.ok) (ht : t = b ++ flat b.length a) (hx : x + 1 = b.length + a.size) : Yld b (.ok x i d t) := fun _ _ _ _ h => by cases h; exact ⟨a, ha, ht, hx⟩
theorem yld_put {r : Re} {i d : Nat} {t : List Re} (a : Tr) (ha : a.ok) (h : flat t.length a = [r]) : Yld t (putM r i d t) := fun x i' d' u e => by
 obtain ⟨rfl, _, _, rfl, _⟩ := putM_ok e
 have := flat_length t.length a
 rw [h] at this
 exact ⟨a, ha, by rw [h], by rw [← this]; rfl⟩
theorem yld_bind {b : List Re} {r : R} {f : Nat → Nat → Nat → List Re → R} (h : Yld b r) (hf : ∀ x i d a, Tr.ok a → x + 1 = b.length + a.size → Yld b (f x i d (b ++ flat b.length a))) : Yld b (r.bind f) := fun x i d t e => by
 cases r with
 | err e' => cases e
 | ok y j d' v =>
   obtain ⟨a, ha, rfl, hx⟩ := h _ _ _ _ rfl
   exact hf y j d' a ha hx x i d t e
theorem readS_lt {s : List UInt8} {k n : Nat} (h : readS s = some (k, n)) : k < 2 ^ 256 := by
 have key : ∀ (f i k : Nat) (x : Nat × Nat), k < 2 ^ 256 → itms s f i k = some x → x.1 < 2 ^ 256 := by
  intro f
  induction f with
  | zero => intro i k x _ h; cases h
  | succ f ih =>
    intro i k x hk h
    unfold itms at h
    rcases hi : itm s i with _ | ⟨a, b, j⟩
    ·rw [hi] at h; cases h
    ·rw [hi] at h
     have hl := itm_len hi
     have hk2 : k ||| spanN a (b + 1 - a) < 2 ^ 256 := Nat.or_lt_two_pow hk (spanN_lt _ _ (by omega))
     simp only at h
     split at h
     ·cases h; exact hk2
     ·exact ih _ _ _ hk2 h
 cases h0 : hit s 0 91
 ·rw [readS_no h0] at h; cases h
 ·rw [readS_eq h0] at h
  unfold itmsW at h
  rcases hi : itms s s.length (if hit s 1 94 then 2 else 1) 0 with _ | ⟨a, m⟩
  ·rw [hi] at h; cases h
  ·rw [hi] at h
   have := key _ _ _ _ (by decide) hi
   simp only [fin, Option.some.injEq, Prod.mk.injEq] at h
   obtain ⟨h1, _⟩ := h
   subst h1
   split
   ·unfold notN; omega
   ·exact this
section
variable {s : List UInt8}
def YldG (G : Nat → Nat → List Re → R) : Prop := ∀ i d t, Yld t (G i d t)
theorem yld_atom {G : Nat → Nat → List Re → R} (hG : YldG G) {i d : Nat} {t : List Re} : Yld t (atomM s G i d t) := by
 unfold atomM
 repeat' split
 all_goals first
  | exact yld_err
  | exact hG _ _ _
  | exact yld_put (.set dotN) (by show dotN < 2 ^ 256; unfold dotN notN; omega) rfl
  | exact yld_put .beg trivial rfl
  | exact yld_put .fin trivial rfl
  | (rename_i h; exact yld_put (.set _) (readS_lt h) rfl)
  | (rename_i h; have := sign_len h; exact yld_put (.set _) (spanN_lt _ _ (by omega)) rfl)
theorem yld_post : ∀ {f x i d : Nat} {b : List Re} {a : Tr}, a.ok → x + 1 = b.length + a.size → Yld b (postL s f x i d (b ++ flat b.length a))
 | 0, x, i, d, b, a, ha, h => yld_ok a ha rfl h
 | f + 1, x, i, d, b, a, ha, h => by
   have key : ∀ k : Nat, k ≤ 2 → Yld b ((putM ⟨((4 + k : Nat) : Int), 0, x, 0⟩ (i + 1) d (b ++ flat b.length a)).bind (postL s f)) := fun k hk y j d' u e => by
    cases hp : putM ⟨((4 + k : Nat) : Int), 0, x, 0⟩ (i + 1) d (b ++ flat b.length a) with
    | err e' => rw [hp] at e; cases e
    | ok z j2 d2 v =>
      rw [hp] at e
      obtain ⟨rfl, _, _, rfl, _⟩ := putM_ok hp
      have hv : b ++ flat b.length a ++ [⟨((4 + k : Nat) : Int), 0, x, 0⟩] = b ++ flat b.length (.post k a) := by
       have hx : (x : Int) = ((b.length + a.size - 1 : Nat) : Int) := by omega
       simp [flat, hx]
      rw [hv] at e
      exact yld_post (a := .post k a) ⟨hk, ha⟩ (by simp [flat_length, Tr.size]; omega) _ _ _ _ e
   unfold postL
   repeat' split
   ·exact key 0 (by omega)
   ·exact key 1 (by omega)
   ·exact key 2 (by omega)
   ·exact yld_ok a ha rfl h
theorem yld_piece {G : Nat → Nat → List Re → R} (hG : YldG G) {i d : Nat} {t : List Re} : Yld t (pieceM s G i d t) := yld_bind (yld_atom hG) fun _ _ _ _ ha h => yld_post ha h
theorem yld_two {b : List Re} {a : Tr} {x : Nat} {r : R} (C : Nat → Nat → Nat → List Re → R) (kd : Nat) (mk : Tr → Tr → Tr) (hmk : ∀ o a c, flat o (mk a c) = flat o a ++ flat (o + a.size) c ++ [⟨kd, 0, ((o + a.size - 1 : Nat) : Int), ((o + a.size + c.size - 1 : Nat) : Int)⟩]) (hok : ∀ a c, a.ok → c.ok → (mk a c).ok)
  (hsz : ∀ a c, (mk a c).size = a.size + c.size + 1) (ha : a.ok) (hx : x + 1 = b.length + a.size) (hr : Yld (b ++ flat b.length a) r) (hC : ∀ y i d (c : Tr), c.ok → y + 1 = b.length + c.size → Yld b (C y i d (b ++ flat b.length c))) :
  Yld b (r.bind fun y i d t => (putM ⟨kd, 0, x, y⟩ i d t).bind C) := fun z j d' u e => by
 cases r with
 | err e' => cases e
 | ok y i d t =>
   obtain ⟨c, hc, rfl, hy⟩ := hr _ _ _ _ rfl
   simp only [R.bind] at e
   cases hp : putM ⟨kd, 0, x, y⟩ i d (b ++ flat b.length a ++ flat (b ++ flat b.length a).length c) with
   | err e' => rw [hp] at e; cases e
   | ok z2 j2 d2 v =>
     rw [hp] at e
     obtain ⟨rfl, _, _, rfl, _⟩ := putM_ok hp
     simp only [List.length_append, flat_length] at hy
     have hv : b ++ flat b.length a ++ flat (b ++ flat b.length a).length c ++ [⟨(kd : Int), 0, x, y⟩] = b ++ flat b.length (mk a c) := by
      have h1 : (x : Int) = ((b.length + a.size - 1 : Nat) : Int) := by omega
      have h2 : (y : Int) = ((b.length + a.size + c.size - 1 : Nat) : Int) := by omega
      rw [hmk]
      simp [flat_length, h1, h2]
     rw [hv] at e
     exact hC _ _ _ (mk a c) (hok _ _ ha hc) (by simp [flat_length, hsz]; omega) _ _ _ _ e
theorem yld_cat {G : Nat → Nat → List Re → R} (hG : YldG G) : ∀ {f x i d : Nat} {b : List Re} {a : Tr}, a.ok → x + 1 = b.length + a.size → Yld b (catL s G f x i d (b ++ flat b.length a))
 | 0, x, i, d, b, a, ha, h => yld_ok a ha rfl h
 | f + 1, x, i, d, b, a, ha, h => by
   unfold catL
   split
   ·exact yld_ok a ha rfl h
   ·exact yld_two _ 2 .cat (fun _ _ _ => rfl) (fun _ _ h1 h2 => ⟨h1, h2⟩) (fun _ _ => rfl) ha h (yld_piece hG) fun _ _ _ _ hc hy => yld_cat hG hc hy
theorem yld_catM {G : Nat → Nat → List Re → R} (hG : YldG G) {i d : Nat} {t : List Re} : Yld t (catM s G i d t) := by
 unfold catM
 split
 ·exact yld_put .none trivial rfl
 ·exact yld_bind (yld_piece hG) fun _ _ _ _ ha h => yld_cat hG ha h
theorem yld_alt {G : Nat → Nat → List Re → R} (hG : YldG G) : ∀ {f x i d : Nat} {b : List Re} {a : Tr}, a.ok → x + 1 = b.length + a.size → Yld b (altL s G f x i d (b ++ flat b.length a))
 | 0, x, i, d, b, a, ha, h => yld_ok a ha rfl h
 | f + 1, x, i, d, b, a, ha, h => by
   unfold altL
   split
   ·exact yld_two _ 3 .alt (fun _ _ _ => rfl) (fun _ _ h1 h2 => ⟨h1, h2⟩) (fun _ _ => rfl) ha h (yld_catM hG) fun _ _ _ _ hc hy => yld_alt hG hc hy
   ·exact yld_ok a ha rfl h
theorem yld_grp {A : Nat → Nat → List Re → R} (hA : YldG A) : YldG (grpM s A) := fun i d t => by
 unfold grpM
 split
 ·exact yld_err
 ·refine yld_bind (hA _ _ _) fun x j d' a ha h => ?_
  split
  ·exact yld_ok a ha rfl h
  ·exact yld_err
theorem yld_allM : ∀ n, YldG (allM s n)
 | 0 => fun _ _ _ => yld_err
 | n + 1 => fun i d t => yld_bind (yld_catM (yld_grp (yld_allM n))) fun _ _ _ _ ha h => yld_alt (yld_grp (yld_allM n)) ha h
end
theorem last_allM {s : List UInt8} (n i d : Nat) (t : List Re) (x j d' : Nat) (u : List Re) (h : allM s n i d t = .ok x j d' u) : x + 1 = u.length := by
 obtain ⟨a, _, rfl, hx⟩ := yld_allM n i d t x j d' u h
 simp [flat_length, hx]
theorem tr_nil (t : List Re) : tr [] t = t := by
 unfold tr
 have : ∀ r : Re, up 0 r = r := fun r => by unfold up; split <;> (try split) <;> simp
 show [] ++ t.map (up 0) = t
 rw [show up 0 = id from funext this]; simp
theorem parse_run {s : List UInt8} {t : List Re} (h : parse s = .ok t) : ∃ a, allM s 31 0 0 [] = .ok a s.length 0 t ∧ a + 1 = t.length ∧ t.length ≤ 2000 := by
 unfold parse at h
 cases hr : allM s 31 0 0 [] with
 | err e => rw [hr] at h; cases h
 | ok a i d u =>
   rw [hr] at h
   simp only at h
   split at h
   ·cases h
   ·rename_i hi
    cases h
    obtain ⟨h1, h2, rfl, h4⟩ := adv_allM 31 (Nat.zero_le _) (by simp) _ _ _ _ hr
    have : i = s.length := by omega
    subst this
    exact ⟨a, rfl, last_allM _ _ _ _ _ _ _ _ hr, h4⟩
theorem grp_run {p s q : List UInt8} {t0 ts : List Re} {a : Nat} (h : allM s 31 0 0 [] = .ok a s.length 0 ts) (hl : t0.length + ts.length ≤ 2000) :
  grpM (out (p ++ [40]) s q) (allM (out (p ++ [40]) s q) 30) p.length 0 t0 = .err 7 ∨ grpM (out (p ++ [40]) s q) (allM (out (p ++ [40]) s q) 30) p.length 0 t0 = .ok (t0.length + a) (p.length + s.length + 2) 0 (tr t0 ts) := by
 have e := emb_allM (p := p ++ [40]) (s := s) (q := q) (t0 := t0) (dl := 1) 30 (i := 0) (d := 0) (t := []) (Nat.zero_le _) (by simp) rfl
 rw [show 30 + 1 = 31 from rfl, h] at e
 simp only [Emb, tr, List.map_nil, List.append_nil, Nat.add_zero, Nat.zero_add, List.length_append, List.length_cons, List.length_nil] at e
 unfold grpM
 rw [if_neg (by omega)]
 rcases e with e | ⟨_, e⟩ | e
 ·rw [e]; exact .inl rfl
 ·omega
 ·rw [e]
  refine .inr ?_
  have hh : hit (out (p ++ [40]) s q) (p.length + 1 + s.length) 41 = true := by
   have := out_hit_end (p := p ++ [40]) (s := s) (q := q) (c := 41)
   have hp : (p ++ [40] : List UInt8).length = p.length + 1 := by simp
   rw [hp] at this
   rw [this]; rfl
  simp only [R.bind, hh, if_true]
  rw [show p.length + 1 + s.length + 1 = p.length + s.length + 2 by omega]
  rfl
theorem atom_grp {u : List UInt8} {G : Nat → Nat → List Re → R} {i d : Nat} {t : List Re} (h : u[i]? = some 40) : atomM u G i d t = G i d t := atom_g h rfl
theorem post_stop {u : List UInt8} {a i d f : Nat} {t : List Re} (h0 : hit u i 42 = false) (h1 : hit u i 43 = false) (h2 : hit u i 63 = false) : postL u f a i d t = .ok a i d t := by
 cases f with
 | zero => rfl
 | succ f => exact post_no h0 h1 h2
theorem cat_grp {u : List UInt8} {G : Nat → Nat → List Re → R} {i d a j d' : Nat} {t t' : List Re} (h : u[i]? = some 40) (hG : G i d t = .ok a j d' t') (hj : stop u j = true) (h0 : hit u j 42 = false) (h1 : hit u j 43 = false) (h2 : hit u j 63 = false) : catM u G i d t = .ok a j d' t' := by
 rw [catM_go (stopF (List.getElem?_eq_some_iff.1 h).1 (by rw [hit_some h]; rfl) (by rw [hit_some h]; rfl))]
 unfold pieceM
 rw [atom_grp h, hG]
 simp only [R.bind]
 rw [post_stop h0 h1 h2]
 exact catL_stop hj
theorem cat_grp7 {u : List UInt8} {G : Nat → Nat → List Re → R} {i d : Nat} {t : List Re} (h : u[i]? = some 40) (hG : G i d t = .err 7) : catM u G i d t = .err 7 := by
 rw [catM_go (stopF (List.getElem?_eq_some_iff.1 h).1 (by rw [hit_some h]; rfl) (by rw [hit_some h]; rfl))]
 unfold pieceM
 rw [atom_grp h, hG]; rfl
theorem wrap1 {s : List UInt8} {t : List Re} (h : parse s = .ok t) : parse (40 :: (s ++ [41])) = .ok t ∨ parse (40 :: (s ++ [41])) = .error 7 := by
 obtain ⟨a, h1, h2, h3⟩ := parse_run h
 have hu : (40 :: (s ++ [41]) : List UInt8) = out ([] ++ [40]) s [] := by simp [out]
 have hlen : (40 :: (s ++ [41]) : List UInt8).length = s.length + 2 := by simp
 have hg := grp_run (p := []) (q := []) (t0 := []) h1 (by simpa using h3)
 rw [← hu] at hg
 simp only [List.length_nil, Nat.zero_add, tr_nil] at hg
 generalize hU : (40 :: (s ++ [41]) : List UInt8) = u at *
 have h40 : u[0]? = some 40 := by rw [← hU]; rfl
 have hn : ∀ c, hit u (s.length + 2) c = false := fun c => hit_none (by omega)
 rcases hg with hg | hg
 ·right
  apply parse_err
  show (catM u (grpM u (allM u 30)) 0 0 []).bind _ = _
  rw [cat_grp7 h40 hg]; rfl
 ·left
  refine parse_ok (a := a) (i := s.length + 2) (d := 0) ?_ (by omega)
  show (catM u (grpM u (allM u 30)) 0 0 []).bind _ = _
  rw [cat_grp h40 hg (stopT (.inr (.inr (by omega)))) (hn _) (hn _) (hn _)]
  exact altL_stop (hn _)
def both (s t : List UInt8) : List UInt8 := 40 :: (s ++ ([41, 124, 40] ++ (t ++ [41])))
theorem wrap2 {s t : List UInt8} {a c : List Re} (h : parse s = .ok a) (h' : parse t = .ok c) (hl : a.length + c.length < 2000) : parse (both s t) = joinM a c 3 ∨ parse (both s t) = .error 7 := by
 obtain ⟨x, h1, h2, h3⟩ := parse_run h
 obtain ⟨y, h4, h5, h6⟩ := parse_run h'
 have hu : both s t = out ([] ++ [40]) s ([124, 40] ++ (t ++ [41])) := by simp [out, both]
 have hv : both s t = out ((40 :: (s ++ [41, 124])) ++ [40]) t [] := by simp [out, both]
 have hlen : (both s t).length = s.length + t.length + 5 := by simp [both]; omega
 have hg := grp_run (p := []) (q := [124, 40] ++ (t ++ [41])) (t0 := []) h1 (by simpa using h3)
 have hk := grp_run (p := 40 :: (s ++ [41, 124])) (q := []) (t0 := a) h4 (by omega)
 have hb : (both s t)[s.length + 2]? = some 124 := by
  have : (40 :: (s ++ ([41, 124, 40] ++ (t ++ [41]))))[s.length + 2]? = (s ++ ([41, 124, 40] ++ (t ++ [41])))[s.length + 1]? := rfl
  unfold both
  rw [this, List.getElem?_append_right (by omega), show s.length + 1 - s.length = 1 by omega]; rfl
 have hc : (both s t)[s.length + 3]? = some 40 := by
  have : (40 :: (s ++ ([41, 124, 40] ++ (t ++ [41]))))[s.length + 3]? = (s ++ ([41, 124, 40] ++ (t ++ [41])))[s.length + 2]? := rfl
  unfold both
  rw [this, List.getElem?_append_right (by omega), show s.length + 2 - s.length = 2 by omega]; rfl
 have h40 : (both s t)[0]? = some 40 := rfl
 rw [← hu] at hg
 rw [← hv] at hk
 simp only [List.length_nil, Nat.zero_add, tr_nil] at hg
 simp only [List.length_cons, List.length_append, List.length_nil] at hk
 rw [show s.length + (0 + 1 + 1) + 1 = s.length + 3 by omega] at hk
 generalize both s t = u at *
 have hn : ∀ z, hit u (s.length + t.length + 5) z = false := fun z => hit_none (by omega)
 rcases hg with hg | hg
 ·right
  apply parse_err
  show (catM u (grpM u (allM u 30)) 0 0 []).bind _ = _
  rw [cat_grp7 h40 hg]; rfl
 have e1 : catM u (grpM u (allM u 30)) 0 0 [] = .ok x (s.length + 2) 0 a := cat_grp h40 hg (stopT (.inl (by rw [hit_some hb]; rfl))) (by rw [hit_some hb]; rfl) (by rw [hit_some hb]; rfl) (by rw [hit_some hb]; rfl)
 have e2 : ∀ f, altL u (grpM u (allM u 30)) (f + 1) x (s.length + 2) 0 a = (catM u (grpM u (allM u 30)) (s.length + 3) 0 a).bind fun b i d t => (putM ⟨3, 0, x, b⟩ i d t).bind (altL u (grpM u (allM u 30)) f) := fun f => altL_go (by rw [hit_some hb]; rfl)
 rcases hk with hk | hk
 ·right
  apply parse_err
  show (catM u (grpM u (allM u 30)) 0 0 []).bind _ = _
  rw [e1]
  simp only [R.bind]
  rw [e2, cat_grp7 hc hk]; rfl
 ·left
  rw [show s.length + 3 + t.length + 2 = s.length + t.length + 5 by omega] at hk
  have e3 := cat_grp hc hk (stopT (.inr (.inr (by omega)))) (hn _) (hn _) (hn _)
  unfold joinM
  rw [if_neg (by omega), if_neg (by omega)]
  refine parse_ok (a := a.length + c.length) (i := s.length + t.length + 5) (d := 0) ?_ (by omega)
  show (catM u (grpM u (allM u 30)) 0 0 []).bind _ = _
  rw [e1]
  simp only [R.bind]
  rw [e2, e3]
  simp only [R.bind]
  unfold putM
  rw [if_neg (by simp [tr]; omega)]
  simp only
  cases hul : u.length with
  | zero => omega
  | succ f =>
    rw [altL_stop (hn _)]
    have k0 : (x : Int) = (a.length : Int) - 1 := by omega
    have k1 : ((a.length + y : Nat) : Int) = ((a.length + c.length : Nat) : Int) - 1 := by omega
    rw [k0, k1]
    simp [tr]
end Go.Ab.R05
