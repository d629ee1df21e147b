/- A part of the proof: tools. No condition. -/
import Derived.Test.YtmpdgijnoekfmaaGreatDoorC8
import Derived.Test.YtmpdgijnoekfmaaGreatDoorL3
set_option linter.all false
namespace Go.Ab.R15z
set_option maxRecDepth 100000
set_option linter.all false
set_option maxHeartbeats 4000000
class ScanB (T : Tb) : Prop extends Base T where
 mul : ∀ args, T.orc f_bits_Mul64 args = mul64O args
 add : ∀ args, T.orc f_bits_Add64 args = add64O args
 spl : ∀ args, T.orc f_strings_Split args = splitO args
variable {T : Tb} [hS : ScanB T]
def dfault (e : Nat) : AV := .ifc 100 (.agg [i64 e])
section
variable {rf : Refs} {k : Out → Refs → Prop}
theorem mulE {x : Nat} (hx : x < 18446744073709551616) (h : k (.ret (.tup [.nat .u64 (x * 10 / 18446744073709551616), .nat .u64 (x * 10 % 18446744073709551616)])) rf) : CallE T f_bits_Mul64 [.nat .u64 x, .nat .u64 10] rf k := by
 refine callE_ev (ev_orc ((hS.mul _).trans ?_)) h
 simp only [AV.nat, mul64O]
 rw [if_pos (by omega)]
 rfl
theorem addE {x y : Nat} (h : k (.ret (.tup [.nat .u64 ((x + y) % 18446744073709551616), .nat .u64 ((x + y) / 18446744073709551616)])) rf) : CallE T f_bits_Add64 [.nat .u64 x, .nat .u64 y, .nat .u64 0] rf k := by
 refine callE_ev (ev_orc ((hS.add _).trans ?_)) h
 simp only [AV.nat, add64O]
 rw [if_pos (by omega)]
 congr 4
theorem wrong_ev (b : Bool) (e : Nat) (rf : Refs) : Ev T f_dec_wrong [bl b, i64 e] rf (if b then .pan (dfault e) else .ret (.tup [])) rf := by
 refine Ev.any ?_ rfl rf
 cases b
 ·refine ev_fn rfl rfl ?_
  (repeat' (first| (intro (u_ : Unit); clear u_)| refine condT ?_| refine condF ?_| refine condp (by assumption) ?_| refine condn (by assumption) ?_| refine condN ?_| refine idxSb (by assumption) ?_| (refine condD ?_ ?_ <;> intro hq_ <;> first | (exfalso; omega) | skip)| (refine idxS (by omega) ?_; intro b_ hb_; have hl_ := b_.toNat_lt)| refine wrA (by omega) ?_| refine wrS (by omega) (by omega) ?_| refine wrI (by omega) (by omega) ?_| refine wrBA (by omega) ?_| refine wrB (by omega) (by omega) ?_| refine strC (by omega) ?_| refine nilB rfl ?_))
  exact ⟨rfl, rfl⟩
 ·refine ev_fn rfl rfl ?_
  (repeat' (first| (intro (u_ : Unit); clear u_)| refine condT ?_| refine condF ?_| refine condp (by assumption) ?_| refine condn (by assumption) ?_| refine condN ?_| refine idxSb (by assumption) ?_| (refine condD ?_ ?_ <;> intro hq_ <;> first | (exfalso; omega) | skip)| (refine idxS (by omega) ?_; intro b_ hb_; have hl_ := b_.toNat_lt)| refine wrA (by omega) ?_| refine wrS (by omega) (by omega) ?_| refine wrI (by omega) (by omega) ?_| refine wrBA (by omega) ?_| refine wrB (by omega) (by omega) ?_| refine strC (by omega) ?_| refine nilB rfl ?_))
  exact ⟨rfl, rfl⟩
theorem wrongE {b : Bool} {e : Nat} (h1 : b = true → k (.pan (dfault e)) rf) (h2 : b = false → k (.ret (.tup [])) rf) : CallE T f_dec_wrong [bl b, i64 e] rf k := by
 refine callE_ev (wrong_ev b e rf) ?_
 cases b
 ·exact h2 rfl
 ·exact h1 rfl
end
def joinN (v : Nat) (b : Bool) : Option Int := if b then (if 9223372036854775808 < v then none else some (-(v : Int))) else (if 9223372036854775807 < v then none else some v)
def joinO : Option Int → Out
 | none => .pan (dfault 3)
 | some n => .ret (i64 n)
theorem wrH {c : Int → Prop} {n : Int} (hn : n = 9223372036854775808) (h : c (-9223372036854775808)) : WrE .i64 n c := by subst hn; exact ⟨h⟩
theorem joined_ev (v : Nat) (hv : v < 18446744073709551616) (b : Bool) (rf : Refs) : Ev T f_dec_joined [.nat .u64 0, .nat .u64 v, bl b] rf (joinO (joinN v b)) rf := by
 refine Ev.any ?_ rfl rf
 cases b
 ·simp only [joinN, Bool.false_eq_true, if_false]
  by_cases h : 9223372036854775807 < v
  ·rw [if_pos h]
   refine ev_fn rfl rfl ?_
   (repeat' (first| (intro (u_ : Unit); clear u_)| refine condT ?_| refine condF ?_| refine condp (by assumption) ?_| refine condn (by assumption) ?_| refine condN ?_| refine idxSb (by assumption) ?_| (refine wrongE (fun hw_ => ?_) (fun hw_ => ?_))| (refine condD ?_ ?_ <;> intro hq_ <;> first | (exfalso; omega) | skip)| (refine idxS (by omega) ?_; intro b_ hb_; have hl_ := b_.toNat_lt)| refine wrA (by omega) ?_| refine wrS (by omega) (by omega) ?_| refine wrI (by omega) (by omega) ?_| refine wrBA (by omega) ?_| refine wrB (by omega) (by omega) ?_| refine strC (by omega) ?_| refine nilB rfl ?_))
   ·exact ⟨rfl, rfl⟩
   ·have := of_decide_eq_false hw_; omega
  ·rw [if_neg h]
   refine ev_fn rfl rfl ?_
   (repeat' (first| (intro (u_ : Unit); clear u_)| refine condT ?_| refine condF ?_| refine condp (by assumption) ?_| refine condn (by assumption) ?_| refine condN ?_| refine idxSb (by assumption) ?_| (refine wrongE (fun hw_ => ?_) (fun hw_ => ?_))| (refine condD ?_ ?_ <;> intro hq_ <;> first | (exfalso; omega) | skip)| (refine idxS (by omega) ?_; intro b_ hb_; have hl_ := b_.toNat_lt)| refine wrA (by omega) ?_| refine wrS (by omega) (by omega) ?_| refine wrI (by omega) (by omega) ?_| refine wrBA (by omega) ?_| refine wrB (by omega) (by omega) ?_| refine strC (by omega) ?_| refine nilB rfl ?_))
   ·have := of_decide_eq_true hw_; omega
   ·exact ⟨rfl, rfl⟩
 ·simp only [joinN, if_true]
  by_cases h : 9223372036854775808 < v
  ·rw [if_pos h]
   refine ev_fn rfl rfl ?_
   (repeat' (first| (intro (u_ : Unit); clear u_)| refine condT ?_| refine condF ?_| refine condp (by assumption) ?_| refine condn (by assumption) ?_| refine condN ?_| refine idxSb (by assumption) ?_| (refine wrongE (fun hw_ => ?_) (fun hw_ => ?_))| refine wrU (by omega) (by omega) ?_| (refine condD ?_ ?_ <;> intro hq_ <;> first | (exfalso; omega) | skip)| (refine idxS (by omega) ?_; intro b_ hb_; have hl_ := b_.toNat_lt)| refine wrA (by omega) ?_| refine wrS (by omega) (by omega) ?_| refine wrI (by omega) (by omega) ?_| refine wrBA (by omega) ?_| refine wrB (by omega) (by omega) ?_| refine strC (by omega) ?_| refine nilB rfl ?_))
   ·exact ⟨rfl, rfl⟩
   ·have := of_decide_eq_false hw_; omega
  ·rw [if_neg h]
   by_cases h9 : v = 9223372036854775808
   ·refine ev_fn rfl rfl ?_
    (repeat' (first| (intro (u_ : Unit); clear u_)| refine condT ?_| refine condF ?_| refine condp (by assumption) ?_| refine condn (by assumption) ?_| refine condN ?_| refine idxSb (by assumption) ?_| (refine wrongE (fun hw_ => ?_) (fun hw_ => ?_))| refine wrU (by omega) (by omega) ?_| refine wrH (by omega) ?_| (refine condD ?_ ?_ <;> intro hq_ <;> first | (exfalso; omega) | skip)| (refine idxS (by omega) ?_; intro b_ hb_; have hl_ := b_.toNat_lt)| refine wrA (by omega) ?_| refine wrS (by omega) (by omega) ?_| refine wrI (by omega) (by omega) ?_| refine wrBA (by omega) ?_| refine wrB (by omega) (by omega) ?_| refine strC (by omega) ?_| refine nilB rfl ?_))
    ·have := of_decide_eq_true hw_; omega
    ·subst h9; exact ⟨rfl, rfl⟩
   ·refine ev_fn rfl rfl ?_
    (repeat' (first| (intro (u_ : Unit); clear u_)| refine condT ?_| refine condF ?_| refine condp (by assumption) ?_| refine condn (by assumption) ?_| refine condN ?_| refine idxSb (by assumption) ?_| (refine wrongE (fun hw_ => ?_) (fun hw_ => ?_))| refine wrU (by omega) (by omega) ?_| (refine condD ?_ ?_ <;> intro hq_ <;> first | (exfalso; omega) | skip)| (refine idxS (by omega) ?_; intro b_ hb_; have hl_ := b_.toNat_lt)| refine wrA (by omega) ?_| refine wrS (by omega) (by omega) ?_| refine wrI (by omega) (by omega) ?_| refine wrBA (by omega) ?_| refine wrB (by omega) (by omega) ?_| refine strC (by omega) ?_| refine nilB rfl ?_))
    ·have := of_decide_eq_true hw_; omega
    ·refine ⟨?_, rfl⟩; simp [joinO]
theorem caught_ev (e : Nat) (X Y Z : AV) (hX : X.one = true) : EvD T f_dec_caught [.ptr 0 0, .ptr 2 0] (some (dfault e)) [[X], [Y], [Z]] (.ret (.tup [])) none [[i64 (0 : Nat)], [Y], [i64 e]] := by
 refine evd_vc (by rw [hS.td]; rfl) ?_
 (repeat' (first| (intro (u_ : Unit); clear u_)| refine condT ?_| refine condF ?_| refine condp (by assumption) ?_| refine condn (by assumption) ?_| refine condN ?_| refine idxSb (by assumption) ?_| (refine condD ?_ ?_ <;> intro hq_ <;> first | (exfalso; omega) | skip)| (refine idxS (by omega) ?_; intro b_ hb_; have hl_ := b_.toNat_lt)| refine wrA (by omega) ?_| refine wrS (by omega) (by omega) ?_| refine wrI (by omega) (by omega) ?_| refine wrBA (by omega) ?_| refine wrB (by omega) (by omega) ?_| refine strC (by omega) ?_| refine nilB rfl ?_))
 all_goals exact ⟨rfl, rfl, rfl, rfl⟩
theorem uncaught_ev (X Y Z : AV) : EvD T f_dec_caught [.ptr 0 0, .ptr 2 0] none [[X], [Y], [Z]] (.ret (.tup [])) none [[X], [Y], [Z]] := by
 refine evd_vc (by rw [hS.td]; rfl) ?_
 (repeat' (first| (intro (u_ : Unit); clear u_)| refine condT ?_| refine condF ?_| refine condp (by assumption) ?_| refine condn (by assumption) ?_| refine condN ?_| refine idxSb (by assumption) ?_| (refine condD ?_ ?_ <;> intro hq_ <;> first | (exfalso; omega) | skip)| (refine idxS (by omega) ?_; intro b_ hb_; have hl_ := b_.toNat_lt)| refine wrA (by omega) ?_| refine wrS (by omega) (by omega) ?_| refine wrI (by omega) (by omega) ?_| refine wrBA (by omega) ?_| refine wrB (by omega) (by omega) ?_| refine strC (by omega) ?_| refine nilB rfl ?_))
 all_goals exact ⟨rfl, rfl, rfl, rfl⟩
theorem used1_ev (e : Nat) (he : e ≠ 0) (X Y : AV) : EvD T f_dec_Read_1 [.ptr 2 0, .ptr 1 0] none [[X], [Y], [i64 e]] (.ret (.tup [])) none [[X], [i64 (0 : Nat)], [i64 e]] := by
 refine evd_vc (by rw [hS.td]; rfl) ?_
 (repeat' (first| (intro (u_ : Unit); clear u_)| refine condT ?_| refine condF ?_| refine condp (by assumption) ?_| refine condn (by assumption) ?_| refine condN ?_| refine idxSb (by assumption) ?_| (refine condD ?_ ?_ <;> intro hq_ <;> first | (exfalso; omega) | skip)| (refine idxS (by omega) ?_; intro b_ hb_; have hl_ := b_.toNat_lt)| refine wrA (by omega) ?_| refine wrS (by omega) (by omega) ?_| refine wrI (by omega) (by omega) ?_| refine wrBA (by omega) ?_| refine wrB (by omega) (by omega) ?_| refine strC (by omega) ?_| refine nilB rfl ?_))
 all_goals exact ⟨rfl, rfl, rfl, rfl⟩
theorem used0_ev (X Y : AV) : EvD T f_dec_Read_1 [.ptr 2 0, .ptr 1 0] none [[X], [Y], [i64 (0 : Nat)]] (.ret (.tup [])) none [[X], [Y], [i64 (0 : Nat)]] := by
 refine evd_vc (by rw [hS.td]; rfl) ?_
 (repeat' (first| (intro (u_ : Unit); clear u_)| refine condT ?_| refine condF ?_| refine condp (by assumption) ?_| refine condn (by assumption) ?_| refine condN ?_| refine idxSb (by assumption) ?_| (refine condD ?_ ?_ <;> intro hq_ <;> first | (exfalso; omega) | skip)| (refine idxS (by omega) ?_; intro b_ hb_; have hl_ := b_.toNat_lt)| refine wrA (by omega) ?_| refine wrS (by omega) (by omega) ?_| refine wrI (by omega) (by omega) ?_| refine wrBA (by omega) ?_| refine wrB (by omega) (by omega) ?_| refine strC (by omega) ?_| refine nilB rfl ?_))
 all_goals exact ⟨rfl, rfl, rfl, rfl⟩
def numT : Num → AV
 | .form => .tup [i64 (0 : Nat), i64 (0 : Nat), i64 (2 : Nat)]
 | .over => .tup [i64 (0 : Nat), i64 (0 : Nat), i64 (3 : Nat)]
 | .ok n u => .tup [i64 n, i64 u, i64 (0 : Nat)]
theorem valL_snoc (l : List UInt8) (c : UInt8) : valL (l ++ [c]) = valL l * 10 + (c.toNat - 48) := by simp [valL]
theorem valL_take (l : List UInt8) : ∀ i j, i ≤ j → valL (l.take i) ≤ valL (l.take j) := by
 intro i j h
 induction j with
 | zero => rw [show i = 0 by omega]; exact Nat.le_refl _
 | succ j ih =>
   by_cases hi : i = j + 1
   ·rw [hi]; exact Nat.le_refl _
   ·have h1 := ih (by omega)
    rw [List.take_add_one]
    cases hj : l[j]? with
    | none => simpa using h1
    | some c => simp only [Option.toList_some]; rw [valL_snoc]; omega
theorem valL_le (l : List UInt8) (i : Nat) : valL (l.take i) ≤ valL l := by
 have := valL_take l i (max i l.length) (by omega)
 rwa [List.take_of_length_le (show l.length ≤ max i l.length by omega)] at this
theorem runL_fig : ∀ (l : List UInt8) (c : UInt8), c ∈ l.take (runL fig l) → fig c = true
 | [], c, h => by simp at h
 | a :: l, c, h => by
   simp only [runL] at h
   split at h
   ·simp only [List.take_succ_cons, List.mem_cons] at h
    rcases h with rfl | h
    ·assumption
    ·exact runL_fig l c h
   ·simp at h
theorem part_fig {s : List UInt8} {i : Nat} {c : UInt8} (h : c ∈ (s.take (i + runA fig s i)).drop i) : fig c = true := by
 rw [List.drop_take, Nat.add_sub_cancel_left] at h
 exact runL_fig _ c h
theorem six_fig {l : List UInt8} (h : ∀ c ∈ l, fig c = true) : ∀ c ∈ six l, fig c = true := by
 intro c hc
 have := List.mem_of_mem_take hc
 rcases List.mem_append.1 this with h1 | h1
 ·exact h c h1
 ·simp only [List.mem_cons, List.not_mem_nil, or_false, or_self] at h1
  subst h1; decide
theorem six_length (l : List UInt8) : (six l).length = 6 := by unfold six; rw [List.length_take, List.length_append]; simp
theorem spD_fig {s : List UInt8} : ∀ c ∈ spD s, fig c = true := by
 intro c hc
 rcases List.mem_append.1 hc with h | h
 ·exact part_fig h
 ·refine six_fig (fun c hc => ?_) c h
  unfold spE at hc
  split at hc
  ·exact part_fig hc
  ·rw [List.drop_eq_nil_of_le (by rw [List.length_take]; omega)] at hc; simp at hc
theorem fig_iff {c : UInt8} : fig c = true ↔ 48 ≤ c.toNat ∧ c.toNat ≤ 57 := by simp [fig]
theorem idxBy {l : List UInt8} {i : Nat} {b : UInt8} {c : List D → Prop} (h : l[i]? = some b) (h' : c [.int .u8 b.toNat]) : IdxL 1 (bytesOf l) (i : Int) c := idxLb (by simp [bytesOf, h]) rfl h'
theorem strC' {a b d : List UInt8} {c : List UInt8 → Prop} (h0 : a.length + b.length ≤ 17179869184) (hd : a ++ b = d) (h : c d) : CatE a b c := ⟨h0, by subst hd; exact h⟩
theorem strZ {a : List UInt8} {c : List UInt8 → Prop} (h0 : a.length + 6 ≤ 17179869184) (h : c (a ++ [48, 48, 48, 48, 48, 48])) : CatE a [48, 48, 48, 48, 48, 48] c := ⟨h0, h⟩
theorem sub6 {a : List UInt8} {c : List UInt8 → Prop} (h : c (six a)) : SubE (a ++ [48, 48, 48, 48, 48, 48]) none (some ((6 : Nat) : Int)) c := subHi (by simp) h
theorem behind_no {s : List UInt8} (h : ¬ spP s < spE s) : (s.take (spE s)).drop (spP s + 1) = [] := List.drop_eq_nil_of_le (by rw [List.length_take]; omega)
theorem decRead_ev (s : List UInt8) (hs : s.length ≤ 2 ^ 30) (rf : Refs) : Ev T f_dec_Read [str s] rf (.ret (numT (decM s))) rf := by
 refine Ev.any ?_ rfl rf
 have hsp := span_ev (T := T) s (by omega)
 have l0 := spB_le (s := s); have l1 := spF_le (s := s); have l2 := spP_le (s := s); have l3 := spE_le (s := s)
 have hne := behind_no (s := s)
 have hfig := spD_fig (s := s)
 have hlen : (spD s).length ≤ 2 ^ 31 := by
  unfold spD; rw [List.length_append, six_length, List.length_drop, List.length_take]; omega
 have hnil : spD s ≠ [] := by
  intro h
  have : (spD s).length = 0 := by rw [h]; rfl
  unfold spD at this; rw [List.length_append, six_length] at this; omega
 unfold decM
 have hdef : spD s = (s.take (spP s)).drop (spF s) ++ six ((s.take (spE s)).drop (spP s + 1)) := rfl
 have hdef0 : ¬ spP s < spE s → spD s = (s.take (spP s)).drop (spF s) ++ [48, 48, 48, 48, 48, 48] := fun h => by rw [hdef, hne h]; rfl
 by_cases hform : spP s = spF s ∧ spE s ≤ spP s + 1
 ·rw [if_pos hform]
  clear hdef hdef0 hne hfig hlen hnil
  generalize spB s = B at *
  generalize spF s = F at *
  generalize spP s = P at *
  generalize spE s = E at *
  obtain ⟨rfl, hE⟩ := hform
  refine ev_fn rfl rfl ?_
  (repeat' (first| (intro (u_ : Unit); clear u_)| refine condT ?_| refine condF ?_| refine condp (by assumption) ?_| refine condn (by assumption) ?_| refine condN ?_| refine idxSb (by assumption) ?_| refine callE_ev (hsp _) ?_| (refine wrongE (fun hw_ => ?_) (fun hw_ => ?_))| refine defE (caught_ev _ _ _ _ rfl) ?_| refine defE (used1_ev _ (by decide) _ _) ?_| (refine condD ?_ ?_ <;> intro hq_ <;> first | (exfalso; omega) | skip)| (refine idxS (by omega) ?_; intro b_ hb_; have hl_ := b_.toNat_lt)| refine wrA (by omega) ?_| refine wrS (by omega) (by omega) ?_| refine wrI (by omega) (by omega) ?_| refine wrBA (by omega) ?_| refine wrB (by omega) (by omega) ?_| refine strC (by omega) ?_| refine nilB rfl ?_))
  ·exact ⟨rfl, rfl⟩
  all_goals (have := of_decide_eq_false hw_; omega)
 rw [if_neg hform]
 have hroom : spB s < s.length := by omega
 obtain ⟨sg, hsg⟩ := getS hroom
 have hJ : (if hit s (spB s) 45 = true then if 9223372036854775808 < valL (spD s) then Num.over else Num.ok (-(valL (spD s) : Int)) (spE s) else if 9223372036854775807 < valL (spD s) then Num.over else Num.ok (valL (spD s)) (spE s)) =
   match joinN (valL (spD s)) (decide (sg.toNat = 45)) with
   | none => Num.over
   | some n => Num.ok n (spE s) := by
  rw [hit_some hsg]
  unfold joinN
  cases decide (sg.toNat = 45) <;> simp only [if_true, Bool.false_eq_true, if_false] <;> (split <;> rfl)
 rw [hJ]
 clear hJ
 generalize hD : spD s = l at *
 generalize spB s = B at *
 generalize spF s = F at *
 generalize spP s = P at *
 generalize spE s = E at *
 have hsgd : decide ((sg.toNat : Int) = ((45 : Nat) : Int)) = decide (sg.toNat = 45) := by rw [Bool.eq_iff_iff]; simp; omega
 have hjo := fun h => joined_ev (T := T) (valL l) h (decide (sg.toNat = 45))
 rw [← hsgd] at hjo ⊢
 clear hsgd
 have hbl : (bytesOf l).length = l.length := by simp [bytesOf]
 refine ev_fn rfl rfl ?_
 (repeat' (first| (intro (u_ : Unit); clear u_)| refine condT ?_| refine condF ?_| refine condp (by assumption) ?_| refine condn (by assumption) ?_| refine condN ?_| refine idxSb (by assumption) ?_| refine callE_ev (hsp _) ?_| (refine wrongE (fun hw_ => ?_) (fun hw_ => ?_) <;> first | exact absurd hw_ Bool.false_ne_true | (exfalso; have := of_decide_eq_true hw_; omega) | skip)| (refine subBo (i := P + 1) (j := E) (by omega) (by omega) ?_)| (refine subBo (i := F) (j := P) (by omega) (by omega) ?_)| refine sub6 ?_| (refine strC' (d := l) (by first | (rw [six_length, List.length_drop, List.length_take]; omega) | (simp only [List.length_drop, List.length_take, List.length_cons, List.length_nil]; omega)) (by first | exact hdef.symm | exact (hdef0 (by omega)).symm) ?_)| (refine strZ (by simp only [List.length_drop, List.length_take, List.length_nil]; omega) ?_)| refine bytesB hnil ?_| (refine condD ?_ ?_ <;> intro hq_ <;> first | (exfalso; omega) | skip)| (refine idxS (by omega) ?_; intro b_ hb_; have hl_ := b_.toNat_lt)| refine wrA (by omega) ?_| refine wrS (by omega) (by omega) ?_| refine wrI (by omega) (by omega) ?_| refine wrBA (by omega) ?_| refine wrB (by omega) (by omega) ?_| refine strC (by omega) ?_| refine nilB rfl ?_))
 all_goals
  clear hdef hdef0 hne hsp
  refine loopR (fun i : Nat => [(10, .nat .u64 (valL (l.take i))), (53, i64 i)]) (fun _ => []) (fun i => l.length - i) (fun i => i ≤ l.length ∧ valL (l.take i) < 18446744073709551616) 0 ⟨by omega, by simp [valL]⟩ (by rfl) (by rfl) ?_
  rintro i ⟨hi, hv⟩
  by_cases hlt : i < l.length
  ·obtain ⟨c, hc⟩ := getS hlt
   have hf := fig_iff.1 (hfig c (List.mem_of_getElem? hc))
   have hv' : valL (l.take (i + 1)) = valL (l.take i) * 10 + (c.toNat - 48) := by rw [take_succ_of hc, valL_snoc]
   have hge := valL_le l (i + 1)
   generalize valL (l.take i) = x at *
   (repeat' (first| (intro (u_ : Unit); clear u_)| refine condT ?_| refine condF ?_| refine condp (by assumption) ?_| refine condn (by assumption) ?_| refine condN ?_| refine idxSb (by assumption) ?_| refine idxBy hc ?_| refine mulE hv ?_| refine wrBS (by omega) (by omega) ?_| refine wrU (by omega) (by omega) ?_| refine addE ?_| (refine wrongE (fun hw_ => ?_) (fun hw_ => ?_))| refine defE (caught_ev _ _ _ _ rfl) ?_| refine defE (used1_ev _ (by decide) _ _) ?_| (refine condD ?_ ?_ <;> intro hq_ <;> first | (exfalso; omega) | skip)| (refine idxS (by omega) ?_; intro b_ hb_; have hl_ := b_.toNat_lt)| refine wrA (by omega) ?_| refine wrS (by omega) (by omega) ?_| refine wrI (by omega) (by omega) ?_| refine wrBA (by omega) ?_| refine wrB (by omega) (by omega) ?_| refine strC (by omega) ?_| refine nilB rfl ?_))
   ·have := of_decide_eq_true hw_
    have hov : joinN (valL l) (decide ((sg.toNat : Int) = ((45 : Nat) : Int))) = none := by
     unfold joinN
     split <;> exact if_pos (by omega)
    rw [hov]
    exact ⟨rfl, rfl⟩
   ·have := of_decide_eq_false hw_
    have he : (x * 10 % 18446744073709551616 + (c.toNat - 48)) % 18446744073709551616 = x * 10 + (c.toNat - 48) := by omega
    refine ⟨i + 1, ⟨by omega, by omega⟩, by omega, ?_, rfl, rfl, rfl⟩
    rw [hv', he]; rfl
  ·have hii : i = l.length := by omega
   subst hii
   rw [List.take_of_length_le (Nat.le_refl _)] at *
   have hjo := hjo hv
   cases hj : joinN (valL l) (decide ((sg.toNat : Int) = ((45 : Nat) : Int))) <;> rw [hj] at hjo
   ·(repeat' (first
     | (intro (u_ : Unit); clear u_)
     | refine condT ?_
     | refine condF ?_
     | refine condp (by assumption) ?_
     | refine condn (by assumption) ?_
     | refine condN ?_
     | refine idxSb (by assumption) ?_
     | refine callE_ev (hjo _) ?_
     | refine defE (caught_ev _ _ _ _ rfl) ?_
     | refine defE (used1_ev _ (by decide) _ _) ?_
     | (refine condD ?_ ?_ <;> intro hq_ <;> first | (exfalso; omega) | skip)
     | (refine idxS (by omega) ?_; intro b_ hb_; have hl_ := b_.toNat_lt)
     | refine wrA (by omega) ?_
     | refine wrS (by omega) (by omega) ?_
     | refine wrI (by omega) (by omega) ?_
     | refine wrBA (by omega) ?_
     | refine wrB (by omega) (by omega) ?_
     | refine strC (by omega) ?_
     | refine nilB rfl ?_))
    exact ⟨rfl, rfl⟩
   ·(repeat' (first
     | (intro (u_ : Unit); clear u_)
     | refine condT ?_
     | refine condF ?_
     | refine condp (by assumption) ?_
     | refine condn (by assumption) ?_
     | refine condN ?_
     | refine idxSb (by assumption) ?_
     | refine callE_ev (hjo _) ?_
     | refine defE (uncaught_ev _ _ _) ?_
     | refine defE (used0_ev _ _) ?_
     | (refine condD ?_ ?_ <;> intro hq_ <;> first | (exfalso; omega) | skip)
     | (refine idxS (by omega) ?_; intro b_ hb_; have hl_ := b_.toNat_lt)
     | refine wrA (by omega) ?_
     | refine wrS (by omega) (by omega) ?_
     | refine wrI (by omega) (by omega) ?_
     | refine wrBA (by omega) ?_
     | refine wrB (by omega) (by omega) ?_
     | refine strC (by omega) ?_
     | refine nilB rfl ?_))
    exact ⟨rfl, rfl⟩
end Go.Ab.R15z
namespace Go.Ab.R15z
set_option maxRecDepth 100000
set_option linter.all false
set_option maxHeartbeats 4000000
variable {T : Tb} [hS : ScanB T]
def w32 (n i : Nat) : Nat := n / 2 ^ (32 * i) % 4294967296
def wv (n i : Nat) : AV := .nat .u64 (w32 n i)
def W12 (n : Nat) : List AV := [wv n 0, wv n 1, wv n 2, wv n 3, wv n 4, wv n 5, wv n 6, wv n 7, wv n 8, wv n 9, wv n 10, wv n 11]
def intC (b : Bool) (n : Nat) : List AV := bl b :: W12 n
def cr (n m i : Nat) : Nat := (n % 2 ^ (32 * i) * 10 + m) / 2 ^ (32 * i)
theorem w32_lt (n i : Nat) : w32 n i < 4294967296 := Nat.mod_lt _ (by decide)
theorem p32 (i : Nat) : 2 ^ (32 * (i + 1)) = 2 ^ (32 * i) * 4294967296 := by rw [Nat.mul_add, Nat.pow_add]
theorem cr_le (n m i : Nat) : cr n m i ≤ 10 + m := by
 unfold cr
 have h0 : 0 < 2 ^ (32 * i) := Nat.two_pow_pos _
 have h1 := Nat.mod_lt n h0
 refine Nat.div_le_of_le_mul ?_
 rw [Nat.mul_add]
 have h2 : m ≤ 2 ^ (32 * i) * m := Nat.le_mul_of_pos_left _ h0
 omega
theorem cr_mid (n m i : Nat) : cr n m i + w32 n i * 10 = (n % 2 ^ (32 * (i + 1)) * 10 + m) / 2 ^ (32 * i) := by
 unfold cr w32
 rw [p32, Nat.mod_mul]
 have h0 : 0 < 2 ^ (32 * i) := Nat.two_pow_pos _
 generalize n / 2 ^ (32 * i) % 4294967296 = w
 generalize n % 2 ^ (32 * i) = r
 generalize 2 ^ (32 * i) = B at *
 rw [show (r + B * w) * 10 + m = r * 10 + m + B * (w * 10) from by rw [Nat.add_mul, Nat.mul_assoc]; omega, Nat.add_mul_div_left _ _ h0]
theorem cr_word (n m i : Nat) : (cr n m i + w32 n i * 10) % 4294967296 = w32 (n * 10 + m) i := by
 rw [cr_mid]
 unfold w32
 have h0 : 0 < 2 ^ (32 * i) := Nat.two_pow_pos _
 have h1 := Nat.div_add_mod n (2 ^ (32 * (i + 1)))
 rw [p32] at h1 ⊢
 generalize n % (2 ^ (32 * i) * 4294967296) = r at *
 generalize n / (2 ^ (32 * i) * 4294967296) = q at *
 rw [← h1]
 generalize 2 ^ (32 * i) = B at *
 rw [show (B * 4294967296 * q + r) * 10 + m = r * 10 + m + B * (4294967296 * (q * 10)) from by rw [Nat.add_mul, Nat.mul_assoc, Nat.mul_assoc]; omega, Nat.add_mul_div_left _ _ h0, Nat.add_mul_mod_self_left]
theorem cr_next (n m i : Nat) : (cr n m i + w32 n i * 10) / 4294967296 = cr n m (i + 1) := by
 rw [cr_mid, Nat.div_div_eq_div_mul, ← p32]; rfl
theorem cr_0 (n m : Nat) : cr n m 0 = m := by simp [cr, Nat.mod_one]
theorem wrUM {a : Nat} {c : Int → Prop} (h1 : a < 4294967296) (h : c ((a * 10 : Nat) : Int)) : WrE .u64 ((a : Int) * ((10 : Nat) : Int)) c := wr_of (by rw [nU]; omega) (by rw [mU]; omega) (by simpa using h)
theorem wrUA {a b : Nat} {c : Int → Prop} (h1 : a + b ≤ 18446744073709551615) (h : c ((a + b : Nat) : Int)) : WrE .u64 ((a : Int) + (b : Int)) c := wr_of (by rw [nU]; omega) (by rw [mU]; omega) (by simpa using h)
def mixI (b : Bool) (n m i : Nat) : List AV := bl b :: ((W12 m).take i ++ (W12 n).drop i)
theorem times_ev (b : Bool) (n m : Nat) (hm : m < 10) (rf : Refs) : Ev T f_ref02_times [.agg (intC b n), .nat .u64 10, .nat .u64 m] rf (.ret (.agg (intC b (n * 10 + m)))) rf := by
 refine Ev.any ?_ rfl rf
 have hw := w32_lt n
 have hc := cr_le n m
 have h1 := cr_word n m
 have h2 := cr_next n m
 have h3 := cr_0 n m
 generalize cr n m = C at *
 refine ev_fn rfl rfl ?_
 (repeat' (first| (intro (u_ : Unit); clear u_)| refine condT ?_| refine condF ?_| refine condp (by assumption) ?_| refine condn (by assumption) ?_| refine condN ?_| refine idxSb (by assumption) ?_| (refine condD ?_ ?_ <;> intro hq_ <;> first | (exfalso; omega) | skip)| (refine idxS (by omega) ?_; intro b_ hb_; have hl_ := b_.toNat_lt)| refine wrA (by omega) ?_| refine wrS (by omega) (by omega) ?_| refine wrI (by omega) (by omega) ?_| refine wrBA (by omega) ?_| refine wrB (by omega) (by omega) ?_| refine strC (by omega) ?_| refine nilB rfl ?_))
 refine loopR (fun i : Nat => [(8, i64 i), (7, .nat .u64 (C i))]) (fun i => [(0, mixI b n (n * 10 + m) i)]) (fun i => 12 - i) (fun i => i ≤ 12) 0 (by omega) (by rw [h3]; rfl) (by rfl) ?_
 intro i hi
 rcases (by omega : i = 0 ∨ i = 1 ∨ i = 2 ∨ i = 3 ∨ i = 4 ∨ i = 5 ∨ i = 6 ∨ i = 7 ∨ i = 8 ∨ i = 9 ∨ i = 10 ∨ i = 11 ∨ i = 12) with rfl | rfl | rfl | rfl | rfl | rfl | rfl | rfl | rfl | rfl | rfl | rfl | rfl
 all_goals
  (repeat' (first| (intro (u_ : Unit); clear u_)| refine condT ?_| refine condF ?_| refine condp (by assumption) ?_| refine condn (by assumption) ?_| refine condN ?_| refine idxSb (by assumption) ?_| refine idxAi (by decide) ?_| refine wrUM (hw _) ?_| refine wrUA (by have := hc 0; have := hc 1; have := hc 2; have := hc 3; have := hc 4; have := hc 5; have := hc 6; have := hc 7; have := hc 8; have := hc 9; have := hc 10; have := hc 11; have := hw 0; have := hw 1; have := hw 2; have := hw 3; have := hw 4; have := hw 5; have := hw 6; have := hw 7; have := hw 8; have := hw 9; have := hw 10; have := hw 11; omega) ?_| refine remN (by decide) ?_| refine quoN (by decide) (by rw [mU]; have := hc 0; have := hc 1; have := hc 2; have := hc 3; have := hc 4; have := hc 5; have := hc 6; have := hc 7; have := hc 8; have := hc 9; have := hc 10; have := hc 11; have := hw 0; have := hw 1; have := hw 2; have := hw 3; have := hw 4; have := hw 5; have := hw 6; have := hw 7; have := hw 8; have := hw 9; have := hw 10; have := hw 11; omega) (by decide) ?_| refine condp (by decide) ?_| refine condn (by decide) ?_| (refine condD ?_ ?_ <;> intro hq_ <;> first | (exfalso; omega) | skip)| (refine idxS (by omega) ?_; intro b_ hb_; have hl_ := b_.toNat_lt)| refine wrA (by omega) ?_| refine wrS (by omega) (by omega) ?_| refine wrI (by omega) (by omega) ?_| refine wrBA (by omega) ?_| refine wrB (by omega) (by omega) ?_| refine strC (by omega) ?_| refine nilB rfl ?_))
  first
  | exact ⟨rfl, rfl⟩
  | (rw [h1, h2]; exact ⟨_, by decide, by decide, rfl, rfl, rfl, rfl⟩)
def figAt (s : List UInt8) (i : Nat) : Bool := match s[i]? with
 | some c => fig c
 | none => false
theorem figure_ev (s : List UInt8) (i : Nat) (hs : s.length ≤ 2 ^ 40) (hi : i ≤ 2 ^ 41) (rf : Refs) : Ev T f_ref02_figure [str s, i64 i] rf (.ret (bl (figAt s i))) rf := by
 refine Ev.any ?_ rfl rf
 by_cases hl : i < s.length
 ·obtain ⟨c, hc⟩ := getS hl
  unfold figAt
  rw [hc]
  refine ev_fn rfl rfl ?_
  (repeat' (first| (intro (u_ : Unit); clear u_)| refine condT ?_| refine condF ?_| refine condp (by assumption) ?_| refine condn (by assumption) ?_| refine condN ?_| refine idxSb (by assumption) ?_| (refine condD ?_ ?_ <;> intro hq_ <;> first | (exfalso; omega) | skip)| (refine idxS (by omega) ?_; intro b_ hb_; have hl_ := b_.toNat_lt)| refine wrA (by omega) ?_| refine wrS (by omega) (by omega) ?_| refine wrI (by omega) (by omega) ?_| refine wrBA (by omega) ?_| refine wrB (by omega) (by omega) ?_| refine strC (by omega) ?_| refine nilB rfl ?_))
  all_goals (refine ⟨?_, rfl⟩; congr 3; rw [Bool.eq_iff_iff]; simp [fig]; try omega)
 ·unfold figAt
  rw [List.getElem?_eq_none (by omega)]
  refine ev_fn rfl rfl ?_
  (repeat' (first| (intro (u_ : Unit); clear u_)| refine condT ?_| refine condF ?_| refine condp (by assumption) ?_| refine condn (by assumption) ?_| refine condN ?_| refine idxSb (by assumption) ?_| (refine condD ?_ ?_ <;> intro hq_ <;> first | (exfalso; omega) | skip)| (refine idxS (by omega) ?_; intro b_ hb_; have hl_ := b_.toNat_lt)| refine wrA (by omega) ?_| refine wrS (by omega) (by omega) ?_| refine wrI (by omega) (by omega) ?_| refine wrBA (by omega) ?_| refine wrB (by omega) (by omega) ?_| refine strC (by omega) ?_| refine nilB rfl ?_))
  all_goals exact ⟨rfl, rfl⟩
/-! back to a number of 64 bits -/
def backM (b : Bool) (n : Nat) : Option Int := if b then (if 9223372036854775808 < n then none else some (-(n : Int))) else (if 9223372036854775807 < n then none else some n)
def backA : Option Int → AV
 | none => .tup [i64 (0 : Nat), i64 (3 : Nat)]
 | some n => .tup [i64 n, i64 (0 : Nat)]
theorem w32_zero {n i : Nat} (h : n < 2 ^ (32 * i)) : w32 n i = 0 := by unfold w32; rw [Nat.div_eq_of_lt h]
theorem wrUM32 {a : Nat} {c : Int → Prop} (h1 : a < 4294967296) (h : c ((a * 4294967296 : Nat) : Int)) : WrE .u64 ((a : Int) * ((4294967296 : Nat) : Int)) c := wr_of (by rw [nU]; omega) (by rw [mU]; omega) (by simpa using h)
theorem wrapU (n : Int) : IntKind.u64.wrap n = n % 18446744073709551616 := by simp [IntKind.wrap, IntKind.bits, IntKind.signed]
theorem wrap6 (n : Int) : IntKind.i64.wrap n = if n % 18446744073709551616 ≥ 9223372036854775808 then n % 18446744073709551616 - 18446744073709551616 else n % 18446744073709551616 := by simp [IntKind.wrap, IntKind.bits, IntKind.signed]
theorem wrNeg {n : Nat} {c : Int → Prop} (h : c ((0 - (n : Int)) % 18446744073709551616)) : WrE .u64 (((0 : Nat) : Int) - (n : Int)) c := ⟨by rw [wrapU]; exact h⟩
theorem wrNeg2 {n : Nat} {c : Int → Prop} (hn : n ≤ 9223372036854775808) (h : c (-(n : Int))) : WrE .i64 ((0 - (n : Int)) % 18446744073709551616) c := ⟨by
 have e : IntKind.i64.wrap ((0 - (n : Int)) % 18446744073709551616) = -(n : Int) := by rw [wrap6]; split <;> omega
 rw [e]; exact h⟩
theorem words_64 {n : Nat} (hn : n < 2 ^ 384) (h2 : w32 n 2 = 0) (h3 : w32 n 3 = 0) (h4 : w32 n 4 = 0) (h5 : w32 n 5 = 0) (h6 : w32 n 6 = 0) (h7 : w32 n 7 = 0) (h8 : w32 n 8 = 0) (h9 : w32 n 9 = 0) (h10 : w32 n 10 = 0) (h11 : w32 n 11 = 0) : n < 2 ^ 64 := by
 unfold w32 at *
 omega
theorem low_64 {n : Nat} (hn : n < 2 ^ 64) : w32 n 0 + w32 n 1 * 4294967296 = n := by
 unfold w32
 omega
theorem back_ev (b : Bool) (n : Nat) (hn : n < 2 ^ 384) (rf : Refs) : Ev T f_ref02_back [.agg (intC b n)] rf (.ret (backA (backM b n))) rf := by
 refine Ev.any ?_ rfl rf
 by_cases h64 : n < 2 ^ 64
 ·have hz : ∀ i, 2 ≤ i → w32 n i = 0 := fun i hi => w32_zero (Nat.lt_of_lt_of_le h64 (Nat.pow_le_pow_right (by decide) (by omega)))
  have hlow := low_64 h64
  have hw0 := w32_lt n 0
  have hw1 := w32_lt n 1
  have z2 := hz 2 (by decide); have z3 := hz 3 (by decide); have z4 := hz 4 (by decide); have z5 := hz 5 (by decide); have z6 := hz 6 (by decide); have z7 := hz 7 (by decide); have z8 := hz 8 (by decide); have z9 := hz 9 (by decide); have z10 := hz 10 (by decide); have z11 := hz 11 (by decide)
  unfold intC W12 wv
  rw [z2, z3, z4, z5, z6, z7, z8, z9, z10, z11]
  generalize w32 n 0 = a0 at *
  generalize w32 n 1 = a1 at *
  clear z2 z3 z4 z5 z6 z7 z8 z9 z10 z11 hz
  refine ev_fn rfl rfl ?_
  (repeat' (first| (intro (u_ : Unit); clear u_)| refine condT ?_| refine condF ?_| refine condp (by assumption) ?_| refine condn (by assumption) ?_| refine condN ?_| refine idxSb (by assumption) ?_| (refine condD ?_ ?_ <;> intro hq_ <;> first | (exfalso; omega) | skip)| (refine idxS (by omega) ?_; intro b_ hb_; have hl_ := b_.toNat_lt)| refine wrA (by omega) ?_| refine wrS (by omega) (by omega) ?_| refine wrI (by omega) (by omega) ?_| refine wrBA (by omega) ?_| refine wrB (by omega) (by omega) ?_| refine strC (by omega) ?_| refine nilB rfl ?_))
  refine loopR (fun i : Nat => [(4, i64 i)]) (fun _ => []) (fun i => 12 - i) (fun i => 2 ≤ i ∧ i ≤ 12) 2 (by omega) (by rfl) (by rfl) ?_
  rintro i ⟨hi1, hi2⟩
  rcases (by omega : i = 2 ∨ i = 3 ∨ i = 4 ∨ i = 5 ∨ i = 6 ∨ i = 7 ∨ i = 8 ∨ i = 9 ∨ i = 10 ∨ i = 11 ∨ i = 12) with rfl | rfl | rfl | rfl | rfl | rfl | rfl | rfl | rfl | rfl | rfl
  rotate_right
  ·unfold backM
   cases b
   ·simp only [Bool.false_eq_true, if_false]
    (repeat' (first| (intro (u_ : Unit); clear u_)| refine condT ?_| refine condF ?_| refine condp (by assumption) ?_| refine condn (by assumption) ?_| refine condN ?_| refine idxSb (by assumption) ?_| refine condn (by decide) ?_| refine idxAi (by decide) ?_| refine wrUM32 hw1 ?_| (refine wrUA (by omega) ?_; rw [hlow])| (refine condD ?_ ?_ <;> intro hq_ <;> first | (exfalso; omega) | skip)| (refine idxS (by omega) ?_; intro b_ hb_; have hl_ := b_.toNat_lt)| refine wrA (by omega) ?_| refine wrS (by omega) (by omega) ?_| refine wrI (by omega) (by omega) ?_| refine wrBA (by omega) ?_| refine wrB (by omega) (by omega) ?_| refine strC (by omega) ?_| refine nilB rfl ?_))
    ·rw [if_pos (by omega)]; exact ⟨rfl, rfl⟩
    ·rw [if_neg (by omega)]; exact ⟨rfl, rfl⟩
   ·simp only [if_true]
    (repeat' (first| (intro (u_ : Unit); clear u_)| refine condT ?_| refine condF ?_| refine condp (by assumption) ?_| refine condn (by assumption) ?_| refine condN ?_| refine idxSb (by assumption) ?_| refine condn (by decide) ?_| refine idxAi (by decide) ?_| refine wrUM32 hw1 ?_| (refine wrUA (by omega) ?_; rw [hlow])| refine wrNeg ?_| refine wrNeg2 (by omega) ?_| (refine condD ?_ ?_ <;> intro hq_ <;> first | (exfalso; omega) | skip)| (refine idxS (by omega) ?_; intro b_ hb_; have hl_ := b_.toNat_lt)| refine wrA (by omega) ?_| refine wrS (by omega) (by omega) ?_| refine wrI (by omega) (by omega) ?_| refine wrBA (by omega) ?_| refine wrB (by omega) (by omega) ?_| refine strC (by omega) ?_| refine nilB rfl ?_))
    ·rw [if_pos (by omega)]; exact ⟨rfl, rfl⟩
    ·rw [if_neg (by omega)]; exact ⟨rfl, rfl⟩
  all_goals
   (repeat' (first| (intro (u_ : Unit); clear u_)| refine condT ?_| refine condF ?_| refine condp (by assumption) ?_| refine condn (by assumption) ?_| refine condN ?_| refine idxSb (by assumption) ?_| refine condp (by decide) ?_| refine condn (by decide) ?_| refine idxAi (by decide) ?_| (refine condD ?_ ?_ <;> intro hq_ <;> first | (exfalso; omega) | skip)| (refine idxS (by omega) ?_; intro b_ hb_; have hl_ := b_.toNat_lt)| refine wrA (by omega) ?_| refine wrS (by omega) (by omega) ?_| refine wrI (by omega) (by omega) ?_| refine wrBA (by omega) ?_| refine wrB (by omega) (by omega) ?_| refine strC (by omega) ?_| refine nilB rfl ?_))
   exact ⟨_, ⟨by decide, by decide⟩, by decide, rfl, rfl, rfl, rfl⟩
 ·have hov : backM b n = none := by unfold backM; cases b <;> simp <;> omega
  rw [hov]
  have hex : ¬ (w32 n 2 = 0 ∧ w32 n 3 = 0 ∧ w32 n 4 = 0 ∧ w32 n 5 = 0 ∧ w32 n 6 = 0 ∧ w32 n 7 = 0 ∧ w32 n 8 = 0 ∧ w32 n 9 = 0 ∧ w32 n 10 = 0 ∧ w32 n 11 = 0) := fun ⟨a, b, c, d, e, f, g, h, i, j⟩ => h64 (words_64 hn a b c d e f g h i j)
  unfold intC W12 wv
  generalize w32 n 0 = a0 at *
  generalize w32 n 1 = a1 at *
  generalize w32 n 2 = a2 at *
  generalize w32 n 3 = a3 at *
  generalize w32 n 4 = a4 at *
  generalize w32 n 5 = a5 at *
  generalize w32 n 6 = a6 at *
  generalize w32 n 7 = a7 at *
  generalize w32 n 8 = a8 at *
  generalize w32 n 9 = a9 at *
  generalize w32 n 10 = a10 at *
  generalize w32 n 11 = a11 at *
  clear hov h64 hn
  refine ev_fn rfl rfl ?_
  (repeat' (first| (intro (u_ : Unit); clear u_)| refine condT ?_| refine condF ?_| refine condp (by assumption) ?_| refine condn (by assumption) ?_| refine condN ?_| refine idxSb (by assumption) ?_| (refine condD ?_ ?_ <;> intro hq_ <;> first | (exfalso; omega) | skip)| (refine idxS (by omega) ?_; intro b_ hb_; have hl_ := b_.toNat_lt)| refine wrA (by omega) ?_| refine wrS (by omega) (by omega) ?_| refine wrI (by omega) (by omega) ?_| refine wrBA (by omega) ?_| refine wrB (by omega) (by omega) ?_| refine strC (by omega) ?_| refine nilB rfl ?_))
  refine loopR (fun i : Nat => [(4, i64 i)]) (fun _ => []) (fun i => 12 - i) (fun i => 2 ≤ i ∧ i ≤ 12 ∧ (2 < i → a2 = 0) ∧ (3 < i → a3 = 0) ∧ (4 < i → a4 = 0) ∧ (5 < i → a5 = 0) ∧ (6 < i → a6 = 0) ∧ (7 < i → a7 = 0) ∧ (8 < i → a8 = 0) ∧ (9 < i → a9 = 0) ∧ (10 < i → a10 = 0) ∧ (11 < i → a11 = 0)) 2 (by omega) (by rfl) (by rfl) ?_
  rintro i ⟨hi1, hi2, hP⟩
  rcases (by omega : i = 2 ∨ i = 3 ∨ i = 4 ∨ i = 5 ∨ i = 6 ∨ i = 7 ∨ i = 8 ∨ i = 9 ∨ i = 10 ∨ i = 11 ∨ i = 12) with rfl | rfl | rfl | rfl | rfl | rfl | rfl | rfl | rfl | rfl | rfl
  rotate_right
  ·exact absurd ⟨hP.1 (by decide), hP.2.1 (by decide), hP.2.2.1 (by decide), hP.2.2.2.1 (by decide), hP.2.2.2.2.1 (by decide), hP.2.2.2.2.2.1 (by decide), hP.2.2.2.2.2.2.1 (by decide), hP.2.2.2.2.2.2.2.1 (by decide), hP.2.2.2.2.2.2.2.2.1 (by decide), hP.2.2.2.2.2.2.2.2.2 (by decide)⟩ hex
  all_goals
   clear hex
   (repeat' (first| (intro (u_ : Unit); clear u_)| refine condT ?_| refine condF ?_| refine condp (by assumption) ?_| refine condn (by assumption) ?_| refine condN ?_| refine idxSb (by assumption) ?_| refine condp (by decide) ?_| refine condn (by decide) ?_| refine idxAi (by decide) ?_| (refine condD ?_ ?_ <;> intro hq_ <;> first | (exfalso; omega) | skip)| (refine idxS (by omega) ?_; intro b_ hb_; have hl_ := b_.toNat_lt)| refine wrA (by omega) ?_| refine wrS (by omega) (by omega) ?_| refine wrI (by omega) (by omega) ?_| refine wrBA (by omega) ?_| refine wrB (by omega) (by omega) ?_| refine strC (by omega) ?_| refine nilB rfl ?_))
   ·exact ⟨rfl, rfl⟩
   ·exact ⟨_, ⟨by decide, by decide, by omega⟩, by decide, rfl, rfl, rfl, rfl⟩
end Go.Ab.R15z
namespace Go.Ab.R15z
set_option maxRecDepth 100000
set_option linter.all false
set_option maxHeartbeats 4000000
variable {T : Tb} [hS : ScanB T]
theorem figAt_t {s : List UInt8} {i : Nat} {c : UInt8} (h : s[i]? = some c) : figAt s i = fig c := by unfold figAt; rw [h]
theorem figAt_n {s : List UInt8} {i : Nat} (h : s.length ≤ i) : figAt s i = false := by unfold figAt; rw [List.getElem?_eq_none h]
theorem figE2 {s : List UInt8} {i : Nat} {rf : Refs} {k : Out → Refs → Prop} (hs : s.length ≤ 2 ^ 40) (hi : i ≤ 2 ^ 41) (h1 : ∀ c, s[i]? = some c → fig c = true → i < s.length → k (.ret (bl true)) rf) (h2 : (s.length ≤ i ∨ ∃ c, s[i]? = some c ∧ fig c = false) → k (.ret (bl false)) rf) : CallE T f_ref02_figure [str s, i64 i] rf k := by
 refine callE_ev (figure_ev s i hs hi rf) ?_
 by_cases hl : i < s.length
 ·obtain ⟨c, hc⟩ := getS hl
  rw [figAt_t hc]
  cases hf : fig c
  ·exact h2 (.inr ⟨c, hc, hf⟩)
  ·exact h1 c hc hf hl
 ·rw [figAt_n (by omega)]
  exact h2 (.inl (by omega))
theorem run_stop {s : List UInt8} {i : Nat} (h : s.length ≤ i ∨ ∃ c, s[i]? = some c ∧ fig c = false) : runA fig s i = 0 := by
 rcases h with h | ⟨c, h1, h2⟩
 ·exact runA_end h
 ·exact runA_no h1 h2
def numR : Num → AV := numT
def vA (s : List UInt8) (i : Nat) : Nat := valL ((s.take i).drop (spF s))
theorem part_snoc {s : List UInt8} {i j : Nat} {c : UInt8} (h : s[i]? = some c) (hj : j ≤ i) : (s.take (i + 1)).drop j = (s.take i).drop j ++ [c] := by
 have hl := (List.getElem?_eq_some_iff.1 h).1
 rw [take_succ_of h, List.drop_append_of_le_length (by rw [List.length_take]; omega)]
theorem valL_append (a b : List UInt8) : valL (a ++ b) = valL a * 10 ^ b.length + valL b := by
 unfold valL
 rw [List.foldl_append]
 generalize List.foldl (fun n (c : UInt8) => n * 10 + (c.toNat - 48)) 0 a = x
 have key : ∀ (b : List UInt8) (x : Nat), List.foldl (fun n (c : UInt8) => n * 10 + (c.toNat - 48)) x b = x * 10 ^ b.length + List.foldl (fun n (c : UInt8) => n * 10 + (c.toNat - 48)) 0 b := by
  intro b
  induction b with
  | nil => intro x; simp
  | cons c b ih =>
    intro x
    simp only [List.foldl_cons, List.length_cons]
    rw [ih (x * 10 + (c.toNat - 48)), ih (0 * 10 + (c.toNat - 48)), Nat.pow_succ]
    generalize 10 ^ b.length = p
    rw [Nat.add_mul]
    simp only [Nat.zero_mul, Nat.zero_add]
    rw [Nat.mul_assoc, Nat.mul_comm 10 p]
    omega
 exact key b x
theorem six_take (l : List UInt8) (k : Nat) (hk : k < 6) : (six l).take (k + 1) = (six l).take k ++ [(six l)[k]'(by rw [six_length]; exact hk)] := by
 rw [List.take_add_one, List.getElem?_eq_getElem (by rw [six_length]; exact hk)]; rfl
theorem six_get {l : List UInt8} {k : Nat} {c : UInt8} (hk : k < 6) (h : l[k]? = some c) : (six l)[k]? = some c := by
 have hl := (List.getElem?_eq_some_iff.1 h).1
 unfold six
 rw [List.getElem?_take_of_lt hk, List.getElem?_append_left hl, h]
theorem six_pad {l : List UInt8} {k : Nat} (hk : k < 6) (h : l.length ≤ k) : (six l)[k]? = some 48 := by
 unfold six
 rw [List.getElem?_take_of_lt hk, List.getElem?_append_right h]
 rcases (by omega : k - l.length = 0 ∨ k - l.length = 1 ∨ k - l.length = 2 ∨ k - l.length = 3 ∨ k - l.length = 4 ∨ k - l.length = 5) with h | h | h | h | h | h <;> rw [h] <;> rfl
theorem take_six_snoc {l : List UInt8} {k : Nat} {c : UInt8} (h : (six l)[k]? = some c) : (six l).take (k + 1) = (six l).take k ++ [c] := by rw [List.take_add_one, h]; rfl
theorem idx8 {m : Nat} {n : Int} {c : Nat → Prop} (i : Nat) (hn : n = i) (h1 : i < m) (h : c i) : IdxA m n c := ⟨i, hn, h1, h⟩
theorem sub48 {c : UInt8} {k : Int → Prop} (h : fig c = true) (h' : k ((c.toNat - 48 : Nat) : Int)) : WrE .u64 ((c.toNat : Int) - ((48 : Nat) : Int)) k := by
 have h1 := fig_iff.1 h
 refine wr_of (by rw [nU]; omega) (by rw [mU]; omega) ?_
 rw [show ((c.toNat : Int) - ((48 : Nat) : Int)) = ((c.toNat - 48 : Nat) : Int) by omega]
 exact h'
theorem hi8 {n : Nat} (hn : n < 2 ^ 287) : w32 n 8 = 0 → n < 2 ^ 256 := by
 intro h
 unfold w32 at h
 omega
theorem hi8' {n : Nat} (h : n < 2 ^ 256) : w32 n 8 = 0 := w32_zero (by simpa using h)
def St1 (s : List UInt8) (i : Nat) (ov : Bool) (n : Nat) : Prop := (ov = false ∧ n = vA s i ∧ n < 2 ^ 256) ∨ (ov = true ∧ n = 0 ∧ 2 ^ 256 ≤ vA s i)
def St2 (s : List UInt8) (k : Nat) (ov : Bool) (n : Nat) : Prop := (ov = false ∧ n = valL ((s.take (spP s)).drop (spF s) ++ (six ((s.take (spE s)).drop (spP s + 1))).take k)) ∨ (ov = true ∧ 2 ^ 256 ≤ valL ((s.take (spP s)).drop (spF s)))
theorem st1_step {s : List UInt8} {i : Nat} {ov : Bool} {n : Nat} {c : UInt8} (h : St1 s i ov n) (hc : s[i]? = some c) (hf : fig c = true) (hi : spF s ≤ i) :
  n * 10 + (c.toNat - 48) < 2 ^ 287 ∧ St1 s (i + 1) (ov || decide (w32 (n * 10 + (c.toNat - 48)) 8 ≠ 0)) (if (ov || decide (w32 (n * 10 + (c.toNat - 48)) 8 ≠ 0)) = true then 0 else n * 10 + (c.toNat - 48)) := by
 have hc' := fig_iff.1 hf
 have hv : vA s (i + 1) = vA s i * 10 + (c.toNat - 48) := by unfold vA; rw [part_snoc hc hi, valL_snoc]
 rcases h with ⟨rfl, rfl, h⟩ | ⟨rfl, rfl, h⟩
 ·have hlt : vA s i * 10 + (c.toNat - 48) < 2 ^ 287 := by omega
  refine ⟨hlt, ?_⟩
  simp only [Bool.false_or]
  by_cases h8 : w32 (vA s i * 10 + (c.toNat - 48)) 8 = 0
  ·rw [decide_eq_false (by simpa using h8), if_neg (by simp)]
   exact .inl ⟨rfl, hv.symm, hi8 hlt h8⟩
  ·rw [decide_eq_true h8, if_pos rfl]
   refine .inr ⟨rfl, rfl, ?_⟩
   rw [hv]
   by_cases hh : vA s i * 10 + (c.toNat - 48) < 2 ^ 256
   ·exact absurd (hi8' hh) h8
   ·omega
 ·refine ⟨by omega, ?_⟩
  simp only [Bool.true_or, if_true]
  exact .inr ⟨rfl, rfl, by rw [hv]; omega⟩
end Go.Ab.R15z
namespace Go.Ab.R15z
set_option maxRecDepth 100000
set_option linter.all false
set_option maxHeartbeats 4000000
variable {T : Tb} [hS : ScanB T]
def frD (s : List UInt8) : List UInt8 := (s.take (spE s)).drop (spP s + 1)
theorem st2_of {s : List UInt8} {ov : Bool} {n : Nat} (h : St1 s (spP s) ov n) : St2 s 0 ov n ∧ n < 2 ^ (256 + 4 * 0) := by
 rcases h with ⟨h1, h2, h3⟩ | ⟨h1, h2, h3⟩
 ·exact ⟨.inl ⟨h1, by rw [h2]; simp [vA]⟩, h3⟩
 ·exact ⟨.inr ⟨h1, h3⟩, by rw [h2]; decide⟩
theorem st2_step {s : List UInt8} {k : Nat} {ov : Bool} {n : Nat} {c : UInt8} (h : St2 s k ov n) (hn : n < 2 ^ (256 + 4 * k)) (hc : (six (frD s))[k]? = some c) (hf : fig c = true) : St2 s (k + 1) ov (n * 10 + (c.toNat - 48)) ∧ n * 10 + (c.toNat - 48) < 2 ^ (256 + 4 * (k + 1)) := by
 have h1 := fig_iff.1 hf
 refine ⟨?_, ?_⟩
 ·rcases h with ⟨h2, h3⟩ | h
  ·refine .inl ⟨h2, ?_⟩
   unfold frD at hc
   rw [take_six_snoc hc, ← List.append_assoc, valL_snoc, ← h3]
  ·exact .inr h
 ·rw [show 256 + 4 * (k + 1) = (256 + 4 * k) + 4 by omega, Nat.pow_add]
  have : 1 ≤ 2 ^ (256 + 4 * k) := Nat.one_le_two_pow
  generalize 2 ^ (256 + 4 * k) = B at *
  omega
theorem fr_get {s : List UInt8} {i : Nat} {c : UInt8} (h : s[i]? = some c) (h1 : spP s + 1 ≤ i) (h2 : i < spE s) : (frD s)[i - (spP s + 1)]? = some c := by
 unfold frD
 rw [List.getElem?_drop, List.getElem?_take_of_lt (by omega), show spP s + 1 + (i - (spP s + 1)) = i by omega, h]
theorem fr_len {s : List UInt8} : (frD s).length = spE s - (spP s + 1) := by
 have := spE_le (s := s)
 unfold frD; rw [List.length_drop, List.length_take]; omega
theorem dec_of {s : List UInt8} {ov : Bool} {n : Nat} {c : UInt8} (hc : s[spB s]? = some c) (hform : ¬ (spP s = spF s ∧ spE s ≤ spP s + 1)) (h : St2 s 6 ov n) :
  decM s = match (if ov = true then none else backM (decide (c.toNat = 45)) n) with
   | none => .over
   | some r => .ok r (spE s) := by
 have h6 : (six ((s.take (spE s)).drop (spP s + 1))).take 6 = six ((s.take (spE s)).drop (spP s + 1)) := List.take_of_length_le (by rw [six_length]; omega)
 unfold decM
 rw [if_neg hform, hit_some hc]
 rcases h with ⟨rfl, h2⟩ | ⟨rfl, h2⟩
 ·rw [h6] at h2
  have hv : valL (spD s) = n := h2.symm
  rw [hv]
  simp only [Bool.false_eq_true, if_false, backM]
  cases decide (c.toNat = 45) <;> simp only [Bool.false_eq_true, if_false, if_true] <;> split <;> rfl
 ·have hv : 2 ^ 256 ≤ valL (spD s) := by
   unfold spD
   rw [valL_append, six_length]
   generalize valL ((s.take (spP s)).drop (spF s)) = x at *
   omega
  simp only [if_true]
  cases decide (c.toNat = 45) <;> simp only [Bool.false_eq_true, if_false, if_true]
  ·rw [if_pos (by omega)]
  ·rw [if_pos (by omega)]
theorem dec_form {s : List UInt8} (h : spP s = spF s ∧ spE s ≤ spP s + 1) : decM s = .form := by unfold decM; rw [if_pos h]
theorem pow_280 {n k : Nat} (h : n < 2 ^ (256 + 4 * k)) (hk : k ≤ 6) : n < 2 ^ 384 := Nat.lt_of_lt_of_le h (@Nat.pow_le_pow_right 2 (Nat.succ_pos 1) (256 + 4 * k) 384 (by omega))
abbrev cF : AC := .seq (.ops o_ref02_Read_31) (.seq (.seq (.ops o_ref02_Read_32) (.cond (.t 135) (.seq (.ops o_ref02_Read_33) .ret) .skip)) (.seq (.ops o_ref02_Read_34) .ret))
abbrev cM : AC := .seq (.seq (.ops o_ref02_Read_26) (.cond (.t 119) (.seq (.ops o_ref02_Read_27) .ret) .skip)) (.seq (.trim [5, 6, 8] (.block 6 (.loop [5, 6, 8, 9] b_ref02_Read_3))) cF)
abbrev cA : AC := .seq (.ops o_ref02_Read_17) (.seq (.seq (.ops o_ref02_Read_18) (.cond (.t 97) (.seq (.ops o_ref02_Read_19) (.trim [5, 6, 7, 8, 9] (.block 4 (.loop [0, 5, 6, 7, 8, 9] b_ref02_Read_2)))) .skip)) cM)
abbrev xN (T : Tb) (D : Num) : KN := endN T a_ref02_Read 0 fun a b => EndE a b (.ret (numT D)) []
abbrev xX (T : Tb) (D : Num) : KX := endX T a_ref02_Read 0 fun a b => EndE a b (.ret (numT D)) []
abbrev x3 (T : Tb) (D : Num) : KX := blkX 6 (kepN [5, 6, 8] (vc T 0 cF (xN T D) (xX T D))) (xX T D)
abbrev x2 (T : Tb) (D : Num) : KX := blkX 4 (kepN [5, 6, 7, 8, 9] (vc T 0 cM (xN T D) (xX T D))) (xX T D)
abbrev x1 (T : Tb) (D : Num) : KX := blkX 2 (kepN [0, 5, 6, 7, 8] (vc T 0 cA (xN T D) (xX T D))) (xX T D)
theorem rd3 (s : List UInt8) (hs : s.length ≤ 2 ^ 30) (b ov : Bool) (n0 k0 : Nat) (hk0 : k0 ≤ 6) (hfr : (frD s).length ≤ k0 ∨ k0 = 6) (hSt : St2 s k0 ov n0) (hn0 : n0 < 2 ^ (256 + 4 * k0))
  (hD : ∀ m, St2 s 6 ov m → decM s = match (if ov = true then none else backM b m) with | none => .over | some r => .ok r (spE s)) :
  LoopE T [5, 6, 8, 9] b_ref02_Read_3 [(5, i64 (spE s)), (6, .ptr 0 0), (8, bl ov), (9, i64 k0)] [intC b n0] [] none 0 (x3 T (decM s)) := by
 refine loopR2 (fun (k n : Nat) => [(9, i64 k)]) (fun k n => [(0, intC b n)]) (fun k _ => 6 - k) (fun k n => (k0 ≤ k ∧ k ≤ 6) ∧ St2 s k ov n ∧ n < 2 ^ (256 + 4 * k)) k0 n0 ⟨⟨Nat.le_refl _, hk0⟩, hSt, hn0⟩ (by rfl) (by rfl) ?_
 rintro k n ⟨⟨hk1, hk⟩, hS2, hn⟩
 by_cases h6 : k < 6
 ·have hst := st2_step hS2 hn (six_pad h6 (by omega)) (by decide)
  rw [show (48 : UInt8).toNat - 48 = 0 from rfl] at hst
  have ht := times_ev (T := T) b n 0 (by decide)
  (repeat' (first| (intro (u_ : Unit); clear u_)| refine condT ?_| refine condF ?_| refine condp (by assumption) ?_| refine condn (by assumption) ?_| refine condN ?_| refine idxSb (by assumption) ?_| refine callE_ev (ht _) ?_| (refine condD ?_ ?_ <;> intro hq_ <;> first | (exfalso; omega) | skip)| (refine idxS (by omega) ?_; intro b_ hb_; have hl_ := b_.toNat_lt)| refine wrA (by omega) ?_| refine wrS (by omega) (by omega) ?_| refine wrI (by omega) (by omega) ?_| refine wrBA (by omega) ?_| refine wrB (by omega) (by omega) ?_| refine strC (by omega) ?_| refine nilB rfl ?_))
  exact ⟨k + 1, n * 10 + 0, ⟨⟨by omega, by omega⟩, hst⟩, by omega, rfl, rfl, rfl, rfl⟩
 ·obtain rfl : k = 6 := by omega
  have hb := back_ev (T := T) b n (pow_280 hn (by decide))
  have hD := hD n hS2
  cases ov
  ·simp only [Bool.false_eq_true, if_false] at hD
   generalize backM b n = R at *
   rw [hD]
   cases R <;>
   ((repeat' (first
     | (intro (u_ : Unit); clear u_)
     | refine condT ?_
     | refine condF ?_
     | refine condp (by assumption) ?_
     | refine condn (by assumption) ?_
     | refine condN ?_
     | refine idxSb (by assumption) ?_
     | refine callE_ev (hb _) ?_
     | (refine condD ?_ ?_ <;> intro hq_ <;> first | (exfalso; omega) | skip)
     | (refine idxS (by omega) ?_; intro b_ hb_; have hl_ := b_.toNat_lt)
     | refine wrA (by omega) ?_
     | refine wrS (by omega) (by omega) ?_
     | refine wrI (by omega) (by omega) ?_
     | refine wrBA (by omega) ?_
     | refine wrB (by omega) (by omega) ?_
     | refine strC (by omega) ?_
     | refine nilB rfl ?_))
    exact ⟨rfl, rfl⟩)
  ·simp only [if_true] at hD
   rw [hD]
   generalize backM b n = R at *
   cases R <;>
   ((repeat' (first
     | (intro (u_ : Unit); clear u_)
     | refine condT ?_
     | refine condF ?_
     | refine condp (by assumption) ?_
     | refine condn (by assumption) ?_
     | refine condN ?_
     | refine idxSb (by assumption) ?_
     | refine callE_ev (hb _) ?_
     | (refine condD ?_ ?_ <;> intro hq_ <;> first | (exfalso; omega) | skip)
     | (refine idxS (by omega) ?_; intro b_ hb_; have hl_ := b_.toNat_lt)
     | refine wrA (by omega) ?_
     | refine wrS (by omega) (by omega) ?_
     | refine wrI (by omega) (by omega) ?_
     | refine wrBA (by omega) ?_
     | refine wrB (by omega) (by omega) ?_
     | refine strC (by omega) ?_
     | refine nilB rfl ?_))
    exact ⟨rfl, rfl⟩)
theorem rd2 (s : List UInt8) (hs : s.length ≤ 2 ^ 30) (b ov : Bool) (n0 : Nat) (hl : spP s + 1 ≤ s.length) (hE : spE s = spP s + 1 + runA fig s (spP s + 1)) (hSt : St2 s 0 ov n0) (hn0 : n0 < 2 ^ (256 + 4 * 0))
  (hD : ¬ (spP s = spF s ∧ spE s ≤ spP s + 1) → ∀ m, St2 s 6 ov m → decM s = match (if ov = true then none else backM b m) with | none => .over | some r => .ok r (spE s)) :
  LoopE T [0, 5, 6, 7, 8, 9] b_ref02_Read_2 [(0, str s), (5, i64 (spP s + 1 : Nat)), (6, .ptr 0 0), (7, i64 (spP s - spF s : Nat)), (8, bl ov), (9, .nat .i64 0)] [intC b n0] [] none 0 (x2 T (decM s)) := by
 have l1 := spF_le (s := s); have l2 := spP_le (s := s); have l3 := spE_le (s := s); have l4 := fr_len (s := s)
 refine loopR4 (fun (i k m n : Nat) => [(5, i64 i), (7, i64 m), (9, i64 k)]) (fun _ _ _ n => [(0, intC b n)]) (fun i _ _ _ => s.length - i)
  (fun i k m n => (spP s + 1 ≤ i ∧ i ≤ s.length ∧ i + runA fig s i = spE s) ∧ k = min 6 (i - (spP s + 1)) ∧ m = (spP s - spF s) + (i - (spP s + 1)) ∧ St2 s k ov n ∧ n < 2 ^ (256 + 4 * k)) (spP s + 1) 0 (spP s - spF s) n0 ⟨⟨Nat.le_refl _, hl, hE.symm⟩, by omega, by omega, hSt, hn0⟩ (by rfl) (by rfl) ?_
 rintro i k m n ⟨⟨hi1, hi2, hi3⟩, hk, hm, hS2, hn⟩
 by_cases hlt : i < s.length ∧ figAt s i = true
 ·obtain ⟨hlt, hfa⟩ := hlt
  obtain ⟨c, hc⟩ := getS hlt
  rw [figAt_t hc] at hfa
  have hr := runA_go hc hfa
  have hcf := fig_iff.1 hfa
  have hfe := figure_ev (T := T) s i (by omega) (by omega)
  rw [figAt_t hc, hfa] at hfe
  by_cases h6 : k < 6
  ·have hst := st2_step hS2 hn (six_get h6 (by rw [show k = i - (spP s + 1) by omega]; exact fr_get hc hi1 (by omega))) hfa
   have ht := times_ev (T := T) b n (c.toNat - 48) (by omega)
   (repeat' (first| (intro (u_ : Unit); clear u_)| refine condT ?_| refine condF ?_| refine condp (by assumption) ?_| refine condn (by assumption) ?_| refine condN ?_| refine idxSb (by assumption) ?_| refine callE_ev (hfe _) ?_| refine sub48 hfa ?_| refine wrU (by omega) (by omega) ?_| refine callE_ev (ht _) ?_| (refine condD ?_ ?_ <;> intro hq_ <;> first | (exfalso; omega) | skip)| (refine idxS (by omega) ?_; intro b_ hb_; have hl_ := b_.toNat_lt)| refine wrA (by omega) ?_| refine wrS (by omega) (by omega) ?_| refine wrI (by omega) (by omega) ?_| refine wrBA (by omega) ?_| refine wrB (by omega) (by omega) ?_| refine strC (by omega) ?_| refine nilB rfl ?_))
   all_goals first
    | exact ⟨i + 1, k + 1, m + 1, n * 10 + (c.toNat - 48), ⟨⟨by omega, by omega, by omega⟩, by omega, by omega, hst⟩, by omega, rfl, rfl, rfl, rfl⟩
    | skip
  ·(repeat' (first
    | (intro (u_ : Unit); clear u_)
    | refine condT ?_
    | refine condF ?_
    | refine condp (by assumption) ?_
    | refine condn (by assumption) ?_
    | refine condN ?_
    | refine idxSb (by assumption) ?_
    | refine callE_ev (hfe _) ?_
    | (refine condD ?_ ?_ <;> intro hq_ <;> first | (exfalso; omega) | skip)
    | (refine idxS (by omega) ?_; intro b_ hb_; have hl_ := b_.toNat_lt)
    | refine wrA (by omega) ?_
    | refine wrS (by omega) (by omega) ?_
    | refine wrI (by omega) (by omega) ?_
    | refine wrBA (by omega) ?_
    | refine wrB (by omega) (by omega) ?_
    | refine strC (by omega) ?_
    | refine nilB rfl ?_))
   exact ⟨i + 1, k, m + 1, n, ⟨⟨by omega, by omega, by omega⟩, by omega, by omega, hS2, hn⟩, by omega, rfl, rfl, rfl, rfl⟩
 ·have hz : s.length ≤ i ∨ ∃ c, s[i]? = some c ∧ fig c = false := by
   by_cases hl2 : i < s.length
   ·obtain ⟨c, hc⟩ := getS hl2
    rw [figAt_t hc] at hlt
    exact .inr ⟨c, hc, by simpa [hl2] using hlt⟩
   ·exact .inl (by omega)
  have hf0 : figAt s i = false := by
   rcases hz with h | ⟨c, h1, h2⟩
   ·exact figAt_n h
   ·rw [figAt_t h1]; exact h2
  have hfe := figure_ev (T := T) s i (by omega) (by omega)
  rw [hf0] at hfe
  rw [run_stop hz] at hi3
  obtain rfl : i = spE s := by omega
  by_cases hform : spP s = spF s ∧ spE s ≤ spP s + 1
  ·rw [dec_form hform]
   obtain rfl : m = 0 := by omega
   (repeat' (first| (intro (u_ : Unit); clear u_)| refine condT ?_| refine condF ?_| refine condp (by assumption) ?_| refine condn (by assumption) ?_| refine condN ?_| refine idxSb (by assumption) ?_| refine callE_ev (hfe _) ?_| refine condp (by decide) ?_| (refine condD ?_ ?_ <;> intro hq_ <;> first | (exfalso; omega) | skip)| (refine idxS (by omega) ?_; intro b_ hb_; have hl_ := b_.toNat_lt)| refine wrA (by omega) ?_| refine wrS (by omega) (by omega) ?_| refine wrI (by omega) (by omega) ?_| refine wrBA (by omega) ?_| refine wrB (by omega) (by omega) ?_| refine strC (by omega) ?_| refine nilB rfl ?_))
   exact ⟨rfl, rfl⟩
  ·(repeat' (first
    | (intro (u_ : Unit); clear u_)
    | refine condT ?_
    | refine condF ?_
    | refine condp (by assumption) ?_
    | refine condn (by assumption) ?_
    | refine condN ?_
    | refine idxSb (by assumption) ?_
    | refine callE_ev (hfe _) ?_
    | refine rd3 s hs b ov n k (by omega) (by omega) hS2 hn (hD hform)
    | (refine condD ?_ ?_ <;> intro hq_ <;> first | (exfalso; omega) | skip)
    | (refine idxS (by omega) ?_; intro b_ hb_; have hl_ := b_.toNat_lt)
    | refine wrA (by omega) ?_
    | refine wrS (by omega) (by omega) ?_
    | refine wrI (by omega) (by omega) ?_
    | refine wrBA (by omega) ?_
    | refine wrB (by omega) (by omega) ?_
    | refine strC (by omega) ?_
    | refine nilB rfl ?_))
def zC (b : Bool) : List AV := [bl b, .nat .u64 0, .nat .u64 0, .nat .u64 0, .nat .u64 0, .nat .u64 0, .nat .u64 0, .nat .u64 0, .nat .u64 0, .nat .u64 0, .nat .u64 0, .nat .u64 0, .nat .u64 0]
theorem w32_00 (i : Nat) : w32 0 i = 0 := by unfold w32; rw [Nat.zero_div]
theorem intC_0 (b : Bool) : intC b 0 = zC b := by simp only [intC, W12, wv, w32_00, zC]
theorem decI (c : UInt8) : decide (c.toNat = 45) = decide ((c.toNat : Int) = ((45 : Nat) : Int)) := by rw [Bool.eq_iff_iff]; simp; omega
theorem vA_0 (s : List UInt8) : vA s (spF s) = 0 := by
 unfold vA
 rw [List.drop_eq_nil_of_le (by rw [List.length_take]; omega)]; rfl
theorem rd1 (s : List UInt8) (hs : s.length ≤ 2 ^ 30) (b : Bool)
  (hD : ¬ (spP s = spF s ∧ spE s ≤ spP s + 1) → ∀ ov m, St2 s 6 ov m → decM s = match (if ov = true then none else backM b m) with | none => .over | some r => .ok r (spE s)) :
  LoopE T [0, 5, 6, 7, 8] b_ref02_Read_1 [(0, str s), (5, i64 (spF s)), (6, .ptr 0 0), (7, .nat .i64 0), (8, bl false)] [intC b 0] [] none 0 (x1 T (decM s)) := by
 have l1 := spF_le (s := s); have l2 := spP_le (s := s); have l3 := spE_le (s := s); have l4 := fr_len (s := s)
 refine loopR4 (fun (i m : Nat) (ov : Bool) (n : Nat) => [(5, i64 i), (7, i64 m), (8, bl ov)]) (fun _ _ _ n => [(0, intC b n)]) (fun i _ _ _ => s.length - i)
  (fun i m ov n => (spF s ≤ i ∧ i ≤ s.length ∧ i + runA fig s i = spP s) ∧ m = i - spF s ∧ St1 s i ov n) (spF s) 0 false 0 ⟨⟨Nat.le_refl _, l1.2, rfl⟩, by omega, .inl ⟨rfl, (vA_0 s).symm, by decide⟩⟩ (by rfl) (by rfl) ?_
 rintro i m ov n ⟨⟨hi1, hi2, hi3⟩, hm, hS⟩
 by_cases hlt : i < s.length ∧ figAt s i = true
 ·obtain ⟨hlt, hfa⟩ := hlt
  obtain ⟨c, hc⟩ := getS hlt
  rw [figAt_t hc] at hfa
  have hr := runA_go hc hfa
  have hcf := fig_iff.1 hfa
  have hfe := figure_ev (T := T) s i (by omega) (by omega)
  rw [figAt_t hc, hfa] at hfe
  obtain ⟨_, hst⟩ := st1_step hS hc hfa hi1
  have ht := times_ev (T := T) b n (c.toNat - 48) (by omega)
  cases ov
  ·simp only [Bool.false_or] at hst
   (repeat' (first| (intro (u_ : Unit); clear u_)| refine condT ?_| refine condF ?_| refine condp (by assumption) ?_| refine condn (by assumption) ?_| refine condN ?_| refine idxSb (by assumption) ?_| refine callE_ev (hfe _) ?_| refine sub48 hfa ?_| refine wrU (by omega) (by omega) ?_| refine callE_ev (ht _) ?_| refine idx8 8 rfl (by decide) ?_| (refine condD ?_ ?_ <;> intro hq_ <;> first | (exfalso; omega) | skip)| (refine idxS (by omega) ?_; intro b_ hb_; have hl_ := b_.toNat_lt)| refine wrA (by omega) ?_| refine wrS (by omega) (by omega) ?_| refine wrI (by omega) (by omega) ?_| refine wrBA (by omega) ?_| refine wrB (by omega) (by omega) ?_| refine strC (by omega) ?_| refine nilB rfl ?_))
   ·have hne : w32 (n * 10 + (c.toNat - 48)) 8 ≠ 0 := fun h => hq_ (by rw [h])
    rw [decide_eq_true hne, if_pos rfl] at hst
    rw [decide_eq_true hq_]
    exact ⟨i + 1, m + 1, true, 0, ⟨⟨by omega, by omega, by omega⟩, by omega, hst⟩, by omega, rfl, (by rw [intC_0]; rfl), rfl, rfl⟩
   ·have heq : w32 (n * 10 + (c.toNat - 48)) 8 = 0 := by omega
    rw [decide_eq_false (by simpa using heq), if_neg (by simp)] at hst
    rw [decide_eq_false hq_]
    exact ⟨i + 1, m + 1, false, n * 10 + (c.toNat - 48), ⟨⟨by omega, by omega, by omega⟩, by omega, hst⟩, by omega, rfl, rfl, rfl, rfl⟩
  ·simp only [Bool.true_or, if_true] at hst
   (repeat' (first| (intro (u_ : Unit); clear u_)| refine condT ?_| refine condF ?_| refine condp (by assumption) ?_| refine condn (by assumption) ?_| refine condN ?_| refine idxSb (by assumption) ?_| refine callE_ev (hfe _) ?_| refine sub48 hfa ?_| refine wrU (by omega) (by omega) ?_| refine callE_ev (ht _) ?_| refine idx8 8 rfl (by decide) ?_| (refine condD ?_ ?_ <;> intro hq_ <;> first | (exfalso; omega) | skip)| (refine idxS (by omega) ?_; intro b_ hb_; have hl_ := b_.toNat_lt)| refine wrA (by omega) ?_| refine wrS (by omega) (by omega) ?_| refine wrI (by omega) (by omega) ?_| refine wrBA (by omega) ?_| refine wrB (by omega) (by omega) ?_| refine strC (by omega) ?_| refine nilB rfl ?_))
   exact ⟨i + 1, m + 1, true, 0, ⟨⟨by omega, by omega, by omega⟩, by omega, hst⟩, by omega, rfl, (by rw [intC_0]; rfl), rfl, rfl⟩
 ·have hz : s.length ≤ i ∨ ∃ c, s[i]? = some c ∧ fig c = false := by
   by_cases hl2 : i < s.length
   ·obtain ⟨c, hc⟩ := getS hl2
    rw [figAt_t hc] at hlt
    exact .inr ⟨c, hc, by simpa [hl2] using hlt⟩
   ·exact .inl (by omega)
  have hf0 : figAt s i = false := by
   rcases hz with h | ⟨c, h1, h2⟩
   ·exact figAt_n h
   ·rw [figAt_t h1]; exact h2
  have hfe := figure_ev (T := T) s i (by omega) (by omega)
  rw [hf0] at hfe
  rw [run_stop hz] at hi3
  obtain rfl : i = spP s := by omega
  obtain ⟨hS2, hn2⟩ := st2_of hS
  have hfe2 := figure_ev (T := T) s (spP s + 1) (by omega) (by omega)
  subst hm
  by_cases hdot : ∃ c, s[spP s]? = some c ∧ c.toNat = 46
  ·obtain ⟨c, hc, hc46⟩ := hdot
   have hE := spE_t hc hc46
   have hl := (List.getElem?_eq_some_iff.1 hc).1
   by_cases hgo : spP s - spF s ≠ 0 ∨ figAt s (spP s + 1) = true
   ·have hrd := rd2 (T := T) s hs b ov n (by omega) hE hS2 hn2 (fun h => hD h ov)
    by_cases hm0 : spP s - spF s = 0
    ·have hfa := hgo.resolve_left (fun h => h hm0)
     rw [hfa] at hfe2
     (repeat' (first| (intro (u_ : Unit); clear u_)| refine condT ?_| refine condF ?_| refine condp (by assumption) ?_| refine condn (by assumption) ?_| refine condN ?_| refine idxSb (by assumption) ?_| refine callE_ev (hfe _) ?_| refine callE_ev (hfe2 _) ?_| refine hrd| (refine condD ?_ ?_ <;> intro hq_ <;> first | (exfalso; omega) | skip)| (refine idxS (by omega) ?_; intro b_ hb_; have hl_ := b_.toNat_lt)| refine wrA (by omega) ?_| refine wrS (by omega) (by omega) ?_| refine wrI (by omega) (by omega) ?_| refine wrBA (by omega) ?_| refine wrB (by omega) (by omega) ?_| refine strC (by omega) ?_| refine nilB rfl ?_))
    ·(repeat' (first
      | (intro (u_ : Unit); clear u_)
      | refine condT ?_
      | refine condF ?_
      | refine condp (by assumption) ?_
      | refine condn (by assumption) ?_
      | refine condN ?_
      | refine idxSb (by assumption) ?_
      | refine callE_ev (hfe _) ?_
      | refine hrd
      | (refine condD ?_ ?_ <;> intro hq_ <;> first | (exfalso; omega) | skip)
      | (refine idxS (by omega) ?_; intro b_ hb_; have hl_ := b_.toNat_lt)
      | refine wrA (by omega) ?_
      | refine wrS (by omega) (by omega) ?_
      | refine wrI (by omega) (by omega) ?_
      | refine wrBA (by omega) ?_
      | refine wrB (by omega) (by omega) ?_
      | refine strC (by omega) ?_
      | refine nilB rfl ?_))
   ·have hm0 : spP s - spF s = 0 := by
     by_cases h : spP s - spF s = 0
     ·exact h
     ·exact absurd (.inl h) hgo
    have hfa : figAt s (spP s + 1) = false := by
     cases h : figAt s (spP s + 1)
     ·rfl
     ·exact absurd (.inr h) hgo
    rw [hfa] at hfe2
    have hr1 : runA fig s (spP s + 1) = 0 := by
     refine run_stop ?_
     by_cases h : spP s + 1 < s.length
     ·obtain ⟨d, hd⟩ := getS h
      rw [figAt_t hd] at hfa
      exact .inr ⟨d, hd, hfa⟩
     ·exact .inl (by omega)
    rw [dec_form ⟨by omega, by omega⟩, hm0]
    (repeat' (first| (intro (u_ : Unit); clear u_)| refine condT ?_| refine condF ?_| refine condp (by assumption) ?_| refine condn (by assumption) ?_| refine condN ?_| refine idxSb (by assumption) ?_| refine callE_ev (hfe _) ?_| refine callE_ev (hfe2 _) ?_| refine condp (by decide) ?_| refine condn (by decide) ?_| (refine condD ?_ ?_ <;> intro hq_ <;> first | (exfalso; omega) | skip)| (refine idxS (by omega) ?_; intro b_ hb_; have hl_ := b_.toNat_lt)| refine wrA (by omega) ?_| refine wrS (by omega) (by omega) ?_| refine wrI (by omega) (by omega) ?_| refine wrBA (by omega) ?_| refine wrB (by omega) (by omega) ?_| refine strC (by omega) ?_| refine nilB rfl ?_))
    exact ⟨rfl, rfl⟩
  ·have hE : spE s = spP s := by
    by_cases hl2 : spP s < s.length
    ·obtain ⟨c, hc⟩ := getS hl2
     exact spE_f hc (fun h => hdot ⟨c, hc, h⟩)
    ·exact spE_n (by omega)
   have hnd : ∀ c, s[spP s]? = some c → c.toNat ≠ 46 := fun c hc h => hdot ⟨c, hc, h⟩
   by_cases hform : spP s = spF s ∧ spE s ≤ spP s + 1
   ·rw [dec_form hform, show spP s - spF s = 0 by omega]
    (repeat' (first| (intro (u_ : Unit); clear u_)| refine condT ?_| refine condF ?_| refine condp (by assumption) ?_| refine condn (by assumption) ?_| refine condN ?_| refine idxSb (by assumption) ?_| refine callE_ev (hfe _) ?_| refine condp (by decide) ?_| refine condn (by decide) ?_| (refine condD ?_ ?_ <;> intro hq_ <;> first | (exfalso; omega) | skip)| (refine idxS (by omega) ?_; intro b_ hb_; have hl_ := b_.toNat_lt)| refine wrA (by omega) ?_| refine wrS (by omega) (by omega) ?_| refine wrI (by omega) (by omega) ?_| refine wrBA (by omega) ?_| refine wrB (by omega) (by omega) ?_| refine strC (by omega) ?_| refine nilB rfl ?_))
    all_goals first | exact ⟨rfl, rfl⟩ | (exfalso; exact hnd _ (by assumption) (by omega))
   ·have hrd := rd3 (T := T) s hs b ov n 0 (by decide) (by omega) hS2 hn2 (hD hform ov)
    rw [hE] at hrd
    (repeat' (first| (intro (u_ : Unit); clear u_)| refine condT ?_| refine condF ?_| refine condp (by assumption) ?_| refine condn (by assumption) ?_| refine condN ?_| refine idxSb (by assumption) ?_| refine callE_ev (hfe _) ?_| refine hrd| (refine condD ?_ ?_ <;> intro hq_ <;> first | (exfalso; omega) | skip)| (refine idxS (by omega) ?_; intro b_ hb_; have hl_ := b_.toNat_lt)| refine wrA (by omega) ?_| refine wrS (by omega) (by omega) ?_| refine wrI (by omega) (by omega) ?_| refine wrBA (by omega) ?_| refine wrB (by omega) (by omega) ?_| refine strC (by omega) ?_| refine nilB rfl ?_))
    all_goals (exfalso; exact hnd _ (by assumption) (by omega))
theorem decRead2_ev (s : List UInt8) (hs : s.length ≤ 2 ^ 30) (rf : Refs) : Ev T f_ref02_Read [str s] rf (.ret (numT (decM s))) rf := by
 refine Ev.any ?_ rfl rf
 have l1 := spF_le (s := s); have l2 := spP_le (s := s); have l3 := spE_le (s := s); have l4 := fr_len (s := s)
 have hD : ∀ {c : UInt8}, s[spB s]? = some c → ¬ (spP s = spF s ∧ spE s ≤ spP s + 1) → ∀ ov m, St2 s 6 ov m → decM s = match (if ov = true then none else backM (decide ((c.toNat : Int) = ((45 : Nat) : Int))) m) with | none => .over | some r => .ok r (spE s) := fun hc hf ov m h => by
  rw [dec_of hc hf h, decI]
 refine ev_fn rfl rfl ?_
 (repeat' (first| (intro (u_ : Unit); clear u_)| refine condT ?_| refine condF ?_| refine condp (by assumption) ?_| refine condn (by assumption) ?_| refine condN ?_| refine idxSb (by assumption) ?_| (refine condD ?_ ?_ <;> intro hq_ <;> first | (exfalso; omega) | skip)| (refine idxS (by omega) ?_; intro b_ hb_; have hl_ := b_.toNat_lt)| refine wrA (by omega) ?_| refine wrS (by omega) (by omega) ?_| refine wrI (by omega) (by omega) ?_| refine wrBA (by omega) ?_| refine wrB (by omega) (by omega) ?_| refine strC (by omega) ?_| refine nilB rfl ?_))
 refine loopR (fun i : Nat => [(5, i64 i)]) (fun _ => []) (fun i => s.length - i) (fun i => i ≤ s.length ∧ i + runA blank s i = spB s) 0 ⟨by omega, by simp [spB]⟩ (by rfl) (by rfl) ?_
 rintro i ⟨hi, hP⟩
 (repeat' (first| (intro (u_ : Unit); clear u_)| refine condT ?_| refine condF ?_| refine condp (by assumption) ?_| refine condn (by assumption) ?_| refine condN ?_| refine idxSb (by assumption) ?_| refine idx8 0 rfl (by decide) ?_| (refine condD ?_ ?_ <;> intro hq_ <;> first | (exfalso; omega) | skip)| (refine idxS (by omega) ?_; intro b_ hb_; have hl_ := b_.toNat_lt)| refine wrA (by omega) ?_| refine wrS (by omega) (by omega) ?_| refine wrI (by omega) (by omega) ?_| refine wrBA (by omega) ?_| refine wrB (by omega) (by omega) ?_| refine strC (by omega) ?_| refine nilB rfl ?_))
 all_goals first
  | exact ⟨i + 1, ⟨by omega, by rw [runA_go (by assumption) (blank_t (by omega))] at hP; omega⟩, by omega, rfl, rfl, rfl, rfl⟩
  | skip
 all_goals
  have hB : i = spB s := by
   first
   | (rw [runA_no (by assumption) (blank_f (by omega) (by omega))] at hP; omega)
   | (rw [runA_end (by omega)] at hP; omega)
  clear hP
  subst hB
 ·have h := rd1 (T := T) s hs _ (hD (by assumption))
  rw [spF_t (by assumption) (by omega)] at h
  rw [intC_0] at h
  exact h
 ·have h := rd1 (T := T) s hs _ (hD (by assumption))
  rw [spF_t (by assumption) (by omega)] at h
  rw [intC_0] at h
  exact h
 ·have h := rd1 (T := T) s hs false (fun hf ov m hst => by
   have h1 := hD (by assumption) hf ov m hst
   rwa [decide_eq_false (by assumption)] at h1)
  rw [spF_f (by assumption) (by omega) (by omega)] at h
  rw [intC_0] at h
  exact h
 ·have h := rd1 (T := T) s hs false (fun hf => absurd (by omega) hf)
  rw [spF_n (by omega)] at h
  rw [intC_0] at h
  exact h
end Go.Ab.R15z
namespace Go.Ab.R15z
set_option maxRecDepth 100000
set_option linter.all false
set_option maxHeartbeats 4000000
variable {T : Tb} [hS : ScanB T]
theorem odd_ev (c : UInt8) (rf : Refs) : Ev T f_hex_IsName_1 [u8 c.toNat] rf (.ret (bl (!nameB c))) rf := by
 refine Ev.any ?_ rfl rf
 refine ev_fn rfl rfl ?_
 (repeat' (first| (intro (u_ : Unit); clear u_)| refine condT ?_| refine condF ?_| refine condp (by assumption) ?_| refine condn (by assumption) ?_| refine condN ?_| refine idxSb (by assumption) ?_| (refine condD ?_ ?_ <;> intro hq_ <;> first | (exfalso; omega) | skip)| (refine idxS (by omega) ?_; intro b_ hb_; have hl_ := b_.toNat_lt)| refine wrA (by omega) ?_| refine wrS (by omega) (by omega) ?_| refine wrI (by omega) (by omega) ?_| refine wrBA (by omega) ?_| refine wrB (by omega) (by omega) ?_| refine strC (by omega) ?_| refine nilB rfl ?_))
 all_goals (refine ⟨?_, rfl⟩; congr 3; rw [Bool.eq_iff_iff]; simp [nameB, letter, fig]; omega)
def ixP (p : UInt8 → Bool) : List UInt8 → Nat → Int
 | [], _ => -1
 | a :: l, i => if p a then i else ixP p l (i + 1)
theorem ixP_iff (p : UInt8 → Bool) : ∀ (l : List UInt8) (i : Nat), 0 ≤ ixP p l i ↔ l.any p = true
 | [], i => by simp [ixP]
 | a :: l, i => by
   simp only [ixP, List.any_cons, Bool.or_eq_true]
   split
   ·rename_i h; exact ⟨fun _ => .inl h, fun _ => by omega⟩
   ·rename_i h; rw [ixP_iff p l]; exact ⟨.inr, fun h' => h'.resolve_left h⟩
abbrev oddF : AV := .fn (.func f_hex_IsName_1) [] []
theorem oddE {c : UInt8} {rf : Refs} {k : Out → Refs → Prop} (h1 : nameB c = false → k (.ret (bl true)) rf) (h2 : nameB c = true → k (.ret (bl false)) rf) : CallE T f_hex_IsName_1 [u8 c.toNat] rf k := by
 refine callE_ev (odd_ev c rf) ?_
 cases h : nameB c
 ·exact h1 h
 ·exact h2 h
theorem IndexFunc_ev (l : List UInt8) (hl : l.length ≤ 2 ^ 40) (rf : Refs) : Ev T f_slices_IndexFunc_byte_byte [lst (bytesOf l), oddF] rf (.ret (i64 (ixP (fun c => !nameB c) l 0))) rf := by
 refine Ev.any ?_ rfl rf
 have l1 : (bytesOf l).length = l.length := by simp [bytesOf]
 refine ev_fn rfl rfl ?_
 (repeat' (first| (intro (u_ : Unit); clear u_)| refine condT ?_| refine condF ?_| refine condp (by assumption) ?_| refine condn (by assumption) ?_| refine condN ?_| refine idxSb (by assumption) ?_| (refine condD ?_ ?_ <;> intro hq_ <;> first | (exfalso; omega) | skip)| (refine idxS (by omega) ?_; intro b_ hb_; have hl_ := b_.toNat_lt)| refine wrA (by omega) ?_| refine wrS (by omega) (by omega) ?_| refine wrI (by omega) (by omega) ?_| refine wrBA (by omega) ?_| refine wrB (by omega) (by omega) ?_| refine strC (by omega) ?_| refine nilB rfl ?_))
 refine loopR (fun i : Nat => [(8, i64 i)]) (fun _ => []) (fun i => l.length - i) (fun i => i ≤ l.length ∧ ixP (fun c => !nameB c) l 0 = ixP (fun c => !nameB c) (l.drop i) i) 0 ⟨by omega, by simp⟩ (by rfl) (by rfl) ?_
 rintro i ⟨hi, hP⟩
 by_cases hlt : i < l.length
 ·obtain ⟨r, hr⟩ := getS hlt
  rw [drop_get hr] at hP
  (repeat' (first| (intro (u_ : Unit); clear u_)| refine condT ?_| refine condF ?_| refine condp (by assumption) ?_| refine condn (by assumption) ?_| refine condN ?_| refine idxSb (by assumption) ?_| refine idxBy hr ?_| (refine oddE (fun hn_ => ?_) (fun hn_ => ?_))| (refine condD ?_ ?_ <;> intro hq_ <;> first | (exfalso; omega) | skip)| (refine idxS (by omega) ?_; intro b_ hb_; have hl_ := b_.toNat_lt)| refine wrA (by omega) ?_| refine wrS (by omega) (by omega) ?_| refine wrI (by omega) (by omega) ?_| refine wrBA (by omega) ?_| refine wrB (by omega) (by omega) ?_| refine strC (by omega) ?_| refine nilB rfl ?_))
  ·rw [hP]; simp only [ixP, hn_]; exact ⟨rfl, rfl⟩
  ·exact ⟨i + 1, ⟨by omega, by rw [hP]; simp only [ixP, hn_]; rfl⟩, by omega, rfl, rfl, rfl, rfl⟩
 ·rw [List.drop_eq_nil_of_le (by omega)] at hP
  (repeat' (first| (intro (u_ : Unit); clear u_)| refine condT ?_| refine condF ?_| refine condp (by assumption) ?_| refine condn (by assumption) ?_| refine condN ?_| refine idxSb (by assumption) ?_| (refine condD ?_ ?_ <;> intro hq_ <;> first | (exfalso; omega) | skip)| (refine idxS (by omega) ?_; intro b_ hb_; have hl_ := b_.toNat_lt)| refine wrA (by omega) ?_| refine wrS (by omega) (by omega) ?_| refine wrI (by omega) (by omega) ?_| refine wrBA (by omega) ?_| refine wrB (by omega) (by omega) ?_| refine strC (by omega) ?_| refine nilB rfl ?_))
  rw [hP]; exact ⟨rfl, rfl⟩
theorem ContainsFunc_ev (l : List UInt8) (hl : l.length ≤ 2 ^ 40) (rf : Refs) : Ev T f_slices_ContainsFunc_byte_byte [lst (bytesOf l), oddF] rf (.ret (bl (!l.all nameB))) rf := by
 refine Ev.any ?_ rfl rf
 have := ixP_iff (fun c => !nameB c) l 0
 rw [show (!l.all nameB) = decide (0 ≤ ixP (fun c => !nameB c) l 0) from by rw [Bool.eq_iff_iff]; simp [this]]
 refine ev_fn rfl rfl ?_
 (repeat' (first| (intro (u_ : Unit); clear u_)| refine condT ?_| refine condF ?_| refine condp (by assumption) ?_| refine condn (by assumption) ?_| refine condN ?_| refine idxSb (by assumption) ?_| refine callE_ev (IndexFunc_ev l hl _) ?_| (refine condD ?_ ?_ <;> intro hq_ <;> first | (exfalso; omega) | skip)| (refine idxS (by omega) ?_; intro b_ hb_; have hl_ := b_.toNat_lt)| refine wrA (by omega) ?_| refine wrS (by omega) (by omega) ?_| refine wrI (by omega) (by omega) ?_| refine wrBA (by omega) ?_| refine wrB (by omega) (by omega) ?_| refine strC (by omega) ?_| refine nilB rfl ?_))
 all_goals exact ⟨rfl, rfl⟩
theorem nameM_cons (c : UInt8) (l : List UInt8) : nameM (c :: l) = (!fig c && (c :: l).all nameB) := by
 rw [Bool.eq_iff_iff]
 simp only [nameM, List.all_cons, nameB, Bool.and_eq_true, Bool.or_eq_true, Bool.not_eq_true', letter, fig, decide_eq_true_eq]
 constructor
 ·rintro ⟨h1, h2⟩
  refine ⟨?_, .inl h1, h2⟩
  rw [Bool.and_eq_false_iff]
  simp only [decide_eq_false_iff_not]
  omega
 ·rintro ⟨h1, h2, h3⟩
  refine ⟨?_, h3⟩
  rcases h2 with h2 | h2
  ·exact h2
  ·rw [Bool.and_eq_false_iff] at h1
   simp only [decide_eq_false_iff_not] at h1
   omega
theorem IsName_ev (s : List UInt8) (hs : s.length ≤ 2 ^ 40) (rf : Refs) : Ev T f_hex_IsName [str s] rf (.ret (bl (nameM s))) rf := by
 refine Ev.any ?_ rfl rf
 rcases s with _ | ⟨c, l⟩
 ·refine ev_fn rfl rfl ?_
  (repeat' (first| (intro (u_ : Unit); clear u_)| refine condT ?_| refine condF ?_| refine condp (by assumption) ?_| refine condn (by assumption) ?_| refine condN ?_| refine idxSb (by assumption) ?_| refine condf (by decide) ?_| (refine condD ?_ ?_ <;> intro hq_ <;> first | (exfalso; omega) | skip)| (refine idxS (by omega) ?_; intro b_ hb_; have hl_ := b_.toNat_lt)| refine wrA (by omega) ?_| refine wrS (by omega) (by omega) ?_| refine wrI (by omega) (by omega) ?_| refine wrBA (by omega) ?_| refine wrB (by omega) (by omega) ?_| refine strC (by omega) ?_| refine nilB rfl ?_))
  exact ⟨rfl, rfl⟩
 ·have h0 : (c :: l)[0]? = some c := rfl
  have hC := ContainsFunc_ev (T := T) (c :: l) hs
  rw [nameM_cons]
  generalize (c :: l).all nameB = q at *
  refine ev_fn rfl rfl ?_
  (repeat' (first| (intro (u_ : Unit); clear u_)| refine condT ?_| refine condF ?_| refine condp (by assumption) ?_| refine condn (by assumption) ?_| refine condN ?_| refine idxSb (by assumption) ?_| refine condt (decide_eq_true (List.cons_ne_nil c l)) ?_| refine idxSb (i := 0) h0 ?_| refine bytesB (by simp) ?_| refine callE_ev (hC _) ?_| (refine condD ?_ ?_ <;> intro hq_ <;> first | (exfalso; omega) | skip)| (refine idxS (by omega) ?_; intro b_ hb_; have hl_ := b_.toNat_lt)| refine wrA (by omega) ?_| refine wrS (by omega) (by omega) ?_| refine wrI (by omega) (by omega) ?_| refine wrBA (by omega) ?_| refine wrB (by omega) (by omega) ?_| refine strC (by omega) ?_| refine nilB rfl ?_))
  all_goals (refine ⟨?_, rfl⟩; congr 3; rw [Bool.eq_iff_iff]; cases q <;> simp [fig] <;> omega)
def ixS (k : List UInt8) : List (List UInt8) → Nat → Int
 | [], _ => -1
 | a :: l, i => if k = a then i else ixS k l (i + 1)
theorem ixS_iff (k : List UInt8) : ∀ (l : List (List UInt8)) (i : Nat), 0 ≤ ixS k l i ↔ k ∈ l
 | [], i => by simp [ixS]
 | a :: l, i => by
   simp only [ixS, List.mem_cons]
   split
   ·rename_i h; exact ⟨fun _ => .inl h, fun _ => by omega⟩
   ·rename_i h; rw [ixS_iff k l]; exact ⟨.inr, fun h' => h'.resolve_left h⟩
theorem idxSt {l : List (List UInt8)} {i : Nat} {r : List UInt8} {c : List D → Prop} (h : l[i]? = some r) (h' : c [.str r]) : IdxL 1 (rowsS l) (i : Int) c := idxLb (by simp [rowsS, h]) rfl h'
theorem IndexS_ev (l : List (List UInt8)) (k : List UInt8) (hl : l.length ≤ 2 ^ 30) (rf : Refs) : Ev T f_slices_Index_string_string [lst (rowsS l), str k] rf (.ret (i64 (ixS k l 0))) rf := by
 refine Ev.any ?_ rfl rf
 have l1 := rowsS_length l
 refine ev_fn rfl rfl ?_
 (repeat' (first| (intro (u_ : Unit); clear u_)| refine condT ?_| refine condF ?_| refine condp (by assumption) ?_| refine condn (by assumption) ?_| refine condN ?_| refine idxSb (by assumption) ?_| (refine condD ?_ ?_ <;> intro hq_ <;> first | (exfalso; omega) | skip)| (refine idxS (by omega) ?_; intro b_ hb_; have hl_ := b_.toNat_lt)| refine wrA (by omega) ?_| refine wrS (by omega) (by omega) ?_| refine wrI (by omega) (by omega) ?_| refine wrBA (by omega) ?_| refine wrB (by omega) (by omega) ?_| refine strC (by omega) ?_| refine nilB rfl ?_))
 refine loopR (fun i : Nat => [(8, i64 i)]) (fun _ => []) (fun i => l.length - i) (fun i => i ≤ l.length ∧ ixS k l 0 = ixS k (l.drop i) i) 0 ⟨by omega, by simp⟩ (by rfl) (by rfl) ?_
 rintro i ⟨hi, hP⟩
 by_cases hlt : i < l.length
 ·obtain ⟨r, hr⟩ : ∃ r, l[i]? = some r := ⟨_, List.getElem?_eq_getElem hlt⟩
  have h1 : l.drop i = r :: l.drop (i + 1) := by rw [← List.getElem_cons_drop (h := hlt)]; congr 1; exact (List.getElem?_eq_some_iff.1 hr).2
  rw [h1] at hP
  (repeat' (first| (intro (u_ : Unit); clear u_)| refine condT ?_| refine condF ?_| refine condp (by assumption) ?_| refine condn (by assumption) ?_| refine condN ?_| refine idxSb (by assumption) ?_| refine idxSt hr ?_| (refine condD ?_ ?_ <;> intro hk_)| (refine condD ?_ ?_ <;> intro hq_ <;> first | (exfalso; omega) | skip)| (refine idxS (by omega) ?_; intro b_ hb_; have hl_ := b_.toNat_lt)| refine wrA (by omega) ?_| refine wrS (by omega) (by omega) ?_| refine wrI (by omega) (by omega) ?_| refine wrBA (by omega) ?_| refine wrB (by omega) (by omega) ?_| refine strC (by omega) ?_| refine nilB rfl ?_))
  all_goals first
   | (rw [hP]; simp only [ixS]; rw [if_pos (by assumption)]; exact ⟨rfl, rfl⟩)
   | exact ⟨i + 1, ⟨by omega, by rw [hP]; simp only [ixS]; rw [if_neg (by assumption)]⟩, by omega, rfl, rfl, rfl, rfl⟩
   | (exfalso; omega)
 ·rw [List.drop_eq_nil_of_le (by omega)] at hP
  (repeat' (first| (intro (u_ : Unit); clear u_)| refine condT ?_| refine condF ?_| refine condp (by assumption) ?_| refine condn (by assumption) ?_| refine condN ?_| refine idxSb (by assumption) ?_| (refine condD ?_ ?_ <;> intro hq_ <;> first | (exfalso; omega) | skip)| (refine idxS (by omega) ?_; intro b_ hb_; have hl_ := b_.toNat_lt)| refine wrA (by omega) ?_| refine wrS (by omega) (by omega) ?_| refine wrI (by omega) (by omega) ?_| refine wrBA (by omega) ?_| refine wrB (by omega) (by omega) ?_| refine strC (by omega) ?_| refine nilB rfl ?_))
  rw [hP]; exact ⟨rfl, rfl⟩
theorem ContainsS_ev (l : List (List UInt8)) (k : List UInt8) (hl : l.length ≤ 2 ^ 30) (rf : Refs) : Ev T f_slices_Contains_string_string [lst (rowsS l), str k] rf (.ret (bl (decide (k ∈ l)))) rf := by
 refine Ev.any ?_ rfl rf
 have := ixS_iff k l 0
 rw [show decide (k ∈ l) = decide (0 ≤ ixS k l 0) from by rw [Bool.eq_iff_iff]; simp [this]]
 refine ev_fn rfl rfl ?_
 (repeat' (first| (intro (u_ : Unit); clear u_)| refine condT ?_| refine condF ?_| refine condp (by assumption) ?_| refine condn (by assumption) ?_| refine condN ?_| refine idxSb (by assumption) ?_| refine callE_ev (IndexS_ev l k hl _) ?_| (refine condD ?_ ?_ <;> intro hq_ <;> first | (exfalso; omega) | skip)| (refine idxS (by omega) ?_; intro b_ hb_; have hl_ := b_.toNat_lt)| refine wrA (by omega) ?_| refine wrS (by omega) (by omega) ?_| refine wrI (by omega) (by omega) ?_| refine wrBA (by omega) ?_| refine wrB (by omega) (by omega) ?_| refine strC (by omega) ?_| refine nilB rfl ?_))
 all_goals exact ⟨rfl, rfl⟩
theorem prefix_take (p s : List UInt8) : p.isPrefixOf s = decide (s.take p.length = p) := by
 rw [Bool.eq_iff_iff, List.isPrefixOf_iff_prefix, List.prefix_iff_eq_take, decide_eq_true_eq]
 exact ⟨fun h => h.symm, fun h => h.symm⟩
theorem HasPrefix0_ev (s p : List UInt8) (hs : s.length ≤ 2 ^ 40) (rf : Refs) : Ev T f_stringslite_HasPrefix [str s, str p] rf (.ret (bl (p.isPrefixOf s))) rf := by
 refine Ev.any ?_ rfl rf
 rw [prefix_take]
 refine ev_fn rfl rfl ?_
 (repeat' (first| (intro (u_ : Unit); clear u_)| refine condT ?_| refine condF ?_| refine condp (by assumption) ?_| refine condn (by assumption) ?_| refine condN ?_| refine idxSb (by assumption) ?_| refine subHi (i := p.length) (by omega) ?_| (refine condD ?_ ?_ <;> intro hq_ <;> first | (exfalso; omega) | skip)| (refine idxS (by omega) ?_; intro b_ hb_; have hl_ := b_.toNat_lt)| refine wrA (by omega) ?_| refine wrS (by omega) (by omega) ?_| refine wrI (by omega) (by omega) ?_| refine wrBA (by omega) ?_| refine wrB (by omega) (by omega) ?_| refine strC (by omega) ?_| refine nilB rfl ?_))
 ·exact ⟨rfl, rfl⟩
 ·have : ¬ s.take p.length = p := fun h => by have h1 := congrArg List.length h; rw [List.length_take] at h1; omega
  rw [decide_eq_false this]; exact ⟨rfl, rfl⟩
theorem HasPrefix_ev (s p : List UInt8) (hs : s.length ≤ 2 ^ 40) (rf : Refs) : Ev T f_strings_HasPrefix [str s, str p] rf (.ret (bl (p.isPrefixOf s))) rf := by
 refine Ev.any ?_ rfl rf
 refine ev_fn rfl rfl ?_
 (repeat' (first| (intro (u_ : Unit); clear u_)| refine condT ?_| refine condF ?_| refine condp (by assumption) ?_| refine condn (by assumption) ?_| refine condN ?_| refine idxSb (by assumption) ?_| refine callE_ev (HasPrefix0_ev s p hs _) ?_| (refine condD ?_ ?_ <;> intro hq_ <;> first | (exfalso; omega) | skip)| (refine idxS (by omega) ?_; intro b_ hb_; have hl_ := b_.toNat_lt)| refine wrA (by omega) ?_| refine wrS (by omega) (by omega) ?_| refine wrI (by omega) (by omega) ?_| refine wrBA (by omega) ?_| refine wrB (by omega) (by omega) ?_| refine strC (by omega) ?_| refine nilB rfl ?_))
 exact ⟨rfl, rfl⟩
theorem splE {a b : List UInt8} {l : List (List UInt8)} {rf : Refs} {k : Out → Refs → Prop} (h0 : a.length < 4294967281 ∧ 1 ≤ b.length) (hl : Lib.split a b = l) (h : k (.ret (lst (rowsS l))) rf) : CallE T f_strings_Split [str a, str b] rf k := by
 refine callE_ev (ev_orc ((hS.spl _).trans ?_)) h
 simp only [splitO]
 rw [if_pos h0, hl]
theorem Keys_ev (rf : Refs) : Ev T f_scan_Keys [] rf (.ret (lst (rowsS keysL))) rf := by
 refine Ev.any ?_ rfl rf
 refine ev_fn rfl rfl ?_
 (repeat' (first| (intro (u_ : Unit); clear u_)| refine condT ?_| refine condF ?_| refine condp (by assumption) ?_| refine condn (by assumption) ?_| refine condN ?_| refine idxSb (by assumption) ?_| refine splE (l := keysL) (by decide) (by decide +kernel) ?_| (refine condD ?_ ?_ <;> intro hq_ <;> first | (exfalso; omega) | skip)| (refine idxS (by omega) ?_; intro b_ hb_; have hl_ := b_.toNat_lt)| refine wrA (by omega) ?_| refine wrS (by omega) (by omega) ?_| refine wrI (by omega) (by omega) ?_| refine wrBA (by omega) ?_| refine wrB (by omega) (by omega) ?_| refine strC (by omega) ?_| refine nilB rfl ?_))
 exact ⟨rfl, rfl⟩
theorem Marks_ev (rf : Refs) : Ev T f_scan_Marks [] rf (.ret (lst (rowsS marksL))) rf := by
 refine Ev.any ?_ rfl rf
 refine ev_fn rfl rfl ?_
 (repeat' (first| (intro (u_ : Unit); clear u_)| refine condT ?_| refine condF ?_| refine condp (by assumption) ?_| refine condn (by assumption) ?_| refine condN ?_| refine idxSb (by assumption) ?_| refine splE (l := marksL) (by decide) (by decide +kernel) ?_| (refine condD ?_ ?_ <;> intro hq_ <;> first | (exfalso; omega) | skip)| (refine idxS (by omega) ?_; intro b_ hb_; have hl_ := b_.toNat_lt)| refine wrA (by omega) ?_| refine wrS (by omega) (by omega) ?_| refine wrI (by omega) (by omega) ?_| refine wrBA (by omega) ?_| refine wrB (by omega) (by omega) ?_| refine strC (by omega) ?_| refine nilB rfl ?_))
 exact ⟨rfl, rfl⟩
def nxA : Nx → AV
 | .over => .tup [.agg (tokC tok0), i64 (-1)]
 | .bad k => .tup [.agg (tokC ⟨k, 0, [], 0⟩), i64 (0 : Nat)]
 | .ok t n => .tup [.agg (tokC t), i64 n]
theorem name_next {s : List UInt8} {c d : UInt8} {n : Nat} (h0 : s[0]? = some c) (hc : letter c = true) (hn : 1 ≤ n) (ha : (s.take n).all nameB = true) (hd : s[n]? = some d) : nameM (s.take (n + 1)) = nameB d := by
 rcases s with _ | ⟨x, l⟩
 ·simp at h0
 simp only [List.getElem?_cons_zero, Option.some.injEq] at h0
 subst h0
 obtain ⟨m, rfl⟩ : ∃ m, n = m + 1 := ⟨n - 1, by omega⟩
 simp only [List.getElem?_cons_succ] at hd
 simp only [List.take_succ_cons, List.all_cons, Bool.and_eq_true] at ha
 rw [List.take_succ_cons]
 simp only [nameM, hc, Bool.true_and]
 rw [List.take_add_one, hd]
 simp [ha.2]
theorem all_next {s : List UInt8} {d : UInt8} {n : Nat} (ha : (s.take n).all nameB = true) (hd : s[n]? = some d) (hb : nameB d = true) : (s.take (n + 1)).all nameB = true := by
 rw [List.take_add_one, hd]; simp only [List.all_append, ha]; simp [hb]
theorem wordLen_le {s : List UInt8} (h : 1 ≤ s.length) : wordLen s ≤ s.length := by
 have := runA_le (p := nameB) h
 unfold wordLen; omega
theorem word_ev (s : List UInt8) (c : UInt8) (h0 : s[0]? = some c) (hc : letter c = true) (hs : s.length ≤ 2 ^ 40) (rf : Refs) : Ev T f_scan_word [str s] rf (.ret (nxA (wordM s))) rf := by
 refine Ev.any ?_ rfl rf
 have hl : 1 ≤ s.length := by have := (List.getElem?_eq_some_iff.1 h0).1; omega
 have hw := wordLen_le hl
 have hN : ∀ (l : List UInt8), l.length ≤ 2 ^ 40 → ∀ rf, Ev T f_hex_IsName [str l] rf (.ret (bl (nameM l))) rf := fun l h rf => IsName_ev l h rf
 have hC := ContainsS_ev (T := T) keysL
 have hkl : keysL.length = 20 := rfl
 have hK := Keys_ev (T := T)
 unfold wordM
 generalize hW : wordLen s = W at *
 generalize keysL = K at *
 refine ev_fn rfl rfl ?_
 (repeat' (first| (intro (u_ : Unit); clear u_)| refine condT ?_| refine condF ?_| refine condp (by assumption) ?_| refine condn (by assumption) ?_| refine condN ?_| refine idxSb (by assumption) ?_| (refine condD ?_ ?_ <;> intro hq_ <;> first | (exfalso; omega) | skip)| (refine idxS (by omega) ?_; intro b_ hb_; have hl_ := b_.toNat_lt)| refine wrA (by omega) ?_| refine wrS (by omega) (by omega) ?_| refine wrI (by omega) (by omega) ?_| refine wrBA (by omega) ?_| refine wrB (by omega) (by omega) ?_| refine strC (by omega) ?_| refine nilB rfl ?_))
 refine loopR (fun i : Nat => [(4, i64 i)]) (fun _ => []) (fun i => s.length - i) (fun i => 1 ≤ i ∧ i ≤ s.length ∧ (s.take i).all nameB = true ∧ i + runA nameB s i = W) 1 ⟨by omega, hl, ?_, by rw [← hW]; rfl⟩ (by rfl) (by rfl) ?_
 ·rcases s with _ | ⟨x, l⟩
  ·simp at h0
  ·simp only [List.getElem?_cons_zero, Option.some.injEq] at h0; subst h0; simp [nameB, hc]
 rintro i ⟨hi1, hi, ha, hP⟩
 by_cases hlt : i < s.length
 ·obtain ⟨d, hd⟩ := getS hlt
  have hnm := name_next h0 hc hi1 ha hd
  have hN1 := hN (s.take (i + 1)) (by rw [List.length_take]; omega)
  rw [hnm] at hN1
  cases hb : nameB d
  ·rw [runA_no hd hb] at hP
   obtain rfl : i = W := by omega
   rw [hb] at hN1
   have hC1 := hC (s.take i) (by omega)
   by_cases hk : s.take i ∈ K
   ·rw [decide_eq_true hk] at hC1
    rw [if_pos hk]
    (repeat' (first| (intro (u_ : Unit); clear u_)| refine condT ?_| refine condF ?_| refine condp (by assumption) ?_| refine condn (by assumption) ?_| refine condN ?_| refine idxSb (by assumption) ?_| refine subHi (i := i + 1) (by omega) ?_| refine subHi (i := i) (by omega) ?_| refine callE_ev (hN1 _) ?_| refine callE_ev (hK _) ?_| refine callE_ev (hC1 _) ?_| (refine condD ?_ ?_ <;> intro hq_ <;> first | (exfalso; omega) | skip)| (refine idxS (by omega) ?_; intro b_ hb_; have hl_ := b_.toNat_lt)| refine wrA (by omega) ?_| refine wrS (by omega) (by omega) ?_| refine wrI (by omega) (by omega) ?_| refine wrBA (by omega) ?_| refine wrB (by omega) (by omega) ?_| refine strC (by omega) ?_| refine nilB rfl ?_))
    exact ⟨rfl, rfl⟩
   ·rw [decide_eq_false hk] at hC1
    rw [if_neg hk]
    (repeat' (first| (intro (u_ : Unit); clear u_)| refine condT ?_| refine condF ?_| refine condp (by assumption) ?_| refine condn (by assumption) ?_| refine condN ?_| refine idxSb (by assumption) ?_| refine subHi (i := i + 1) (by omega) ?_| refine subHi (i := i) (by omega) ?_| refine callE_ev (hN1 _) ?_| refine callE_ev (hK _) ?_| refine callE_ev (hC1 _) ?_| (refine condD ?_ ?_ <;> intro hq_ <;> first | (exfalso; omega) | skip)| (refine idxS (by omega) ?_; intro b_ hb_; have hl_ := b_.toNat_lt)| refine wrA (by omega) ?_| refine wrS (by omega) (by omega) ?_| refine wrI (by omega) (by omega) ?_| refine wrBA (by omega) ?_| refine wrB (by omega) (by omega) ?_| refine strC (by omega) ?_| refine nilB rfl ?_))
    exact ⟨rfl, rfl⟩
  ·rw [runA_go hd hb] at hP
   rw [hb] at hN1
   (repeat' (first| (intro (u_ : Unit); clear u_)| refine condT ?_| refine condF ?_| refine condp (by assumption) ?_| refine condn (by assumption) ?_| refine condN ?_| refine idxSb (by assumption) ?_| refine subHi (i := i + 1) (by omega) ?_| refine callE_ev (hN1 _) ?_| (refine condD ?_ ?_ <;> intro hq_ <;> first | (exfalso; omega) | skip)| (refine idxS (by omega) ?_; intro b_ hb_; have hl_ := b_.toNat_lt)| refine wrA (by omega) ?_| refine wrS (by omega) (by omega) ?_| refine wrI (by omega) (by omega) ?_| refine wrBA (by omega) ?_| refine wrB (by omega) (by omega) ?_| refine strC (by omega) ?_| refine nilB rfl ?_))
   exact ⟨i + 1, ⟨by omega, by omega, all_next ha hd hb, by omega⟩, by omega, rfl, rfl, rfl, rfl⟩
 ·rw [runA_end (by omega)] at hP
  obtain rfl : i = W := by omega
  have hC1 := hC (s.take i) (by omega)
  by_cases hk : s.take i ∈ K
  ·rw [decide_eq_true hk] at hC1
   rw [if_pos hk]
   (repeat' (first| (intro (u_ : Unit); clear u_)| refine condT ?_| refine condF ?_| refine condp (by assumption) ?_| refine condn (by assumption) ?_| refine condN ?_| refine idxSb (by assumption) ?_| refine subHi (i := i) (by omega) ?_| refine callE_ev (hK _) ?_| refine callE_ev (hC1 _) ?_| (refine condD ?_ ?_ <;> intro hq_ <;> first | (exfalso; omega) | skip)| (refine idxS (by omega) ?_; intro b_ hb_; have hl_ := b_.toNat_lt)| refine wrA (by omega) ?_| refine wrS (by omega) (by omega) ?_| refine wrI (by omega) (by omega) ?_| refine wrBA (by omega) ?_| refine wrB (by omega) (by omega) ?_| refine strC (by omega) ?_| refine nilB rfl ?_))
   exact ⟨rfl, rfl⟩
  ·rw [decide_eq_false hk] at hC1
   rw [if_neg hk]
   (repeat' (first| (intro (u_ : Unit); clear u_)| refine condT ?_| refine condF ?_| refine condp (by assumption) ?_| refine condn (by assumption) ?_| refine condN ?_| refine idxSb (by assumption) ?_| refine subHi (i := i) (by omega) ?_| refine callE_ev (hK _) ?_| refine callE_ev (hC1 _) ?_| (refine condD ?_ ?_ <;> intro hq_ <;> first | (exfalso; omega) | skip)| (refine idxS (by omega) ?_; intro b_ hb_; have hl_ := b_.toNat_lt)| refine wrA (by omega) ?_| refine wrS (by omega) (by omega) ?_| refine wrI (by omega) (by omega) ?_| refine wrBA (by omega) ?_| refine wrB (by omega) (by omega) ?_| refine strC (by omega) ?_| refine nilB rfl ?_))
   exact ⟨rfl, rfl⟩
theorem mark_ev (s : List UInt8) (hs : s.length ≤ 2 ^ 40) (rf : Refs) : Ev T f_scan_mark [str s] rf (.ret (nxA (markM s))) rf := by
 refine Ev.any ?_ rfl rf
 have hkl : marksL.length = 32 := rfl
 have hK := Marks_ev (T := T)
 have hH : ∀ p, ∀ rf, Ev T f_strings_HasPrefix [str s, str p] rf (.ret (bl (p.isPrefixOf s))) rf := fun p rf => HasPrefix_ev s p hs rf
 unfold markM
 generalize hR : bestL s marksL [] = R
 generalize marksL = K at *
 have l1 := rowsS_length K
 refine ev_fn rfl rfl ?_
 (repeat' (first| (intro (u_ : Unit); clear u_)| refine condT ?_| refine condF ?_| refine condp (by assumption) ?_| refine condn (by assumption) ?_| refine condN ?_| refine idxSb (by assumption) ?_| refine callE_ev (hK _) ?_| (refine condD ?_ ?_ <;> intro hq_ <;> first | (exfalso; omega) | skip)| (refine idxS (by omega) ?_; intro b_ hb_; have hl_ := b_.toNat_lt)| refine wrA (by omega) ?_| refine wrS (by omega) (by omega) ?_| refine wrI (by omega) (by omega) ?_| refine wrBA (by omega) ?_| refine wrB (by omega) (by omega) ?_| refine strC (by omega) ?_| refine nilB rfl ?_))
 refine loopR2 (fun (i : Nat) b => [(9, i64 i), (4, str b)]) (fun _ _ => []) (fun i _ => K.length - i) (fun i b => i ≤ K.length ∧ bestL s (K.drop i) b = R) 0 [] ⟨by omega, hR⟩ (by rfl) (by rfl) ?_
 rintro i b ⟨hi, hP⟩
 by_cases hlt : i < K.length
 ·obtain ⟨m, hm⟩ : ∃ r, K[i]? = some r := ⟨_, List.getElem?_eq_getElem hlt⟩
  have h1 : K.drop i = m :: K.drop (i + 1) := by rw [← List.getElem_cons_drop (h := hlt)]; congr 1; exact (List.getElem?_eq_some_iff.1 hm).2
  rw [h1] at hP
  simp only [bestL] at hP
  have hH1 := hH m
  cases hp : m.isPrefixOf s
  ·rw [hp] at hH1
   rw [hp, if_neg (by simp)] at hP
   (repeat' (first| (intro (u_ : Unit); clear u_)| refine condT ?_| refine condF ?_| refine condp (by assumption) ?_| refine condn (by assumption) ?_| refine condN ?_| refine idxSb (by assumption) ?_| refine idxSt hm ?_| refine callE_ev (hH1 _) ?_| (refine condD ?_ ?_ <;> intro hq_ <;> first | (exfalso; omega) | skip)| (refine idxS (by omega) ?_; intro b_ hb_; have hl_ := b_.toNat_lt)| refine wrA (by omega) ?_| refine wrS (by omega) (by omega) ?_| refine wrI (by omega) (by omega) ?_| refine wrBA (by omega) ?_| refine wrB (by omega) (by omega) ?_| refine strC (by omega) ?_| refine nilB rfl ?_))
   exact ⟨i + 1, b, ⟨by omega, hP⟩, by omega, rfl, rfl, rfl, rfl⟩
  ·rw [hp] at hH1
   (repeat' (first| (intro (u_ : Unit); clear u_)| refine condT ?_| refine condF ?_| refine condp (by assumption) ?_| refine condn (by assumption) ?_| refine condN ?_| refine idxSb (by assumption) ?_| refine idxSt hm ?_| refine callE_ev (hH1 _) ?_| (refine condD ?_ ?_ <;> intro hq_ <;> first | (exfalso; omega) | skip)| (refine idxS (by omega) ?_; intro b_ hb_; have hl_ := b_.toNat_lt)| refine wrA (by omega) ?_| refine wrS (by omega) (by omega) ?_| refine wrI (by omega) (by omega) ?_| refine wrBA (by omega) ?_| refine wrB (by omega) (by omega) ?_| refine strC (by omega) ?_| refine nilB rfl ?_))
   ·rw [if_pos ⟨hp, by omega⟩] at hP
    exact ⟨i + 1, m, ⟨by omega, hP⟩, by omega, rfl, rfl, rfl, rfl⟩
   ·rw [if_neg (fun h => by omega)] at hP
    exact ⟨i + 1, b, ⟨by omega, hP⟩, by omega, rfl, rfl, rfl, rfl⟩
 ·rw [List.drop_eq_nil_of_le (by omega)] at hP
  simp only [bestL] at hP
  subst hP
  (repeat' (first| (intro (u_ : Unit); clear u_)| refine condT ?_| refine condF ?_| refine condp (by assumption) ?_| refine condn (by assumption) ?_| refine condN ?_| refine idxSb (by assumption) ?_| (refine condD ?_ ?_ <;> intro hq_ <;> first | (exfalso; omega) | skip)| (refine idxS (by omega) ?_; intro b_ hb_; have hl_ := b_.toNat_lt)| refine wrA (by omega) ?_| refine wrS (by omega) (by omega) ?_| refine wrI (by omega) (by omega) ?_| refine wrBA (by omega) ?_| refine wrB (by omega) (by omega) ?_| refine strC (by omega) ?_| refine nilB rfl ?_))
  refine ⟨?_, rfl⟩
  simp only
  split
  ·rename_i h
   have : b = [] := List.length_eq_zero_iff.1 h
   subst this; rfl
  ·rfl
end Go.Ab.R15z
namespace Go.Ab.R15z
set_option maxRecDepth 100000
set_option linter.all false
set_option maxHeartbeats 4000000
variable {T : Tb} [hS : ScanB T]
section
variable {s : List UInt8}
theorem nl_two {c d : UInt8} (h : s[runA fig s 0]? = some c) (hc : c.toNat = 46) (h' : s[runA fig s 0 + 1]? = some d) (hd : fig d = true) : numLen s = runA fig s 0 + 1 + runA fig s (runA fig s 0 + 1) := by
 simp only [numLen, h, h']; rw [if_pos ⟨hc, hd⟩]
theorem nl_far (h : s.length ≤ runA fig s 0 + 1) : numLen s = runA fig s 0 := by
 simp only [numLen, List.getElem?_eq_none h]
 split
 ·rename_i h1 h2; cases h2
 ·rfl
theorem nl_dot {c : UInt8} (h : s[runA fig s 0]? = some c) (hc : c.toNat ≠ 46) : numLen s = runA fig s 0 := by
 simp only [numLen, h]
 split
 ·rename_i h1 h2; cases h1; rw [if_neg (by omega)]
 ·rfl
theorem nl_fig {d : UInt8} (h' : s[runA fig s 0 + 1]? = some d) (hd : fig d = false) : numLen s = runA fig s 0 := by
 simp only [numLen, h']
 split
 ·rename_i h1 h2; cases h2; rw [if_neg (by simp [hd])]
 ·rfl
theorem numLen_le : numLen s ≤ s.length := by
 have h0 := runA_le (p := fig) (s := s) (Nat.zero_le _)
 simp only [numLen]
 split
 ·rename_i h1 h2
  have := (List.getElem?_eq_some_iff.1 h2).1
  split
  ·have := runA_le (p := fig) (s := s) (i := runA fig s 0 + 1) (by omega); omega
  ·omega
 ·omega
end
theorem figsE {s : List UInt8} {i : Nat} {t : Tok} {k : Out → Refs → Prop} (h0 : i ≤ s.length) (hs : s.length ≤ 2 ^ 40) (h : k (.ret (.tup [])) [[str s], tokC t, [i64 (i + runA fig s i : Nat)]]) : CallE T f_scan_number_1 [.ptr 2 0, .ptr 0 0] [[str s], tokC t, [i64 i]] k :=
 callE_at [0, 2] (figs_ev s i h0 hs) rfl rfl rfl rfl rfl h
theorem number_ev (s : List UInt8) (hs : s.length ≤ 2 ^ 30) (rf : Refs) : Ev T f_scan_number [str s] rf (.ret (nxA (numberM s))) rf := by
 refine Ev.any ?_ rfl rf
 have hr := runA_le (p := fig) (s := s) (Nat.zero_le _)
 have hr2 : runA fig s 0 + 1 ≤ s.length → _ := runA_le (p := fig) (s := s) (i := runA fig s 0 + 1)
 have hl := numLen_le (s := s)
 have hd : ∀ n, n ≤ s.length → ∀ rf, Ev T f_dec_Read [str (s.take n)] rf (.ret (numT (decM (s.take n)))) rf := fun n h rf => decRead_ev _ (by rw [List.length_take]; omega) rf
 have hd1 := hd _ hl
 have hF := @figsE T hS s
 have n1 := @nl_two s
 have n2 := @nl_far s
 have n3 := @nl_dot s
 have n4 := @nl_fig s
 unfold numberM
 clear hd
 have hz : runA fig s 0 = 0 + runA fig s 0 := (Nat.zero_add _).symm
 generalize decM (s.take (numLen s)) = N at *
 cases N <;>
 (refine ev_fn rfl rfl ?_
  (repeat' (first| (intro (u_ : Unit); clear u_)| refine condT ?_| refine condF ?_| refine condp (by assumption) ?_| refine condn (by assumption) ?_| refine condN ?_| refine idxSb (by assumption) ?_| refine hF (i := 0) (t := tok0) (by omega) (by omega) ?_| rw [← hz]| (refine figE (fun hf_ => ?_) (fun hf_ => ?_))| refine hF (i := runA fig s 0 + 1) (t := tok0) (by omega) (by omega) ?_| (refine subHi (i := runA fig s 0 + 1 + runA fig s (runA fig s 0 + 1)) (by omega) ?_; have hn_ := n1 (by assumption) (by omega) (by assumption) (by assumption); rw [← hn_])| (refine subHi (i := runA fig s 0) (by omega) ?_; have hn_ : numLen s = runA fig s 0 := (by first | exact n2 (by omega) | exact n3 (by assumption) (by omega) | exact n4 (by assumption) (by assumption)); rw [← hn_])| refine callE_ev (hd1 _) ?_| (refine condD ?_ ?_ <;> intro hq_ <;> first | (exfalso; omega) | skip)| (refine idxS (by omega) ?_; intro b_ hb_; have hl_ := b_.toNat_lt)| refine wrA (by omega) ?_| refine wrS (by omega) (by omega) ?_| refine wrI (by omega) (by omega) ?_| refine wrBA (by omega) ?_| refine wrB (by omega) (by omega) ?_| refine strC (by omega) ?_| refine nilB rfl ?_))
  all_goals first | exact ⟨rfl, rfl⟩ | trace_state)
/-! texts in quotes -/
section
variable {s : List UInt8} {f i : Nat} {o : List UInt8} {c e a b : UInt8} {x y : Nat}
theorem tl_none (h : s.length ≤ i) : textL s f i o = none := by
 cases f with
 | zero => rfl
 | succ f => unfold textL; rw [List.getElem?_eq_none h]
theorem tl_nl (h : s[i]? = some c) (hc : c.toNat = 10) : textL s f i o = none := by
 cases f with
 | zero => rfl
 | succ f => unfold textL; rw [h]; simp only; rw [if_pos hc]
theorem tl_end (h : s[i]? = some c) (hc : c.toNat = 34) : textL s (f + 1) i o = some (o, i + 1) := by
 unfold textL; rw [h]; simp only; rw [if_neg (by omega), if_pos hc]
theorem tl_plain (h : s[i]? = some c) (h1 : c.toNat ≠ 10) (h2 : c.toNat ≠ 34) (h3 : c.toNat ≠ 92) : textL s (f + 1) i o = textL s f (i + 1) (o ++ [c]) := by
 conv => lhs; unfold textL
 rw [h]; simp only; rw [if_neg h1, if_neg h2, if_pos h3]
theorem tl_short (h : s[i]? = some c) (hc : c.toNat = 92) (hl : s.length ≤ i + 1) : textL s f i o = none := by
 cases f with
 | zero => rfl
 | succ f => unfold textL; rw [h]; simp only; rw [if_neg (by omega), if_neg (by omega), if_neg (by omega), List.getElem?_eq_none hl]
theorem tl_esc (h : s[i]? = some c) (hc : c.toNat = 92) (he : s[i + 1]? = some e) (hm : e ∈ escS) : textL s (f + 1) i o = textL s f (i + 2) (o ++ [e]) := by
 conv => lhs; unfold textL
 rw [h]; simp only; rw [if_neg (by omega), if_neg (by omega), if_neg (by omega), he]; simp only; rw [if_pos hm]
theorem tl_form (h : s[i]? = some c) (hc : c.toNat = 92) (he : s[i + 1]? = some e) (hm : e ∉ escS) (hx : s.length ≤ i + 3 ∨ e.toNat ≠ 120 ∨ (∃ a, s[i + 2]? = some a ∧ digit a.toNat < 0) ∨ (∃ a, s[i + 3]? = some a ∧ digit a.toNat < 0)) : textL s f i o = none := by
 cases f with
 | zero => rfl
 | succ f =>
   unfold textL
   rw [h]; simp only; rw [if_neg (by omega), if_neg (by omega), if_neg (by omega), he]; simp only; rw [if_neg hm]
   rcases h2 : s[i + 2]? with _ | a
   ·rfl
   rcases h3 : s[i + 3]? with _ | b
   ·rfl
   simp only
   have h4 : i + 3 < s.length := (List.getElem?_eq_some_iff.1 h3).1
   rw [if_neg]
   rintro ⟨p, q, r⟩
   rcases hx with hx | hx | ⟨a', ha, hx⟩ | ⟨a', ha, hx⟩
   ·omega
   ·exact hx p
   ·rw [h2] at ha; cases ha; omega
   ·rw [h3] at ha; cases ha; omega
theorem tl_hex (h : s[i]? = some c) (hc : c.toNat = 92) (he : s[i + 1]? = some e) (hm : e ∉ escS) (hx : e.toNat = 120) (h2 : s[i + 2]? = some a) (h3 : s[i + 3]? = some b) (ha : digit a.toNat = (x : Int)) (hb : digit b.toNat = (y : Int)) :
  textL s (f + 1) i o = if 16 * x + y = 10 then none else textL s f (i + 4) (o ++ [UInt8.ofNat (16 * x + y)]) := by
 conv => lhs; unfold textL
 rw [h]; simp only; rw [if_neg (by omega), if_neg (by omega), if_neg (by omega), he]; simp only; rw [if_neg hm, h2, h3]
 simp only [ha, hb]
 rw [if_pos ⟨hx, Int.natCast_nonneg _, Int.natCast_nonneg _⟩]
 rfl
end
def tcB : List UInt8 → AV
 | [] => .nil
 | a :: l => .own (bytesOf (a :: l))
theorem tcB_snoc (o : List UInt8) (c : UInt8) : tcB (o ++ [c]) = .own (bytesOf o ++ [[.int .u8 c.toNat]]) := by cases o <;> simp [tcB, bytesOf]
theorem text_ev (s : List UInt8) (hs : s.length ≤ 2 ^ 30) (rf : Refs) : Ev T f_scan_text [str s] rf (.ret (nxA (textQ s))) rf := by
 refine Ev.any ?_ rfl rf
 unfold textQ
 generalize hR : textL s s.length 1 [] = R
 refine ev_fn rfl rfl ?_
 (repeat' (first| (intro (u_ : Unit); clear u_)| refine condT ?_| refine condF ?_| refine condp (by assumption) ?_| refine condn (by assumption) ?_| refine condN ?_| refine idxSb (by assumption) ?_| (refine condD ?_ ?_ <;> intro hq_ <;> first | (exfalso; omega) | skip)| (refine idxS (by omega) ?_; intro b_ hb_; have hl_ := b_.toNat_lt)| refine wrA (by omega) ?_| refine wrS (by omega) (by omega) ?_| refine wrI (by omega) (by omega) ?_| refine wrBA (by omega) ?_| refine wrB (by omega) (by omega) ?_| refine strC (by omega) ?_| refine nilB rfl ?_))
 refine loopR2 (fun (i : Nat) o => [(5, i64 i), (4, tcB o)]) (fun _ _ => []) (fun i _ => s.length - i) (fun i o => (o.length ≤ i ∧ 1 ≤ i) ∧ ∃ f, s.length ≤ i + f ∧ textL s f i o = R) 1 [] ⟨by simp, s.length, by omega, hR⟩ (by rfl) (by rfl) ?_
 rintro i o ⟨⟨ho, hi1⟩, f, hf, hP⟩
 by_cases hlt : i < s.length
 ·obtain ⟨g, rfl⟩ : ∃ g, f = g + 1 := ⟨f - 1, by omega⟩
  rcases o with _ | ⟨o0, o⟩ <;>
  (have hsn := tcB_snoc
   (repeat' (first| (intro (u_ : Unit); clear u_)| refine condT ?_| refine condF ?_| refine condp (by assumption) ?_| refine condn (by assumption) ?_| refine condN ?_| refine idxSb (by assumption) ?_| (refine ixbE (l := escS) ?_; intro n_ hn_ hm_)| (refine digE0 (by omega) ?_; intro m_ hd_ hdl_)| (refine digE ?_; intro n_ hd_ hdl_)| refine shlN (by decide) (by decide) (by rw [m64]; omega) ?_| refine orNib (by omega) (by omega) ?_| refine appN1 (by simp) rfl ?_| refine appL (by simp only [bytesOf, List.length_map, List.length_cons, List.length_nil] at *; omega) (sizesB_bytesOf _) rfl ?_| refine strB (l := []) rfl ?_| refine strB (strOf_bytesOf _) ?_| (refine condD ?_ ?_ <;> intro hq_ <;> first | (exfalso; omega) | skip)| (refine idxS (by omega) ?_; intro b_ hb_; have hl_ := b_.toNat_lt)| refine wrA (by omega) ?_| refine wrS (by omega) (by omega) ?_| refine wrI (by omega) (by omega) ?_| refine wrBA (by omega) ?_| refine wrB (by omega) (by omega) ?_| refine strC (by omega) ?_| refine nilB rfl ?_))
   all_goals first
    | (rw [tl_end (by assumption) (by omega)] at hP; subst hP; exact ⟨rfl, rfl⟩)
    | (rw [tl_nl (by assumption) (by omega)] at hP; subst hP; exact ⟨rfl, rfl⟩)
    | (rw [tl_short (by assumption) (by omega) (by omega)] at hP; subst hP; exact ⟨rfl, rfl⟩)
    | (rw [tl_plain (by assumption) (by omega) (by omega) (by omega)] at hP; refine ⟨i + 1, _, ⟨⟨by simp only [List.length_append, List.length_cons, List.length_nil] at ho ⊢; omega, by omega⟩, g, by omega, hP⟩, by omega, ?_, rfl, rfl, rfl⟩)
    | (rw [tl_esc (by assumption) (by omega) (by assumption) (hn_ (by omega))] at hP; refine ⟨i + 2, _, ⟨⟨by simp only [List.length_append, List.length_cons, List.length_nil] at ho ⊢; omega, by omega⟩, g, by omega, hP⟩, by omega, ?_, rfl, rfl, rfl⟩)
    | (rw [tl_form (by assumption) (by omega) (by assumption) (hm_ (by omega)) (.inl (by omega))] at hP; subst hP; exact ⟨rfl, rfl⟩)
    | (rw [tl_form (by assumption) (by omega) (by assumption) (hm_ (by omega)) (.inr (.inl (by omega)))] at hP; subst hP; exact ⟨rfl, rfl⟩)
    | (rw [tl_form (by assumption) (by omega) (by assumption) (hm_ (by omega)) (.inr (.inr (.inl ⟨_, by assumption, by omega⟩)))] at hP; subst hP; exact ⟨rfl, rfl⟩)
    | (rw [tl_form (by assumption) (by omega) (by assumption) (hm_ (by omega)) (.inr (.inr (.inr ⟨_, by assumption, by omega⟩)))] at hP; subst hP; exact ⟨rfl, rfl⟩)
    | (rw [tl_hex (by assumption) (by omega) (by assumption) (hm_ (by omega)) (by omega) (by assumption) (by assumption) (by assumption) (by assumption), if_pos (by omega)] at hP; subst hP; exact ⟨rfl, rfl⟩)
    | (rw [tl_hex (by assumption) (by omega) (by assumption) (hm_ (by omega)) (by omega) (by assumption) (by assumption) (by assumption) (by assumption), if_neg (by omega)] at hP; refine ⟨i + 4, _, ⟨⟨by simp only [List.length_append, List.length_cons, List.length_nil] at ho ⊢; omega, by omega⟩, g, by omega, hP⟩, by omega, ?_, rfl, rfl, rfl⟩)
    | skip
   all_goals (first | (rw [hsn, toNat_ofNat_u8 (by omega)]; rfl) | (rw [hsn]; rfl) | skip))
 ·rw [tl_none (by omega)] at hP
  subst hP
  rcases o with _ | ⟨o0, o⟩ <;>
  ((repeat' (first
    | (intro (u_ : Unit); clear u_)
    | refine condT ?_
    | refine condF ?_
    | refine condp (by assumption) ?_
    | refine condn (by assumption) ?_
    | refine condN ?_
    | refine idxSb (by assumption) ?_
    | (refine condD ?_ ?_ <;> intro hq_ <;> first | (exfalso; omega) | skip)
    | (refine idxS (by omega) ?_; intro b_ hb_; have hl_ := b_.toNat_lt)
    | refine wrA (by omega) ?_
    | refine wrS (by omega) (by omega) ?_
    | refine wrI (by omega) (by omega) ?_
    | refine wrBA (by omega) ?_
    | refine wrB (by omega) (by omega) ?_
    | refine strC (by omega) ?_
    | refine nilB rfl ?_))
   exact ⟨rfl, rfl⟩)
end Go.Ab.R15z
namespace Go.Ab.R15z
set_option maxRecDepth 100000
set_option linter.all false
set_option maxHeartbeats 4000000
variable {T : Tb} [hS : ScanB T]
section
variable {s : List UInt8} {f i : Nat} {c : UInt8}
theorem el_none (h : s.length ≤ i) : exprL s f i = none := by
 cases f with
 | zero => rfl
 | succ f => unfold exprL; rw [List.getElem?_eq_none h]
theorem el_nl (h : s[i]? = some c) (hc : c.toNat = 10) : exprL s f i = none := by
 cases f with
 | zero => rfl
 | succ f => unfold exprL; rw [h]; simp only; rw [if_pos hc]
theorem el_bad (h : s[i]? = some c) (hc : c.toNat = 92) (hh : hit s (i + 1) 10 = true) : exprL s f i = none := by
 cases f with
 | zero => rfl
 | succ f => unfold exprL; rw [h]; simp only; rw [if_neg (by omega), if_pos hc, if_pos hh]
theorem el_esc (h : s[i]? = some c) (hc : c.toNat = 92) (hh : hit s (i + 1) 10 = false) : exprL s (f + 1) i = exprL s f (i + 2) := by
 conv => lhs; unfold exprL
 rw [h]; simp only; rw [if_neg (by omega), if_pos hc, if_neg (by rw [hh]; simp)]
theorem el_end (h : s[i]? = some c) (hc : c.toNat = 47) : exprL s (f + 1) i = some i := by
 unfold exprL; rw [h]; simp only; rw [if_neg (by omega), if_neg (by omega), if_pos hc]
theorem el_plain (h : s[i]? = some c) (h1 : c.toNat ≠ 10) (h2 : c.toNat ≠ 92) (h3 : c.toNat ≠ 47) : exprL s (f + 1) i = exprL s f (i + 1) := by
 conv => lhs; unfold exprL
 rw [h]; simp only; rw [if_neg h1, if_neg h2, if_neg h3]
end
theorem rdE1 {s : List UInt8} {rf : Refs} {k : Out → Refs → Prop} (hs : s.length ≤ 2 ^ 30) (h0 : ∀ e, parse s = .error e → e ≠ 0 → k (.ret (.tup [lst [], i64 e])) rf) (h1 : ∀ t, parse s = .ok t → k (.ret (.tup [lst (t.map reD), i64 (0 : Nat)])) rf) : CallE T f_regex_Read [str s] rf k := by
 refine callE_ev (rRd_ev s hs rf) ?_
 cases h : parse s with
 | error e => exact h0 e h (err_nz1 h)
 | ok t => exact h1 t h
theorem expression_ev (s : List UInt8) (hs : s.length ≤ 2 ^ 30) (rf : Refs) : Ev T f_scan_expression [str s] rf (.ret (nxA (exprM s))) rf := by
 refine Ev.any ?_ rfl rf
 unfold exprM
 generalize hR : exprL s s.length 1 = R
 refine ev_fn rfl rfl ?_
 (repeat' (first| (intro (u_ : Unit); clear u_)| refine condT ?_| refine condF ?_| refine condp (by assumption) ?_| refine condn (by assumption) ?_| refine condN ?_| refine idxSb (by assumption) ?_| (refine condD ?_ ?_ <;> intro hq_ <;> first | (exfalso; omega) | skip)| (refine idxS (by omega) ?_; intro b_ hb_; have hl_ := b_.toNat_lt)| refine wrA (by omega) ?_| refine wrS (by omega) (by omega) ?_| refine wrI (by omega) (by omega) ?_| refine wrBA (by omega) ?_| refine wrB (by omega) (by omega) ?_| refine strC (by omega) ?_| refine nilB rfl ?_))
 refine loopR (fun i : Nat => [(4, i64 i)]) (fun _ => []) (fun i => s.length - i) (fun i => 1 ≤ i ∧ ∃ f, s.length ≤ i + f ∧ exprL s f i = R) 1 ⟨by omega, s.length, by omega, hR⟩ (by rfl) (by rfl) ?_
 rintro i ⟨hi1, f, hf, hP⟩
 by_cases hlt : i < s.length
 ·obtain ⟨g, rfl⟩ : ∃ g, f = g + 1 := ⟨f - 1, by omega⟩
  (repeat' (first| (intro (u_ : Unit); clear u_)| refine condT ?_| refine condF ?_| refine condp (by assumption) ?_| refine condn (by assumption) ?_| refine condN ?_| refine idxSb (by assumption) ?_| (refine subBo (i := 1) (j := i) (by omega) (by omega) ?_)| (refine rdE1 (by rw [List.length_drop, List.length_take]; omega) (fun e_ hp_ he_ => ?_) (fun t_ hp_ => ?_))| (refine condD ?_ ?_ <;> intro hq_ <;> first | (exfalso; omega) | skip)| (refine idxS (by omega) ?_; intro b_ hb_; have hl_ := b_.toNat_lt)| refine wrA (by omega) ?_| refine wrS (by omega) (by omega) ?_| refine wrI (by omega) (by omega) ?_| refine wrBA (by omega) ?_| refine wrB (by omega) (by omega) ?_| refine strC (by omega) ?_| refine nilB rfl ?_))
  all_goals first
   | (rw [el_nl (by assumption) (by omega)] at hP; subst hP; exact ⟨rfl, rfl⟩)
   | (rw [el_plain (by assumption) (by omega) (by omega) (by omega)] at hP; exact ⟨i + 1, ⟨by omega, g, by omega, hP⟩, by omega, rfl, rfl, rfl, rfl⟩)
   | (rw [el_bad (by assumption) (by omega) (hitT (by assumption) (by omega))] at hP; subst hP; exact ⟨rfl, rfl⟩)
   | (rw [el_esc (by assumption) (by omega) (hitF (by assumption) (by omega))] at hP; exact ⟨i + 2, ⟨by omega, g, by omega, hP⟩, by omega, rfl, rfl, rfl, rfl⟩)
   | (rw [el_esc (by assumption) (by omega) (hit_none (by omega))] at hP; exact ⟨i + 2, ⟨by omega, g, by omega, hP⟩, by omega, rfl, rfl, rfl, rfl⟩)
   | (rw [el_end (by assumption) (by omega)] at hP; subst hP; simp only; rw [hp_]; exact ⟨rfl, rfl⟩)
   | skip
 ·rw [el_none (by omega)] at hP
  subst hP
  (repeat' (first| (intro (u_ : Unit); clear u_)| refine condT ?_| refine condF ?_| refine condp (by assumption) ?_| refine condn (by assumption) ?_| refine condN ?_| refine idxSb (by assumption) ?_| (refine condD ?_ ?_ <;> intro hq_ <;> first | (exfalso; omega) | skip)| (refine idxS (by omega) ?_; intro b_ hb_; have hl_ := b_.toNat_lt)| refine wrA (by omega) ?_| refine wrS (by omega) (by omega) ?_| refine wrI (by omega) (by omega) ?_| refine wrBA (by omega) ?_| refine wrB (by omega) (by omega) ?_| refine strC (by omega) ?_| refine nilB rfl ?_))
  exact ⟨rfl, rfl⟩
theorem next_ev (s : List UInt8) (op : Bool) (hs : s.length ≤ 2 ^ 30) (hne : 0 < s.length) (rf : Refs) : Ev T f_scan_next [str s, bl op] rf (.ret (nxA (nextM s op))) rf := by
 refine Ev.any ?_ rfl rf
 obtain ⟨c, hc⟩ := getS hne
 have h1 : s.take 1 = [c] := by rcases s with _ | ⟨x, l⟩; simp at hne; simp at hc; simp [hc]
 have hN := IsName_ev (T := T) [c] (by simp)
 have hNm : nameM [c] = letter c := by simp [nameM]
 rw [hNm] at hN
 unfold nextM
 rw [hc]
 simp only
 have e1 := number_ev (T := T) s hs
 have e2 := text_ev (T := T) s hs
 have e3 := expression_ev (T := T) s hs
 have e4 := word_ev (T := T) s c hc
 have e5 := mark_ev (T := T) s (by omega)
 by_cases c1 : c.toNat = 10 ∨ c.toNat = 59
 ·rw [if_pos c1]
  refine ev_fn rfl rfl ?_
  (repeat' (first| (intro (u_ : Unit); clear u_)| refine condT ?_| refine condF ?_| refine condp (by assumption) ?_| refine condn (by assumption) ?_| refine condN ?_| refine idxSb (by assumption) ?_| refine idxSb (i := 0) hc ?_| (refine condD ?_ ?_ <;> intro hq_ <;> first | (exfalso; omega) | skip)| (refine idxS (by omega) ?_; intro b_ hb_; have hl_ := b_.toNat_lt)| refine wrA (by omega) ?_| refine wrS (by omega) (by omega) ?_| refine wrI (by omega) (by omega) ?_| refine wrBA (by omega) ?_| refine wrB (by omega) (by omega) ?_| refine strC (by omega) ?_| refine nilB rfl ?_))
  all_goals exact ⟨rfl, rfl⟩
 rw [if_neg c1]
 cases hf : fig c
 case true =>
  rw [if_pos rfl]
  generalize numberM s = N at *
  cases N <;>
  (refine ev_fn rfl rfl ?_
   (repeat' (first| (intro (u_ : Unit); clear u_)| refine condT ?_| refine condF ?_| refine condp (by assumption) ?_| refine condn (by assumption) ?_| refine condN ?_| refine idxSb (by assumption) ?_| refine idxSb (i := 0) hc ?_| (refine figE (fun hf_ => ?_) (fun hf_ => ?_) <;> first | (exfalso; rw [hf] at hf_; exact absurd hf_ (by decide)) | skip)| refine callE_ev (e1 _) ?_| (refine condD ?_ ?_ <;> intro hq_ <;> first | (exfalso; omega) | skip)| (refine idxS (by omega) ?_; intro b_ hb_; have hl_ := b_.toNat_lt)| refine wrA (by omega) ?_| refine wrS (by omega) (by omega) ?_| refine wrI (by omega) (by omega) ?_| refine wrBA (by omega) ?_| refine wrB (by omega) (by omega) ?_| refine strC (by omega) ?_| refine nilB rfl ?_))
   all_goals exact ⟨rfl, rfl⟩)
 rw [if_neg (by decide)]
 have hfk : ∀ {k : Out → Refs → Prop} {rf : Refs}, k (.ret (bl false)) rf → CallE T f_scan_isFigure [u8 c.toNat] rf k := fun h => figE (fun h1 => by rw [hf] at h1; cases h1) (fun _ => h)
 by_cases c3 : c.toNat = 34
 ·rw [if_pos c3]
  generalize textQ s = N at *
  cases N <;>
  (refine ev_fn rfl rfl ?_
   (repeat' (first| (intro (u_ : Unit); clear u_)| refine condT ?_| refine condF ?_| refine condp (by assumption) ?_| refine condn (by assumption) ?_| refine condN ?_| refine idxSb (by assumption) ?_| refine idxSb (i := 0) hc ?_| refine hfk ?_| refine callE_ev (e2 _) ?_| (refine condD ?_ ?_ <;> intro hq_ <;> first | (exfalso; omega) | skip)| (refine idxS (by omega) ?_; intro b_ hb_; have hl_ := b_.toNat_lt)| refine wrA (by omega) ?_| refine wrS (by omega) (by omega) ?_| refine wrI (by omega) (by omega) ?_| refine wrBA (by omega) ?_| refine wrB (by omega) (by omega) ?_| refine strC (by omega) ?_| refine nilB rfl ?_))
   all_goals exact ⟨rfl, rfl⟩)
 rw [if_neg c3]
 by_cases c4 : c.toNat = 47 ∧ op = false
 ·rw [if_pos c4]
  obtain ⟨c4, rfl⟩ := c4
  generalize exprM s = N at *
  cases N <;>
  (refine ev_fn rfl rfl ?_
   (repeat' (first| (intro (u_ : Unit); clear u_)| refine condT ?_| refine condF ?_| refine condp (by assumption) ?_| refine condn (by assumption) ?_| refine condN ?_| refine idxSb (by assumption) ?_| refine idxSb (i := 0) hc ?_| refine hfk ?_| refine callE_ev (e3 _) ?_| (refine condD ?_ ?_ <;> intro hq_ <;> first | (exfalso; omega) | skip)| (refine idxS (by omega) ?_; intro b_ hb_; have hl_ := b_.toNat_lt)| refine wrA (by omega) ?_| refine wrS (by omega) (by omega) ?_| refine wrI (by omega) (by omega) ?_| refine wrBA (by omega) ?_| refine wrB (by omega) (by omega) ?_| refine strC (by omega) ?_| refine nilB rfl ?_))
   all_goals exact ⟨rfl, rfl⟩)
 rw [if_neg c4]
 cases hl : letter c
 case true =>
  rw [if_pos rfl]
  have e4 := e4 hl (by omega)
  rw [hl] at hN
  generalize wordM s = N at *
  cases op <;> cases N <;>
  (refine ev_fn rfl rfl ?_
   (repeat' (first| (intro (u_ : Unit); clear u_)| refine condT ?_| refine condF ?_| refine condp (by assumption) ?_| refine condn (by assumption) ?_| refine condN ?_| refine idxSb (by assumption) ?_| refine idxSb (i := 0) hc ?_| refine hfk ?_| (refine subHi (i := 1) (by omega) ?_; rw [h1])| refine callE_ev (hN _) ?_| refine callE_ev (e4 _) ?_| (refine condD ?_ ?_ <;> intro hq_ <;> first | (exfalso; omega) | skip)| (refine idxS (by omega) ?_; intro b_ hb_; have hl_ := b_.toNat_lt)| refine wrA (by omega) ?_| refine wrS (by omega) (by omega) ?_| refine wrI (by omega) (by omega) ?_| refine wrBA (by omega) ?_| refine wrB (by omega) (by omega) ?_| refine strC (by omega) ?_| refine nilB rfl ?_))
   all_goals first | exact ⟨rfl, rfl⟩ | (exfalso; exact c4 ⟨by omega, rfl⟩))
 rw [if_neg (by decide)]
 rw [hl] at hN
 generalize markM s = N at *
 cases op <;> cases N <;>
 (refine ev_fn rfl rfl ?_
  (repeat' (first| (intro (u_ : Unit); clear u_)| refine condT ?_| refine condF ?_| refine condp (by assumption) ?_| refine condn (by assumption) ?_| refine condN ?_| refine idxSb (by assumption) ?_| refine idxSb (i := 0) hc ?_| refine hfk ?_| (refine subHi (i := 1) (by omega) ?_; rw [h1])| refine callE_ev (hN _) ?_| refine callE_ev (e5 _) ?_| (refine condD ?_ ?_ <;> intro hq_ <;> first | (exfalso; omega) | skip)| (refine idxS (by omega) ?_; intro b_ hb_; have hl_ := b_.toNat_lt)| refine wrA (by omega) ?_| refine wrS (by omega) (by omega) ?_| refine wrI (by omega) (by omega) ?_| refine wrBA (by omega) ?_| refine wrB (by omega) (by omega) ?_| refine strC (by omega) ?_| refine nilB rfl ?_))
  all_goals first | exact ⟨rfl, rfl⟩ | (exfalso; exact c4 ⟨by omega, rfl⟩))
theorem Operand_ev (t : Tok) (rf : Refs) : Ev T f_scan_Operand [.agg (tokC t)] rf (.ret (bl (opM t))) rf := by
 refine Ev.any ?_ rfl rf
 obtain ⟨k, p, x, n⟩ := t
 refine ev_fn rfl rfl ?_
 (repeat' (first| (intro (u_ : Unit); clear u_)| refine condT ?_| refine condF ?_| refine condp (by assumption) ?_| refine condn (by assumption) ?_| refine condN ?_| refine idxSb (by assumption) ?_| (refine condD ?_ ?_ <;> intro hq_ <;> first | (exfalso; omega) | skip)| (refine idxS (by omega) ?_; intro b_ hb_; have hl_ := b_.toNat_lt)| refine wrA (by omega) ?_| refine wrS (by omega) (by omega) ?_| refine wrI (by omega) (by omega) ?_| refine wrBA (by omega) ?_| refine wrB (by omega) (by omega) ?_| refine strC (by omega) ?_| refine nilB rfl ?_))
 all_goals (simp only at *; refine ⟨?_, rfl⟩; congr 3; rw [Bool.eq_iff_iff]; by_cases x1 : x = [41] <;> by_cases x2 : x = [93] <;> simp [opM, x1, x2] at * <;> omega)
end Go.Ab.R15z
namespace Go.Ab.R15z
set_option maxRecDepth 100000
set_option linter.all false
set_option maxHeartbeats 4000000
variable {T : Tb} [hS : ScanB T]
theorem bestL_pre (s : List UInt8) : ∀ (l : List (List UInt8)) (b : List UInt8), b.isPrefixOf s = true → (bestL s l b).isPrefixOf s = true
 | [], b, h => h
 | m :: l, b, h => by
   simp only [bestL]
   refine bestL_pre s l _ ?_
   split
   ·rename_i h1; exact h1.1
   ·exact h
theorem textL_len {s : List UInt8} : ∀ {f i : Nat} {o o' : List UInt8} {n : Nat}, textL s f i o = some (o', n) → i < n ∧ n ≤ s.length
 | 0, i, o, o', n, h => by cases h
 | f + 1, i, o, o', n, h => by
   unfold textL at h
   rcases hc : s[i]? with _ | c
   ·rw [hc] at h; cases h
   have hl := (List.getElem?_eq_some_iff.1 hc).1
   rw [hc] at h
   simp only at h
   split at h
   ·cases h
   split at h
   ·cases h; omega
   split at h
   ·have := textL_len h; omega
   rcases he : s[i + 1]? with _ | e
   ·rw [he] at h; cases h
   rw [he] at h
   simp only at h
   split at h
   ·have := textL_len h; omega
   split at h
   ·split at h
    ·split at h
     ·cases h
     ·have := textL_len h; omega
    ·cases h
   ·cases h
theorem exprL_len {s : List UInt8} : ∀ {f i n : Nat}, exprL s f i = some n → i ≤ n ∧ n < s.length
 | 0, i, n, h => by cases h
 | f + 1, i, n, h => by
   unfold exprL at h
   rcases hc : s[i]? with _ | c
   ·rw [hc] at h; cases h
   have hl := (List.getElem?_eq_some_iff.1 hc).1
   rw [hc] at h
   simp only at h
   split at h
   ·cases h
   split at h
   ·split at h
    ·cases h
    ·have := exprL_len h; omega
   split at h
   ·cases h; omega
   ·have := exprL_len h; omega
theorem numLen_pos {s : List UInt8} {c : UInt8} (h : s[0]? = some c) (hc : fig c = true) : 1 ≤ numLen s := by
 have h1 := runA_go h hc
 simp only [numLen]
 split
 ·split <;> omega
 ·omega
theorem next_ok {s : List UInt8} {op : Bool} {t : Tok} {n : Nat} (h : nextM s op = .ok t n) : 1 ≤ n ∧ n ≤ s.length ∧ 1 ≤ t.kind ∧ t.kind ≤ 7 ∧ t.pos = 0 := by
 unfold nextM at h
 rcases hc : s[0]? with _ | c
 ·rw [hc] at h; cases h
 have hl := (List.getElem?_eq_some_iff.1 hc).1
 rw [hc] at h
 simp only at h
 split at h
 ·cases h; simp; omega
 split at h
 ·rename_i hf
  have h1 := numLen_pos hc hf
  have h2 := numLen_le (s := s)
  unfold numberM at h
  split at h
  ·cases h; exact ⟨h1, h2, by simp, by simp, rfl⟩
  ·cases h
 split at h
 ·unfold textQ at h
  split at h
  ·cases h
  ·rename_i o n' ht
   have := textL_len ht
   cases h; exact ⟨by omega, by omega, by simp, by simp, rfl⟩
 split at h
 ·unfold exprM at h
  split at h
  ·cases h
  ·rename_i i hi
   have := exprL_len hi
   split at h
   ·cases h; exact ⟨by omega, by omega, by simp, by simp, rfl⟩
   ·cases h
 split at h
 ·have := wordLen_le (s := s) (by omega)
  unfold wordM at h
  cases h
  refine ⟨by unfold wordLen; omega, this, ?_, ?_, rfl⟩
  ·simp only; split <;> decide
  ·simp only; split <;> decide
 ·unfold markM at h
  simp only at h
  split at h
  ·cases h
  ·rename_i hb
   cases h
   have := bestL_pre s marksL [] (by simp)
   have := (List.isPrefixOf_iff_prefix.1 this).length_le
   exact ⟨by omega, by omega, by simp, by simp, rfl⟩
def tcT : List Tok → AV
 | [] => .nil
 | t :: l => .own ((t :: l).map tokD)
theorem tcT_snoc (l : List Tok) (t : Tok) : tcT (l ++ [t]) = .own (l.map tokD ++ [tokD t]) := by cases l <;> simp [tcT]
theorem sizesT (l : List Tok) : sizesB 4 (l.map tokD) = true := by cases l <;> rfl
def toksA : Ts → AV
 | .err e i => .tup [lst [], i64 e, i64 i]
 | .ok l => .tup [lst (l.map tokD), i64 (0 : Nat), i64 (0 : Nat)]
theorem toks_go {s : List UInt8} {f i : Nat} {op : Bool} {l : List Tok} : toksL s (f + 1) i op l = if i + skipA false s i < s.length then
   match nextM (s.drop (i + skipA false s i)) op with
   | .over => .err 3 (i + skipA false s i)
   | .bad _ => .err 9 (i + skipA false s i)
   | .ok t n => if 2000 ≤ l.length then .err 6 (i + skipA false s i) else toksL s f (i + skipA false s i + n) (opM ⟨t.kind, i + skipA false s i, t.text, t.num⟩) (l ++ [⟨t.kind, i + skipA false s i, t.text, t.num⟩])
  else if 2000 ≤ l.length then .err 6 (i + skipA false s i) else .ok (l ++ [⟨0, i + skipA false s i, [], 0⟩]) := rfl
theorem Tokens_ev (s : List UInt8) (hs : s.length ≤ 2 ^ 60) (rf : Refs) : Ev T f_scan_Tokens [str s] rf (.ret (toksA (toksM s))) rf := by
 refine Ev.any ?_ rfl rf
 unfold toksM
 by_cases hbig : 8192 < s.length
 ·rw [if_pos hbig]
  refine ev_fn rfl rfl ?_
  (repeat' (first| (intro (u_ : Unit); clear u_)| refine condT ?_| refine condF ?_| refine condp (by assumption) ?_| refine condn (by assumption) ?_| refine condN ?_| refine idxSb (by assumption) ?_| (refine condD ?_ ?_ <;> intro hq_ <;> first | (exfalso; omega) | skip)| (refine idxS (by omega) ?_; intro b_ hb_; have hl_ := b_.toNat_lt)| refine wrA (by omega) ?_| refine wrS (by omega) (by omega) ?_| refine wrI (by omega) (by omega) ?_| refine wrBA (by omega) ?_| refine wrB (by omega) (by omega) ?_| refine strC (by omega) ?_| refine nilB rfl ?_))
  exact ⟨rfl, rfl⟩
 rw [if_neg hbig]
 generalize hR : toksL s (s.length + 1) 0 false [] = R
 refine ev_fn rfl rfl ?_
 (repeat' (first| (intro (u_ : Unit); clear u_)| refine condT ?_| refine condF ?_| refine condp (by assumption) ?_| refine condn (by assumption) ?_| refine condN ?_| refine idxSb (by assumption) ?_| (refine condD ?_ ?_ <;> intro hq_ <;> first | (exfalso; omega) | skip)| (refine idxS (by omega) ?_; intro b_ hb_; have hl_ := b_.toNat_lt)| refine wrA (by omega) ?_| refine wrS (by omega) (by omega) ?_| refine wrI (by omega) (by omega) ?_| refine wrBA (by omega) ?_| refine wrB (by omega) (by omega) ?_| refine strC (by omega) ?_| refine nilB rfl ?_))
 refine loopR3 (fun (i : Nat) (op : Bool) l => [(5, tcT l), (7, i64 i), (8, bl op)]) (fun _ _ _ => []) (fun i _ _ => s.length - i) (fun i op l => (i ≤ s.length ∧ l.length ≤ 2000) ∧ ∃ f, s.length < i + f ∧ toksL s f i op l = R) 0 false [] ⟨by simp, s.length + 1, by omega, hR⟩ (by rfl) (by rfl) ?_
 rintro i op l ⟨⟨hi, hl⟩, f, hf, hP⟩
 obtain ⟨g, rfl⟩ : ∃ g, f = g + 1 := ⟨f - 1, by omega⟩
 rw [toks_go] at hP
 have hsk := skip_ev (T := T) s i hi (by omega)
 have hj := skipA_le (b := false) hi
 have hij : i ≤ i + skipA false s i := by omega
 generalize i + skipA false s i = j at *
 by_cases hlt : j < s.length
 ·rw [if_pos hlt] at hP
  have hn := next_ev (T := T) (s.drop j) op (by rw [List.length_drop]; omega) (by rw [List.length_drop]; omega)
  cases hx : nextM (s.drop j) op with
  | over =>
    rw [hx] at hn hP
    simp only at hP
    subst hP
    rcases l with _ | ⟨t0, l⟩ <;>
    ((repeat' (first
      | (intro (u_ : Unit); clear u_)
      | refine condT ?_
      | refine condF ?_
      | refine condp (by assumption) ?_
      | refine condn (by assumption) ?_
      | refine condN ?_
      | refine idxSb (by assumption) ?_
      | refine callE_ev (hsk _) ?_
      | refine subLo (i := j) (by omega) ?_
      | refine callE_ev (hn _) ?_
      | (refine condD ?_ ?_ <;> intro hq_ <;> first | (exfalso; omega) | skip)
      | (refine idxS (by omega) ?_; intro b_ hb_; have hl_ := b_.toNat_lt)
      | refine wrA (by omega) ?_
      | refine wrS (by omega) (by omega) ?_
      | refine wrI (by omega) (by omega) ?_
      | refine wrBA (by omega) ?_
      | refine wrB (by omega) (by omega) ?_
      | refine strC (by omega) ?_
      | refine nilB rfl ?_))
     exact ⟨rfl, rfl⟩)
  | bad k =>
    rw [hx] at hn hP
    simp only at hP
    subst hP
    rcases l with _ | ⟨t0, l⟩ <;>
    ((repeat' (first
      | (intro (u_ : Unit); clear u_)
      | refine condT ?_
      | refine condF ?_
      | refine condp (by assumption) ?_
      | refine condn (by assumption) ?_
      | refine condN ?_
      | refine idxSb (by assumption) ?_
      | refine callE_ev (hsk _) ?_
      | refine subLo (i := j) (by omega) ?_
      | refine callE_ev (hn _) ?_
      | (refine condD ?_ ?_ <;> intro hq_ <;> first | (exfalso; omega) | skip)
      | (refine idxS (by omega) ?_; intro b_ hb_; have hl_ := b_.toNat_lt)
      | refine wrA (by omega) ?_
      | refine wrS (by omega) (by omega) ?_
      | refine wrI (by omega) (by omega) ?_
      | refine wrBA (by omega) ?_
      | refine wrB (by omega) (by omega) ?_
      | refine strC (by omega) ?_
      | refine nilB rfl ?_))
     exact ⟨rfl, rfl⟩)
  | ok t n =>
    rw [hx] at hn hP
    obtain ⟨n1, n2, k1, k2, _⟩ := next_ok hx
    rw [List.length_drop] at n2
    simp only at hP
    by_cases hfull : 2000 ≤ l.length
    ·rw [if_pos hfull] at hP
     subst hP
     rcases l with _ | ⟨t0, l⟩
     ·simp at hfull
     have hml : ((t0 :: l).map tokD).length = (t0 :: l).length := by simp
     (repeat' (first| (intro (u_ : Unit); clear u_)| refine condT ?_| refine condF ?_| refine condp (by assumption) ?_| refine condn (by assumption) ?_| refine condN ?_| refine idxSb (by assumption) ?_| refine callE_ev (hsk _) ?_| refine subLo (i := j) (by omega) ?_| refine callE_ev (hn _) ?_| (refine condD ?_ ?_ <;> intro hq_ <;> first | (exfalso; omega) | skip)| (refine idxS (by omega) ?_; intro b_ hb_; have hl_ := b_.toNat_lt)| refine wrA (by omega) ?_| refine wrS (by omega) (by omega) ?_| refine wrI (by omega) (by omega) ?_| refine wrBA (by omega) ?_| refine wrB (by omega) (by omega) ?_| refine strC (by omega) ?_| refine nilB rfl ?_))
     exact ⟨rfl, rfl⟩
    ·rw [if_neg hfull] at hP
     have hO := Operand_ev (T := T) ⟨t.kind, j, t.text, t.num⟩
     have hsn := tcT_snoc l ⟨t.kind, j, t.text, t.num⟩
     have hml : (l.map tokD).length = l.length := by simp
     have hsz := sizesT l
     generalize opM ⟨t.kind, j, t.text, t.num⟩ = op' at *
     have hP' : (j + n ≤ s.length ∧ (l ++ [(⟨t.kind, j, t.text, t.num⟩ : Tok)]).length ≤ 2000) ∧ ∃ f, s.length < j + n + f ∧ toksL s f (j + n) op' (l ++ [⟨t.kind, j, t.text, t.num⟩]) = R := ⟨⟨by omega, by simp; omega⟩, g, by omega, hP⟩
     rcases l with _ | ⟨t0, l⟩ <;>
     ((repeat' (first
       | (intro (u_ : Unit); clear u_)
       | refine condT ?_
       | refine condF ?_
       | refine condp (by assumption) ?_
       | refine condn (by assumption) ?_
       | refine condN ?_
       | refine idxSb (by assumption) ?_
       | refine callE_ev (hsk _) ?_
       | refine subLo (i := j) (by omega) ?_
       | refine callE_ev (hn _) ?_
       | refine callE_ev (hO _) ?_
       | refine appN1 (by simp) rfl ?_
       | refine appL (by rw [hml]; simp only [List.length_cons, List.length_nil] at *; omega) hsz rfl ?_
       | (refine condD ?_ ?_ <;> intro hq_ <;> first | (exfalso; omega) | skip)
       | (refine idxS (by omega) ?_; intro b_ hb_; have hl_ := b_.toNat_lt)
       | refine wrA (by omega) ?_
       | refine wrS (by omega) (by omega) ?_
       | refine wrI (by omega) (by omega) ?_
       | refine wrBA (by omega) ?_
       | refine wrB (by omega) (by omega) ?_
       | refine strC (by omega) ?_
       | refine nilB rfl ?_))
      refine ⟨j + n, op', _, hP', by omega, ?_, rfl, rfl, rfl⟩
      rw [hsn]; rfl)
 ·rw [if_neg hlt] at hP
  by_cases hfull : 2000 ≤ l.length
  ·rw [if_pos hfull] at hP
   subst hP
   rcases l with _ | ⟨t0, l⟩
   ·simp at hfull
   have hml : ((t0 :: l).map tokD).length = (t0 :: l).length := by simp
   (repeat' (first| (intro (u_ : Unit); clear u_)| refine condT ?_| refine condF ?_| refine condp (by assumption) ?_| refine condn (by assumption) ?_| refine condN ?_| refine idxSb (by assumption) ?_| refine callE_ev (hsk _) ?_| (refine condD ?_ ?_ <;> intro hq_ <;> first | (exfalso; omega) | skip)| (refine idxS (by omega) ?_; intro b_ hb_; have hl_ := b_.toNat_lt)| refine wrA (by omega) ?_| refine wrS (by omega) (by omega) ?_| refine wrI (by omega) (by omega) ?_| refine wrBA (by omega) ?_| refine wrB (by omega) (by omega) ?_| refine strC (by omega) ?_| refine nilB rfl ?_))
   exact ⟨rfl, rfl⟩
  ·rw [if_neg hfull] at hP
   subst hP
   have hml : (l.map tokD).length = l.length := by simp
   have hsz := sizesT l
   rcases l with _ | ⟨t0, l⟩
   ·(repeat' (first
     | (intro (u_ : Unit); clear u_)
     | refine condT ?_
     | refine condF ?_
     | refine condp (by assumption) ?_
     | refine condn (by assumption) ?_
     | refine condN ?_
     | refine idxSb (by assumption) ?_
     | refine callE_ev (hsk _) ?_
     | refine appN1 (by simp) rfl ?_
     | (refine condD ?_ ?_ <;> intro hq_ <;> first | (exfalso; omega) | skip)
     | (refine idxS (by omega) ?_; intro b_ hb_; have hl_ := b_.toNat_lt)
     | refine wrA (by omega) ?_
     | refine wrS (by omega) (by omega) ?_
     | refine wrI (by omega) (by omega) ?_
     | refine wrBA (by omega) ?_
     | refine wrB (by omega) (by omega) ?_
     | refine strC (by omega) ?_
     | refine nilB rfl ?_))
    exact ⟨rfl, rfl⟩
   ·(repeat' (first
     | (intro (u_ : Unit); clear u_)
     | refine condT ?_
     | refine condF ?_
     | refine condp (by assumption) ?_
     | refine condn (by assumption) ?_
     | refine condN ?_
     | refine idxSb (by assumption) ?_
     | refine callE_ev (hsk _) ?_
     | refine appL (by rw [hml]; simp only [List.length_cons, List.length_nil] at *; omega) hsz rfl ?_
     | (refine condD ?_ ?_ <;> intro hq_ <;> first | (exfalso; omega) | skip)
     | (refine idxS (by omega) ?_; intro b_ hb_; have hl_ := b_.toNat_lt)
     | refine wrA (by omega) ?_
     | refine wrS (by omega) (by omega) ?_
     | refine wrI (by omega) (by omega) ?_
     | refine wrBA (by omega) ?_
     | refine wrB (by omega) (by omega) ?_
     | refine strC (by omega) ?_
     | refine nilB rfl ?_))
    refine ⟨?_, rfl⟩
    simp [toksA, tokD]
end Go.Ab.R15z
namespace Go.Ab.R15z
set_option maxRecDepth 100000
set_option linter.all false
set_option maxHeartbeats 4000000
variable {T : Tb} [hS : ScanB T]
section
variable {s : List UInt8} {a : Nat} {n : Int} {c : UInt8 → Prop}
theorem idxDr (i : Nat) (hn : n = ((a + i : Nat) : Int)) (h1 : a + i < s.length) (h : ∀ b, (s.drop a)[i]? = some b → c b) : IdxS s n c := by
 subst hn
 refine idxS h1 fun b hb => h b ?_
 rw [List.getElem?_drop]; exact hb
theorem idxDb {b : UInt8} (i : Nat) (hn : n = ((a + i : Nat) : Int)) (h1 : (s.drop a)[i]? = some b) (h : c b) : IdxS s n c := by
 subst hn
 rw [List.getElem?_drop] at h1
 exact idxSb h1 h
theorem runA_drop {p : UInt8 → Bool} {j : Nat} : runA p s (a + j) = runA p (s.drop a) j := by unfold runA; rw [List.drop_drop]
theorem slice_at {j : Nat} : (s.take (a + j)).drop a = (s.drop a).take j := by rw [List.drop_take, Nat.add_sub_cancel_left]
theorem slice_at1 {j : Nat} : (s.take (a + j)).drop (a + 1) = ((s.drop a).take j).drop 1 := by rw [← slice_at, List.drop_drop]
end
theorem subBq {l : List UInt8} {x y : Int} {i j : Nat} {c : List UInt8 → Prop} (hx : x = i) (hy : y = j) (h1 : i ≤ j) (h2 : j ≤ l.length) (h : c ((l.take j).drop i)) : SubE l (some x) (some y) c := by subst hx; subst hy; exact subBo h1 h2 h
def oneA (a : Nat) : Nx → AV
 | .over => .tup [.agg (tokC tok0), i64 (0 : Nat), i64 (3 : Nat)]
 | .bad _ => .tup [.agg (tokC tok0), i64 (0 : Nat), i64 (9 : Nat)]
 | .ok t n => .tup [.agg (tokC t), i64 (a + n : Nat), i64 (0 : Nat)]
theorem figures_ev (s : List UInt8) (a : Nat) (ha : a ≤ s.length) (hs : s.length ≤ 2 ^ 40) (rf : Refs) : Ev T f_ref15_figures [str s, i64 a] rf (.ret (i64 (runA fig s a))) rf := by
 refine Ev.any ?_ rfl rf
 generalize hR : runA fig s a = R
 refine ev_fn rfl rfl ?_
 (repeat' (first| (intro (u_ : Unit); clear u_)| refine condT ?_| refine condF ?_| refine condp (by assumption) ?_| refine condn (by assumption) ?_| refine condN ?_| refine idxSb (by assumption) ?_| (refine condD ?_ ?_ <;> intro hq_ <;> first | (exfalso; omega) | skip)| (refine idxS (by omega) ?_; intro b_ hb_; have hl_ := b_.toNat_lt)| refine wrA (by omega) ?_| refine wrS (by omega) (by omega) ?_| refine wrI (by omega) (by omega) ?_| refine wrBA (by omega) ?_| refine wrB (by omega) (by omega) ?_| refine strC (by omega) ?_| refine nilB rfl ?_))
 refine loopR (fun i : Nat => [(5, i64 i)]) (fun _ => []) (fun i => s.length - (a + i)) (fun i => a + i ≤ s.length ∧ i + runA fig s (a + i) = R) 0 ⟨by omega, by simpa using hR⟩ (by rfl) (by rfl) ?_
 rintro i ⟨hi, hP⟩
 by_cases hlt : a + i < s.length
 ·obtain ⟨c, hc⟩ := getS hlt
  (repeat' (first| (intro (u_ : Unit); clear u_)| refine condT ?_| refine condF ?_| refine condp (by assumption) ?_| refine condn (by assumption) ?_| refine condN ?_| refine idxSb (by assumption) ?_| refine idxSi (a + i) (by omega) hlt ?_ <;> (intro b_ hb_; have hl_ := b_.toNat_lt)| (refine condD ?_ ?_ <;> intro hq_ <;> first | (exfalso; omega) | skip)| (refine idxS (by omega) ?_; intro b_ hb_; have hl_ := b_.toNat_lt)| refine wrA (by omega) ?_| refine wrS (by omega) (by omega) ?_| refine wrI (by omega) (by omega) ?_| refine wrBA (by omega) ?_| refine wrB (by omega) (by omega) ?_| refine strC (by omega) ?_| refine nilB rfl ?_))
  all_goals first
   | (rw [runA_go (by assumption) (fig_t (by omega) (by omega))] at hP; exact ⟨i + 1, ⟨by omega, by rw [← Nat.add_assoc]; omega⟩, by omega, rfl, rfl, rfl, rfl⟩)
   | (rw [runA_no (by assumption) (fig_f (by omega))] at hP; subst hP; exact ⟨rfl, rfl⟩)
 ·rw [runA_end (by omega)] at hP
  subst hP
  (repeat' (first| (intro (u_ : Unit); clear u_)| refine condT ?_| refine condF ?_| refine condp (by assumption) ?_| refine condn (by assumption) ?_| refine condN ?_| refine idxSb (by assumption) ?_| (refine condD ?_ ?_ <;> intro hq_ <;> first | (exfalso; omega) | skip)| (refine idxS (by omega) ?_; intro b_ hb_; have hl_ := b_.toNat_lt)| refine wrA (by omega) ?_| refine wrS (by omega) (by omega) ?_| refine wrI (by omega) (by omega) ?_| refine wrBA (by omega) ?_| refine wrB (by omega) (by omega) ?_| refine strC (by omega) ?_| refine nilB rfl ?_))
  exact ⟨rfl, rfl⟩
theorem number2_ev (s : List UInt8) (a : Nat) (ha : a ≤ s.length) (hs : s.length ≤ 2 ^ 30) (rf : Refs) : Ev T f_ref15_number [str s, i64 a] rf (.ret (oneA a (numberM (s.drop a)))) rf := by
 refine Ev.any ?_ rfl rf
 have hl0 : (s.drop a).length = s.length - a := List.length_drop
 have hr := runA_le (p := fig) (s := s.drop a) (Nat.zero_le _)
 have hr2 : runA fig (s.drop a) 0 + 1 ≤ (s.drop a).length → _ := runA_le (p := fig) (s := s.drop a) (i := runA fig (s.drop a) 0 + 1)
 have hl := numLen_le (s := s.drop a)
 have e0 := runA_drop (p := fig) (s := s) (a := a) (j := 0)
 have e1 := runA_drop (p := fig) (s := s) (a := a) (j := runA fig (s.drop a) 0 + 1)
 have f0 := figures_ev (T := T) s a ha (by omega)
 have f1 := fun h => figures_ev (T := T) s (a + (runA fig (s.drop a) 0 + 1)) h (by omega)
 rw [Nat.add_zero] at e0
 rw [e0] at f0
 rw [e1] at f1
 have hsl := slice_at (s := s) (a := a) (j := numLen (s.drop a))
 have hd1 := decRead2_ev (T := T) ((s.drop a).take (numLen (s.drop a))) (by rw [List.length_take]; omega)
 rw [← hsl] at hd1
 have n1 := @nl_two (s.drop a)
 have n2 := @nl_far (s.drop a)
 have n3 := @nl_dot (s.drop a)
 have n4 := @nl_fig (s.drop a)
 unfold numberM
 rw [← hsl]
 clear hsl e0 e1
 generalize decM ((s.take (a + numLen (s.drop a))).drop a) = N at *
 have g1 : runA fig (s.drop a) 0 + 1 < (s.drop a).length → ∃ d, (s.drop a)[runA fig (s.drop a) 0 + 1]? = some d := fun h => getS h
 have z1 : ∀ d, (s.drop a)[runA fig (s.drop a) 0 + 1]? = some d → (fig d = true ↔ 0 < runA fig (s.drop a) (runA fig (s.drop a) 0 + 1)) := fun d hd => by
  cases h : fig d
  ·rw [runA_no hd h]; simp
  ·rw [runA_go hd h]; simp
 have z2 : (s.drop a).length ≤ runA fig (s.drop a) 0 + 1 → runA fig (s.drop a) (runA fig (s.drop a) 0 + 1) = 0 := fun h => runA_end h
 have key : numLen (s.drop a) = if ∃ c, (s.drop a)[runA fig (s.drop a) 0]? = some c ∧ c.toNat = 46 ∧ 0 < runA fig (s.drop a) (runA fig (s.drop a) 0 + 1) then runA fig (s.drop a) 0 + 1 + runA fig (s.drop a) (runA fig (s.drop a) 0 + 1) else runA fig (s.drop a) 0 := by
  by_cases h1 : runA fig (s.drop a) 0 + 1 < (s.drop a).length
  ·obtain ⟨d, hd⟩ := g1 h1
   obtain ⟨c, hc⟩ := getS (s := s.drop a) (m := runA fig (s.drop a) 0) (by omega)
   by_cases h2 : c.toNat = 46
   ·cases h3 : fig d
    ·rw [n4 hd h3, if_neg (fun ⟨c', _, _, h⟩ => by have := (z1 d hd).2 h; rw [h3] at this; cases this)]
    ·rw [n1 hc h2 hd h3, if_pos ⟨c, hc, h2, (z1 d hd).1 h3⟩]
   ·rw [n3 hc h2, if_neg (fun ⟨c', hc', h, _⟩ => by rw [hc] at hc'; cases hc'; exact h2 h)]
  ·rw [n2 (by omega), if_neg (fun ⟨c', _, _, h⟩ => by have := z2 (by omega); omega)]
 clear n1 n2 n3 n4 g1 z1 z2
 generalize hA : runA fig (s.drop a) 0 = A at *
 generalize hB : runA fig (s.drop a) (A + 1) = B at *
 generalize hL : numLen (s.drop a) = L at *
 by_cases hc : ∃ c, (s.drop a)[A]? = some c ∧ c.toNat = 46
 ·obtain ⟨c, hc, h46⟩ := hc
  have hcl := (List.getElem?_eq_some_iff.1 hc).1
  have f1 := f1 (by omega)
  by_cases hB0 : 0 < B
  ·rw [if_pos ⟨c, hc, h46, hB0⟩] at key
   subst key
   cases N <;>
   (refine ev_fn rfl rfl ?_
    (repeat' (first| (intro (u_ : Unit); clear u_)| refine condT ?_| refine condF ?_| refine condp (by assumption) ?_| refine condn (by assumption) ?_| refine condN ?_| refine idxSb (by assumption) ?_| refine callE_ev (f0 _) ?_| refine idxDb (a := a) A (by omega) hc ?_| refine callE_ev (f1 _) ?_| (refine subBq (i := a) (j := a + (A + 1 + B)) (by omega) (by omega) (by omega) (by omega) ?_)| refine callE_ev (hd1 _) ?_| (refine condD ?_ ?_ <;> intro hq_ <;> first | (exfalso; omega) | skip)| (refine idxS (by omega) ?_; intro b_ hb_; have hl_ := b_.toNat_lt)| refine wrA (by omega) ?_| refine wrS (by omega) (by omega) ?_| refine wrI (by omega) (by omega) ?_| refine wrBA (by omega) ?_| refine wrB (by omega) (by omega) ?_| refine strC (by omega) ?_| refine nilB rfl ?_))
    all_goals first | exact ⟨rfl, rfl⟩ | (refine ⟨?_, rfl⟩; rw [show a + A + 1 + B = a + (A + 1 + B) by omega]; rfl))
  ·rw [if_neg (fun ⟨_, _, _, h⟩ => hB0 h)] at key
   subst key
   cases N <;>
   (refine ev_fn rfl rfl ?_
    (repeat' (first| (intro (u_ : Unit); clear u_)| refine condT ?_| refine condF ?_| refine condp (by assumption) ?_| refine condn (by assumption) ?_| refine condN ?_| refine idxSb (by assumption) ?_| refine callE_ev (f0 _) ?_| refine idxDb (a := a) L (by omega) hc ?_| refine callE_ev (f1 _) ?_| (refine subBq (i := a) (j := a + L) (by omega) (by omega) (by omega) (by omega) ?_)| refine callE_ev (hd1 _) ?_| (refine condD ?_ ?_ <;> intro hq_ <;> first | (exfalso; omega) | skip)| (refine idxS (by omega) ?_; intro b_ hb_; have hl_ := b_.toNat_lt)| refine wrA (by omega) ?_| refine wrS (by omega) (by omega) ?_| refine wrI (by omega) (by omega) ?_| refine wrBA (by omega) ?_| refine wrB (by omega) (by omega) ?_| refine strC (by omega) ?_| refine nilB rfl ?_))
    all_goals exact ⟨rfl, rfl⟩)
 ·rw [if_neg (fun ⟨c, h1, h2, _⟩ => hc ⟨c, h1, h2⟩)] at key
  subst key
  have hno : ∀ c, (s.drop a)[L]? = some c → c.toNat ≠ 46 := fun c h1 h2 => hc ⟨c, h1, h2⟩
  cases N <;>
  (refine ev_fn rfl rfl ?_
   (repeat' (first| (intro (u_ : Unit); clear u_)| refine condT ?_| refine condF ?_| refine condp (by assumption) ?_| refine condn (by assumption) ?_| refine condN ?_| refine idxSb (by assumption) ?_| refine callE_ev (f0 _) ?_| (refine idxDr (a := a) L (by omega) (by omega) ?_; intro b_ hb_; have hl_ := b_.toNat_lt; have hz_ := hno _ hb_)| (refine subBq (i := a) (j := a + L) (by omega) (by omega) (by omega) (by omega) ?_)| refine callE_ev (hd1 _) ?_| (refine condD ?_ ?_ <;> intro hq_ <;> first | (exfalso; omega) | skip)| (refine idxS (by omega) ?_; intro b_ hb_; have hl_ := b_.toNat_lt)| refine wrA (by omega) ?_| refine wrS (by omega) (by omega) ?_| refine wrI (by omega) (by omega) ?_| refine wrBA (by omega) ?_| refine wrB (by omega) (by omega) ?_| refine strC (by omega) ?_| refine nilB rfl ?_))
   all_goals exact ⟨rfl, rfl⟩)
end Go.Ab.R15z
namespace Go.Ab.R15z
set_option maxRecDepth 100000
set_option linter.all false
set_option maxHeartbeats 4000000
variable {T : Tb} [hS : ScanB T]
theorem digit_neg {c : Nat} (h : digit c < 0) : digit c = -1 := by
 unfold digit at *
 repeat' split at h
 all_goals first | omega | (repeat (first | rw [if_pos (by assumption)] | rw [if_neg (by assumption)]))
theorem rdE2 {c : UInt8} {rf : Refs} {k : Out → Refs → Prop} (h1 : ∀ m : Nat, digit c.toNat = m → m < 16 → k (.ret (i64 m)) rf) (h2 : digit c.toNat = -1 → k (.ret (i64 (-1))) rf) : CallE T f_ref01_Digit [u8 c.toNat] rf k := by
 refine callE_ev (refDigit_ev _ c.toNat_lt rf) ?_
 by_cases h : 0 ≤ digit c.toNat
 ·obtain ⟨m, hm⟩ := Int.eq_ofNat_of_zero_le h
  have := @digit_lt c.toNat
  rw [hm]; exact h1 m hm (by omega)
 ·have := digit_neg (by omega : digit c.toNat < 0)
  rw [this]; exact h2 this
theorem escM {e : UInt8} : e ∈ escS ↔ e.toNat = 34 ∨ e.toNat = 92 ∨ e.toNat = 47 := by
 simp only [escS, List.mem_cons, List.not_mem_nil, or_false, ← UInt8.toNat_inj]; rfl
theorem wrM16 {a : Nat} {c : Int → Prop} (h1 : a < 16) (h : c ((16 * a : Nat) : Int)) : WrE .i64 (((16 : Nat) : Int) * (a : Int)) c := wrM (by omega) h
theorem text2_ev (s : List UInt8) (a : Nat) (ha : a ≤ s.length) (hs : s.length ≤ 2 ^ 30) (rf : Refs) : Ev T f_ref15_text [str s, i64 a] rf (.ret (oneA a (textQ (s.drop a)))) rf := by
 refine Ev.any ?_ rfl rf
 have hl0 : (s.drop a).length = s.length - a := List.length_drop
 unfold textQ
 generalize hR : textL (s.drop a) (s.drop a).length 1 [] = R
 refine ev_fn rfl rfl ?_
 (repeat' (first| (intro (u_ : Unit); clear u_)| refine condT ?_| refine condF ?_| refine condp (by assumption) ?_| refine condn (by assumption) ?_| refine condN ?_| refine idxSb (by assumption) ?_| (refine condD ?_ ?_ <;> intro hq_ <;> first | (exfalso; omega) | skip)| (refine idxS (by omega) ?_; intro b_ hb_; have hl_ := b_.toNat_lt)| refine wrA (by omega) ?_| refine wrS (by omega) (by omega) ?_| refine wrI (by omega) (by omega) ?_| refine wrBA (by omega) ?_| refine wrB (by omega) (by omega) ?_| refine strC (by omega) ?_| refine nilB rfl ?_))
 refine loopR2 (fun (i : Nat) o => [(7, i64 (a + i : Nat)), (8, tcB o)]) (fun _ _ => []) (fun i _ => (s.drop a).length - i) (fun i o => (o.length ≤ i ∧ 1 ≤ i) ∧ ∃ f, (s.drop a).length ≤ i + f ∧ textL (s.drop a) f i o = R) 1 [] ⟨by simp, (s.drop a).length, by omega, hR⟩ (by rfl) (by rfl) ?_
 rintro i o ⟨⟨ho, hi1⟩, f, hf, hP⟩
 by_cases hlt : i < (s.drop a).length
 ·obtain ⟨g, rfl⟩ : ∃ g, f = g + 1 := ⟨f - 1, by omega⟩
  have hsn := tcB_snoc
  rcases o with _ | ⟨o0, o⟩ <;>
  ((repeat' (first
    | (intro (u_ : Unit); clear u_)
    | refine condT ?_
    | refine condF ?_
    | refine condp (by assumption) ?_
    | refine condn (by assumption) ?_
    | refine condN ?_
    | refine idxSb (by assumption) ?_
    | refine idxDb (a := a) i (by omega) (by assumption) ?_
    | refine idxDb (a := a) (i + 1) (by omega) (by assumption) ?_
    | refine idxDb (a := a) (i + 2) (by omega) (by assumption) ?_
    | refine idxDb (a := a) (i + 3) (by omega) (by assumption) ?_
    | (refine idxDr (a := a) i (by omega) (by omega) ?_; intro b_ hb_; have hl_ := b_.toNat_lt)
    | (refine idxDr (a := a) (i + 1) (by omega) (by omega) ?_; intro b_ hb_; have hl_ := b_.toNat_lt)
    | (refine idxDr (a := a) (i + 2) (by omega) (by omega) ?_; intro b_ hb_; have hl_ := b_.toNat_lt)
    | (refine idxDr (a := a) (i + 3) (by omega) (by omega) ?_; intro b_ hb_; have hl_ := b_.toNat_lt)
    | (refine rdE2 ?_ ?_ <;> first | (intro m_ hd_ hdl_; skip) | intro hd_)
    | refine wrM16 (by omega) ?_
    | refine appN1 (by simp) rfl ?_
    | refine appL (by simp only [bytesOf, List.length_map, List.length_cons, List.length_nil] at *; omega) (sizesB_bytesOf _) rfl ?_
    | refine strB (l := []) rfl ?_
    | refine strB (strOf_bytesOf _) ?_
    | (refine condD ?_ ?_ <;> intro hq_ <;> first | (exfalso; omega) | skip)
    | (refine idxS (by omega) ?_; intro b_ hb_; have hl_ := b_.toNat_lt)
    | refine wrA (by omega) ?_
    | refine wrS (by omega) (by omega) ?_
    | refine wrI (by omega) (by omega) ?_
    | refine wrBA (by omega) ?_
    | refine wrB (by omega) (by omega) ?_
    | refine strC (by omega) ?_
    | refine nilB rfl ?_))
   all_goals first
    | (rw [tl_end (by assumption) (by omega)] at hP; subst hP; exact ⟨rfl, rfl⟩)
    | (rw [tl_nl (by assumption) (by omega)] at hP; subst hP; exact ⟨rfl, rfl⟩)
    | (rw [tl_short (by assumption) (by omega) (by omega)] at hP; subst hP; exact ⟨rfl, rfl⟩)
    | (rw [tl_plain (by assumption) (by omega) (by omega) (by omega)] at hP; refine ⟨i + 1, _, ⟨⟨by simp only [List.length_append, List.length_cons, List.length_nil] at ho ⊢; omega, by omega⟩, g, by omega, hP⟩, by omega, ?_, rfl, rfl, rfl⟩)
    | (rw [tl_esc (by assumption) (by omega) (by assumption) (escM.2 (by omega))] at hP; refine ⟨i + 2, _, ⟨⟨by simp only [List.length_append, List.length_cons, List.length_nil] at ho ⊢; omega, by omega⟩, g, by omega, hP⟩, by omega, ?_, rfl, rfl, rfl⟩)
    | (rw [tl_form (by assumption) (by omega) (by assumption) (fun h => by have := escM.1 h; omega) (.inl (by omega))] at hP; subst hP; exact ⟨rfl, rfl⟩)
    | (rw [tl_form (by assumption) (by omega) (by assumption) (fun h => by have := escM.1 h; omega) (.inr (.inl (by omega)))] at hP; subst hP; exact ⟨rfl, rfl⟩)
    | (rw [tl_form (by assumption) (by omega) (by assumption) (fun h => by have := escM.1 h; omega) (.inr (.inr (.inl ⟨_, by assumption, by omega⟩)))] at hP; subst hP; exact ⟨rfl, rfl⟩)
    | (rw [tl_form (by assumption) (by omega) (by assumption) (fun h => by have := escM.1 h; omega) (.inr (.inr (.inr ⟨_, by assumption, by omega⟩)))] at hP; subst hP; exact ⟨rfl, rfl⟩)
    | (rw [tl_hex (by assumption) (by omega) (by assumption) (fun h => by have := escM.1 h; omega) (by omega) (by assumption) (by assumption) (by assumption) (by assumption), if_pos (by omega)] at hP; subst hP; exact ⟨rfl, rfl⟩)
    | (rw [tl_hex (by assumption) (by omega) (by assumption) (fun h => by have := escM.1 h; omega) (by omega) (by assumption) (by assumption) (by assumption) (by assumption), if_neg (by omega)] at hP; refine ⟨i + 4, _, ⟨⟨by simp only [List.length_append, List.length_cons, List.length_nil] at ho ⊢; omega, by omega⟩, g, by omega, hP⟩, by omega, ?_, rfl, rfl, rfl⟩)
    | skip
   all_goals (first | (rw [hsn, toNat_ofNat_u8 (by omega)]; rfl) | (rw [hsn]; rfl) | skip))
 ·rw [tl_none (by omega)] at hP
  subst hP
  rcases o with _ | ⟨o0, o⟩ <;>
  ((repeat' (first
    | (intro (u_ : Unit); clear u_)
    | refine condT ?_
    | refine condF ?_
    | refine condp (by assumption) ?_
    | refine condn (by assumption) ?_
    | refine condN ?_
    | refine idxSb (by assumption) ?_
    | (refine condD ?_ ?_ <;> intro hq_ <;> first | (exfalso; omega) | skip)
    | (refine idxS (by omega) ?_; intro b_ hb_; have hl_ := b_.toNat_lt)
    | refine wrA (by omega) ?_
    | refine wrS (by omega) (by omega) ?_
    | refine wrI (by omega) (by omega) ?_
    | refine wrBA (by omega) ?_
    | refine wrB (by omega) (by omega) ?_
    | refine strC (by omega) ?_
    | refine nilB rfl ?_))
   exact ⟨rfl, rfl⟩)
theorem rdE5 {s : List UInt8} {rf : Refs} {k : Out → Refs → Prop} (hs : s.length ≤ 2 ^ 30) (h0 : ∀ e, parse s = .error e → e ≠ 0 → k (.ret (.tup [lst [], i64 e])) rf) (h1 : ∀ t, parse s = .ok t → k (.ret (.tup [lst (t.map reD), i64 (0 : Nat)])) rf) : CallE T f_ref05_Read [str s] rf k := by
 refine callE_ev (pRd_ev s hs rf) ?_
 cases h : parse s with
 | error e => exact h0 e h (err_nz1 h)
 | ok t => exact h1 t h
theorem expression2_ev (s : List UInt8) (a : Nat) (ha : a ≤ s.length) (hs : s.length ≤ 2 ^ 30) (rf : Refs) : Ev T f_ref15_expression [str s, i64 a] rf (.ret (oneA a (exprM (s.drop a)))) rf := by
 refine Ev.any ?_ rfl rf
 have hl0 : (s.drop a).length = s.length - a := List.length_drop
 unfold exprM
 generalize hR : exprL (s.drop a) (s.drop a).length 1 = R
 refine ev_fn rfl rfl ?_
 (repeat' (first| (intro (u_ : Unit); clear u_)| refine condT ?_| refine condF ?_| refine condp (by assumption) ?_| refine condn (by assumption) ?_| refine condN ?_| refine idxSb (by assumption) ?_| (refine condD ?_ ?_ <;> intro hq_ <;> first | (exfalso; omega) | skip)| (refine idxS (by omega) ?_; intro b_ hb_; have hl_ := b_.toNat_lt)| refine wrA (by omega) ?_| refine wrS (by omega) (by omega) ?_| refine wrI (by omega) (by omega) ?_| refine wrBA (by omega) ?_| refine wrB (by omega) (by omega) ?_| refine strC (by omega) ?_| refine nilB rfl ?_))
 refine loopR (fun i : Nat => [(7, i64 (a + i : Nat))]) (fun _ => []) (fun i => (s.drop a).length - i) (fun i => 1 ≤ i ∧ ∃ f, (s.drop a).length ≤ i + f ∧ exprL (s.drop a) f i = R) 1 ⟨by omega, (s.drop a).length, by omega, hR⟩ (by rfl) (by rfl) ?_
 rintro i ⟨hi1, f, hf, hP⟩
 by_cases hlt : i < (s.drop a).length
 ·obtain ⟨g, rfl⟩ : ∃ g, f = g + 1 := ⟨f - 1, by omega⟩
  have hsl := slice_at1 (s := s) (a := a) (j := i)
  (repeat' (first| (intro (u_ : Unit); clear u_)| refine condT ?_| refine condF ?_| refine condp (by assumption) ?_| refine condn (by assumption) ?_| refine condN ?_| refine idxSb (by assumption) ?_| refine idxDb (a := a) i (by omega) (by assumption) ?_| refine idxDb (a := a) (i + 1) (by omega) (by assumption) ?_| (refine idxDr (a := a) i (by omega) (by omega) ?_; intro b_ hb_; have hl_ := b_.toNat_lt)| (refine idxDr (a := a) (i + 1) (by omega) (by omega) ?_; intro b_ hb_; have hl_ := b_.toNat_lt)| (refine subBq (i := a + 1) (j := a + i) (by omega) (by omega) (by omega) (by omega) ?_; rw [hsl])| (refine rdE5 (by rw [List.length_drop, List.length_take]; omega) (fun e_ hp_ he_ => ?_) (fun t_ hp_ => ?_))| (refine condD ?_ ?_ <;> intro hq_ <;> first | (exfalso; omega) | skip)| (refine idxS (by omega) ?_; intro b_ hb_; have hl_ := b_.toNat_lt)| refine wrA (by omega) ?_| refine wrS (by omega) (by omega) ?_| refine wrI (by omega) (by omega) ?_| refine wrBA (by omega) ?_| refine wrB (by omega) (by omega) ?_| refine strC (by omega) ?_| refine nilB rfl ?_))
  all_goals first
   | (rw [el_nl (by assumption) (by omega)] at hP; subst hP; exact ⟨rfl, rfl⟩)
   | (rw [el_plain (by assumption) (by omega) (by omega) (by omega)] at hP; exact ⟨i + 1, ⟨by omega, g, by omega, hP⟩, by omega, rfl, rfl, rfl, rfl⟩)
   | (rw [el_bad (by assumption) (by omega) (hitT (by assumption) (by omega))] at hP; subst hP; exact ⟨rfl, rfl⟩)
   | (rw [el_esc (by assumption) (by omega) (hitF (by assumption) (by omega))] at hP; exact ⟨i + 2, ⟨by omega, g, by omega, hP⟩, by omega, rfl, rfl, rfl, rfl⟩)
   | (rw [el_esc (by assumption) (by omega) (hit_none (by omega))] at hP; exact ⟨i + 2, ⟨by omega, g, by omega, hP⟩, by omega, rfl, rfl, rfl, rfl⟩)
   | (rw [el_end (by assumption) (by omega)] at hP; subst hP; simp only; rw [hp_]; exact ⟨rfl, rfl⟩)
   | skip
 ·rw [el_none (by omega)] at hP
  subst hP
  (repeat' (first| (intro (u_ : Unit); clear u_)| refine condT ?_| refine condF ?_| refine condp (by assumption) ?_| refine condn (by assumption) ?_| refine condN ?_| refine idxSb (by assumption) ?_| (refine condD ?_ ?_ <;> intro hq_ <;> first | (exfalso; omega) | skip)| (refine idxS (by omega) ?_; intro b_ hb_; have hl_ := b_.toNat_lt)| refine wrA (by omega) ?_| refine wrS (by omega) (by omega) ?_| refine wrI (by omega) (by omega) ?_| refine wrBA (by omega) ?_| refine wrB (by omega) (by omega) ?_| refine strC (by omega) ?_| refine nilB rfl ?_))
  exact ⟨rfl, rfl⟩
end Go.Ab.R15z
namespace Go.Ab.R15z
set_option maxRecDepth 100000
set_option linter.all false
set_option maxHeartbeats 4000000
variable {T : Tb} [hS : ScanB T]
/-! names -/
theorem nameM_take1 {c : UInt8} {l : List UInt8} : nameM ((c :: l).take 1) = letter c := by simp [nameM]
theorem nameM_snoc {s : List UInt8} {i : Nat} {c : UInt8} (h1 : 1 ≤ i) (hn : nameM (s.take i) = true) (hc : s[i]? = some c) : nameM (s.take (i + 1)) = nameB c := by
 rcases s with _ | ⟨x, l⟩
 ·simp at hc
 obtain ⟨m, rfl⟩ : ∃ m, i = m + 1 := ⟨i - 1, by omega⟩
 simp only [List.getElem?_cons_succ] at hc
 simp only [List.take_succ_cons, nameM, Bool.and_eq_true] at hn ⊢
 rw [List.take_add_one, hc, hn.1]
 simp [hn.2]
theorem nameM_pre {s : List UInt8} {i : Nat} (h1 : 1 ≤ i) (hn : nameM s = true) : nameM (s.take i) = true := by
 rcases s with _ | ⟨x, l⟩
 ·simp [nameM] at hn
 obtain ⟨m, rfl⟩ : ∃ m, i = m + 1 := ⟨i - 1, by omega⟩
 simp only [List.take_succ_cons, nameM, Bool.and_eq_true] at hn ⊢
 refine ⟨hn.1, ?_⟩
 rw [List.all_eq_true] at hn ⊢
 exact fun x hx => hn.2 x (List.mem_of_mem_take hx)
theorem nameM_no {s : List UInt8} {i : Nat} {c : UInt8} (hc : s[i]? = some c) (hp : i = 0 ∨ nameM (s.take i) = true) (h0 : i = 0 → letter c = false) (h1 : i ≠ 0 → nameB c = false) : nameM s = false := by
 cases h : nameM s
 ·rfl
 exfalso
 have hl := (List.getElem?_eq_some_iff.1 hc).1
 by_cases hz : i = 0
 ·subst hz
  rcases s with _ | ⟨x, l⟩
  ·simp at hc
  simp only [List.getElem?_cons_zero, Option.some.injEq] at hc
  subst hc
  simp only [nameM, Bool.and_eq_true] at h
  rw [h0 rfl] at h; cases h.1
 ·have h2 := nameM_pre (s := s) (i := i + 1) (by omega) h
  have h3 := hp.resolve_left hz
  rw [nameM_snoc (by omega) h3 hc, h1 hz] at h2
  cases h2
theorem rIsName_ev (s : List UInt8) (hs : s.length ≤ 2 ^ 40) (rf : Refs) : Ev T f_ref01_IsName [str s] rf (.ret (bl (nameM s))) rf := by
 refine Ev.any ?_ rfl rf
 refine ev_fn rfl rfl ?_
 (repeat' (first| (intro (u_ : Unit); clear u_)| refine condT ?_| refine condF ?_| refine condp (by assumption) ?_| refine condn (by assumption) ?_| refine condN ?_| refine idxSb (by assumption) ?_| (refine condD ?_ ?_ <;> intro hq_ <;> first | (exfalso; omega) | skip)| (refine idxS (by omega) ?_; intro b_ hb_; have hl_ := b_.toNat_lt)| refine wrA (by omega) ?_| refine wrS (by omega) (by omega) ?_| refine wrI (by omega) (by omega) ?_| refine wrBA (by omega) ?_| refine wrB (by omega) (by omega) ?_| refine strC (by omega) ?_| refine nilB rfl ?_))
 refine loopR (fun i : Nat => [(3, i64 i)]) (fun _ => []) (fun i => s.length - i) (fun i => i ≤ s.length ∧ (i = 0 ∨ nameM (s.take i) = true)) 0 ⟨by omega, .inl rfl⟩ (by rfl) (by rfl) ?_
 rintro i ⟨hi, hP⟩
 by_cases hlt : i < s.length
 ·obtain ⟨c, hc⟩ := getS hlt
  have hno := nameM_no hc hP
  have hyes : (i = 0 → letter c = true) → (i ≠ 0 → nameB c = true) → nameM (s.take (i + 1)) = true := fun h0 h1 => by
   by_cases hz : i = 0
   ·subst hz
    rcases s with _ | ⟨x, l⟩
    ·simp at hc
    simp only [List.getElem?_cons_zero, Option.some.injEq] at hc
    subst hc
    rw [nameM_take1]; exact h0 rfl
   ·rw [nameM_snoc (by omega) (hP.resolve_left hz) hc]; exact h1 hz
  have lc : letter c = true ↔ ((65 ≤ c.toNat ∧ c.toNat ≤ 90) ∨ (97 ≤ c.toNat ∧ c.toNat ≤ 122) ∨ c.toNat = 95) := by simp [letter]; omega
  have nc : nameB c = true ↔ ((65 ≤ c.toNat ∧ c.toNat ≤ 90) ∨ (97 ≤ c.toNat ∧ c.toNat ≤ 122) ∨ c.toNat = 95 ∨ (48 ≤ c.toNat ∧ c.toNat ≤ 57)) := by simp [nameB, letter, fig]; omega
  have lf : letter c = false ↔ ¬ ((65 ≤ c.toNat ∧ c.toNat ≤ 90) ∨ (97 ≤ c.toNat ∧ c.toNat ≤ 122) ∨ c.toNat = 95) := by rw [← lc]; simp
  have nf : nameB c = false ↔ ¬ ((65 ≤ c.toNat ∧ c.toNat ≤ 90) ∨ (97 ≤ c.toNat ∧ c.toNat ≤ 122) ∨ c.toNat = 95 ∨ (48 ≤ c.toNat ∧ c.toNat ≤ 57)) := by rw [← nc]; simp
  have hcl := c.toNat_lt
  clear hP
  (repeat' (first| (intro (u_ : Unit); clear u_)| refine condT ?_| refine condF ?_| refine condp (by assumption) ?_| refine condn (by assumption) ?_| refine condN ?_| refine idxSb (by assumption) ?_| (refine condD ?_ ?_ <;> intro hq_ <;> first | (exfalso; omega) | skip)| (refine idxS (by omega) ?_; intro b_ hb_; have hl_ := b_.toNat_lt)| refine wrA (by omega) ?_| refine wrS (by omega) (by omega) ?_| refine wrI (by omega) (by omega) ?_| refine wrBA (by omega) ?_| refine wrB (by omega) (by omega) ?_| refine strC (by omega) ?_| refine nilB rfl ?_))
  all_goals first
   | exact ⟨i + 1, ⟨by omega, .inr (hyes (fun h => lc.2 (by omega)) (fun h => nc.2 (by omega)))⟩, by omega, rfl, rfl, rfl, rfl⟩
   | (rw [hno (fun h => lf.2 (by omega)) (fun h => nf.2 (by omega))]; exact ⟨rfl, rfl⟩)
   | skip
 ·have hi' : i = s.length := by omega
  subst hi'
  rw [List.take_of_length_le (Nat.le_refl _)] at hP
  by_cases h0 : s.length = 0
  ·have : s = [] := List.length_eq_zero_iff.1 h0
   subst this
   (repeat' (first| (intro (u_ : Unit); clear u_)| refine condT ?_| refine condF ?_| refine condp (by assumption) ?_| refine condn (by assumption) ?_| refine condN ?_| refine idxSb (by assumption) ?_| (refine condD ?_ ?_ <;> intro hq_ <;> first | (exfalso; omega) | skip)| (refine idxS (by omega) ?_; intro b_ hb_; have hl_ := b_.toNat_lt)| refine wrA (by omega) ?_| refine wrS (by omega) (by omega) ?_| refine wrI (by omega) (by omega) ?_| refine wrBA (by omega) ?_| refine wrB (by omega) (by omega) ?_| refine strC (by omega) ?_| refine nilB rfl ?_))
   exact ⟨rfl, rfl⟩
  ·rw [hP.resolve_left h0]
   (repeat' (first| (intro (u_ : Unit); clear u_)| refine condT ?_| refine condF ?_| refine condp (by assumption) ?_| refine condn (by assumption) ?_| refine condN ?_| refine idxSb (by assumption) ?_| (refine condD ?_ ?_ <;> intro hq_ <;> first | (exfalso; omega) | skip)| (refine idxS (by omega) ?_; intro b_ hb_; have hl_ := b_.toNat_lt)| refine wrA (by omega) ?_| refine wrS (by omega) (by omega) ?_| refine wrI (by omega) (by omega) ?_| refine wrBA (by omega) ?_| refine wrB (by omega) (by omega) ?_| refine strC (by omega) ?_| refine nilB rfl ?_))
   refine ⟨?_, rfl⟩
   rw [decide_eq_true (by omega)]
theorem among_ev (l : List (List UInt8)) (k : List UInt8) (hl : l.length ≤ 2 ^ 30) (rf : Refs) : Ev T f_ref15_among [lst (rowsS l), str k] rf (.ret (bl (decide (k ∈ l)))) rf := by
 refine Ev.any ?_ rfl rf
 have l1 := rowsS_length l
 refine ev_fn rfl rfl ?_
 (repeat' (first| (intro (u_ : Unit); clear u_)| refine condT ?_| refine condF ?_| refine condp (by assumption) ?_| refine condn (by assumption) ?_| refine condN ?_| refine idxSb (by assumption) ?_| (refine condD ?_ ?_ <;> intro hq_ <;> first | (exfalso; omega) | skip)| (refine idxS (by omega) ?_; intro b_ hb_; have hl_ := b_.toNat_lt)| refine wrA (by omega) ?_| refine wrS (by omega) (by omega) ?_| refine wrI (by omega) (by omega) ?_| refine wrBA (by omega) ?_| refine wrB (by omega) (by omega) ?_| refine strC (by omega) ?_| refine nilB rfl ?_))
 refine loopR (fun i : Nat => [(5, i64 i)]) (fun _ => []) (fun i => l.length - i) (fun i => i ≤ l.length ∧ ∀ j, j < i → l[j]? ≠ some k) 0 ⟨by omega, fun j h => by omega⟩ (by rfl) (by rfl) ?_
 rintro i ⟨hi, hP⟩
 by_cases hlt : i < l.length
 ·obtain ⟨r, hr⟩ : ∃ r, l[i]? = some r := ⟨_, List.getElem?_eq_getElem hlt⟩
  by_cases hk : r = k
  ·subst hk
   rw [decide_eq_true (List.mem_of_getElem? hr)]
   (repeat' (first| (intro (u_ : Unit); clear u_)| refine condT ?_| refine condF ?_| refine condp (by assumption) ?_| refine condn (by assumption) ?_| refine condN ?_| refine idxSb (by assumption) ?_| refine idxSt hr ?_| refine condt (decide_eq_true rfl) ?_| (refine condD ?_ ?_ <;> intro hq_ <;> first | (exfalso; omega) | skip)| (refine idxS (by omega) ?_; intro b_ hb_; have hl_ := b_.toNat_lt)| refine wrA (by omega) ?_| refine wrS (by omega) (by omega) ?_| refine wrI (by omega) (by omega) ?_| refine wrBA (by omega) ?_| refine wrB (by omega) (by omega) ?_| refine strC (by omega) ?_| refine nilB rfl ?_))
   exact ⟨rfl, rfl⟩
  ·(repeat' (first
    | (intro (u_ : Unit); clear u_)
    | refine condT ?_
    | refine condF ?_
    | refine condp (by assumption) ?_
    | refine condn (by assumption) ?_
    | refine condN ?_
    | refine idxSb (by assumption) ?_
    | refine idxSt hr ?_
    | refine condf (decide_eq_false hk) ?_
    | (refine condD ?_ ?_ <;> intro hq_ <;> first | (exfalso; omega) | skip)
    | (refine idxS (by omega) ?_; intro b_ hb_; have hl_ := b_.toNat_lt)
    | refine wrA (by omega) ?_
    | refine wrS (by omega) (by omega) ?_
    | refine wrI (by omega) (by omega) ?_
    | refine wrBA (by omega) ?_
    | refine wrB (by omega) (by omega) ?_
    | refine strC (by omega) ?_
    | refine nilB rfl ?_))
   refine ⟨i + 1, ⟨by omega, fun j hj => ?_⟩, by omega, rfl, rfl, rfl, rfl⟩
   by_cases hji : j = i
   ·subst hji; rw [hr]; intro h; cases h; exact hk rfl
   ·exact hP j (by omega)
 ·have hn : k ∉ l := fun h => by
   obtain ⟨j, hj, e⟩ := List.getElem_of_mem h
   exact hP j (by omega) (by rw [List.getElem?_eq_getElem hj, e])
  rw [decide_eq_false hn]
  (repeat' (first| (intro (u_ : Unit); clear u_)| refine condT ?_| refine condF ?_| refine condp (by assumption) ?_| refine condn (by assumption) ?_| refine condN ?_| refine idxSb (by assumption) ?_| (refine condD ?_ ?_ <;> intro hq_ <;> first | (exfalso; omega) | skip)| (refine idxS (by omega) ?_; intro b_ hb_; have hl_ := b_.toNat_lt)| refine wrA (by omega) ?_| refine wrS (by omega) (by omega) ?_| refine wrI (by omega) (by omega) ?_| refine wrBA (by omega) ?_| refine wrB (by omega) (by omega) ?_| refine strC (by omega) ?_| refine nilB rfl ?_))
  exact ⟨rfl, rfl⟩
theorem rKeys_ev (rf : Refs) : Ev T f_ref15_Keys [] rf (.ret (lst (rowsS keysL))) rf := by
 refine Ev.any ?_ rfl rf
 refine ev_fn rfl rfl ?_
 (repeat' (first| (intro (u_ : Unit); clear u_)| refine condT ?_| refine condF ?_| refine condp (by assumption) ?_| refine condn (by assumption) ?_| refine condN ?_| refine idxSb (by assumption) ?_| (refine condD ?_ ?_ <;> intro hq_ <;> first | (exfalso; omega) | skip)| (refine idxS (by omega) ?_; intro b_ hb_; have hl_ := b_.toNat_lt)| refine wrA (by omega) ?_| refine wrS (by omega) (by omega) ?_| refine wrI (by omega) (by omega) ?_| refine wrBA (by omega) ?_| refine wrB (by omega) (by omega) ?_| refine strC (by omega) ?_| refine nilB rfl ?_))
 exact ⟨rfl, rfl⟩
theorem rMarks_ev (rf : Refs) : Ev T f_ref15_Marks [] rf (.ret (lst (rowsS marksL))) rf := by
 refine Ev.any ?_ rfl rf
 refine ev_fn rfl rfl ?_
 (repeat' (first| (intro (u_ : Unit); clear u_)| refine condT ?_| refine condF ?_| refine condp (by assumption) ?_| refine condn (by assumption) ?_| refine condN ?_| refine idxSb (by assumption) ?_| (refine condD ?_ ?_ <;> intro hq_ <;> first | (exfalso; omega) | skip)| (refine idxS (by omega) ?_; intro b_ hb_; have hl_ := b_.toNat_lt)| refine wrA (by omega) ?_| refine wrS (by omega) (by omega) ?_| refine wrI (by omega) (by omega) ?_| refine wrBA (by omega) ?_| refine wrB (by omega) (by omega) ?_| refine strC (by omega) ?_| refine nilB rfl ?_))
 exact ⟨rfl, rfl⟩
/-! the mark that a text begins with -/
theorem bestL_spec (s : List UInt8) : ∀ (L : List (List UInt8)) (o : List UInt8), (bestL s L o = o ∨ (bestL s L o ∈ L ∧ (bestL s L o).isPrefixOf s = true)) ∧ o.length ≤ (bestL s L o).length ∧ ∀ m ∈ L, m.isPrefixOf s = true → m.length ≤ (bestL s L o).length
 | [], o => ⟨.inl rfl, Nat.le_refl _, fun m h => by cases h⟩
 | x :: L, o => by
   simp only [bestL]
   split
   ·rename_i hx
    obtain ⟨h1, h2, h3⟩ := bestL_spec s L x
    refine ⟨?_, by omega, fun m hm hp => ?_⟩
    ·rcases h1 with h1 | ⟨h1, h4⟩
     ·rw [h1]; exact .inr ⟨by simp, hx.1⟩
     ·exact .inr ⟨by simp [h1], h4⟩
    ·rcases List.mem_cons.1 hm with rfl | hm
     ·exact h2
     ·exact h3 m hm hp
   ·rename_i hx
    obtain ⟨h1, h2, h3⟩ := bestL_spec s L o
    refine ⟨?_, h2, fun m hm hp => ?_⟩
    ·rcases h1 with h1 | ⟨h1, h4⟩
     ·exact .inl h1
     ·exact .inr ⟨by simp [h1], h4⟩
    ·rcases List.mem_cons.1 hm with rfl | hm
     ·have : ¬ o.length < m.length := fun h => hx ⟨hp, h⟩
      omega
     ·exact h3 m hm hp
theorem marks_len : ∀ m ∈ marksL, m.length = 1 ∨ m.length = 2 := by
 intro m hm
 have h1 : (marksL.all fun m => decide (m.length = 1 ∨ m.length = 2)) = true := by decide
 exact of_decide_eq_true (List.all_eq_true.1 h1 m hm)
theorem pre_len {m s : List UInt8} (h : m.isPrefixOf s = true) : m = s.take m.length := by
 rw [prefix_take] at h
 exact (of_decide_eq_true h).symm
theorem take_pre {s : List UInt8} {n : Nat} (h : n ≤ s.length) : (s.take n).isPrefixOf s = true := by
 rw [prefix_take, List.length_take, Nat.min_eq_left h]; simp
theorem mark_2 {s : List UInt8} (h : 2 ≤ s.length) (hm : s.take 2 ∈ marksL) : markM s = .ok ⟨7, 0, s.take 2, 0⟩ 2 := by
 obtain ⟨h1, h2, h3⟩ := bestL_spec s marksL []
 have h4 := h3 _ hm (take_pre h)
 rw [List.length_take, Nat.min_eq_left h] at h4
 unfold markM
 rcases h1 with h1 | ⟨h1, h5⟩
 ·rw [h1] at h4; simp at h4
 ·have hl : (bestL s marksL []).length = 2 := by have := marks_len _ h1; omega
  have he := pre_len h5
  rw [hl] at he
  simp only [he]
  rw [List.length_take, Nat.min_eq_left h, if_neg (by decide)]
theorem mark_1 {s : List UInt8} (h : 1 ≤ s.length) (hn : ¬ (2 ≤ s.length ∧ s.take 2 ∈ marksL)) (hm : s.take 1 ∈ marksL) : markM s = .ok ⟨7, 0, s.take 1, 0⟩ 1 := by
 obtain ⟨h1, h2, h3⟩ := bestL_spec s marksL []
 have h4 := h3 _ hm (take_pre h)
 rw [List.length_take, Nat.min_eq_left h] at h4
 unfold markM
 rcases h1 with h1 | ⟨h1, h5⟩
 ·rw [h1] at h4; simp at h4
 ·have he := pre_len h5
  have hl : (bestL s marksL []).length = 1 := by
   rcases marks_len _ h1 with h6 | h6
   ·exact h6
   ·exfalso
    rw [h6] at he
    have h7 := (List.isPrefixOf_iff_prefix.1 h5).length_le
    exact hn ⟨by omega, by rw [← he]; exact h1⟩
  rw [hl] at he
  simp only [he]
  rw [List.length_take, Nat.min_eq_left h, if_neg (by decide)]
theorem mark_0 {s : List UInt8} (h : 1 ≤ s.length) (hn : ¬ (2 ≤ s.length ∧ s.take 2 ∈ marksL)) (hm : s.take 1 ∉ marksL) : markM s = .bad 7 := by
 obtain ⟨h1, h2, h3⟩ := bestL_spec s marksL []
 unfold markM
 rcases h1 with h1 | ⟨h1, h5⟩
 ·simp only [h1]; rfl
 ·exfalso
  have he := pre_len h5
  rcases marks_len _ h1 with h6 | h6
  ·rw [h6] at he; exact hm (by rw [← he]; exact h1)
  ·rw [h6] at he
   have h7 := (List.isPrefixOf_iff_prefix.1 h5).length_le
   exact hn ⟨by omega, by rw [← he]; exact h1⟩
end Go.Ab.R15z
namespace Go.Ab.R15z
set_option maxRecDepth 100000
set_option linter.all false
set_option maxHeartbeats 8000000
variable {T : Tb} [hS : ScanB T]
theorem one_ev (s : List UInt8) (a : Nat) (op : Bool) (ha : a < s.length) (hs : s.length ≤ 2 ^ 30) (rf : Refs) : Ev T f_ref15_one [str s, i64 a, bl op] rf (.ret (oneA a (nextM (s.drop a) op))) rf := by
 refine Ev.any ?_ rfl rf
 have hl0 : (s.drop a).length = s.length - a := List.length_drop
 obtain ⟨c, hc⟩ := getS (s := s.drop a) (m := 0) (by omega)
 have e1 := number2_ev (T := T) s a (by omega) hs
 have e2 := text2_ev (T := T) s a (by omega) hs
 have e3 := expression2_ev (T := T) s a (by omega) hs
 have hK := rKeys_ev (T := T)
 have hM := rMarks_ev (T := T)
 have hkl : keysL.length ≤ 2 ^ 30 := by decide
 have hml : marksL.length ≤ 2 ^ 30 := by decide
 have hAk := fun x => among_ev (T := T) keysL x hkl
 have hAm := fun x => among_ev (T := T) marksL x hml
 have hcl := c.toNat_lt
 have hff := @fig_f c
 have hft := @fig_t c
 unfold nextM
 rw [hc]
 simp only
 by_cases c1 : c.toNat = 10 ∨ c.toNat = 59
 ·rw [if_pos c1]
  refine ev_fn rfl rfl ?_
  (repeat' (first| (intro (u_ : Unit); clear u_)| refine condT ?_| refine condF ?_| refine condp (by assumption) ?_| refine condn (by assumption) ?_| refine condN ?_| refine idxSb (by assumption) ?_| refine idxDb (a := a) 0 (by omega) hc ?_| (refine condD ?_ ?_ <;> intro hq_ <;> first | (exfalso; omega) | skip)| (refine idxS (by omega) ?_; intro b_ hb_; have hl_ := b_.toNat_lt)| refine wrA (by omega) ?_| refine wrS (by omega) (by omega) ?_| refine wrI (by omega) (by omega) ?_| refine wrBA (by omega) ?_| refine wrB (by omega) (by omega) ?_| refine strC (by omega) ?_| refine nilB rfl ?_))
  all_goals exact ⟨rfl, rfl⟩
 rw [if_neg c1]
 by_cases hf : 48 ≤ c.toNat ∧ c.toNat ≤ 57
 ·rw [if_pos (fig_t hf.1 hf.2)]
  generalize numberM (s.drop a) = N at *
  clear hff hft
  cases N <;>
  (refine ev_fn rfl rfl ?_
   (repeat' (first| (intro (u_ : Unit); clear u_)| refine condT ?_| refine condF ?_| refine condp (by assumption) ?_| refine condn (by assumption) ?_| refine condN ?_| refine idxSb (by assumption) ?_| refine idxDb (a := a) 0 (by omega) hc ?_| refine callE_ev (e1 _) ?_| (refine condD ?_ ?_ <;> intro hq_ <;> first | (exfalso; omega) | skip)| (refine idxS (by omega) ?_; intro b_ hb_; have hl_ := b_.toNat_lt)| refine wrA (by omega) ?_| refine wrS (by omega) (by omega) ?_| refine wrI (by omega) (by omega) ?_| refine wrBA (by omega) ?_| refine wrB (by omega) (by omega) ?_| refine strC (by omega) ?_| refine nilB rfl ?_))
   all_goals exact ⟨rfl, rfl⟩)
 rw [if_neg (by rw [fig_f (by omega)]; decide)]
 by_cases c3 : c.toNat = 34
 ·rw [if_pos c3]
  generalize textQ (s.drop a) = N at *
  cases N <;>
  (refine ev_fn rfl rfl ?_
   (repeat' (first| (intro (u_ : Unit); clear u_)| refine condT ?_| refine condF ?_| refine condp (by assumption) ?_| refine condn (by assumption) ?_| refine condN ?_| refine idxSb (by assumption) ?_| refine idxDb (a := a) 0 (by omega) hc ?_| refine callE_ev (e2 _) ?_| (refine condD ?_ ?_ <;> intro hq_ <;> first | (exfalso; omega) | skip)| (refine idxS (by omega) ?_; intro b_ hb_; have hl_ := b_.toNat_lt)| refine wrA (by omega) ?_| refine wrS (by omega) (by omega) ?_| refine wrI (by omega) (by omega) ?_| refine wrBA (by omega) ?_| refine wrB (by omega) (by omega) ?_| refine strC (by omega) ?_| refine nilB rfl ?_))
   all_goals exact ⟨rfl, rfl⟩)
 rw [if_neg c3]
 by_cases c4 : c.toNat = 47 ∧ op = false
 ·rw [if_pos c4]
  obtain ⟨c4, rfl⟩ := c4
  generalize exprM (s.drop a) = N at *
  cases N <;>
  (refine ev_fn rfl rfl ?_
   (repeat' (first| (intro (u_ : Unit); clear u_)| refine condT ?_| refine condF ?_| refine condp (by assumption) ?_| refine condn (by assumption) ?_| refine condN ?_| refine idxSb (by assumption) ?_| refine idxDb (a := a) 0 (by omega) hc ?_| refine callE_ev (e3 _) ?_| (refine condD ?_ ?_ <;> intro hq_ <;> first | (exfalso; omega) | skip)| (refine idxS (by omega) ?_; intro b_ hb_; have hl_ := b_.toNat_lt)| refine wrA (by omega) ?_| refine wrS (by omega) (by omega) ?_| refine wrI (by omega) (by omega) ?_| refine wrBA (by omega) ?_| refine wrB (by omega) (by omega) ?_| refine strC (by omega) ?_| refine nilB rfl ?_))
   all_goals exact ⟨rfl, rfl⟩)
 rw [if_neg c4]
 clear e1 e2 e3 hff hft
 have c47 : c.toNat = 47 → op = true := fun h => by
  cases op
  ·exact absurd ⟨h, rfl⟩ c4
  ·rfl
 clear c4
 have hN : ∀ k, a + k < s.length → ∀ rf, Ev T f_ref01_IsName [str ((s.take (a + (k + 1))).drop a)] rf (.ret (bl (nameM ((s.drop a).take (k + 1))))) rf := fun k hk rf => by
  rw [slice_at]
  exact rIsName_ev _ (by rw [List.length_take]; omega) rf
 cases hl : letter c
 case false =>
  rw [if_neg (by decide)]
  have hnm : nameM ((s.drop a).take 1) = false := by
   rcases hd : s.drop a with _ | ⟨x, l⟩
   ·rw [hd] at hc; cases hc
   ·rw [hd] at hc; simp only [List.getElem?_cons_zero, Option.some.injEq] at hc; subst hc; rw [nameM_take1]; exact hl
  have hN0 := hN 0 (by omega)
  rw [hnm] at hN0
  clear hN
  have hs1 := slice_at (s := s) (a := a) (j := 1)
  have hs2 := slice_at (s := s) (a := a) (j := 2)
  have hm2 := @mark_2 (s.drop a)
  have hm1 := @mark_1 (s.drop a)
  have hm0 := @mark_0 (s.drop a)
  have hA1 := hAm ((s.drop a).take 1)
  have hA2 := hAm ((s.drop a).take 2)
  clear hAm hAk hK
  rw [← hs1] at hA1 hm1 hm0
  rw [← hs2] at hA2 hm2 hm1 hm0
  by_cases h2 : 2 ≤ (s.drop a).length
  ·by_cases i2 : (s.take (a + 2)).drop a ∈ marksL
   ·rw [decide_eq_true i2] at hA2
    rw [hm2 h2 i2]
    cases op <;>
    (refine ev_fn rfl rfl ?_
     (repeat' (first| (intro (u_ : Unit); clear u_)| refine condT ?_| refine condF ?_| refine condp (by assumption) ?_| refine condn (by assumption) ?_| refine condN ?_| refine idxSb (by assumption) ?_| refine idxDb (a := a) 0 (by omega) hc ?_| (refine subBq (i := a) (j := a + (0 + 1)) (by omega) (by omega) (by omega) (by omega) ?_)| refine callE_ev (hN0 _) ?_| refine loopR (fun i : Nat => [(10, i64 i)]) (fun _ => []) (fun i => 0) (fun i => i = a) a rfl (by rfl) (by rfl) ?_| (intro i_ hi_; have hi2_ := hi_.symm; clear hi_; subst hi2_)| refine callE_ev (hM _) ?_| (refine subBq (i := a) (j := a + 2) (by omega) (by omega) (by omega) (by omega) ?_)| refine callE_ev (hA2 _) ?_| (refine condD ?_ ?_ <;> intro hq_ <;> first | (exfalso; omega) | skip)| (refine idxS (by omega) ?_; intro b_ hb_; have hl_ := b_.toNat_lt)| refine wrA (by omega) ?_| refine wrS (by omega) (by omega) ?_| refine wrI (by omega) (by omega) ?_| refine wrBA (by omega) ?_| refine wrB (by omega) (by omega) ?_| refine strC (by omega) ?_| refine nilB rfl ?_))
     all_goals first | exact ⟨rfl, rfl⟩ | (exfalso; have := c47 (by omega); cases this))
   ·rw [decide_eq_false i2] at hA2
    by_cases i1 : (s.take (a + 1)).drop a ∈ marksL
    ·rw [decide_eq_true i1] at hA1
     rw [hm1 (by omega) (fun h => i2 h.2) i1]
     cases op <;>
     (refine ev_fn rfl rfl ?_
      (repeat' (first| (intro (u_ : Unit); clear u_)| refine condT ?_| refine condF ?_| refine condp (by assumption) ?_| refine condn (by assumption) ?_| refine condN ?_| refine idxSb (by assumption) ?_| refine idxDb (a := a) 0 (by omega) hc ?_| refine callE_ev (hN0 _) ?_| refine loopR (fun i : Nat => [(10, i64 i)]) (fun _ => []) (fun i => 0) (fun i => i = a) a rfl (by rfl) (by rfl) ?_| (intro i_ hi_; have hi2_ := hi_.symm; clear hi_; subst hi2_)| refine callE_ev (hM _) ?_| refine callE_ev (hA2 _) ?_| refine callE_ev (hA1 _) ?_| (refine subBq (i := a) (j := a + 1) (by omega) (by omega) (by omega) (by omega) ?_)| (refine subBq (i := a) (j := a + 2) (by omega) (by omega) (by omega) (by omega) ?_)| (refine condD ?_ ?_ <;> intro hq_ <;> first | (exfalso; omega) | skip)| (refine idxS (by omega) ?_; intro b_ hb_; have hl_ := b_.toNat_lt)| refine wrA (by omega) ?_| refine wrS (by omega) (by omega) ?_| refine wrI (by omega) (by omega) ?_| refine wrBA (by omega) ?_| refine wrB (by omega) (by omega) ?_| refine strC (by omega) ?_| refine nilB rfl ?_))
      all_goals first | exact ⟨rfl, rfl⟩ | (exfalso; have := c47 (by omega); cases this))
    ·rw [decide_eq_false i1] at hA1
     rw [hm0 (by omega) (fun h => i2 h.2) i1]
     cases op <;>
     (refine ev_fn rfl rfl ?_
      (repeat' (first| (intro (u_ : Unit); clear u_)| refine condT ?_| refine condF ?_| refine condp (by assumption) ?_| refine condn (by assumption) ?_| refine condN ?_| refine idxSb (by assumption) ?_| refine idxDb (a := a) 0 (by omega) hc ?_| refine callE_ev (hN0 _) ?_| refine loopR (fun i : Nat => [(10, i64 i)]) (fun _ => []) (fun i => 0) (fun i => i = a) a rfl (by rfl) (by rfl) ?_| (intro i_ hi_; have hi2_ := hi_.symm; clear hi_; subst hi2_)| refine callE_ev (hM _) ?_| refine callE_ev (hA2 _) ?_| refine callE_ev (hA1 _) ?_| (refine subBq (i := a) (j := a + 1) (by omega) (by omega) (by omega) (by omega) ?_)| (refine subBq (i := a) (j := a + 2) (by omega) (by omega) (by omega) (by omega) ?_)| (refine condD ?_ ?_ <;> intro hq_ <;> first | (exfalso; omega) | skip)| (refine idxS (by omega) ?_; intro b_ hb_; have hl_ := b_.toNat_lt)| refine wrA (by omega) ?_| refine wrS (by omega) (by omega) ?_| refine wrI (by omega) (by omega) ?_| refine wrBA (by omega) ?_| refine wrB (by omega) (by omega) ?_| refine strC (by omega) ?_| refine nilB rfl ?_))
      all_goals first | exact ⟨rfl, rfl⟩ | (exfalso; have := c47 (by omega); cases this))
  ·by_cases i1 : (s.take (a + 1)).drop a ∈ marksL
   ·rw [decide_eq_true i1] at hA1
    rw [hm1 (by omega) (fun h => h2 h.1) i1]
    cases op <;>
    (refine ev_fn rfl rfl ?_
     (repeat' (first| (intro (u_ : Unit); clear u_)| refine condT ?_| refine condF ?_| refine condp (by assumption) ?_| refine condn (by assumption) ?_| refine condN ?_| refine idxSb (by assumption) ?_| refine idxDb (a := a) 0 (by omega) hc ?_| refine callE_ev (hN0 _) ?_| refine loopR (fun i : Nat => [(10, i64 i)]) (fun _ => []) (fun i => 0) (fun i => i = a) a rfl (by rfl) (by rfl) ?_| (intro i_ hi_; have hi2_ := hi_.symm; clear hi_; subst hi2_)| refine callE_ev (hM _) ?_| refine callE_ev (hA1 _) ?_| (refine subBq (i := a) (j := a + 1) (by omega) (by omega) (by omega) (by omega) ?_)| (refine condD ?_ ?_ <;> intro hq_ <;> first | (exfalso; omega) | skip)| (refine idxS (by omega) ?_; intro b_ hb_; have hl_ := b_.toNat_lt)| refine wrA (by omega) ?_| refine wrS (by omega) (by omega) ?_| refine wrI (by omega) (by omega) ?_| refine wrBA (by omega) ?_| refine wrB (by omega) (by omega) ?_| refine strC (by omega) ?_| refine nilB rfl ?_))
     all_goals first | exact ⟨rfl, rfl⟩ | (exfalso; have := c47 (by omega); cases this))
   ·rw [decide_eq_false i1] at hA1
    rw [hm0 (by omega) (fun h => h2 h.1) i1]
    cases op <;>
    (refine ev_fn rfl rfl ?_
     (repeat' (first| (intro (u_ : Unit); clear u_)| refine condT ?_| refine condF ?_| refine condp (by assumption) ?_| refine condn (by assumption) ?_| refine condN ?_| refine idxSb (by assumption) ?_| refine idxDb (a := a) 0 (by omega) hc ?_| refine callE_ev (hN0 _) ?_| refine loopR (fun i : Nat => [(10, i64 i)]) (fun _ => []) (fun i => 0) (fun i => i = a) a rfl (by rfl) (by rfl) ?_| (intro i_ hi_; have hi2_ := hi_.symm; clear hi_; subst hi2_)| refine callE_ev (hM _) ?_| refine callE_ev (hA1 _) ?_| (refine subBq (i := a) (j := a + 1) (by omega) (by omega) (by omega) (by omega) ?_)| (refine condD ?_ ?_ <;> intro hq_ <;> first | (exfalso; omega) | skip)| (refine idxS (by omega) ?_; intro b_ hb_; have hl_ := b_.toNat_lt)| refine wrA (by omega) ?_| refine wrS (by omega) (by omega) ?_| refine wrI (by omega) (by omega) ?_| refine wrBA (by omega) ?_| refine wrB (by omega) (by omega) ?_| refine strC (by omega) ?_| refine nilB rfl ?_))
     all_goals first | exact ⟨rfl, rfl⟩ | (exfalso; have := c47 (by omega); cases this))
 case true =>
  rw [if_pos rfl]
  have hl47 : c.toNat ≠ 47 := by simp [letter] at hl; omega
  have hw := wordLen_le (s := s.drop a) (by omega)
  have hw1 : 1 ≤ wordLen (s.drop a) := by unfold wordLen; omega
  unfold wordM
  have hsw := slice_at (s := s) (a := a) (j := wordLen (s.drop a))
  have hA := hAk ((s.drop a).take (wordLen (s.drop a)))
  rw [← hsw] at hA ⊢
  have hnm0 : nameM ((s.drop a).take 1) = true := by
   rcases hd : s.drop a with _ | ⟨x, l⟩
   ·rw [hd] at hc; cases hc
   ·rw [hd] at hc; simp only [List.getElem?_cons_zero, Option.some.injEq] at hc; subst hc; rw [nameM_take1]; exact hl
  have hW : 1 + runA nameB (s.drop a) 1 = wordLen (s.drop a) := rfl
  generalize wordLen (s.drop a) = W at *
  clear hAm hAk hM hml
  generalize hkk : decide ((s.take (a + W)).drop a ∈ keysL) = q at *
  have hkd : (if (s.take (a + W)).drop a ∈ keysL then 6 else 5 : Nat) = if q = true then 6 else 5 := by
   rw [← hkk]; simp
  rw [hkd]
  generalize keysL = K at *
  have step : ∀ k, k ≤ W → a + k ≤ s.length := fun k h => by omega
  cases op <;>
  (refine ev_fn rfl rfl ?_
   (repeat' (first| (intro (u_ : Unit); clear u_)| refine condT ?_| refine condF ?_| refine condp (by assumption) ?_| refine condn (by assumption) ?_| refine condN ?_| refine idxSb (by assumption) ?_| refine idxDb (a := a) 0 (by omega) hc ?_| (refine condD ?_ ?_ <;> intro hq_ <;> first | (exfalso; omega) | skip)| (refine idxS (by omega) ?_; intro b_ hb_; have hl_ := b_.toNat_lt)| refine wrA (by omega) ?_| refine wrS (by omega) (by omega) ?_| refine wrI (by omega) (by omega) ?_| refine wrBA (by omega) ?_| refine wrB (by omega) (by omega) ?_| refine strC (by omega) ?_| refine nilB rfl ?_))
   all_goals first | (exfalso; have := c47 (by omega); cases this) | skip
   all_goals
    refine loopR (fun i : Nat => [(10, i64 (a + i : Nat))]) (fun _ => []) (fun i => s.length - (a + i)) (fun i => a + i ≤ s.length ∧ ((i = 0) ∨ (1 ≤ i ∧ nameM ((s.drop a).take i) = true ∧ i + runA nameB (s.drop a) i = W))) 0 ⟨by omega, .inl rfl⟩ (by rfl) (by rfl) ?_
    rintro i ⟨hi, hP⟩
    by_cases hlt : a + i < s.length
    ·obtain ⟨d, hd⟩ := getS (s := s.drop a) (m := i) (by omega)
     have hN1 := hN i hlt
     by_cases hz : i = 0
     ·subst hz
      rw [hnm0] at hN1
      (repeat' (first| (intro (u_ : Unit); clear u_)| refine condT ?_| refine condF ?_| refine condp (by assumption) ?_| refine condn (by assumption) ?_| refine condN ?_| refine idxSb (by assumption) ?_| (refine subBq (i := a) (j := a + (0 + 1)) (by omega) (by omega) (by omega) (by omega) ?_)| refine callE_ev (hN1 _) ?_| (refine condD ?_ ?_ <;> intro hq_ <;> first | (exfalso; omega) | skip)| (refine idxS (by omega) ?_; intro b_ hb_; have hl_ := b_.toNat_lt)| refine wrA (by omega) ?_| refine wrS (by omega) (by omega) ?_| refine wrI (by omega) (by omega) ?_| refine wrBA (by omega) ?_| refine wrB (by omega) (by omega) ?_| refine strC (by omega) ?_| refine nilB rfl ?_))
      exact ⟨1, ⟨by omega, .inr ⟨by omega, hnm0, hW⟩⟩, by omega, rfl, rfl, rfl, rfl⟩
     ·obtain ⟨p1, p2, p3⟩ := hP.resolve_left hz
      have hsn := nameM_snoc p1 p2 hd
      cases hb : nameB d
      ·rw [runA_no hd hb] at p3
       obtain rfl : i = W := by omega
       rw [hsn, hb] at hN1
       cases q <;>
       ((repeat' (first
         | (intro (u_ : Unit); clear u_)
         | refine condT ?_
         | refine condF ?_
         | refine condp (by assumption) ?_
         | refine condn (by assumption) ?_
         | refine condN ?_
         | refine idxSb (by assumption) ?_
         | (refine subBq (i := a) (j := a + (i + 1)) (by omega) (by omega) (by omega) (by omega) ?_)
         | (refine subBq (i := a) (j := a + i) (by omega) (by omega) (by omega) (by omega) ?_)
         | refine callE_ev (hN1 _) ?_
         | refine callE_ev (hK _) ?_
         | refine callE_ev (hA _) ?_
         | (refine condD ?_ ?_ <;> intro hq_ <;> first | (exfalso; omega) | skip)
         | (refine idxS (by omega) ?_; intro b_ hb_; have hl_ := b_.toNat_lt)
         | refine wrA (by omega) ?_
         | refine wrS (by omega) (by omega) ?_
         | refine wrI (by omega) (by omega) ?_
         | refine wrBA (by omega) ?_
         | refine wrB (by omega) (by omega) ?_
         | refine strC (by omega) ?_
         | refine nilB rfl ?_))
        exact ⟨rfl, rfl⟩)
      ·rw [runA_go hd hb] at p3
       rw [hb] at hsn
       rw [hsn] at hN1
       (repeat' (first| (intro (u_ : Unit); clear u_)| refine condT ?_| refine condF ?_| refine condp (by assumption) ?_| refine condn (by assumption) ?_| refine condN ?_| refine idxSb (by assumption) ?_| (refine subBq (i := a) (j := a + (i + 1)) (by omega) (by omega) (by omega) (by omega) ?_)| refine callE_ev (hN1 _) ?_| (refine condD ?_ ?_ <;> intro hq_ <;> first | (exfalso; omega) | skip)| (refine idxS (by omega) ?_; intro b_ hb_; have hl_ := b_.toNat_lt)| refine wrA (by omega) ?_| refine wrS (by omega) (by omega) ?_| refine wrI (by omega) (by omega) ?_| refine wrBA (by omega) ?_| refine wrB (by omega) (by omega) ?_| refine strC (by omega) ?_| refine nilB rfl ?_))
       exact ⟨i + 1, ⟨by omega, .inr ⟨by omega, hsn, by omega⟩⟩, by omega, rfl, rfl, rfl, rfl⟩
    ·obtain ⟨p1, p2, p3⟩ := hP.resolve_left (by omega)
     rw [runA_end (by omega)] at p3
     obtain rfl : i = W := by omega
     cases q <;>
     ((repeat' (first
       | (intro (u_ : Unit); clear u_)
       | refine condT ?_
       | refine condF ?_
       | refine condp (by assumption) ?_
       | refine condn (by assumption) ?_
       | refine condN ?_
       | refine idxSb (by assumption) ?_
       | (refine subBq (i := a) (j := a + i) (by omega) (by omega) (by omega) (by omega) ?_)
       | refine callE_ev (hK _) ?_
       | refine callE_ev (hA _) ?_
       | (refine condD ?_ ?_ <;> intro hq_ <;> first | (exfalso; omega) | skip)
       | (refine idxS (by omega) ?_; intro b_ hb_; have hl_ := b_.toNat_lt)
       | refine wrA (by omega) ?_
       | refine wrS (by omega) (by omega) ?_
       | refine wrI (by omega) (by omega) ?_
       | refine wrBA (by omega) ?_
       | refine wrB (by omega) (by omega) ?_
       | refine strC (by omega) ?_
       | refine nilB rfl ?_))
      exact ⟨rfl, rfl⟩))
end Go.Ab.R15z
