/- A part of the proof: tools. No condition. -/
import Derived.Test.YtmpdgijnoekfmaaDoorC7
import Derived.Test.YtmpdgijnoekfmaaDoorL3
set_option linter.all false
namespace Go.Ab.R15
set_option maxRecDepth 100000
set_option linter.all false
set_option maxHeartbeats 4000000

/-- a table with oracles for strings.Split, Mul64, Add64, too -/
class ScanB (T : Tb) : Prop extends Base T where
  mul : ∀ args, T.orc f_bits_Mul64 args = mul64O args
  add : ∀ args, T.orc f_bits_Add64 args = add64O args
  spl : ∀ args, T.orc f_strings_Split args = splitO args
variable {T : Tb} [hS : ScanB T]

def dfault (e : Nat) : AV := .ifc 78 (.agg [i64 e])

section
variable {rf : Refs} {k : Out → Refs → Prop}
theorem mulE {x : Nat} (hx : x < 18446744073709551616) (h : k (.ret (.tup [.nat .u64 (x * 10 / 18446744073709551616), .nat .u64 (x * 10 % 18446744073709551616)])) rf) : CallE T f_bits_Mul64 [.nat .u64 x, .nat .u64 10] rf k := by
  refine callE_ev (ev_orc ((hS.mul _).trans ?_)) h
  simp only [AV.nat, mul64O]
  rw [if_pos (by omega)]
  rfl
theorem addE {x y : Nat} (h : k (.ret (.tup [.nat .u64 ((x + y) % 18446744073709551616), .nat .u64 ((x + y) / 18446744073709551616)])) rf) : CallE T f_bits_Add64 [.nat .u64 x, .nat .u64 y, .nat .u64 0] rf k := by
  refine callE_ev (ev_orc ((hS.add _).trans ?_)) h
  simp only [AV.nat, add64O]
  rw [if_pos (by omega)]
  congr 4
theorem wrong_ev (b : Bool) (e : Nat) (rf : Refs) : Ev T f_dec_wrong [bl b, i64 e] rf (if b then .pan (dfault e) else .ret (.tup [])) rf := by
  refine Ev.any ?_ rfl rf
  cases b
  · refine ev_fn rfl rfl ?_
    (repeat' (first
      | (intro (u_ : Unit); clear u_)
      | refine condT ?_
      | refine condF ?_
      | refine condp (by assumption) ?_
      | refine condn (by assumption) ?_
      | refine condN ?_
      | refine idxSb (by assumption) ?_
      | (refine condD ?_ ?_ <;> intro hq_ <;> first | (exfalso; omega) | skip)
      | (refine idxS (by omega) ?_; intro b_ hb_; have hl_ := b_.toNat_lt)
      | refine wrA (by omega) ?_
      | refine wrS (by omega) (by omega) ?_
      | refine wrI (by omega) (by omega) ?_
      | refine wrBA (by omega) ?_
      | refine wrB (by omega) (by omega) ?_
      | refine strC (by omega) ?_
      | refine nilB rfl ?_))
    exact ⟨rfl, rfl⟩
  · refine ev_fn rfl rfl ?_
    (repeat' (first
      | (intro (u_ : Unit); clear u_)
      | refine condT ?_
      | refine condF ?_
      | refine condp (by assumption) ?_
      | refine condn (by assumption) ?_
      | refine condN ?_
      | refine idxSb (by assumption) ?_
      | (refine condD ?_ ?_ <;> intro hq_ <;> first | (exfalso; omega) | skip)
      | (refine idxS (by omega) ?_; intro b_ hb_; have hl_ := b_.toNat_lt)
      | refine wrA (by omega) ?_
      | refine wrS (by omega) (by omega) ?_
      | refine wrI (by omega) (by omega) ?_
      | refine wrBA (by omega) ?_
      | refine wrB (by omega) (by omega) ?_
      | refine strC (by omega) ?_
      | refine nilB rfl ?_))
    exact ⟨rfl, rfl⟩
theorem wrongE {b : Bool} {e : Nat} (h1 : b = true → k (.pan (dfault e)) rf) (h2 : b = false → k (.ret (.tup [])) rf) : CallE T f_dec_wrong [bl b, i64 e] rf k := by
  refine callE_ev (wrong_ev b e rf) ?_
  cases b
  · exact h2 rfl
  · exact h1 rfl
end

def joinN (v : Nat) (b : Bool) : Option Int := if b then (if 9223372036854775808 < v then none else some (-(v : Int))) else (if 9223372036854775807 < v then none else some v)
def joinO : Option Int → Out
  | none => .pan (dfault 3)
  | some n => .ret (i64 n)
theorem wrH {c : Int → Prop} {n : Int} (hn : n = 9223372036854775808) (h : c (-9223372036854775808)) : WrE .i64 n c := by subst hn; exact ⟨h⟩
theorem joined_ev (v : Nat) (hv : v < 18446744073709551616) (b : Bool) (rf : Refs) : Ev T f_dec_joined [.nat .u64 0, .nat .u64 v, bl b] rf (joinO (joinN v b)) rf := by
  refine Ev.any ?_ rfl rf
  cases b
  · simp only [joinN, Bool.false_eq_true, if_false]
    by_cases h : 9223372036854775807 < v
    · rw [if_pos h]
      refine ev_fn rfl rfl ?_
      (repeat' (first
        | (intro (u_ : Unit); clear u_)
        | refine condT ?_
        | refine condF ?_
        | refine condp (by assumption) ?_
        | refine condn (by assumption) ?_
        | refine condN ?_
        | refine idxSb (by assumption) ?_
        | (refine wrongE (fun hw_ => ?_) (fun hw_ => ?_))
        | (refine condD ?_ ?_ <;> intro hq_ <;> first | (exfalso; omega) | skip)
        | (refine idxS (by omega) ?_; intro b_ hb_; have hl_ := b_.toNat_lt)
        | refine wrA (by omega) ?_
        | refine wrS (by omega) (by omega) ?_
        | refine wrI (by omega) (by omega) ?_
        | refine wrBA (by omega) ?_
        | refine wrB (by omega) (by omega) ?_
        | refine strC (by omega) ?_
        | refine nilB rfl ?_))
      · exact ⟨rfl, rfl⟩
      · have := of_decide_eq_false hw_; omega
    · rw [if_neg h]
      refine ev_fn rfl rfl ?_
      (repeat' (first
        | (intro (u_ : Unit); clear u_)
        | refine condT ?_
        | refine condF ?_
        | refine condp (by assumption) ?_
        | refine condn (by assumption) ?_
        | refine condN ?_
        | refine idxSb (by assumption) ?_
        | (refine wrongE (fun hw_ => ?_) (fun hw_ => ?_))
        | (refine condD ?_ ?_ <;> intro hq_ <;> first | (exfalso; omega) | skip)
        | (refine idxS (by omega) ?_; intro b_ hb_; have hl_ := b_.toNat_lt)
        | refine wrA (by omega) ?_
        | refine wrS (by omega) (by omega) ?_
        | refine wrI (by omega) (by omega) ?_
        | refine wrBA (by omega) ?_
        | refine wrB (by omega) (by omega) ?_
        | refine strC (by omega) ?_
        | refine nilB rfl ?_))
      · have := of_decide_eq_true hw_; omega
      · exact ⟨rfl, rfl⟩
  · simp only [joinN, if_true]
    by_cases h : 9223372036854775808 < v
    · rw [if_pos h]
      refine ev_fn rfl rfl ?_
      (repeat' (first
        | (intro (u_ : Unit); clear u_)
        | refine condT ?_
        | refine condF ?_
        | refine condp (by assumption) ?_
        | refine condn (by assumption) ?_
        | refine condN ?_
        | refine idxSb (by assumption) ?_
        | (refine wrongE (fun hw_ => ?_) (fun hw_ => ?_))
        | refine wrU (by omega) (by omega) ?_
        | (refine condD ?_ ?_ <;> intro hq_ <;> first | (exfalso; omega) | skip)
        | (refine idxS (by omega) ?_; intro b_ hb_; have hl_ := b_.toNat_lt)
        | refine wrA (by omega) ?_
        | refine wrS (by omega) (by omega) ?_
        | refine wrI (by omega) (by omega) ?_
        | refine wrBA (by omega) ?_
        | refine wrB (by omega) (by omega) ?_
        | refine strC (by omega) ?_
        | refine nilB rfl ?_))
      · exact ⟨rfl, rfl⟩
      · have := of_decide_eq_false hw_; omega
    · rw [if_neg h]
      by_cases h9 : v = 9223372036854775808
      · refine ev_fn rfl rfl ?_
        (repeat' (first
          | (intro (u_ : Unit); clear u_)
          | refine condT ?_
          | refine condF ?_
          | refine condp (by assumption) ?_
          | refine condn (by assumption) ?_
          | refine condN ?_
          | refine idxSb (by assumption) ?_
          | (refine wrongE (fun hw_ => ?_) (fun hw_ => ?_))
          | refine wrU (by omega) (by omega) ?_
          | refine wrH (by omega) ?_
          | (refine condD ?_ ?_ <;> intro hq_ <;> first | (exfalso; omega) | skip)
          | (refine idxS (by omega) ?_; intro b_ hb_; have hl_ := b_.toNat_lt)
          | refine wrA (by omega) ?_
          | refine wrS (by omega) (by omega) ?_
          | refine wrI (by omega) (by omega) ?_
          | refine wrBA (by omega) ?_
          | refine wrB (by omega) (by omega) ?_
          | refine strC (by omega) ?_
          | refine nilB rfl ?_))
        · have := of_decide_eq_true hw_; omega
        · subst h9; exact ⟨rfl, rfl⟩
      · refine ev_fn rfl rfl ?_
        (repeat' (first
          | (intro (u_ : Unit); clear u_)
          | refine condT ?_
          | refine condF ?_
          | refine condp (by assumption) ?_
          | refine condn (by assumption) ?_
          | refine condN ?_
          | refine idxSb (by assumption) ?_
          | (refine wrongE (fun hw_ => ?_) (fun hw_ => ?_))
          | refine wrU (by omega) (by omega) ?_
          | (refine condD ?_ ?_ <;> intro hq_ <;> first | (exfalso; omega) | skip)
          | (refine idxS (by omega) ?_; intro b_ hb_; have hl_ := b_.toNat_lt)
          | refine wrA (by omega) ?_
          | refine wrS (by omega) (by omega) ?_
          | refine wrI (by omega) (by omega) ?_
          | refine wrBA (by omega) ?_
          | refine wrB (by omega) (by omega) ?_
          | refine strC (by omega) ?_
          | refine nilB rfl ?_))
        · have := of_decide_eq_true hw_; omega
        · refine ⟨?_, rfl⟩; simp [joinO]

theorem caught_ev (e : Nat) (X Y Z : AV) (hX : X.one = true) : EvD T f_dec_caught [.ptr 0 0, .ptr 2 0] (some (dfault e)) [[X], [Y], [Z]] (.ret (.tup [])) none [[i64 (0 : Nat)], [Y], [i64 e]] := by
  refine evd_vc (by rw [hS.td]; rfl) ?_
  (repeat' (first
    | (intro (u_ : Unit); clear u_)
    | refine condT ?_
    | refine condF ?_
    | refine condp (by assumption) ?_
    | refine condn (by assumption) ?_
    | refine condN ?_
    | refine idxSb (by assumption) ?_
    | (refine condD ?_ ?_ <;> intro hq_ <;> first | (exfalso; omega) | skip)
    | (refine idxS (by omega) ?_; intro b_ hb_; have hl_ := b_.toNat_lt)
    | refine wrA (by omega) ?_
    | refine wrS (by omega) (by omega) ?_
    | refine wrI (by omega) (by omega) ?_
    | refine wrBA (by omega) ?_
    | refine wrB (by omega) (by omega) ?_
    | refine strC (by omega) ?_
    | refine nilB rfl ?_))
  all_goals exact ⟨rfl, rfl, rfl, rfl⟩
theorem uncaught_ev (X Y Z : AV) : EvD T f_dec_caught [.ptr 0 0, .ptr 2 0] none [[X], [Y], [Z]] (.ret (.tup [])) none [[X], [Y], [Z]] := by
  refine evd_vc (by rw [hS.td]; rfl) ?_
  (repeat' (first
    | (intro (u_ : Unit); clear u_)
    | refine condT ?_
    | refine condF ?_
    | refine condp (by assumption) ?_
    | refine condn (by assumption) ?_
    | refine condN ?_
    | refine idxSb (by assumption) ?_
    | (refine condD ?_ ?_ <;> intro hq_ <;> first | (exfalso; omega) | skip)
    | (refine idxS (by omega) ?_; intro b_ hb_; have hl_ := b_.toNat_lt)
    | refine wrA (by omega) ?_
    | refine wrS (by omega) (by omega) ?_
    | refine wrI (by omega) (by omega) ?_
    | refine wrBA (by omega) ?_
    | refine wrB (by omega) (by omega) ?_
    | refine strC (by omega) ?_
    | refine nilB rfl ?_))
  all_goals exact ⟨rfl, rfl, rfl, rfl⟩
theorem used1_ev (e : Nat) (he : e ≠ 0) (X Y : AV) : EvD T f_dec_Read_1 [.ptr 2 0, .ptr 1 0] none [[X], [Y], [i64 e]] (.ret (.tup [])) none [[X], [i64 (0 : Nat)], [i64 e]] := by
  refine evd_vc (by rw [hS.td]; rfl) ?_
  (repeat' (first
    | (intro (u_ : Unit); clear u_)
    | refine condT ?_
    | refine condF ?_
    | refine condp (by assumption) ?_
    | refine condn (by assumption) ?_
    | refine condN ?_
    | refine idxSb (by assumption) ?_
    | (refine condD ?_ ?_ <;> intro hq_ <;> first | (exfalso; omega) | skip)
    | (refine idxS (by omega) ?_; intro b_ hb_; have hl_ := b_.toNat_lt)
    | refine wrA (by omega) ?_
    | refine wrS (by omega) (by omega) ?_
    | refine wrI (by omega) (by omega) ?_
    | refine wrBA (by omega) ?_
    | refine wrB (by omega) (by omega) ?_
    | refine strC (by omega) ?_
    | refine nilB rfl ?_))
  all_goals exact ⟨rfl, rfl, rfl, rfl⟩
theorem used0_ev (X Y : AV) : EvD T f_dec_Read_1 [.ptr 2 0, .ptr 1 0] none [[X], [Y], [i64 (0 : Nat)]] (.ret (.tup [])) none [[X], [Y], [i64 (0 : Nat)]] := by
  refine evd_vc (by rw [hS.td]; rfl) ?_
  (repeat' (first
    | (intro (u_ : Unit); clear u_)
    | refine condT ?_
    | refine condF ?_
    | refine condp (by assumption) ?_
    | refine condn (by assumption) ?_
    | refine condN ?_
    | refine idxSb (by assumption) ?_
    | (refine condD ?_ ?_ <;> intro hq_ <;> first | (exfalso; omega) | skip)
    | (refine idxS (by omega) ?_; intro b_ hb_; have hl_ := b_.toNat_lt)
    | refine wrA (by omega) ?_
    | refine wrS (by omega) (by omega) ?_
    | refine wrI (by omega) (by omega) ?_
    | refine wrBA (by omega) ?_
    | refine wrB (by omega) (by omega) ?_
    | refine strC (by omega) ?_
    | refine nilB rfl ?_))
  all_goals exact ⟨rfl, rfl, rfl, rfl⟩

def numT : Num → AV
  | .form => .tup [i64 (0 : Nat), i64 (0 : Nat), i64 (2 : Nat)]
  | .over => .tup [i64 (0 : Nat), i64 (0 : Nat), i64 (3 : Nat)]
  | .ok n u => .tup [i64 n, i64 u, i64 (0 : Nat)]

theorem valL_snoc (l : List UInt8) (c : UInt8) : valL (l ++ [c]) = valL l * 10 + (c.toNat - 48) := by simp [valL]
theorem valL_take (l : List UInt8) : ∀ i j, i ≤ j → valL (l.take i) ≤ valL (l.take j) := by
  intro i j h
  induction j with
  | zero => rw [show i = 0 by omega]; exact Nat.le_refl _
  | succ j ih =>
    by_cases hi : i = j + 1
    · rw [hi]; exact Nat.le_refl _
    · have h1 := ih (by omega)
      rw [List.take_add_one]
      cases hj : l[j]? with
      | none => simpa using h1
      | some c => simp only [Option.toList_some]; rw [valL_snoc]; omega
theorem valL_le (l : List UInt8) (i : Nat) : valL (l.take i) ≤ valL l := by
  have := valL_take l i (max i l.length) (by omega)
  rwa [List.take_of_length_le (show l.length ≤ max i l.length by omega)] at this

theorem runL_fig : ∀ (l : List UInt8) (c : UInt8), c ∈ l.take (runL fig l) → fig c = true
  | [], c, h => by simp at h
  | a :: l, c, h => by
    simp only [runL] at h
    split at h
    · simp only [List.take_succ_cons, List.mem_cons] at h
      rcases h with rfl | h
      · assumption
      · exact runL_fig l c h
    · simp at h
theorem part_fig {s : List UInt8} {i : Nat} {c : UInt8} (h : c ∈ (s.take (i + runA fig s i)).drop i) : fig c = true := by
  rw [List.drop_take, Nat.add_sub_cancel_left] at h
  exact runL_fig _ c h
theorem six_fig {l : List UInt8} (h : ∀ c ∈ l, fig c = true) : ∀ c ∈ six l, fig c = true := by
  intro c hc
  have := List.mem_of_mem_take hc
  rcases List.mem_append.1 this with h1 | h1
  · exact h c h1
  · simp only [List.mem_cons, List.not_mem_nil, or_false, or_self] at h1
    subst h1; decide
theorem six_length (l : List UInt8) : (six l).length = 6 := by unfold six; rw [List.length_take, List.length_append]; simp
theorem spD_fig {s : List UInt8} : ∀ c ∈ spD s, fig c = true := by
  intro c hc
  rcases List.mem_append.1 hc with h | h
  · exact part_fig h
  · refine six_fig (fun c hc => ?_) c h
    unfold spE at hc
    split at hc
    · exact part_fig hc
    · rw [List.drop_eq_nil_of_le (by rw [List.length_take]; omega)] at hc; simp at hc
theorem fig_iff {c : UInt8} : fig c = true ↔ 48 ≤ c.toNat ∧ c.toNat ≤ 57 := by simp [fig]

theorem idxBy {l : List UInt8} {i : Nat} {b : UInt8} {c : List D → Prop} (h : l[i]? = some b) (h' : c [.int .u8 b.toNat]) : IdxL 1 (bytesOf l) (i : Int) c := idxLb (by simp [bytesOf, h]) rfl h'
theorem strC' {a b d : List UInt8} {c : List UInt8 → Prop} (h0 : a.length + b.length ≤ 17179869184) (hd : a ++ b = d) (h : c d) : CatE a b c := ⟨h0, by subst hd; exact h⟩

theorem strZ {a : List UInt8} {c : List UInt8 → Prop} (h0 : a.length + 6 ≤ 17179869184) (h : c (a ++ [48, 48, 48, 48, 48, 48])) : CatE a [48, 48, 48, 48, 48, 48] c := ⟨h0, h⟩
theorem sub6 {a : List UInt8} {c : List UInt8 → Prop} (h : c (six a)) : SubE (a ++ [48, 48, 48, 48, 48, 48]) none (some ((6 : Nat) : Int)) c := subHi (by simp) h
theorem behind_no {s : List UInt8} (h : ¬ spP s < spE s) : (s.take (spE s)).drop (spP s + 1) = [] := List.drop_eq_nil_of_le (by rw [List.length_take]; omega)

theorem decRead_ev (s : List UInt8) (hs : s.length ≤ 2 ^ 30) (rf : Refs) : Ev T f_dec_Read [str s] rf (.ret (numT (decM s))) rf := by
  refine Ev.any ?_ rfl rf
  have hsp := span_ev (T := T) s (by omega)
  have l0 := spB_le (s := s); have l1 := spF_le (s := s); have l2 := spP_le (s := s); have l3 := spE_le (s := s)
  have hne := behind_no (s := s)
  have hfig := spD_fig (s := s)
  have hlen : (spD s).length ≤ 2 ^ 31 := by
    unfold spD; rw [List.length_append, six_length, List.length_drop, List.length_take]; omega
  have hnil : spD s ≠ [] := by
    intro h
    have : (spD s).length = 0 := by rw [h]; rfl
    unfold spD at this; rw [List.length_append, six_length] at this; omega
  unfold decM
  have hdef : spD s = (s.take (spP s)).drop (spF s) ++ six ((s.take (spE s)).drop (spP s + 1)) := rfl
  have hdef0 : ¬ spP s < spE s → spD s = (s.take (spP s)).drop (spF s) ++ [48, 48, 48, 48, 48, 48] := fun h => by rw [hdef, hne h]; rfl
  by_cases hform : spP s = spF s ∧ spE s ≤ spP s + 1
  · rw [if_pos hform]
    clear hdef hdef0 hne hfig hlen hnil
    generalize spB s = B at *
    generalize spF s = F at *
    generalize spP s = P at *
    generalize spE s = E at *
    obtain ⟨rfl, hE⟩ := hform
    refine ev_fn rfl rfl ?_
    (repeat' (first
      | (intro (u_ : Unit); clear u_)
      | refine condT ?_
      | refine condF ?_
      | refine condp (by assumption) ?_
      | refine condn (by assumption) ?_
      | refine condN ?_
      | refine idxSb (by assumption) ?_
      | refine callE_ev (hsp _) ?_
      | (refine wrongE (fun hw_ => ?_) (fun hw_ => ?_))
      | refine defE (caught_ev _ _ _ _ rfl) ?_
      | refine defE (used1_ev _ (by decide) _ _) ?_
      | (refine condD ?_ ?_ <;> intro hq_ <;> first | (exfalso; omega) | skip)
      | (refine idxS (by omega) ?_; intro b_ hb_; have hl_ := b_.toNat_lt)
      | refine wrA (by omega) ?_
      | refine wrS (by omega) (by omega) ?_
      | refine wrI (by omega) (by omega) ?_
      | refine wrBA (by omega) ?_
      | refine wrB (by omega) (by omega) ?_
      | refine strC (by omega) ?_
      | refine nilB rfl ?_))
    · exact ⟨rfl, rfl⟩
    all_goals (have := of_decide_eq_false hw_; omega)
  rw [if_neg hform]
  have hroom : spB s < s.length := by omega
  obtain ⟨sg, hsg⟩ := getS hroom
  have hJ : (if hit s (spB s) 45 = true then if 9223372036854775808 < valL (spD s) then Num.over else Num.ok (-(valL (spD s) : Int)) (spE s) else if 9223372036854775807 < valL (spD s) then Num.over else Num.ok (valL (spD s)) (spE s)) =
      match joinN (valL (spD s)) (decide (sg.toNat = 45)) with
      | none => Num.over
      | some n => Num.ok n (spE s) := by
    rw [hit_some hsg]
    unfold joinN
    cases decide (sg.toNat = 45) <;> simp only [if_true, Bool.false_eq_true, if_false] <;> (split <;> rfl)
  rw [hJ]
  clear hJ
  generalize hD : spD s = l at *
  generalize spB s = B at *
  generalize spF s = F at *
  generalize spP s = P at *
  generalize spE s = E at *
  have hsgd : decide ((sg.toNat : Int) = ((45 : Nat) : Int)) = decide (sg.toNat = 45) := by rw [Bool.eq_iff_iff]; simp; omega
  have hjo := fun h => joined_ev (T := T) (valL l) h (decide (sg.toNat = 45))
  rw [← hsgd] at hjo ⊢
  clear hsgd
  have hbl : (bytesOf l).length = l.length := by simp [bytesOf]
  refine ev_fn rfl rfl ?_
  (repeat' (first
    | (intro (u_ : Unit); clear u_)
    | refine condT ?_
    | refine condF ?_
    | refine condp (by assumption) ?_
    | refine condn (by assumption) ?_
    | refine condN ?_
    | refine idxSb (by assumption) ?_
    | refine callE_ev (hsp _) ?_
    | (refine wrongE (fun hw_ => ?_) (fun hw_ => ?_) <;> first | exact absurd hw_ Bool.false_ne_true | (exfalso; have := of_decide_eq_true hw_; omega) | skip)
    | (refine subBo (i := P + 1) (j := E) (by omega) (by omega) ?_)
    | (refine subBo (i := F) (j := P) (by omega) (by omega) ?_)
    | refine sub6 ?_
    | (refine strC' (d := l) (by first | (rw [six_length, List.length_drop, List.length_take]; omega) | (simp only [List.length_drop, List.length_take, List.length_cons, List.length_nil]; omega)) (by first | exact hdef.symm | exact (hdef0 (by omega)).symm) ?_)
    | (refine strZ (by simp only [List.length_drop, List.length_take, List.length_nil]; omega) ?_)
    | refine bytesB hnil ?_
    | (refine condD ?_ ?_ <;> intro hq_ <;> first | (exfalso; omega) | skip)
    | (refine idxS (by omega) ?_; intro b_ hb_; have hl_ := b_.toNat_lt)
    | refine wrA (by omega) ?_
    | refine wrS (by omega) (by omega) ?_
    | refine wrI (by omega) (by omega) ?_
    | refine wrBA (by omega) ?_
    | refine wrB (by omega) (by omega) ?_
    | refine strC (by omega) ?_
    | refine nilB rfl ?_))
  all_goals
    clear hdef hdef0 hne hsp
    refine loopR (fun i : Nat => [(10, .nat .u64 (valL (l.take i))), (53, i64 i)]) (fun _ => []) (fun i => l.length - i) (fun i => i ≤ l.length ∧ valL (l.take i) < 18446744073709551616) 0 ⟨by omega, by simp [valL]⟩ (by rfl) (by rfl) ?_
    rintro i ⟨hi, hv⟩
    by_cases hlt : i < l.length
    · obtain ⟨c, hc⟩ := getS hlt
      have hf := fig_iff.1 (hfig c (List.mem_of_getElem? hc))
      have hv' : valL (l.take (i + 1)) = valL (l.take i) * 10 + (c.toNat - 48) := by rw [take_succ_of hc, valL_snoc]
      have hge := valL_le l (i + 1)
      generalize valL (l.take i) = x at *
      (repeat' (first
        | (intro (u_ : Unit); clear u_)
        | refine condT ?_
        | refine condF ?_
        | refine condp (by assumption) ?_
        | refine condn (by assumption) ?_
        | refine condN ?_
        | refine idxSb (by assumption) ?_
        | refine idxBy hc ?_
        | refine mulE hv ?_
        | refine wrBS (by omega) (by omega) ?_
        | refine wrU (by omega) (by omega) ?_
        | refine addE ?_
        | (refine wrongE (fun hw_ => ?_) (fun hw_ => ?_))
        | refine defE (caught_ev _ _ _ _ rfl) ?_
        | refine defE (used1_ev _ (by decide) _ _) ?_
        | (refine condD ?_ ?_ <;> intro hq_ <;> first | (exfalso; omega) | skip)
        | (refine idxS (by omega) ?_; intro b_ hb_; have hl_ := b_.toNat_lt)
        | refine wrA (by omega) ?_
        | refine wrS (by omega) (by omega) ?_
        | refine wrI (by omega) (by omega) ?_
        | refine wrBA (by omega) ?_
        | refine wrB (by omega) (by omega) ?_
        | refine strC (by omega) ?_
        | refine nilB rfl ?_))
      · have := of_decide_eq_true hw_
        have hov : joinN (valL l) (decide ((sg.toNat : Int) = ((45 : Nat) : Int))) = none := by
          unfold joinN
          split <;> exact if_pos (by omega)
        rw [hov]
        exact ⟨rfl, rfl⟩
      · have := of_decide_eq_false hw_
        have he : (x * 10 % 18446744073709551616 + (c.toNat - 48)) % 18446744073709551616 = x * 10 + (c.toNat - 48) := by omega
        refine ⟨i + 1, ⟨by omega, by omega⟩, by omega, ?_, rfl, rfl, rfl⟩
        rw [hv', he]; rfl
    · have hii : i = l.length := by omega
      subst hii
      rw [List.take_of_length_le (Nat.le_refl _)] at *
      have hjo := hjo hv
      cases hj : joinN (valL l) (decide ((sg.toNat : Int) = ((45 : Nat) : Int))) <;> rw [hj] at hjo
      · (repeat' (first
          | (intro (u_ : Unit); clear u_)
          | refine condT ?_
          | refine condF ?_
          | refine condp (by assumption) ?_
          | refine condn (by assumption) ?_
          | refine condN ?_
          | refine idxSb (by assumption) ?_
          | refine callE_ev (hjo _) ?_
          | refine defE (caught_ev _ _ _ _ rfl) ?_
          | refine defE (used1_ev _ (by decide) _ _) ?_
          | (refine condD ?_ ?_ <;> intro hq_ <;> first | (exfalso; omega) | skip)
          | (refine idxS (by omega) ?_; intro b_ hb_; have hl_ := b_.toNat_lt)
          | refine wrA (by omega) ?_
          | refine wrS (by omega) (by omega) ?_
          | refine wrI (by omega) (by omega) ?_
          | refine wrBA (by omega) ?_
          | refine wrB (by omega) (by omega) ?_
          | refine strC (by omega) ?_
          | refine nilB rfl ?_))
        exact ⟨rfl, rfl⟩
      · (repeat' (first
          | (intro (u_ : Unit); clear u_)
          | refine condT ?_
          | refine condF ?_
          | refine condp (by assumption) ?_
          | refine condn (by assumption) ?_
          | refine condN ?_
          | refine idxSb (by assumption) ?_
          | refine callE_ev (hjo _) ?_
          | refine defE (uncaught_ev _ _ _) ?_
          | refine defE (used0_ev _ _) ?_
          | (refine condD ?_ ?_ <;> intro hq_ <;> first | (exfalso; omega) | skip)
          | (refine idxS (by omega) ?_; intro b_ hb_; have hl_ := b_.toNat_lt)
          | refine wrA (by omega) ?_
          | refine wrS (by omega) (by omega) ?_
          | refine wrI (by omega) (by omega) ?_
          | refine wrBA (by omega) ?_
          | refine wrB (by omega) (by omega) ?_
          | refine strC (by omega) ?_
          | refine nilB rfl ?_))
        exact ⟨rfl, rfl⟩
end Go.Ab.R15

namespace Go.Ab.R15
set_option maxRecDepth 100000
set_option linter.all false
set_option maxHeartbeats 4000000
variable {T : Tb} [hS : ScanB T]

theorem odd_ev (c : UInt8) (rf : Refs) : Ev T f_hex_IsName_1 [u8 c.toNat] rf (.ret (bl (!nameB c))) rf := by
  refine Ev.any ?_ rfl rf
  refine ev_fn rfl rfl ?_
  (repeat' (first
    | (intro (u_ : Unit); clear u_)
    | refine condT ?_
    | refine condF ?_
    | refine condp (by assumption) ?_
    | refine condn (by assumption) ?_
    | refine condN ?_
    | refine idxSb (by assumption) ?_
    | (refine condD ?_ ?_ <;> intro hq_ <;> first | (exfalso; omega) | skip)
    | (refine idxS (by omega) ?_; intro b_ hb_; have hl_ := b_.toNat_lt)
    | refine wrA (by omega) ?_
    | refine wrS (by omega) (by omega) ?_
    | refine wrI (by omega) (by omega) ?_
    | refine wrBA (by omega) ?_
    | refine wrB (by omega) (by omega) ?_
    | refine strC (by omega) ?_
    | refine nilB rfl ?_))
  all_goals (refine ⟨?_, rfl⟩; congr 3; rw [Bool.eq_iff_iff]; simp [nameB, letter, fig]; omega)

def ixP (p : UInt8 → Bool) : List UInt8 → Nat → Int
  | [], _ => -1
  | a :: l, i => if p a then i else ixP p l (i + 1)
theorem ixP_iff (p : UInt8 → Bool) : ∀ (l : List UInt8) (i : Nat), 0 ≤ ixP p l i ↔ l.any p = true
  | [], i => by simp [ixP]
  | a :: l, i => by
    simp only [ixP, List.any_cons, Bool.or_eq_true]
    split
    · rename_i h; exact ⟨fun _ => .inl h, fun _ => by omega⟩
    · rename_i h; rw [ixP_iff p l]; exact ⟨.inr, fun h' => h'.resolve_left h⟩

abbrev oddF : AV := .fn (.func f_hex_IsName_1) [] []
theorem oddE {c : UInt8} {rf : Refs} {k : Out → Refs → Prop} (h1 : nameB c = false → k (.ret (bl true)) rf) (h2 : nameB c = true → k (.ret (bl false)) rf) : CallE T f_hex_IsName_1 [u8 c.toNat] rf k := by
  refine callE_ev (odd_ev c rf) ?_
  cases h : nameB c
  · exact h1 h
  · exact h2 h

theorem IndexFunc_ev (l : List UInt8) (hl : l.length ≤ 2 ^ 40) (rf : Refs) : Ev T f_slices_IndexFunc_byte_byte [lst (bytesOf l), oddF] rf (.ret (i64 (ixP (fun c => !nameB c) l 0))) rf := by
  refine Ev.any ?_ rfl rf
  have l1 : (bytesOf l).length = l.length := by simp [bytesOf]
  refine ev_fn rfl rfl ?_
  (repeat' (first
    | (intro (u_ : Unit); clear u_)
    | refine condT ?_
    | refine condF ?_
    | refine condp (by assumption) ?_
    | refine condn (by assumption) ?_
    | refine condN ?_
    | refine idxSb (by assumption) ?_
    | (refine condD ?_ ?_ <;> intro hq_ <;> first | (exfalso; omega) | skip)
    | (refine idxS (by omega) ?_; intro b_ hb_; have hl_ := b_.toNat_lt)
    | refine wrA (by omega) ?_
    | refine wrS (by omega) (by omega) ?_
    | refine wrI (by omega) (by omega) ?_
    | refine wrBA (by omega) ?_
    | refine wrB (by omega) (by omega) ?_
    | refine strC (by omega) ?_
    | refine nilB rfl ?_))
  refine loopR (fun i : Nat => [(8, i64 i)]) (fun _ => []) (fun i => l.length - i) (fun i => i ≤ l.length ∧ ixP (fun c => !nameB c) l 0 = ixP (fun c => !nameB c) (l.drop i) i) 0 ⟨by omega, by simp⟩ (by rfl) (by rfl) ?_
  rintro i ⟨hi, hP⟩
  by_cases hlt : i < l.length
  · obtain ⟨r, hr⟩ := getS hlt
    rw [drop_get hr] at hP
    (repeat' (first
      | (intro (u_ : Unit); clear u_)
      | refine condT ?_
      | refine condF ?_
      | refine condp (by assumption) ?_
      | refine condn (by assumption) ?_
      | refine condN ?_
      | refine idxSb (by assumption) ?_
      | refine idxBy hr ?_
      | (refine oddE (fun hn_ => ?_) (fun hn_ => ?_))
      | (refine condD ?_ ?_ <;> intro hq_ <;> first | (exfalso; omega) | skip)
      | (refine idxS (by omega) ?_; intro b_ hb_; have hl_ := b_.toNat_lt)
      | refine wrA (by omega) ?_
      | refine wrS (by omega) (by omega) ?_
      | refine wrI (by omega) (by omega) ?_
      | refine wrBA (by omega) ?_
      | refine wrB (by omega) (by omega) ?_
      | refine strC (by omega) ?_
      | refine nilB rfl ?_))
    · rw [hP]; simp only [ixP, hn_]; exact ⟨rfl, rfl⟩
    · exact ⟨i + 1, ⟨by omega, by rw [hP]; simp only [ixP, hn_]; rfl⟩, by omega, rfl, rfl, rfl, rfl⟩
  · rw [List.drop_eq_nil_of_le (by omega)] at hP
    (repeat' (first
      | (intro (u_ : Unit); clear u_)
      | refine condT ?_
      | refine condF ?_
      | refine condp (by assumption) ?_
      | refine condn (by assumption) ?_
      | refine condN ?_
      | refine idxSb (by assumption) ?_
      | (refine condD ?_ ?_ <;> intro hq_ <;> first | (exfalso; omega) | skip)
      | (refine idxS (by omega) ?_; intro b_ hb_; have hl_ := b_.toNat_lt)
      | refine wrA (by omega) ?_
      | refine wrS (by omega) (by omega) ?_
      | refine wrI (by omega) (by omega) ?_
      | refine wrBA (by omega) ?_
      | refine wrB (by omega) (by omega) ?_
      | refine strC (by omega) ?_
      | refine nilB rfl ?_))
    rw [hP]; exact ⟨rfl, rfl⟩

theorem ContainsFunc_ev (l : List UInt8) (hl : l.length ≤ 2 ^ 40) (rf : Refs) : Ev T f_slices_ContainsFunc_byte_byte [lst (bytesOf l), oddF] rf (.ret (bl (!l.all nameB))) rf := by
  refine Ev.any ?_ rfl rf
  have := ixP_iff (fun c => !nameB c) l 0
  rw [show (!l.all nameB) = decide (0 ≤ ixP (fun c => !nameB c) l 0) from by rw [Bool.eq_iff_iff]; simp [this]]
  refine ev_fn rfl rfl ?_
  (repeat' (first
    | (intro (u_ : Unit); clear u_)
    | refine condT ?_
    | refine condF ?_
    | refine condp (by assumption) ?_
    | refine condn (by assumption) ?_
    | refine condN ?_
    | refine idxSb (by assumption) ?_
    | refine callE_ev (IndexFunc_ev l hl _) ?_
    | (refine condD ?_ ?_ <;> intro hq_ <;> first | (exfalso; omega) | skip)
    | (refine idxS (by omega) ?_; intro b_ hb_; have hl_ := b_.toNat_lt)
    | refine wrA (by omega) ?_
    | refine wrS (by omega) (by omega) ?_
    | refine wrI (by omega) (by omega) ?_
    | refine wrBA (by omega) ?_
    | refine wrB (by omega) (by omega) ?_
    | refine strC (by omega) ?_
    | refine nilB rfl ?_))
  all_goals exact ⟨rfl, rfl⟩

theorem nameM_cons (c : UInt8) (l : List UInt8) : nameM (c :: l) = (!fig c && (c :: l).all nameB) := by
  rw [Bool.eq_iff_iff]
  simp only [nameM, List.all_cons, nameB, Bool.and_eq_true, Bool.or_eq_true, Bool.not_eq_true', letter, fig, decide_eq_true_eq]
  constructor
  · rintro ⟨h1, h2⟩
    refine ⟨?_, .inl h1, h2⟩
    rw [Bool.and_eq_false_iff]
    simp only [decide_eq_false_iff_not]
    omega
  · rintro ⟨h1, h2, h3⟩
    refine ⟨?_, h3⟩
    rcases h2 with h2 | h2
    · exact h2
    · rw [Bool.and_eq_false_iff] at h1
      simp only [decide_eq_false_iff_not] at h1
      omega

theorem IsName_ev (s : List UInt8) (hs : s.length ≤ 2 ^ 40) (rf : Refs) : Ev T f_hex_IsName [str s] rf (.ret (bl (nameM s))) rf := by
  refine Ev.any ?_ rfl rf
  rcases s with _ | ⟨c, l⟩
  · refine ev_fn rfl rfl ?_
    (repeat' (first
      | (intro (u_ : Unit); clear u_)
      | refine condT ?_
      | refine condF ?_
      | refine condp (by assumption) ?_
      | refine condn (by assumption) ?_
      | refine condN ?_
      | refine idxSb (by assumption) ?_
      | refine condf (by decide) ?_
      | (refine condD ?_ ?_ <;> intro hq_ <;> first | (exfalso; omega) | skip)
      | (refine idxS (by omega) ?_; intro b_ hb_; have hl_ := b_.toNat_lt)
      | refine wrA (by omega) ?_
      | refine wrS (by omega) (by omega) ?_
      | refine wrI (by omega) (by omega) ?_
      | refine wrBA (by omega) ?_
      | refine wrB (by omega) (by omega) ?_
      | refine strC (by omega) ?_
      | refine nilB rfl ?_))
    exact ⟨rfl, rfl⟩
  · have h0 : (c :: l)[0]? = some c := rfl
    have hC := ContainsFunc_ev (T := T) (c :: l) hs
    rw [nameM_cons]
    generalize (c :: l).all nameB = q at *
    refine ev_fn rfl rfl ?_
    (repeat' (first
      | (intro (u_ : Unit); clear u_)
      | refine condT ?_
      | refine condF ?_
      | refine condp (by assumption) ?_
      | refine condn (by assumption) ?_
      | refine condN ?_
      | refine idxSb (by assumption) ?_
      | refine condt (decide_eq_true (List.cons_ne_nil c l)) ?_
      | refine idxSb (i := 0) h0 ?_
      | refine bytesB (by simp) ?_
      | refine callE_ev (hC _) ?_
      | (refine condD ?_ ?_ <;> intro hq_ <;> first | (exfalso; omega) | skip)
      | (refine idxS (by omega) ?_; intro b_ hb_; have hl_ := b_.toNat_lt)
      | refine wrA (by omega) ?_
      | refine wrS (by omega) (by omega) ?_
      | refine wrI (by omega) (by omega) ?_
      | refine wrBA (by omega) ?_
      | refine wrB (by omega) (by omega) ?_
      | refine strC (by omega) ?_
      | refine nilB rfl ?_))
    all_goals (refine ⟨?_, rfl⟩; congr 3; rw [Bool.eq_iff_iff]; cases q <;> simp [fig] <;> omega)

def ixS (k : List UInt8) : List (List UInt8) → Nat → Int
  | [], _ => -1
  | a :: l, i => if k = a then i else ixS k l (i + 1)
theorem ixS_iff (k : List UInt8) : ∀ (l : List (List UInt8)) (i : Nat), 0 ≤ ixS k l i ↔ k ∈ l
  | [], i => by simp [ixS]
  | a :: l, i => by
    simp only [ixS, List.mem_cons]
    split
    · rename_i h; exact ⟨fun _ => .inl h, fun _ => by omega⟩
    · rename_i h; rw [ixS_iff k l]; exact ⟨.inr, fun h' => h'.resolve_left h⟩
theorem idxSt {l : List (List UInt8)} {i : Nat} {r : List UInt8} {c : List D → Prop} (h : l[i]? = some r) (h' : c [.str r]) : IdxL 1 (rowsS l) (i : Int) c := idxLb (by simp [rowsS, h]) rfl h'

theorem IndexS_ev (l : List (List UInt8)) (k : List UInt8) (hl : l.length ≤ 2 ^ 30) (rf : Refs) : Ev T f_slices_Index_string_string [lst (rowsS l), str k] rf (.ret (i64 (ixS k l 0))) rf := by
  refine Ev.any ?_ rfl rf
  have l1 := rowsS_length l
  refine ev_fn rfl rfl ?_
  (repeat' (first
    | (intro (u_ : Unit); clear u_)
    | refine condT ?_
    | refine condF ?_
    | refine condp (by assumption) ?_
    | refine condn (by assumption) ?_
    | refine condN ?_
    | refine idxSb (by assumption) ?_
    | (refine condD ?_ ?_ <;> intro hq_ <;> first | (exfalso; omega) | skip)
    | (refine idxS (by omega) ?_; intro b_ hb_; have hl_ := b_.toNat_lt)
    | refine wrA (by omega) ?_
    | refine wrS (by omega) (by omega) ?_
    | refine wrI (by omega) (by omega) ?_
    | refine wrBA (by omega) ?_
    | refine wrB (by omega) (by omega) ?_
    | refine strC (by omega) ?_
    | refine nilB rfl ?_))
  refine loopR (fun i : Nat => [(8, i64 i)]) (fun _ => []) (fun i => l.length - i) (fun i => i ≤ l.length ∧ ixS k l 0 = ixS k (l.drop i) i) 0 ⟨by omega, by simp⟩ (by rfl) (by rfl) ?_
  rintro i ⟨hi, hP⟩
  by_cases hlt : i < l.length
  · obtain ⟨r, hr⟩ : ∃ r, l[i]? = some r := ⟨_, List.getElem?_eq_getElem hlt⟩
    have h1 : l.drop i = r :: l.drop (i + 1) := by rw [← List.getElem_cons_drop (h := hlt)]; congr 1; exact (List.getElem?_eq_some_iff.1 hr).2
    rw [h1] at hP
    (repeat' (first
      | (intro (u_ : Unit); clear u_)
      | refine condT ?_
      | refine condF ?_
      | refine condp (by assumption) ?_
      | refine condn (by assumption) ?_
      | refine condN ?_
      | refine idxSb (by assumption) ?_
      | refine idxSt hr ?_
      | (refine condD ?_ ?_ <;> intro hk_)
      | (refine condD ?_ ?_ <;> intro hq_ <;> first | (exfalso; omega) | skip)
      | (refine idxS (by omega) ?_; intro b_ hb_; have hl_ := b_.toNat_lt)
      | refine wrA (by omega) ?_
      | refine wrS (by omega) (by omega) ?_
      | refine wrI (by omega) (by omega) ?_
      | refine wrBA (by omega) ?_
      | refine wrB (by omega) (by omega) ?_
      | refine strC (by omega) ?_
      | refine nilB rfl ?_))
    all_goals first
      | (rw [hP]; simp only [ixS]; rw [if_pos (by assumption)]; exact ⟨rfl, rfl⟩)
      | exact ⟨i + 1, ⟨by omega, by rw [hP]; simp only [ixS]; rw [if_neg (by assumption)]⟩, by omega, rfl, rfl, rfl, rfl⟩
      | (exfalso; omega)
  · rw [List.drop_eq_nil_of_le (by omega)] at hP
    (repeat' (first
      | (intro (u_ : Unit); clear u_)
      | refine condT ?_
      | refine condF ?_
      | refine condp (by assumption) ?_
      | refine condn (by assumption) ?_
      | refine condN ?_
      | refine idxSb (by assumption) ?_
      | (refine condD ?_ ?_ <;> intro hq_ <;> first | (exfalso; omega) | skip)
      | (refine idxS (by omega) ?_; intro b_ hb_; have hl_ := b_.toNat_lt)
      | refine wrA (by omega) ?_
      | refine wrS (by omega) (by omega) ?_
      | refine wrI (by omega) (by omega) ?_
      | refine wrBA (by omega) ?_
      | refine wrB (by omega) (by omega) ?_
      | refine strC (by omega) ?_
      | refine nilB rfl ?_))
    rw [hP]; exact ⟨rfl, rfl⟩

theorem ContainsS_ev (l : List (List UInt8)) (k : List UInt8) (hl : l.length ≤ 2 ^ 30) (rf : Refs) : Ev T f_slices_Contains_string_string [lst (rowsS l), str k] rf (.ret (bl (decide (k ∈ l)))) rf := by
  refine Ev.any ?_ rfl rf
  have := ixS_iff k l 0
  rw [show decide (k ∈ l) = decide (0 ≤ ixS k l 0) from by rw [Bool.eq_iff_iff]; simp [this]]
  refine ev_fn rfl rfl ?_
  (repeat' (first
    | (intro (u_ : Unit); clear u_)
    | refine condT ?_
    | refine condF ?_
    | refine condp (by assumption) ?_
    | refine condn (by assumption) ?_
    | refine condN ?_
    | refine idxSb (by assumption) ?_
    | refine callE_ev (IndexS_ev l k hl _) ?_
    | (refine condD ?_ ?_ <;> intro hq_ <;> first | (exfalso; omega) | skip)
    | (refine idxS (by omega) ?_; intro b_ hb_; have hl_ := b_.toNat_lt)
    | refine wrA (by omega) ?_
    | refine wrS (by omega) (by omega) ?_
    | refine wrI (by omega) (by omega) ?_
    | refine wrBA (by omega) ?_
    | refine wrB (by omega) (by omega) ?_
    | refine strC (by omega) ?_
    | refine nilB rfl ?_))
  all_goals exact ⟨rfl, rfl⟩

theorem prefix_take (p s : List UInt8) : p.isPrefixOf s = decide (s.take p.length = p) := by
  rw [Bool.eq_iff_iff, List.isPrefixOf_iff_prefix, List.prefix_iff_eq_take, decide_eq_true_eq]
  exact ⟨fun h => h.symm, fun h => h.symm⟩
theorem HasPrefix0_ev (s p : List UInt8) (hs : s.length ≤ 2 ^ 40) (rf : Refs) : Ev T f_stringslite_HasPrefix [str s, str p] rf (.ret (bl (p.isPrefixOf s))) rf := by
  refine Ev.any ?_ rfl rf
  rw [prefix_take]
  refine ev_fn rfl rfl ?_
  (repeat' (first
    | (intro (u_ : Unit); clear u_)
    | refine condT ?_
    | refine condF ?_
    | refine condp (by assumption) ?_
    | refine condn (by assumption) ?_
    | refine condN ?_
    | refine idxSb (by assumption) ?_
    | refine subHi (i := p.length) (by omega) ?_
    | (refine condD ?_ ?_ <;> intro hq_ <;> first | (exfalso; omega) | skip)
    | (refine idxS (by omega) ?_; intro b_ hb_; have hl_ := b_.toNat_lt)
    | refine wrA (by omega) ?_
    | refine wrS (by omega) (by omega) ?_
    | refine wrI (by omega) (by omega) ?_
    | refine wrBA (by omega) ?_
    | refine wrB (by omega) (by omega) ?_
    | refine strC (by omega) ?_
    | refine nilB rfl ?_))
  · exact ⟨rfl, rfl⟩
  · have : ¬ s.take p.length = p := fun h => by have h1 := congrArg List.length h; rw [List.length_take] at h1; omega
    rw [decide_eq_false this]; exact ⟨rfl, rfl⟩
theorem HasPrefix_ev (s p : List UInt8) (hs : s.length ≤ 2 ^ 40) (rf : Refs) : Ev T f_strings_HasPrefix [str s, str p] rf (.ret (bl (p.isPrefixOf s))) rf := by
  refine Ev.any ?_ rfl rf
  refine ev_fn rfl rfl ?_
  (repeat' (first
    | (intro (u_ : Unit); clear u_)
    | refine condT ?_
    | refine condF ?_
    | refine condp (by assumption) ?_
    | refine condn (by assumption) ?_
    | refine condN ?_
    | refine idxSb (by assumption) ?_
    | refine callE_ev (HasPrefix0_ev s p hs _) ?_
    | (refine condD ?_ ?_ <;> intro hq_ <;> first | (exfalso; omega) | skip)
    | (refine idxS (by omega) ?_; intro b_ hb_; have hl_ := b_.toNat_lt)
    | refine wrA (by omega) ?_
    | refine wrS (by omega) (by omega) ?_
    | refine wrI (by omega) (by omega) ?_
    | refine wrBA (by omega) ?_
    | refine wrB (by omega) (by omega) ?_
    | refine strC (by omega) ?_
    | refine nilB rfl ?_))
  exact ⟨rfl, rfl⟩

theorem splE {a b : List UInt8} {l : List (List UInt8)} {rf : Refs} {k : Out → Refs → Prop} (h0 : a.length < 4294967281 ∧ 1 ≤ b.length) (hl : Lib.split a b = l) (h : k (.ret (lst (rowsS l))) rf) : CallE T f_strings_Split [str a, str b] rf k := by
  refine callE_ev (ev_orc ((hS.spl _).trans ?_)) h
  simp only [splitO]
  rw [if_pos h0, hl]
theorem Keys_ev (rf : Refs) : Ev T f_scan_Keys [] rf (.ret (lst (rowsS keysL))) rf := by
  refine Ev.any ?_ rfl rf
  refine ev_fn rfl rfl ?_
  (repeat' (first
    | (intro (u_ : Unit); clear u_)
    | refine condT ?_
    | refine condF ?_
    | refine condp (by assumption) ?_
    | refine condn (by assumption) ?_
    | refine condN ?_
    | refine idxSb (by assumption) ?_
    | refine splE (l := keysL) (by decide) (by decide +kernel) ?_
    | (refine condD ?_ ?_ <;> intro hq_ <;> first | (exfalso; omega) | skip)
    | (refine idxS (by omega) ?_; intro b_ hb_; have hl_ := b_.toNat_lt)
    | refine wrA (by omega) ?_
    | refine wrS (by omega) (by omega) ?_
    | refine wrI (by omega) (by omega) ?_
    | refine wrBA (by omega) ?_
    | refine wrB (by omega) (by omega) ?_
    | refine strC (by omega) ?_
    | refine nilB rfl ?_))
  exact ⟨rfl, rfl⟩
theorem Marks_ev (rf : Refs) : Ev T f_scan_Marks [] rf (.ret (lst (rowsS marksL))) rf := by
  refine Ev.any ?_ rfl rf
  refine ev_fn rfl rfl ?_
  (repeat' (first
    | (intro (u_ : Unit); clear u_)
    | refine condT ?_
    | refine condF ?_
    | refine condp (by assumption) ?_
    | refine condn (by assumption) ?_
    | refine condN ?_
    | refine idxSb (by assumption) ?_
    | refine splE (l := marksL) (by decide) (by decide +kernel) ?_
    | (refine condD ?_ ?_ <;> intro hq_ <;> first | (exfalso; omega) | skip)
    | (refine idxS (by omega) ?_; intro b_ hb_; have hl_ := b_.toNat_lt)
    | refine wrA (by omega) ?_
    | refine wrS (by omega) (by omega) ?_
    | refine wrI (by omega) (by omega) ?_
    | refine wrBA (by omega) ?_
    | refine wrB (by omega) (by omega) ?_
    | refine strC (by omega) ?_
    | refine nilB rfl ?_))
  exact ⟨rfl, rfl⟩

def nxA : Nx → AV
  | .over => .tup [.agg (tokC tok0), i64 (-1)]
  | .bad k => .tup [.agg (tokC ⟨k, 0, [], 0⟩), i64 (0 : Nat)]
  | .ok t n => .tup [.agg (tokC t), i64 n]

theorem name_next {s : List UInt8} {c d : UInt8} {n : Nat} (h0 : s[0]? = some c) (hc : letter c = true) (hn : 1 ≤ n) (ha : (s.take n).all nameB = true) (hd : s[n]? = some d) : nameM (s.take (n + 1)) = nameB d := by
  rcases s with _ | ⟨x, l⟩
  · simp at h0
  simp only [List.getElem?_cons_zero, Option.some.injEq] at h0
  subst h0
  obtain ⟨m, rfl⟩ : ∃ m, n = m + 1 := ⟨n - 1, by omega⟩
  simp only [List.getElem?_cons_succ] at hd
  simp only [List.take_succ_cons, List.all_cons, Bool.and_eq_true] at ha
  rw [List.take_succ_cons]
  simp only [nameM, hc, Bool.true_and]
  rw [List.take_add_one, hd]
  simp [ha.2]
theorem all_next {s : List UInt8} {d : UInt8} {n : Nat} (ha : (s.take n).all nameB = true) (hd : s[n]? = some d) (hb : nameB d = true) : (s.take (n + 1)).all nameB = true := by
  rw [List.take_add_one, hd]; simp only [List.all_append, ha]; simp [hb]
theorem wordLen_le {s : List UInt8} (h : 1 ≤ s.length) : wordLen s ≤ s.length := by
  have := runA_le (p := nameB) h
  unfold wordLen; omega

theorem word_ev (s : List UInt8) (c : UInt8) (h0 : s[0]? = some c) (hc : letter c = true) (hs : s.length ≤ 2 ^ 40) (rf : Refs) : Ev T f_scan_word [str s] rf (.ret (nxA (wordM s))) rf := by
  refine Ev.any ?_ rfl rf
  have hl : 1 ≤ s.length := by have := (List.getElem?_eq_some_iff.1 h0).1; omega
  have hw := wordLen_le hl
  have hN : ∀ (l : List UInt8), l.length ≤ 2 ^ 40 → ∀ rf, Ev T f_hex_IsName [str l] rf (.ret (bl (nameM l))) rf := fun l h rf => IsName_ev l h rf
  have hC := ContainsS_ev (T := T) keysL
  have hkl : keysL.length = 20 := rfl
  have hK := Keys_ev (T := T)
  unfold wordM
  generalize hW : wordLen s = W at *
  generalize keysL = K at *
  refine ev_fn rfl rfl ?_
  (repeat' (first
    | (intro (u_ : Unit); clear u_)
    | refine condT ?_
    | refine condF ?_
    | refine condp (by assumption) ?_
    | refine condn (by assumption) ?_
    | refine condN ?_
    | refine idxSb (by assumption) ?_
    | (refine condD ?_ ?_ <;> intro hq_ <;> first | (exfalso; omega) | skip)
    | (refine idxS (by omega) ?_; intro b_ hb_; have hl_ := b_.toNat_lt)
    | refine wrA (by omega) ?_
    | refine wrS (by omega) (by omega) ?_
    | refine wrI (by omega) (by omega) ?_
    | refine wrBA (by omega) ?_
    | refine wrB (by omega) (by omega) ?_
    | refine strC (by omega) ?_
    | refine nilB rfl ?_))
  refine loopR (fun i : Nat => [(4, i64 i)]) (fun _ => []) (fun i => s.length - i) (fun i => 1 ≤ i ∧ i ≤ s.length ∧ (s.take i).all nameB = true ∧ i + runA nameB s i = W) 1 ⟨by omega, hl, ?_, by rw [← hW]; rfl⟩ (by rfl) (by rfl) ?_
  · rcases s with _ | ⟨x, l⟩
    · simp at h0
    · simp only [List.getElem?_cons_zero, Option.some.injEq] at h0; subst h0; simp [nameB, hc]
  rintro i ⟨hi1, hi, ha, hP⟩
  by_cases hlt : i < s.length
  · obtain ⟨d, hd⟩ := getS hlt
    have hnm := name_next h0 hc hi1 ha hd
    have hN1 := hN (s.take (i + 1)) (by rw [List.length_take]; omega)
    rw [hnm] at hN1
    cases hb : nameB d
    · rw [runA_no hd hb] at hP
      obtain rfl : i = W := by omega
      rw [hb] at hN1
      have hC1 := hC (s.take i) (by omega)
      by_cases hk : s.take i ∈ K
      · rw [decide_eq_true hk] at hC1
        rw [if_pos hk]
        (repeat' (first
          | (intro (u_ : Unit); clear u_)
          | refine condT ?_
          | refine condF ?_
          | refine condp (by assumption) ?_
          | refine condn (by assumption) ?_
          | refine condN ?_
          | refine idxSb (by assumption) ?_
          | refine subHi (i := i + 1) (by omega) ?_
          | refine subHi (i := i) (by omega) ?_
          | refine callE_ev (hN1 _) ?_
          | refine callE_ev (hK _) ?_
          | refine callE_ev (hC1 _) ?_
          | (refine condD ?_ ?_ <;> intro hq_ <;> first | (exfalso; omega) | skip)
          | (refine idxS (by omega) ?_; intro b_ hb_; have hl_ := b_.toNat_lt)
          | refine wrA (by omega) ?_
          | refine wrS (by omega) (by omega) ?_
          | refine wrI (by omega) (by omega) ?_
          | refine wrBA (by omega) ?_
          | refine wrB (by omega) (by omega) ?_
          | refine strC (by omega) ?_
          | refine nilB rfl ?_))
        exact ⟨rfl, rfl⟩
      · rw [decide_eq_false hk] at hC1
        rw [if_neg hk]
        (repeat' (first
          | (intro (u_ : Unit); clear u_)
          | refine condT ?_
          | refine condF ?_
          | refine condp (by assumption) ?_
          | refine condn (by assumption) ?_
          | refine condN ?_
          | refine idxSb (by assumption) ?_
          | refine subHi (i := i + 1) (by omega) ?_
          | refine subHi (i := i) (by omega) ?_
          | refine callE_ev (hN1 _) ?_
          | refine callE_ev (hK _) ?_
          | refine callE_ev (hC1 _) ?_
          | (refine condD ?_ ?_ <;> intro hq_ <;> first | (exfalso; omega) | skip)
          | (refine idxS (by omega) ?_; intro b_ hb_; have hl_ := b_.toNat_lt)
          | refine wrA (by omega) ?_
          | refine wrS (by omega) (by omega) ?_
          | refine wrI (by omega) (by omega) ?_
          | refine wrBA (by omega) ?_
          | refine wrB (by omega) (by omega) ?_
          | refine strC (by omega) ?_
          | refine nilB rfl ?_))
        exact ⟨rfl, rfl⟩
    · rw [runA_go hd hb] at hP
      rw [hb] at hN1
      (repeat' (first
        | (intro (u_ : Unit); clear u_)
        | refine condT ?_
        | refine condF ?_
        | refine condp (by assumption) ?_
        | refine condn (by assumption) ?_
        | refine condN ?_
        | refine idxSb (by assumption) ?_
        | refine subHi (i := i + 1) (by omega) ?_
        | refine callE_ev (hN1 _) ?_
        | (refine condD ?_ ?_ <;> intro hq_ <;> first | (exfalso; omega) | skip)
        | (refine idxS (by omega) ?_; intro b_ hb_; have hl_ := b_.toNat_lt)
        | refine wrA (by omega) ?_
        | refine wrS (by omega) (by omega) ?_
        | refine wrI (by omega) (by omega) ?_
        | refine wrBA (by omega) ?_
        | refine wrB (by omega) (by omega) ?_
        | refine strC (by omega) ?_
        | refine nilB rfl ?_))
      exact ⟨i + 1, ⟨by omega, by omega, all_next ha hd hb, by omega⟩, by omega, rfl, rfl, rfl, rfl⟩
  · rw [runA_end (by omega)] at hP
    obtain rfl : i = W := by omega
    have hC1 := hC (s.take i) (by omega)
    by_cases hk : s.take i ∈ K
    · rw [decide_eq_true hk] at hC1
      rw [if_pos hk]
      (repeat' (first
        | (intro (u_ : Unit); clear u_)
        | refine condT ?_
        | refine condF ?_
        | refine condp (by assumption) ?_
        | refine condn (by assumption) ?_
        | refine condN ?_
        | refine idxSb (by assumption) ?_
        | refine subHi (i := i) (by omega) ?_
        | refine callE_ev (hK _) ?_
        | refine callE_ev (hC1 _) ?_
        | (refine condD ?_ ?_ <;> intro hq_ <;> first | (exfalso; omega) | skip)
        | (refine idxS (by omega) ?_; intro b_ hb_; have hl_ := b_.toNat_lt)
        | refine wrA (by omega) ?_
        | refine wrS (by omega) (by omega) ?_
        | refine wrI (by omega) (by omega) ?_
        | refine wrBA (by omega) ?_
        | refine wrB (by omega) (by omega) ?_
        | refine strC (by omega) ?_
        | refine nilB rfl ?_))
      exact ⟨rfl, rfl⟩
    · rw [decide_eq_false hk] at hC1
      rw [if_neg hk]
      (repeat' (first
        | (intro (u_ : Unit); clear u_)
        | refine condT ?_
        | refine condF ?_
        | refine condp (by assumption) ?_
        | refine condn (by assumption) ?_
        | refine condN ?_
        | refine idxSb (by assumption) ?_
        | refine subHi (i := i) (by omega) ?_
        | refine callE_ev (hK _) ?_
        | refine callE_ev (hC1 _) ?_
        | (refine condD ?_ ?_ <;> intro hq_ <;> first | (exfalso; omega) | skip)
        | (refine idxS (by omega) ?_; intro b_ hb_; have hl_ := b_.toNat_lt)
        | refine wrA (by omega) ?_
        | refine wrS (by omega) (by omega) ?_
        | refine wrI (by omega) (by omega) ?_
        | refine wrBA (by omega) ?_
        | refine wrB (by omega) (by omega) ?_
        | refine strC (by omega) ?_
        | refine nilB rfl ?_))
      exact ⟨rfl, rfl⟩

theorem mark_ev (s : List UInt8) (hs : s.length ≤ 2 ^ 40) (rf : Refs) : Ev T f_scan_mark [str s] rf (.ret (nxA (markM s))) rf := by
  refine Ev.any ?_ rfl rf
  have hkl : marksL.length = 32 := rfl
  have hK := Marks_ev (T := T)
  have hH : ∀ p, ∀ rf, Ev T f_strings_HasPrefix [str s, str p] rf (.ret (bl (p.isPrefixOf s))) rf := fun p rf => HasPrefix_ev s p hs rf
  unfold markM
  generalize hR : bestL s marksL [] = R
  generalize marksL = K at *
  have l1 := rowsS_length K
  refine ev_fn rfl rfl ?_
  (repeat' (first
    | (intro (u_ : Unit); clear u_)
    | refine condT ?_
    | refine condF ?_
    | refine condp (by assumption) ?_
    | refine condn (by assumption) ?_
    | refine condN ?_
    | refine idxSb (by assumption) ?_
    | refine callE_ev (hK _) ?_
    | (refine condD ?_ ?_ <;> intro hq_ <;> first | (exfalso; omega) | skip)
    | (refine idxS (by omega) ?_; intro b_ hb_; have hl_ := b_.toNat_lt)
    | refine wrA (by omega) ?_
    | refine wrS (by omega) (by omega) ?_
    | refine wrI (by omega) (by omega) ?_
    | refine wrBA (by omega) ?_
    | refine wrB (by omega) (by omega) ?_
    | refine strC (by omega) ?_
    | refine nilB rfl ?_))
  refine loopR2 (fun (i : Nat) b => [(9, i64 i), (4, str b)]) (fun _ _ => []) (fun i _ => K.length - i) (fun i b => i ≤ K.length ∧ bestL s (K.drop i) b = R) 0 [] ⟨by omega, hR⟩ (by rfl) (by rfl) ?_
  rintro i b ⟨hi, hP⟩
  by_cases hlt : i < K.length
  · obtain ⟨m, hm⟩ : ∃ r, K[i]? = some r := ⟨_, List.getElem?_eq_getElem hlt⟩
    have h1 : K.drop i = m :: K.drop (i + 1) := by rw [← List.getElem_cons_drop (h := hlt)]; congr 1; exact (List.getElem?_eq_some_iff.1 hm).2
    rw [h1] at hP
    simp only [bestL] at hP
    have hH1 := hH m
    cases hp : m.isPrefixOf s
    · rw [hp] at hH1
      rw [hp, if_neg (by simp)] at hP
      (repeat' (first
        | (intro (u_ : Unit); clear u_)
        | refine condT ?_
        | refine condF ?_
        | refine condp (by assumption) ?_
        | refine condn (by assumption) ?_
        | refine condN ?_
        | refine idxSb (by assumption) ?_
        | refine idxSt hm ?_
        | refine callE_ev (hH1 _) ?_
        | (refine condD ?_ ?_ <;> intro hq_ <;> first | (exfalso; omega) | skip)
        | (refine idxS (by omega) ?_; intro b_ hb_; have hl_ := b_.toNat_lt)
        | refine wrA (by omega) ?_
        | refine wrS (by omega) (by omega) ?_
        | refine wrI (by omega) (by omega) ?_
        | refine wrBA (by omega) ?_
        | refine wrB (by omega) (by omega) ?_
        | refine strC (by omega) ?_
        | refine nilB rfl ?_))
      exact ⟨i + 1, b, ⟨by omega, hP⟩, by omega, rfl, rfl, rfl, rfl⟩
    · rw [hp] at hH1
      (repeat' (first
        | (intro (u_ : Unit); clear u_)
        | refine condT ?_
        | refine condF ?_
        | refine condp (by assumption) ?_
        | refine condn (by assumption) ?_
        | refine condN ?_
        | refine idxSb (by assumption) ?_
        | refine idxSt hm ?_
        | refine callE_ev (hH1 _) ?_
        | (refine condD ?_ ?_ <;> intro hq_ <;> first | (exfalso; omega) | skip)
        | (refine idxS (by omega) ?_; intro b_ hb_; have hl_ := b_.toNat_lt)
        | refine wrA (by omega) ?_
        | refine wrS (by omega) (by omega) ?_
        | refine wrI (by omega) (by omega) ?_
        | refine wrBA (by omega) ?_
        | refine wrB (by omega) (by omega) ?_
        | refine strC (by omega) ?_
        | refine nilB rfl ?_))
      · rw [if_pos ⟨hp, by omega⟩] at hP
        exact ⟨i + 1, m, ⟨by omega, hP⟩, by omega, rfl, rfl, rfl, rfl⟩
      · rw [if_neg (fun h => by omega)] at hP
        exact ⟨i + 1, b, ⟨by omega, hP⟩, by omega, rfl, rfl, rfl, rfl⟩
  · rw [List.drop_eq_nil_of_le (by omega)] at hP
    simp only [bestL] at hP
    subst hP
    (repeat' (first
      | (intro (u_ : Unit); clear u_)
      | refine condT ?_
      | refine condF ?_
      | refine condp (by assumption) ?_
      | refine condn (by assumption) ?_
      | refine condN ?_
      | refine idxSb (by assumption) ?_
      | (refine condD ?_ ?_ <;> intro hq_ <;> first | (exfalso; omega) | skip)
      | (refine idxS (by omega) ?_; intro b_ hb_; have hl_ := b_.toNat_lt)
      | refine wrA (by omega) ?_
      | refine wrS (by omega) (by omega) ?_
      | refine wrI (by omega) (by omega) ?_
      | refine wrBA (by omega) ?_
      | refine wrB (by omega) (by omega) ?_
      | refine strC (by omega) ?_
      | refine nilB rfl ?_))
    refine ⟨?_, rfl⟩
    simp only
    split
    · rename_i h
      have : b = [] := List.length_eq_zero_iff.1 h
      subst this; rfl
    · rfl
end Go.Ab.R15

namespace Go.Ab.R15
set_option maxRecDepth 100000
set_option linter.all false
set_option maxHeartbeats 4000000
variable {T : Tb} [hS : ScanB T]

section
variable {s : List UInt8}
theorem nl_two {c d : UInt8} (h : s[runA fig s 0]? = some c) (hc : c.toNat = 46) (h' : s[runA fig s 0 + 1]? = some d) (hd : fig d = true) : numLen s = runA fig s 0 + 1 + runA fig s (runA fig s 0 + 1) := by
  simp only [numLen, h, h']; rw [if_pos ⟨hc, hd⟩]
theorem nl_far (h : s.length ≤ runA fig s 0 + 1) : numLen s = runA fig s 0 := by
  simp only [numLen, List.getElem?_eq_none h]
  split
  · rename_i h1 h2; cases h2
  · rfl
theorem nl_dot {c : UInt8} (h : s[runA fig s 0]? = some c) (hc : c.toNat ≠ 46) : numLen s = runA fig s 0 := by
  simp only [numLen, h]
  split
  · rename_i h1 h2; cases h1; rw [if_neg (by omega)]
  · rfl
theorem nl_fig {d : UInt8} (h' : s[runA fig s 0 + 1]? = some d) (hd : fig d = false) : numLen s = runA fig s 0 := by
  simp only [numLen, h']
  split
  · rename_i h1 h2; cases h2; rw [if_neg (by simp [hd])]
  · rfl
theorem numLen_le : numLen s ≤ s.length := by
  have h0 := runA_le (p := fig) (s := s) (Nat.zero_le _)
  simp only [numLen]
  split
  · rename_i h1 h2
    have := (List.getElem?_eq_some_iff.1 h2).1
    split
    · have := runA_le (p := fig) (s := s) (i := runA fig s 0 + 1) (by omega); omega
    · omega
  · omega
end

theorem figsE {s : List UInt8} {i : Nat} {t : Tok} {k : Out → Refs → Prop} (h0 : i ≤ s.length) (hs : s.length ≤ 2 ^ 40) (h : k (.ret (.tup [])) [[str s], tokC t, [i64 (i + runA fig s i : Nat)]]) : CallE T f_scan_number_1 [.ptr 2 0, .ptr 0 0] [[str s], tokC t, [i64 i]] k :=
  callE_at [0, 2] (figs_ev s i h0 hs) rfl rfl rfl rfl rfl h

theorem number_ev (s : List UInt8) (hs : s.length ≤ 2 ^ 30) (rf : Refs) : Ev T f_scan_number [str s] rf (.ret (nxA (numberM s))) rf := by
  refine Ev.any ?_ rfl rf
  have hr := runA_le (p := fig) (s := s) (Nat.zero_le _)
  have hr2 : runA fig s 0 + 1 ≤ s.length → _ := runA_le (p := fig) (s := s) (i := runA fig s 0 + 1)
  have hl := numLen_le (s := s)
  have hd : ∀ n, n ≤ s.length → ∀ rf, Ev T f_dec_Read [str (s.take n)] rf (.ret (numT (decM (s.take n)))) rf := fun n h rf => decRead_ev _ (by rw [List.length_take]; omega) rf
  have hd1 := hd _ hl
  have hF := @figsE T hS s
  have n1 := @nl_two s
  have n2 := @nl_far s
  have n3 := @nl_dot s
  have n4 := @nl_fig s
  unfold numberM
  clear hd
  have hz : runA fig s 0 = 0 + runA fig s 0 := (Nat.zero_add _).symm
  generalize decM (s.take (numLen s)) = N at *
  cases N <;>
  (refine ev_fn rfl rfl ?_
   (repeat' (first
     | (intro (u_ : Unit); clear u_)
     | refine condT ?_
     | refine condF ?_
     | refine condp (by assumption) ?_
     | refine condn (by assumption) ?_
     | refine condN ?_
     | refine idxSb (by assumption) ?_
     | refine hF (i := 0) (t := tok0) (by omega) (by omega) ?_
     | rw [← hz]
     | (refine figE (fun hf_ => ?_) (fun hf_ => ?_))
     | refine hF (i := runA fig s 0 + 1) (t := tok0) (by omega) (by omega) ?_
     | (refine subHi (i := runA fig s 0 + 1 + runA fig s (runA fig s 0 + 1)) (by omega) ?_; have hn_ := n1 (by assumption) (by omega) (by assumption) (by assumption); rw [← hn_])
     | (refine subHi (i := runA fig s 0) (by omega) ?_; have hn_ : numLen s = runA fig s 0 := (by first | exact n2 (by omega) | exact n3 (by assumption) (by omega) | exact n4 (by assumption) (by assumption)); rw [← hn_])
     | refine callE_ev (hd1 _) ?_
     | (refine condD ?_ ?_ <;> intro hq_ <;> first | (exfalso; omega) | skip)
     | (refine idxS (by omega) ?_; intro b_ hb_; have hl_ := b_.toNat_lt)
     | refine wrA (by omega) ?_
     | refine wrS (by omega) (by omega) ?_
     | refine wrI (by omega) (by omega) ?_
     | refine wrBA (by omega) ?_
     | refine wrB (by omega) (by omega) ?_
     | refine strC (by omega) ?_
     | refine nilB rfl ?_))
   all_goals first | exact ⟨rfl, rfl⟩ | trace_state)

/-! texts in quotes -/
section
variable {s : List UInt8} {f i : Nat} {o : List UInt8} {c e a b : UInt8} {x y : Nat}
theorem tl_none (h : s.length ≤ i) : textL s f i o = none := by
  cases f with
  | zero => rfl
  | succ f => unfold textL; rw [List.getElem?_eq_none h]
theorem tl_nl (h : s[i]? = some c) (hc : c.toNat = 10) : textL s f i o = none := by
  cases f with
  | zero => rfl
  | succ f => unfold textL; rw [h]; simp only; rw [if_pos hc]
theorem tl_end (h : s[i]? = some c) (hc : c.toNat = 34) : textL s (f + 1) i o = some (o, i + 1) := by
  unfold textL; rw [h]; simp only; rw [if_neg (by omega), if_pos hc]
theorem tl_plain (h : s[i]? = some c) (h1 : c.toNat ≠ 10) (h2 : c.toNat ≠ 34) (h3 : c.toNat ≠ 92) : textL s (f + 1) i o = textL s f (i + 1) (o ++ [c]) := by
  conv => lhs; unfold textL
  rw [h]; simp only; rw [if_neg h1, if_neg h2, if_pos h3]
theorem tl_short (h : s[i]? = some c) (hc : c.toNat = 92) (hl : s.length ≤ i + 1) : textL s f i o = none := by
  cases f with
  | zero => rfl
  | succ f => unfold textL; rw [h]; simp only; rw [if_neg (by omega), if_neg (by omega), if_neg (by omega), List.getElem?_eq_none hl]
theorem tl_esc (h : s[i]? = some c) (hc : c.toNat = 92) (he : s[i + 1]? = some e) (hm : e ∈ escS) : textL s (f + 1) i o = textL s f (i + 2) (o ++ [e]) := by
  conv => lhs; unfold textL
  rw [h]; simp only; rw [if_neg (by omega), if_neg (by omega), if_neg (by omega), he]; simp only; rw [if_pos hm]
theorem tl_form (h : s[i]? = some c) (hc : c.toNat = 92) (he : s[i + 1]? = some e) (hm : e ∉ escS) (hx : s.length ≤ i + 3 ∨ e.toNat ≠ 120 ∨ (∃ a, s[i + 2]? = some a ∧ digit a.toNat < 0) ∨ (∃ a, s[i + 3]? = some a ∧ digit a.toNat < 0)) : textL s f i o = none := by
  cases f with
  | zero => rfl
  | succ f =>
    unfold textL
    rw [h]; simp only; rw [if_neg (by omega), if_neg (by omega), if_neg (by omega), he]; simp only; rw [if_neg hm]
    rcases h2 : s[i + 2]? with _ | a
    · rfl
    rcases h3 : s[i + 3]? with _ | b
    · rfl
    simp only
    have h4 : i + 3 < s.length := (List.getElem?_eq_some_iff.1 h3).1
    rw [if_neg]
    rintro ⟨p, q, r⟩
    rcases hx with hx | hx | ⟨a', ha, hx⟩ | ⟨a', ha, hx⟩
    · omega
    · exact hx p
    · rw [h2] at ha; cases ha; omega
    · rw [h3] at ha; cases ha; omega
theorem tl_hex (h : s[i]? = some c) (hc : c.toNat = 92) (he : s[i + 1]? = some e) (hm : e ∉ escS) (hx : e.toNat = 120) (h2 : s[i + 2]? = some a) (h3 : s[i + 3]? = some b) (ha : digit a.toNat = (x : Int)) (hb : digit b.toNat = (y : Int)) :
    textL s (f + 1) i o = if 16 * x + y = 10 then none else textL s f (i + 4) (o ++ [UInt8.ofNat (16 * x + y)]) := by
  conv => lhs; unfold textL
  rw [h]; simp only; rw [if_neg (by omega), if_neg (by omega), if_neg (by omega), he]; simp only; rw [if_neg hm, h2, h3]
  simp only [ha, hb]
  rw [if_pos ⟨hx, Int.natCast_nonneg _, Int.natCast_nonneg _⟩]
  rfl
end

def tcB : List UInt8 → AV
  | [] => .nil
  | a :: l => .own (bytesOf (a :: l))
theorem tcB_snoc (o : List UInt8) (c : UInt8) : tcB (o ++ [c]) = .own (bytesOf o ++ [[.int .u8 c.toNat]]) := by cases o <;> simp [tcB, bytesOf]

theorem text_ev (s : List UInt8) (hs : s.length ≤ 2 ^ 30) (rf : Refs) : Ev T f_scan_text [str s] rf (.ret (nxA (textQ s))) rf := by
  refine Ev.any ?_ rfl rf
  unfold textQ
  generalize hR : textL s s.length 1 [] = R
  refine ev_fn rfl rfl ?_
  (repeat' (first
    | (intro (u_ : Unit); clear u_)
    | refine condT ?_
    | refine condF ?_
    | refine condp (by assumption) ?_
    | refine condn (by assumption) ?_
    | refine condN ?_
    | refine idxSb (by assumption) ?_
    | (refine condD ?_ ?_ <;> intro hq_ <;> first | (exfalso; omega) | skip)
    | (refine idxS (by omega) ?_; intro b_ hb_; have hl_ := b_.toNat_lt)
    | refine wrA (by omega) ?_
    | refine wrS (by omega) (by omega) ?_
    | refine wrI (by omega) (by omega) ?_
    | refine wrBA (by omega) ?_
    | refine wrB (by omega) (by omega) ?_
    | refine strC (by omega) ?_
    | refine nilB rfl ?_))
  refine loopR2 (fun (i : Nat) o => [(5, i64 i), (4, tcB o)]) (fun _ _ => []) (fun i _ => s.length - i) (fun i o => (o.length ≤ i ∧ 1 ≤ i) ∧ ∃ f, s.length ≤ i + f ∧ textL s f i o = R) 1 [] ⟨by simp, s.length, by omega, hR⟩ (by rfl) (by rfl) ?_
  rintro i o ⟨⟨ho, hi1⟩, f, hf, hP⟩
  by_cases hlt : i < s.length
  · obtain ⟨g, rfl⟩ : ∃ g, f = g + 1 := ⟨f - 1, by omega⟩
    rcases o with _ | ⟨o0, o⟩ <;>
    (have hsn := tcB_snoc
     (repeat' (first
       | (intro (u_ : Unit); clear u_)
       | refine condT ?_
       | refine condF ?_
       | refine condp (by assumption) ?_
       | refine condn (by assumption) ?_
       | refine condN ?_
       | refine idxSb (by assumption) ?_
       | (refine ixbE (l := escS) ?_; intro n_ hn_ hm_)
       | (refine digE0 (by omega) ?_; intro m_ hd_ hdl_)
       | (refine digE ?_; intro n_ hd_ hdl_)
       | refine shlN (by decide) (by decide) (by rw [m64]; omega) ?_
       | refine orNib (by omega) (by omega) ?_
       | refine appN1 (by simp) rfl ?_
       | refine appL (by simp only [bytesOf, List.length_map, List.length_cons, List.length_nil] at *; omega) (sizesB_bytesOf _) rfl ?_
       | refine strB (l := []) rfl ?_
       | refine strB (strOf_bytesOf _) ?_
       | (refine condD ?_ ?_ <;> intro hq_ <;> first | (exfalso; omega) | skip)
       | (refine idxS (by omega) ?_; intro b_ hb_; have hl_ := b_.toNat_lt)
       | refine wrA (by omega) ?_
       | refine wrS (by omega) (by omega) ?_
       | refine wrI (by omega) (by omega) ?_
       | refine wrBA (by omega) ?_
       | refine wrB (by omega) (by omega) ?_
       | refine strC (by omega) ?_
       | refine nilB rfl ?_))
     all_goals first
       | (rw [tl_end (by assumption) (by omega)] at hP; subst hP; exact ⟨rfl, rfl⟩)
       | (rw [tl_nl (by assumption) (by omega)] at hP; subst hP; exact ⟨rfl, rfl⟩)
       | (rw [tl_short (by assumption) (by omega) (by omega)] at hP; subst hP; exact ⟨rfl, rfl⟩)
       | (rw [tl_plain (by assumption) (by omega) (by omega) (by omega)] at hP; refine ⟨i + 1, _, ⟨⟨by simp only [List.length_append, List.length_cons, List.length_nil] at ho ⊢; omega, by omega⟩, g, by omega, hP⟩, by omega, ?_, rfl, rfl, rfl⟩)
       | (rw [tl_esc (by assumption) (by omega) (by assumption) (hn_ (by omega))] at hP; refine ⟨i + 2, _, ⟨⟨by simp only [List.length_append, List.length_cons, List.length_nil] at ho ⊢; omega, by omega⟩, g, by omega, hP⟩, by omega, ?_, rfl, rfl, rfl⟩)
       | (rw [tl_form (by assumption) (by omega) (by assumption) (hm_ (by omega)) (.inl (by omega))] at hP; subst hP; exact ⟨rfl, rfl⟩)
       | (rw [tl_form (by assumption) (by omega) (by assumption) (hm_ (by omega)) (.inr (.inl (by omega)))] at hP; subst hP; exact ⟨rfl, rfl⟩)
       | (rw [tl_form (by assumption) (by omega) (by assumption) (hm_ (by omega)) (.inr (.inr (.inl ⟨_, by assumption, by omega⟩)))] at hP; subst hP; exact ⟨rfl, rfl⟩)
       | (rw [tl_form (by assumption) (by omega) (by assumption) (hm_ (by omega)) (.inr (.inr (.inr ⟨_, by assumption, by omega⟩)))] at hP; subst hP; exact ⟨rfl, rfl⟩)
       | (rw [tl_hex (by assumption) (by omega) (by assumption) (hm_ (by omega)) (by omega) (by assumption) (by assumption) (by assumption) (by assumption), if_pos (by omega)] at hP; subst hP; exact ⟨rfl, rfl⟩)
       | (rw [tl_hex (by assumption) (by omega) (by assumption) (hm_ (by omega)) (by omega) (by assumption) (by assumption) (by assumption) (by assumption), if_neg (by omega)] at hP; refine ⟨i + 4, _, ⟨⟨by simp only [List.length_append, List.length_cons, List.length_nil] at ho ⊢; omega, by omega⟩, g, by omega, hP⟩, by omega, ?_, rfl, rfl, rfl⟩)
       | skip
     all_goals (first | (rw [hsn, toNat_ofNat_u8 (by omega)]; rfl) | (rw [hsn]; rfl) | skip))
  · rw [tl_none (by omega)] at hP
    subst hP
    rcases o with _ | ⟨o0, o⟩ <;>
    ((repeat' (first
      | (intro (u_ : Unit); clear u_)
      | refine condT ?_
      | refine condF ?_
      | refine condp (by assumption) ?_
      | refine condn (by assumption) ?_
      | refine condN ?_
      | refine idxSb (by assumption) ?_
      | (refine condD ?_ ?_ <;> intro hq_ <;> first | (exfalso; omega) | skip)
      | (refine idxS (by omega) ?_; intro b_ hb_; have hl_ := b_.toNat_lt)
      | refine wrA (by omega) ?_
      | refine wrS (by omega) (by omega) ?_
      | refine wrI (by omega) (by omega) ?_
      | refine wrBA (by omega) ?_
      | refine wrB (by omega) (by omega) ?_
      | refine strC (by omega) ?_
      | refine nilB rfl ?_))
     exact ⟨rfl, rfl⟩)
end Go.Ab.R15

namespace Go.Ab.R15
set_option maxRecDepth 100000
set_option linter.all false
set_option maxHeartbeats 4000000
variable {T : Tb} [hS : ScanB T]

section
variable {s : List UInt8} {f i : Nat} {c : UInt8}
theorem el_none (h : s.length ≤ i) : exprL s f i = none := by
  cases f with
  | zero => rfl
  | succ f => unfold exprL; rw [List.getElem?_eq_none h]
theorem el_nl (h : s[i]? = some c) (hc : c.toNat = 10) : exprL s f i = none := by
  cases f with
  | zero => rfl
  | succ f => unfold exprL; rw [h]; simp only; rw [if_pos hc]
theorem el_bad (h : s[i]? = some c) (hc : c.toNat = 92) (hh : hit s (i + 1) 10 = true) : exprL s f i = none := by
  cases f with
  | zero => rfl
  | succ f => unfold exprL; rw [h]; simp only; rw [if_neg (by omega), if_pos hc, if_pos hh]
theorem el_esc (h : s[i]? = some c) (hc : c.toNat = 92) (hh : hit s (i + 1) 10 = false) : exprL s (f + 1) i = exprL s f (i + 2) := by
  conv => lhs; unfold exprL
  rw [h]; simp only; rw [if_neg (by omega), if_pos hc, if_neg (by rw [hh]; simp)]
theorem el_end (h : s[i]? = some c) (hc : c.toNat = 47) : exprL s (f + 1) i = some i := by
  unfold exprL; rw [h]; simp only; rw [if_neg (by omega), if_neg (by omega), if_pos hc]
theorem el_plain (h : s[i]? = some c) (h1 : c.toNat ≠ 10) (h2 : c.toNat ≠ 92) (h3 : c.toNat ≠ 47) : exprL s (f + 1) i = exprL s f (i + 1) := by
  conv => lhs; unfold exprL
  rw [h]; simp only; rw [if_neg h1, if_neg h2, if_neg h3]
end

theorem rdE1 {s : List UInt8} {rf : Refs} {k : Out → Refs → Prop} (hs : s.length ≤ 2 ^ 30) (h0 : ∀ e, parse s = .error e → e ≠ 0 → k (.ret (.tup [lst [], i64 e])) rf) (h1 : ∀ t, parse s = .ok t → k (.ret (.tup [lst (t.map reD), i64 (0 : Nat)])) rf) : CallE T f_regex_Read [str s] rf k := by
  refine callE_ev (rRd_ev s hs rf) ?_
  cases h : parse s with
  | error e => exact h0 e h (err_nz1 h)
  | ok t => exact h1 t h

theorem expression_ev (s : List UInt8) (hs : s.length ≤ 2 ^ 30) (rf : Refs) : Ev T f_scan_expression [str s] rf (.ret (nxA (exprM s))) rf := by
  refine Ev.any ?_ rfl rf
  unfold exprM
  generalize hR : exprL s s.length 1 = R
  refine ev_fn rfl rfl ?_
  (repeat' (first
    | (intro (u_ : Unit); clear u_)
    | refine condT ?_
    | refine condF ?_
    | refine condp (by assumption) ?_
    | refine condn (by assumption) ?_
    | refine condN ?_
    | refine idxSb (by assumption) ?_
    | (refine condD ?_ ?_ <;> intro hq_ <;> first | (exfalso; omega) | skip)
    | (refine idxS (by omega) ?_; intro b_ hb_; have hl_ := b_.toNat_lt)
    | refine wrA (by omega) ?_
    | refine wrS (by omega) (by omega) ?_
    | refine wrI (by omega) (by omega) ?_
    | refine wrBA (by omega) ?_
    | refine wrB (by omega) (by omega) ?_
    | refine strC (by omega) ?_
    | refine nilB rfl ?_))
  refine loopR (fun i : Nat => [(4, i64 i)]) (fun _ => []) (fun i => s.length - i) (fun i => 1 ≤ i ∧ ∃ f, s.length ≤ i + f ∧ exprL s f i = R) 1 ⟨by omega, s.length, by omega, hR⟩ (by rfl) (by rfl) ?_
  rintro i ⟨hi1, f, hf, hP⟩
  by_cases hlt : i < s.length
  · obtain ⟨g, rfl⟩ : ∃ g, f = g + 1 := ⟨f - 1, by omega⟩
    (repeat' (first
      | (intro (u_ : Unit); clear u_)
      | refine condT ?_
      | refine condF ?_
      | refine condp (by assumption) ?_
      | refine condn (by assumption) ?_
      | refine condN ?_
      | refine idxSb (by assumption) ?_
      | (refine subBo (i := 1) (j := i) (by omega) (by omega) ?_)
      | (refine rdE1 (by rw [List.length_drop, List.length_take]; omega) (fun e_ hp_ he_ => ?_) (fun t_ hp_ => ?_))
      | (refine condD ?_ ?_ <;> intro hq_ <;> first | (exfalso; omega) | skip)
      | (refine idxS (by omega) ?_; intro b_ hb_; have hl_ := b_.toNat_lt)
      | refine wrA (by omega) ?_
      | refine wrS (by omega) (by omega) ?_
      | refine wrI (by omega) (by omega) ?_
      | refine wrBA (by omega) ?_
      | refine wrB (by omega) (by omega) ?_
      | refine strC (by omega) ?_
      | refine nilB rfl ?_))
    all_goals first
      | (rw [el_nl (by assumption) (by omega)] at hP; subst hP; exact ⟨rfl, rfl⟩)
      | (rw [el_plain (by assumption) (by omega) (by omega) (by omega)] at hP; exact ⟨i + 1, ⟨by omega, g, by omega, hP⟩, by omega, rfl, rfl, rfl, rfl⟩)
      | (rw [el_bad (by assumption) (by omega) (hitT (by assumption) (by omega))] at hP; subst hP; exact ⟨rfl, rfl⟩)
      | (rw [el_esc (by assumption) (by omega) (hitF (by assumption) (by omega))] at hP; exact ⟨i + 2, ⟨by omega, g, by omega, hP⟩, by omega, rfl, rfl, rfl, rfl⟩)
      | (rw [el_esc (by assumption) (by omega) (hit_none (by omega))] at hP; exact ⟨i + 2, ⟨by omega, g, by omega, hP⟩, by omega, rfl, rfl, rfl, rfl⟩)
      | (rw [el_end (by assumption) (by omega)] at hP; subst hP; simp only; rw [hp_]; exact ⟨rfl, rfl⟩)
      | skip
  · rw [el_none (by omega)] at hP
    subst hP
    (repeat' (first
      | (intro (u_ : Unit); clear u_)
      | refine condT ?_
      | refine condF ?_
      | refine condp (by assumption) ?_
      | refine condn (by assumption) ?_
      | refine condN ?_
      | refine idxSb (by assumption) ?_
      | (refine condD ?_ ?_ <;> intro hq_ <;> first | (exfalso; omega) | skip)
      | (refine idxS (by omega) ?_; intro b_ hb_; have hl_ := b_.toNat_lt)
      | refine wrA (by omega) ?_
      | refine wrS (by omega) (by omega) ?_
      | refine wrI (by omega) (by omega) ?_
      | refine wrBA (by omega) ?_
      | refine wrB (by omega) (by omega) ?_
      | refine strC (by omega) ?_
      | refine nilB rfl ?_))
    exact ⟨rfl, rfl⟩

theorem next_ev (s : List UInt8) (op : Bool) (hs : s.length ≤ 2 ^ 30) (hne : 0 < s.length) (rf : Refs) : Ev T f_scan_next [str s, bl op] rf (.ret (nxA (nextM s op))) rf := by
  refine Ev.any ?_ rfl rf
  obtain ⟨c, hc⟩ := getS hne
  have h1 : s.take 1 = [c] := by rcases s with _ | ⟨x, l⟩; simp at hne; simp at hc; simp [hc]
  have hN := IsName_ev (T := T) [c] (by simp)
  have hNm : nameM [c] = letter c := by simp [nameM]
  rw [hNm] at hN
  unfold nextM
  rw [hc]
  simp only
  have e1 := number_ev (T := T) s hs
  have e2 := text_ev (T := T) s hs
  have e3 := expression_ev (T := T) s hs
  have e4 := word_ev (T := T) s c hc
  have e5 := mark_ev (T := T) s (by omega)
  by_cases c1 : c.toNat = 10 ∨ c.toNat = 59
  · rw [if_pos c1]
    refine ev_fn rfl rfl ?_
    (repeat' (first
      | (intro (u_ : Unit); clear u_)
      | refine condT ?_
      | refine condF ?_
      | refine condp (by assumption) ?_
      | refine condn (by assumption) ?_
      | refine condN ?_
      | refine idxSb (by assumption) ?_
      | refine idxSb (i := 0) hc ?_
      | (refine condD ?_ ?_ <;> intro hq_ <;> first | (exfalso; omega) | skip)
      | (refine idxS (by omega) ?_; intro b_ hb_; have hl_ := b_.toNat_lt)
      | refine wrA (by omega) ?_
      | refine wrS (by omega) (by omega) ?_
      | refine wrI (by omega) (by omega) ?_
      | refine wrBA (by omega) ?_
      | refine wrB (by omega) (by omega) ?_
      | refine strC (by omega) ?_
      | refine nilB rfl ?_))
    all_goals exact ⟨rfl, rfl⟩
  rw [if_neg c1]
  cases hf : fig c
  case true =>
    rw [if_pos rfl]
    generalize numberM s = N at *
    cases N <;>
    (refine ev_fn rfl rfl ?_
     (repeat' (first
       | (intro (u_ : Unit); clear u_)
       | refine condT ?_
       | refine condF ?_
       | refine condp (by assumption) ?_
       | refine condn (by assumption) ?_
       | refine condN ?_
       | refine idxSb (by assumption) ?_
       | refine idxSb (i := 0) hc ?_
       | (refine figE (fun hf_ => ?_) (fun hf_ => ?_) <;> first | (exfalso; rw [hf] at hf_; exact absurd hf_ (by decide)) | skip)
       | refine callE_ev (e1 _) ?_
       | (refine condD ?_ ?_ <;> intro hq_ <;> first | (exfalso; omega) | skip)
       | (refine idxS (by omega) ?_; intro b_ hb_; have hl_ := b_.toNat_lt)
       | refine wrA (by omega) ?_
       | refine wrS (by omega) (by omega) ?_
       | refine wrI (by omega) (by omega) ?_
       | refine wrBA (by omega) ?_
       | refine wrB (by omega) (by omega) ?_
       | refine strC (by omega) ?_
       | refine nilB rfl ?_))
     all_goals exact ⟨rfl, rfl⟩)
  rw [if_neg (by decide)]
  have hfk : ∀ {k : Out → Refs → Prop} {rf : Refs}, k (.ret (bl false)) rf → CallE T f_scan_isFigure [u8 c.toNat] rf k := fun h => figE (fun h1 => by rw [hf] at h1; cases h1) (fun _ => h)
  by_cases c3 : c.toNat = 34
  · rw [if_pos c3]
    generalize textQ s = N at *
    cases N <;>
    (refine ev_fn rfl rfl ?_
     (repeat' (first
       | (intro (u_ : Unit); clear u_)
       | refine condT ?_
       | refine condF ?_
       | refine condp (by assumption) ?_
       | refine condn (by assumption) ?_
       | refine condN ?_
       | refine idxSb (by assumption) ?_
       | refine idxSb (i := 0) hc ?_
       | refine hfk ?_
       | refine callE_ev (e2 _) ?_
       | (refine condD ?_ ?_ <;> intro hq_ <;> first | (exfalso; omega) | skip)
       | (refine idxS (by omega) ?_; intro b_ hb_; have hl_ := b_.toNat_lt)
       | refine wrA (by omega) ?_
       | refine wrS (by omega) (by omega) ?_
       | refine wrI (by omega) (by omega) ?_
       | refine wrBA (by omega) ?_
       | refine wrB (by omega) (by omega) ?_
       | refine strC (by omega) ?_
       | refine nilB rfl ?_))
     all_goals exact ⟨rfl, rfl⟩)
  rw [if_neg c3]
  by_cases c4 : c.toNat = 47 ∧ op = false
  · rw [if_pos c4]
    obtain ⟨c4, rfl⟩ := c4
    generalize exprM s = N at *
    cases N <;>
    (refine ev_fn rfl rfl ?_
     (repeat' (first
       | (intro (u_ : Unit); clear u_)
       | refine condT ?_
       | refine condF ?_
       | refine condp (by assumption) ?_
       | refine condn (by assumption) ?_
       | refine condN ?_
       | refine idxSb (by assumption) ?_
       | refine idxSb (i := 0) hc ?_
       | refine hfk ?_
       | refine callE_ev (e3 _) ?_
       | (refine condD ?_ ?_ <;> intro hq_ <;> first | (exfalso; omega) | skip)
       | (refine idxS (by omega) ?_; intro b_ hb_; have hl_ := b_.toNat_lt)
       | refine wrA (by omega) ?_
       | refine wrS (by omega) (by omega) ?_
       | refine wrI (by omega) (by omega) ?_
       | refine wrBA (by omega) ?_
       | refine wrB (by omega) (by omega) ?_
       | refine strC (by omega) ?_
       | refine nilB rfl ?_))
     all_goals exact ⟨rfl, rfl⟩)
  rw [if_neg c4]
  cases hl : letter c
  case true =>
    rw [if_pos rfl]
    have e4 := e4 hl (by omega)
    rw [hl] at hN
    generalize wordM s = N at *
    cases op <;> cases N <;>
    (refine ev_fn rfl rfl ?_
     (repeat' (first
       | (intro (u_ : Unit); clear u_)
       | refine condT ?_
       | refine condF ?_
       | refine condp (by assumption) ?_
       | refine condn (by assumption) ?_
       | refine condN ?_
       | refine idxSb (by assumption) ?_
       | refine idxSb (i := 0) hc ?_
       | refine hfk ?_
       | (refine subHi (i := 1) (by omega) ?_; rw [h1])
       | refine callE_ev (hN _) ?_
       | refine callE_ev (e4 _) ?_
       | (refine condD ?_ ?_ <;> intro hq_ <;> first | (exfalso; omega) | skip)
       | (refine idxS (by omega) ?_; intro b_ hb_; have hl_ := b_.toNat_lt)
       | refine wrA (by omega) ?_
       | refine wrS (by omega) (by omega) ?_
       | refine wrI (by omega) (by omega) ?_
       | refine wrBA (by omega) ?_
       | refine wrB (by omega) (by omega) ?_
       | refine strC (by omega) ?_
       | refine nilB rfl ?_))
     all_goals first | exact ⟨rfl, rfl⟩ | (exfalso; exact c4 ⟨by omega, rfl⟩))
  rw [if_neg (by decide)]
  rw [hl] at hN
  generalize markM s = N at *
  cases op <;> cases N <;>
  (refine ev_fn rfl rfl ?_
   (repeat' (first
     | (intro (u_ : Unit); clear u_)
     | refine condT ?_
     | refine condF ?_
     | refine condp (by assumption) ?_
     | refine condn (by assumption) ?_
     | refine condN ?_
     | refine idxSb (by assumption) ?_
     | refine idxSb (i := 0) hc ?_
     | refine hfk ?_
     | (refine subHi (i := 1) (by omega) ?_; rw [h1])
     | refine callE_ev (hN _) ?_
     | refine callE_ev (e5 _) ?_
     | (refine condD ?_ ?_ <;> intro hq_ <;> first | (exfalso; omega) | skip)
     | (refine idxS (by omega) ?_; intro b_ hb_; have hl_ := b_.toNat_lt)
     | refine wrA (by omega) ?_
     | refine wrS (by omega) (by omega) ?_
     | refine wrI (by omega) (by omega) ?_
     | refine wrBA (by omega) ?_
     | refine wrB (by omega) (by omega) ?_
     | refine strC (by omega) ?_
     | refine nilB rfl ?_))
   all_goals first | exact ⟨rfl, rfl⟩ | (exfalso; exact c4 ⟨by omega, rfl⟩))

theorem Operand_ev (t : Tok) (rf : Refs) : Ev T f_scan_Operand [.agg (tokC t)] rf (.ret (bl (opM t))) rf := by
  refine Ev.any ?_ rfl rf
  obtain ⟨k, p, x, n⟩ := t
  refine ev_fn rfl rfl ?_
  (repeat' (first
    | (intro (u_ : Unit); clear u_)
    | refine condT ?_
    | refine condF ?_
    | refine condp (by assumption) ?_
    | refine condn (by assumption) ?_
    | refine condN ?_
    | refine idxSb (by assumption) ?_
    | (refine condD ?_ ?_ <;> intro hq_ <;> first | (exfalso; omega) | skip)
    | (refine idxS (by omega) ?_; intro b_ hb_; have hl_ := b_.toNat_lt)
    | refine wrA (by omega) ?_
    | refine wrS (by omega) (by omega) ?_
    | refine wrI (by omega) (by omega) ?_
    | refine wrBA (by omega) ?_
    | refine wrB (by omega) (by omega) ?_
    | refine strC (by omega) ?_
    | refine nilB rfl ?_))
  all_goals (simp only at *; refine ⟨?_, rfl⟩; congr 3; rw [Bool.eq_iff_iff]; by_cases x1 : x = [41] <;> by_cases x2 : x = [93] <;> simp [opM, x1, x2] at * <;> omega)
end Go.Ab.R15

namespace Go.Ab.R15
set_option maxRecDepth 100000
set_option linter.all false
set_option maxHeartbeats 4000000
variable {T : Tb} [hS : ScanB T]

theorem bestL_pre (s : List UInt8) : ∀ (l : List (List UInt8)) (b : List UInt8), b.isPrefixOf s = true → (bestL s l b).isPrefixOf s = true
  | [], b, h => h
  | m :: l, b, h => by
    simp only [bestL]
    refine bestL_pre s l _ ?_
    split
    · rename_i h1; exact h1.1
    · exact h
theorem textL_len {s : List UInt8} : ∀ {f i : Nat} {o o' : List UInt8} {n : Nat}, textL s f i o = some (o', n) → i < n ∧ n ≤ s.length
  | 0, i, o, o', n, h => by cases h
  | f + 1, i, o, o', n, h => by
    unfold textL at h
    rcases hc : s[i]? with _ | c
    · rw [hc] at h; cases h
    have hl := (List.getElem?_eq_some_iff.1 hc).1
    rw [hc] at h
    simp only at h
    split at h
    · cases h
    split at h
    · cases h; omega
    split at h
    · have := textL_len h; omega
    rcases he : s[i + 1]? with _ | e
    · rw [he] at h; cases h
    rw [he] at h
    simp only at h
    split at h
    · have := textL_len h; omega
    split at h
    · split at h
      · split at h
        · cases h
        · have := textL_len h; omega
      · cases h
    · cases h
theorem exprL_len {s : List UInt8} : ∀ {f i n : Nat}, exprL s f i = some n → i ≤ n ∧ n < s.length
  | 0, i, n, h => by cases h
  | f + 1, i, n, h => by
    unfold exprL at h
    rcases hc : s[i]? with _ | c
    · rw [hc] at h; cases h
    have hl := (List.getElem?_eq_some_iff.1 hc).1
    rw [hc] at h
    simp only at h
    split at h
    · cases h
    split at h
    · split at h
      · cases h
      · have := exprL_len h; omega
    split at h
    · cases h; omega
    · have := exprL_len h; omega
theorem numLen_pos {s : List UInt8} {c : UInt8} (h : s[0]? = some c) (hc : fig c = true) : 1 ≤ numLen s := by
  have h1 := runA_go h hc
  simp only [numLen]
  split
  · split <;> omega
  · omega

theorem next_ok {s : List UInt8} {op : Bool} {t : Tok} {n : Nat} (h : nextM s op = .ok t n) : 1 ≤ n ∧ n ≤ s.length ∧ 1 ≤ t.kind ∧ t.kind ≤ 7 ∧ t.pos = 0 := by
  unfold nextM at h
  rcases hc : s[0]? with _ | c
  · rw [hc] at h; cases h
  have hl := (List.getElem?_eq_some_iff.1 hc).1
  rw [hc] at h
  simp only at h
  split at h
  · cases h; simp; omega
  split at h
  · rename_i hf
    have h1 := numLen_pos hc hf
    have h2 := numLen_le (s := s)
    unfold numberM at h
    split at h
    · cases h; exact ⟨h1, h2, by simp, by simp, rfl⟩
    · cases h
  split at h
  · unfold textQ at h
    split at h
    · cases h
    · rename_i o n' ht
      have := textL_len ht
      cases h; exact ⟨by omega, by omega, by simp, by simp, rfl⟩
  split at h
  · unfold exprM at h
    split at h
    · cases h
    · rename_i i hi
      have := exprL_len hi
      split at h
      · cases h; exact ⟨by omega, by omega, by simp, by simp, rfl⟩
      · cases h
  split at h
  · have := wordLen_le (s := s) (by omega)
    unfold wordM at h
    cases h
    refine ⟨by unfold wordLen; omega, this, ?_, ?_, rfl⟩
    · simp only; split <;> decide
    · simp only; split <;> decide
  · unfold markM at h
    simp only at h
    split at h
    · cases h
    · rename_i hb
      cases h
      have := bestL_pre s marksL [] (by simp)
      have := (List.isPrefixOf_iff_prefix.1 this).length_le
      exact ⟨by omega, by omega, by simp, by simp, rfl⟩

def tcT : List Tok → AV
  | [] => .nil
  | t :: l => .own ((t :: l).map tokD)
theorem tcT_snoc (l : List Tok) (t : Tok) : tcT (l ++ [t]) = .own (l.map tokD ++ [tokD t]) := by cases l <;> simp [tcT]
theorem sizesT (l : List Tok) : sizesB 4 (l.map tokD) = true := by cases l <;> rfl
def toksA : Ts → AV
  | .err e i => .tup [lst [], i64 e, i64 i]
  | .ok l => .tup [lst (l.map tokD), i64 (0 : Nat), i64 (0 : Nat)]

theorem toks_go {s : List UInt8} {f i : Nat} {op : Bool} {l : List Tok} : toksL s (f + 1) i op l = if i + skipA false s i < s.length then
      match nextM (s.drop (i + skipA false s i)) op with
      | .over => .err 3 (i + skipA false s i)
      | .bad _ => .err 9 (i + skipA false s i)
      | .ok t n => if 2000 ≤ l.length then .err 6 (i + skipA false s i) else toksL s f (i + skipA false s i + n) (opM ⟨t.kind, i + skipA false s i, t.text, t.num⟩) (l ++ [⟨t.kind, i + skipA false s i, t.text, t.num⟩])
    else if 2000 ≤ l.length then .err 6 (i + skipA false s i) else .ok (l ++ [⟨0, i + skipA false s i, [], 0⟩]) := rfl

theorem Tokens_ev (s : List UInt8) (hs : s.length ≤ 2 ^ 60) (rf : Refs) : Ev T f_scan_Tokens [str s] rf (.ret (toksA (toksM s))) rf := by
  refine Ev.any ?_ rfl rf
  unfold toksM
  by_cases hbig : 8192 < s.length
  · rw [if_pos hbig]
    refine ev_fn rfl rfl ?_
    (repeat' (first
      | (intro (u_ : Unit); clear u_)
      | refine condT ?_
      | refine condF ?_
      | refine condp (by assumption) ?_
      | refine condn (by assumption) ?_
      | refine condN ?_
      | refine idxSb (by assumption) ?_
      | (refine condD ?_ ?_ <;> intro hq_ <;> first | (exfalso; omega) | skip)
      | (refine idxS (by omega) ?_; intro b_ hb_; have hl_ := b_.toNat_lt)
      | refine wrA (by omega) ?_
      | refine wrS (by omega) (by omega) ?_
      | refine wrI (by omega) (by omega) ?_
      | refine wrBA (by omega) ?_
      | refine wrB (by omega) (by omega) ?_
      | refine strC (by omega) ?_
      | refine nilB rfl ?_))
    exact ⟨rfl, rfl⟩
  rw [if_neg hbig]
  generalize hR : toksL s (s.length + 1) 0 false [] = R
  refine ev_fn rfl rfl ?_
  (repeat' (first
    | (intro (u_ : Unit); clear u_)
    | refine condT ?_
    | refine condF ?_
    | refine condp (by assumption) ?_
    | refine condn (by assumption) ?_
    | refine condN ?_
    | refine idxSb (by assumption) ?_
    | (refine condD ?_ ?_ <;> intro hq_ <;> first | (exfalso; omega) | skip)
    | (refine idxS (by omega) ?_; intro b_ hb_; have hl_ := b_.toNat_lt)
    | refine wrA (by omega) ?_
    | refine wrS (by omega) (by omega) ?_
    | refine wrI (by omega) (by omega) ?_
    | refine wrBA (by omega) ?_
    | refine wrB (by omega) (by omega) ?_
    | refine strC (by omega) ?_
    | refine nilB rfl ?_))
  refine loopR3 (fun (i : Nat) (op : Bool) l => [(5, tcT l), (7, i64 i), (8, bl op)]) (fun _ _ _ => []) (fun i _ _ => s.length - i) (fun i op l => (i ≤ s.length ∧ l.length ≤ 2000) ∧ ∃ f, s.length < i + f ∧ toksL s f i op l = R) 0 false [] ⟨by simp, s.length + 1, by omega, hR⟩ (by rfl) (by rfl) ?_
  rintro i op l ⟨⟨hi, hl⟩, f, hf, hP⟩
  obtain ⟨g, rfl⟩ : ∃ g, f = g + 1 := ⟨f - 1, by omega⟩
  rw [toks_go] at hP
  have hsk := skip_ev (T := T) s i hi (by omega)
  have hj := skipA_le (b := false) hi
  have hij : i ≤ i + skipA false s i := by omega
  generalize i + skipA false s i = j at *
  by_cases hlt : j < s.length
  · rw [if_pos hlt] at hP
    have hn := next_ev (T := T) (s.drop j) op (by rw [List.length_drop]; omega) (by rw [List.length_drop]; omega)
    cases hx : nextM (s.drop j) op with
    | over =>
      rw [hx] at hn hP
      simp only at hP
      subst hP
      rcases l with _ | ⟨t0, l⟩ <;>
      ((repeat' (first
        | (intro (u_ : Unit); clear u_)
        | refine condT ?_
        | refine condF ?_
        | refine condp (by assumption) ?_
        | refine condn (by assumption) ?_
        | refine condN ?_
        | refine idxSb (by assumption) ?_
        | refine callE_ev (hsk _) ?_
        | refine subLo (i := j) (by omega) ?_
        | refine callE_ev (hn _) ?_
        | (refine condD ?_ ?_ <;> intro hq_ <;> first | (exfalso; omega) | skip)
        | (refine idxS (by omega) ?_; intro b_ hb_; have hl_ := b_.toNat_lt)
        | refine wrA (by omega) ?_
        | refine wrS (by omega) (by omega) ?_
        | refine wrI (by omega) (by omega) ?_
        | refine wrBA (by omega) ?_
        | refine wrB (by omega) (by omega) ?_
        | refine strC (by omega) ?_
        | refine nilB rfl ?_))
       exact ⟨rfl, rfl⟩)
    | bad k =>
      rw [hx] at hn hP
      simp only at hP
      subst hP
      rcases l with _ | ⟨t0, l⟩ <;>
      ((repeat' (first
        | (intro (u_ : Unit); clear u_)
        | refine condT ?_
        | refine condF ?_
        | refine condp (by assumption) ?_
        | refine condn (by assumption) ?_
        | refine condN ?_
        | refine idxSb (by assumption) ?_
        | refine callE_ev (hsk _) ?_
        | refine subLo (i := j) (by omega) ?_
        | refine callE_ev (hn _) ?_
        | (refine condD ?_ ?_ <;> intro hq_ <;> first | (exfalso; omega) | skip)
        | (refine idxS (by omega) ?_; intro b_ hb_; have hl_ := b_.toNat_lt)
        | refine wrA (by omega) ?_
        | refine wrS (by omega) (by omega) ?_
        | refine wrI (by omega) (by omega) ?_
        | refine wrBA (by omega) ?_
        | refine wrB (by omega) (by omega) ?_
        | refine strC (by omega) ?_
        | refine nilB rfl ?_))
       exact ⟨rfl, rfl⟩)
    | ok t n =>
      rw [hx] at hn hP
      obtain ⟨n1, n2, k1, k2, _⟩ := next_ok hx
      rw [List.length_drop] at n2
      simp only at hP
      by_cases hfull : 2000 ≤ l.length
      · rw [if_pos hfull] at hP
        subst hP
        rcases l with _ | ⟨t0, l⟩
        · simp at hfull
        have hml : ((t0 :: l).map tokD).length = (t0 :: l).length := by simp
        (repeat' (first
          | (intro (u_ : Unit); clear u_)
          | refine condT ?_
          | refine condF ?_
          | refine condp (by assumption) ?_
          | refine condn (by assumption) ?_
          | refine condN ?_
          | refine idxSb (by assumption) ?_
          | refine callE_ev (hsk _) ?_
          | refine subLo (i := j) (by omega) ?_
          | refine callE_ev (hn _) ?_
          | (refine condD ?_ ?_ <;> intro hq_ <;> first | (exfalso; omega) | skip)
          | (refine idxS (by omega) ?_; intro b_ hb_; have hl_ := b_.toNat_lt)
          | refine wrA (by omega) ?_
          | refine wrS (by omega) (by omega) ?_
          | refine wrI (by omega) (by omega) ?_
          | refine wrBA (by omega) ?_
          | refine wrB (by omega) (by omega) ?_
          | refine strC (by omega) ?_
          | refine nilB rfl ?_))
        exact ⟨rfl, rfl⟩
      · rw [if_neg hfull] at hP
        have hO := Operand_ev (T := T) ⟨t.kind, j, t.text, t.num⟩
        have hsn := tcT_snoc l ⟨t.kind, j, t.text, t.num⟩
        have hml : (l.map tokD).length = l.length := by simp
        have hsz := sizesT l
        generalize opM ⟨t.kind, j, t.text, t.num⟩ = op' at *
        have hP' : (j + n ≤ s.length ∧ (l ++ [(⟨t.kind, j, t.text, t.num⟩ : Tok)]).length ≤ 2000) ∧ ∃ f, s.length < j + n + f ∧ toksL s f (j + n) op' (l ++ [⟨t.kind, j, t.text, t.num⟩]) = R := ⟨⟨by omega, by simp; omega⟩, g, by omega, hP⟩
        rcases l with _ | ⟨t0, l⟩ <;>
        ((repeat' (first
          | (intro (u_ : Unit); clear u_)
          | refine condT ?_
          | refine condF ?_
          | refine condp (by assumption) ?_
          | refine condn (by assumption) ?_
          | refine condN ?_
          | refine idxSb (by assumption) ?_
          | refine callE_ev (hsk _) ?_
          | refine subLo (i := j) (by omega) ?_
          | refine callE_ev (hn _) ?_
          | refine callE_ev (hO _) ?_
          | refine appN1 (by simp) rfl ?_
          | refine appL (by rw [hml]; simp only [List.length_cons, List.length_nil] at *; omega) hsz rfl ?_
          | (refine condD ?_ ?_ <;> intro hq_ <;> first | (exfalso; omega) | skip)
          | (refine idxS (by omega) ?_; intro b_ hb_; have hl_ := b_.toNat_lt)
          | refine wrA (by omega) ?_
          | refine wrS (by omega) (by omega) ?_
          | refine wrI (by omega) (by omega) ?_
          | refine wrBA (by omega) ?_
          | refine wrB (by omega) (by omega) ?_
          | refine strC (by omega) ?_
          | refine nilB rfl ?_))
         refine ⟨j + n, op', _, hP', by omega, ?_, rfl, rfl, rfl⟩
         rw [hsn]; rfl)
  · rw [if_neg hlt] at hP
    by_cases hfull : 2000 ≤ l.length
    · rw [if_pos hfull] at hP
      subst hP
      rcases l with _ | ⟨t0, l⟩
      · simp at hfull
      have hml : ((t0 :: l).map tokD).length = (t0 :: l).length := by simp
      (repeat' (first
        | (intro (u_ : Unit); clear u_)
        | refine condT ?_
        | refine condF ?_
        | refine condp (by assumption) ?_
        | refine condn (by assumption) ?_
        | refine condN ?_
        | refine idxSb (by assumption) ?_
        | refine callE_ev (hsk _) ?_
        | (refine condD ?_ ?_ <;> intro hq_ <;> first | (exfalso; omega) | skip)
        | (refine idxS (by omega) ?_; intro b_ hb_; have hl_ := b_.toNat_lt)
        | refine wrA (by omega) ?_
        | refine wrS (by omega) (by omega) ?_
        | refine wrI (by omega) (by omega) ?_
        | refine wrBA (by omega) ?_
        | refine wrB (by omega) (by omega) ?_
        | refine strC (by omega) ?_
        | refine nilB rfl ?_))
      exact ⟨rfl, rfl⟩
    · rw [if_neg hfull] at hP
      subst hP
      have hml : (l.map tokD).length = l.length := by simp
      have hsz := sizesT l
      rcases l with _ | ⟨t0, l⟩
      · (repeat' (first
          | (intro (u_ : Unit); clear u_)
          | refine condT ?_
          | refine condF ?_
          | refine condp (by assumption) ?_
          | refine condn (by assumption) ?_
          | refine condN ?_
          | refine idxSb (by assumption) ?_
          | refine callE_ev (hsk _) ?_
          | refine appN1 (by simp) rfl ?_
          | (refine condD ?_ ?_ <;> intro hq_ <;> first | (exfalso; omega) | skip)
          | (refine idxS (by omega) ?_; intro b_ hb_; have hl_ := b_.toNat_lt)
          | refine wrA (by omega) ?_
          | refine wrS (by omega) (by omega) ?_
          | refine wrI (by omega) (by omega) ?_
          | refine wrBA (by omega) ?_
          | refine wrB (by omega) (by omega) ?_
          | refine strC (by omega) ?_
          | refine nilB rfl ?_))
        exact ⟨rfl, rfl⟩
      · (repeat' (first
          | (intro (u_ : Unit); clear u_)
          | refine condT ?_
          | refine condF ?_
          | refine condp (by assumption) ?_
          | refine condn (by assumption) ?_
          | refine condN ?_
          | refine idxSb (by assumption) ?_
          | refine callE_ev (hsk _) ?_
          | refine appL (by rw [hml]; simp only [List.length_cons, List.length_nil] at *; omega) hsz rfl ?_
          | (refine condD ?_ ?_ <;> intro hq_ <;> first | (exfalso; omega) | skip)
          | (refine idxS (by omega) ?_; intro b_ hb_; have hl_ := b_.toNat_lt)
          | refine wrA (by omega) ?_
          | refine wrS (by omega) (by omega) ?_
          | refine wrI (by omega) (by omega) ?_
          | refine wrBA (by omega) ?_
          | refine wrB (by omega) (by omega) ?_
          | refine strC (by omega) ?_
          | refine nilB rfl ?_))
        refine ⟨?_, rfl⟩
        simp [toksA, tokD]
end Go.Ab.R15
