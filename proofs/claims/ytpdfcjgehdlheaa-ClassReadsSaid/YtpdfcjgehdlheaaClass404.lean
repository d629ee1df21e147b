/- How bytes are written, and read. -/
import Derived.Test.YtpdfcjgehdlheaaClass304
namespace Go.Ab.R04
set_option maxRecDepth 100000
set_option linter.all false
set_option maxHeartbeats 4000000
variable {T : Tb} [hT : Base T]

/-- a byte as it is written -/
def plainS (c : Nat) : List UInt8 := if isWordB c then [UInt8.ofNat c] else [92, 120, hexd (c / 16), hexd (c % 16)]

theorem toNat_ofNat_u8 {c : Nat} (hc : c < 256) : (UInt8.ofNat c).toNat = c := by
  rw [UInt8.toNat_ofNat']; omega

theorem strOf1 {c : Nat} : strOf [[.int .u8 (c : Int)]] = some [UInt8.ofNat c] := by
  simp [strOf]

theorem Plain_ev (c : Nat) (hc : c < 256) (rf : Refs) : Ev T f_class_Plain [u8 c] rf (.ret (str (plainS c))) rf := by
  have hx : Ev T f_hex_Hex [str [UInt8.ofNat c]] rf (.ret (str [120, hexd (c / 16), hexd (c % 16)])) rf := by
    have h := Hex_ev (T := T) [UInt8.ofNat c] (by simp) rf
    rw [hexOf, hexOf, toNat_ofNat_u8 hc] at h
    exact h
  refine ev_callB rfl rfl ?_
  repeat (first | (first
      | refine o_asgd rfl rfl ?_
      | refine o_asgo rfl rfl ?_
      | refine o_movd rfl rfl ?_
      | refine o_movp rfl rfl ?_
      | refine o_mova rfl rfl ?_
      | refine o_mov rfl rfl ?_
      | refine o_mkls1 rfl rfl ?_
      | refine o_mkls2 rfl rfl rfl ?_
      | refine o_addkn rfl rfl rfl (by decide) (by (first | omega | (simp only [m64, mU, m8, n64, nU, n8, b64, bU, b8]; omega))) ?_
      | refine o_cat rfl rfl rfl (by (first | omega | (simp only [m64, mU, m8, n64, nU, n8, b64, bU, b8]; omega))) ?_
      | refine o_add rfl rfl rfl (by omega) (by omega) ?_
      | refine op_nil ?_
      | refine o_bin rfl rfl rfl rfl ?_) | (first
      | refine wp_seq ?_
      | refine wp_ops ?_
      | refine wp_keep ?_
      | refine keepN (by (simp +decide only [Slots.keep, Slots.get, reduceIte]); exact rfl) ?_
      | refine wp_block ?_
      | refine wp_skip ?_
      | refine wp_ret ?_
      | refine wp_exit ?_
      | refine bx_ret ?_
      | refine bx_here ?_
      | refine bx_exit rfl ?_))
  refine o_call (rf' := rf) rfl rfl rfl (isWord_ev c hc rf) ?_
  repeat (first | (first
      | refine o_asgd rfl rfl ?_
      | refine o_asgo rfl rfl ?_
      | refine o_movd rfl rfl ?_
      | refine o_movp rfl rfl ?_
      | refine o_mova rfl rfl ?_
      | refine o_mov rfl rfl ?_
      | refine o_mkls1 rfl rfl ?_
      | refine o_mkls2 rfl rfl rfl ?_
      | refine o_addkn rfl rfl rfl (by decide) (by (first | omega | (simp only [m64, mU, m8, n64, nU, n8, b64, bU, b8]; omega))) ?_
      | refine o_cat rfl rfl rfl (by (first | omega | (simp only [m64, mU, m8, n64, nU, n8, b64, bU, b8]; omega))) ?_
      | refine o_add rfl rfl rfl (by omega) (by omega) ?_
      | refine op_nil ?_
      | refine o_bin rfl rfl rfl rfl ?_) | (first
      | refine wp_seq ?_
      | refine wp_ops ?_
      | refine wp_keep ?_
      | refine keepN (by (simp +decide only [Slots.keep, Slots.get, reduceIte]); exact rfl) ?_
      | refine wp_block ?_
      | refine wp_skip ?_
      | refine wp_ret ?_
      | refine wp_exit ?_
      | refine bx_ret ?_
      | refine bx_here ?_
      | refine bx_exit rfl ?_))
  refine wp_cond rfl ?_ ?_ <;> intro hw
  · repeat (first | (first
      | refine o_asgd rfl rfl ?_
      | refine o_asgo rfl rfl ?_
      | refine o_movd rfl rfl ?_
      | refine o_movp rfl rfl ?_
      | refine o_mova rfl rfl ?_
      | refine o_mov rfl rfl ?_
      | refine o_mkls1 rfl rfl ?_
      | refine o_mkls2 rfl rfl rfl ?_
      | refine o_addkn rfl rfl rfl (by decide) (by (first | omega | (simp only [m64, mU, m8, n64, nU, n8, b64, bU, b8]; omega))) ?_
      | refine o_cat rfl rfl rfl (by (first | omega | (simp only [m64, mU, m8, n64, nU, n8, b64, bU, b8]; omega))) ?_
      | refine o_add rfl rfl rfl (by omega) (by omega) ?_
      | refine op_nil ?_
      | refine o_bin rfl rfl rfl rfl ?_) | (first
      | refine wp_seq ?_
      | refine wp_ops ?_
      | refine wp_keep ?_
      | refine keepN (by (simp +decide only [Slots.keep, Slots.get, reduceIte]); exact rfl) ?_
      | refine wp_block ?_
      | refine wp_skip ?_
      | refine wp_ret ?_
      | refine wp_exit ?_
      | refine bx_ret ?_
      | refine bx_here ?_
      | refine bx_exit rfl ?_))
    refine o_bytesStr rfl rfl rfl strOf1 ?_
    repeat (first | (first
      | refine o_asgd rfl rfl ?_
      | refine o_asgo rfl rfl ?_
      | refine o_movd rfl rfl ?_
      | refine o_movp rfl rfl ?_
      | refine o_mova rfl rfl ?_
      | refine o_mov rfl rfl ?_
      | refine o_mkls1 rfl rfl ?_
      | refine o_mkls2 rfl rfl rfl ?_
      | refine o_addkn rfl rfl rfl (by decide) (by (first | omega | (simp only [m64, mU, m8, n64, nU, n8, b64, bU, b8]; omega))) ?_
      | refine o_cat rfl rfl rfl (by (first | omega | (simp only [m64, mU, m8, n64, nU, n8, b64, bU, b8]; omega))) ?_
      | refine o_add rfl rfl rfl (by omega) (by omega) ?_
      | refine op_nil ?_
      | refine o_bin rfl rfl rfl rfl ?_) | (first
      | refine wp_seq ?_
      | refine wp_ops ?_
      | refine wp_keep ?_
      | refine keepN (by (simp +decide only [Slots.keep, Slots.get, reduceIte]); exact rfl) ?_
      | refine wp_block ?_
      | refine wp_skip ?_
      | refine wp_ret ?_
      | refine wp_exit ?_
      | refine bx_ret ?_
      | refine bx_here ?_
      | refine bx_exit rfl ?_))
    refine end1 rfl rfl rfl ?_ (by first | rfl | simp)
    simp only [plainS, hw, if_true]
  · repeat (first | (first
      | refine o_asgd rfl rfl ?_
      | refine o_asgo rfl rfl ?_
      | refine o_movd rfl rfl ?_
      | refine o_movp rfl rfl ?_
      | refine o_mova rfl rfl ?_
      | refine o_mov rfl rfl ?_
      | refine o_mkls1 rfl rfl ?_
      | refine o_mkls2 rfl rfl rfl ?_
      | refine o_addkn rfl rfl rfl (by decide) (by (first | omega | (simp only [m64, mU, m8, n64, nU, n8, b64, bU, b8]; omega))) ?_
      | refine o_cat rfl rfl rfl (by (first | omega | (simp only [m64, mU, m8, n64, nU, n8, b64, bU, b8]; omega))) ?_
      | refine o_add rfl rfl rfl (by omega) (by omega) ?_
      | refine op_nil ?_
      | refine o_bin rfl rfl rfl rfl ?_) | (first
      | refine wp_seq ?_
      | refine wp_ops ?_
      | refine wp_keep ?_
      | refine keepN (by (simp +decide only [Slots.keep, Slots.get, reduceIte]); exact rfl) ?_
      | refine wp_block ?_
      | refine wp_skip ?_
      | refine wp_ret ?_
      | refine wp_exit ?_
      | refine bx_ret ?_
      | refine bx_here ?_
      | refine bx_exit rfl ?_))
    refine o_bytesStr rfl rfl rfl strOf1 ?_
    repeat (first | (first
      | refine o_asgd rfl rfl ?_
      | refine o_asgo rfl rfl ?_
      | refine o_movd rfl rfl ?_
      | refine o_movp rfl rfl ?_
      | refine o_mova rfl rfl ?_
      | refine o_mov rfl rfl ?_
      | refine o_mkls1 rfl rfl ?_
      | refine o_mkls2 rfl rfl rfl ?_
      | refine o_addkn rfl rfl rfl (by decide) (by (first | omega | (simp only [m64, mU, m8, n64, nU, n8, b64, bU, b8]; omega))) ?_
      | refine o_cat rfl rfl rfl (by (first | omega | (simp only [m64, mU, m8, n64, nU, n8, b64, bU, b8]; omega))) ?_
      | refine o_add rfl rfl rfl (by omega) (by omega) ?_
      | refine op_nil ?_
      | refine o_bin rfl rfl rfl rfl ?_) | (first
      | refine wp_seq ?_
      | refine wp_ops ?_
      | refine wp_keep ?_
      | refine keepN (by (simp +decide only [Slots.keep, Slots.get, reduceIte]); exact rfl) ?_
      | refine wp_block ?_
      | refine wp_skip ?_
      | refine wp_ret ?_
      | refine wp_exit ?_
      | refine bx_ret ?_
      | refine bx_here ?_
      | refine bx_exit rfl ?_))
    refine o_call (rf' := rf) rfl rfl rfl hx ?_
    refine o_cat rfl rfl rfl (by simp [lim]) ?_
    repeat (first | (first
      | refine o_asgd rfl rfl ?_
      | refine o_asgo rfl rfl ?_
      | refine o_movd rfl rfl ?_
      | refine o_movp rfl rfl ?_
      | refine o_mova rfl rfl ?_
      | refine o_mov rfl rfl ?_
      | refine o_mkls1 rfl rfl ?_
      | refine o_mkls2 rfl rfl rfl ?_
      | refine o_addkn rfl rfl rfl (by decide) (by (first | omega | (simp only [m64, mU, m8, n64, nU, n8, b64, bU, b8]; omega))) ?_
      | refine o_cat rfl rfl rfl (by (first | omega | (simp only [m64, mU, m8, n64, nU, n8, b64, bU, b8]; omega))) ?_
      | refine o_add rfl rfl rfl (by omega) (by omega) ?_
      | refine op_nil ?_
      | refine o_bin rfl rfl rfl rfl ?_) | (first
      | refine wp_seq ?_
      | refine wp_ops ?_
      | refine wp_keep ?_
      | refine keepN (by (simp +decide only [Slots.keep, Slots.get, reduceIte]); exact rfl) ?_
      | refine wp_block ?_
      | refine wp_skip ?_
      | refine wp_ret ?_
      | refine wp_exit ?_
      | refine bx_ret ?_
      | refine bx_here ?_
      | refine bx_exit rfl ?_))
    refine end1 rfl rfl rfl ?_ (by first | rfl | simp)
    simp only [plainS, hw, Bool.false_eq_true, if_false]
    rfl

def named : List UInt8 := [92, 93, 91, 94, 45, 47, 46, 42, 43, 63, 40, 41, 124, 123, 125, 36]
def badB : List UInt8 := [10, 93, 91, 94, 45]

/-- what a sign that a text begins with is: the byte, and how long -/
def sign (s : List UInt8) : Option (Nat × Nat) :=
  match s[0]? with
  | none => none
  | some c =>
    if c.toNat ≠ 92 then (if c ∈ badB then none else some (c.toNat, 1)) else
    match s[1]? with
    | none => none
    | some e =>
      if e ∈ named then some (e.toNat, 2) else
      match s[2]?, s[3]? with
      | some a, some b => if e.toNat = 120 ∧ 0 ≤ digit a.toNat ∧ 0 ≤ digit b.toNat then some (16 * (digit a.toNat).toNat + (digit b.toNat).toNat, 4) else none
      | _, _ => none

def signA : Option (Nat × Nat) → AV
  | none => .tup [u8 0, i64 0, i64 2]
  | some (b, n) => .tup [u8 b, i64 n, i64 0]

theorem idx_ge {l : List UInt8} {c : UInt8} : 0 ≤ Lib.indexByte l c ↔ c ∈ l := by
  induction l with
  | nil => simp [Lib.indexByte]
  | cons b l ih =>
    have := Lib.indexByte_ge l c
    simp only [Lib.indexByte, List.mem_cons]
    by_cases h : b = c
    · simp [h]
    · have h' : c ≠ b := fun e => h e.symm
      simp only [beq_iff_eq, h, h', if_false, false_or, ← ih]
      split <;> omega

theorem IndexByte_n {s : List UInt8} {c : UInt8} {n : Int} (h : Lib.indexByte s c = n) (rf : Refs) : Ev T f_strings_IndexByte [str s, u8 c.toNat] rf (.ret (i64 n)) rf := by
  have := IndexByte_ev (T := T) s c.toNat rf
  rw [show c.toNat.toUInt8 = c from UInt8.ofNat_toNat, h] at this
  exact this

theorem idx_lt {l : List UInt8} {c : UInt8} : Lib.indexByte l c < 0 ↔ ¬ c ∈ l := by rw [← idx_ge]; omega

theorem Digit_n {c : UInt8} {n : Int} (h : digit c.toNat = n) (rf : Refs) : Ev T f_hex_Digit [u8 c.toNat] rf (.ret (i64 n)) rf := by
  rw [← h]; exact Digit_ev _ c.toNat_lt rf

theorem digit_lt {c : Nat} : digit c < 16 := by unfold digit; split <;> (try split) <;> (try split) <;> omega

section
variable {sl : Slots} {rf : Refs} {df : List (AV × List AV)} {pn : Option (Option AV)} {nb : Nat} {N : St → Prop} {X : Ex → St → Prop} {r : List AOp} {d : Nat} {g : Option (Nat × Bool)} {may : Bool}
theorem o_ixb {as : List Opd} {l : List UInt8} {c : UInt8} (hg : wantedL sl g = some true) (ha : (getOs sl as).map AV.bares = some [str l, u8 c.toNat])
    (h : ∀ n : Int, (0 ≤ n → c ∈ l) → (n < 0 → ¬ c ∈ l) → OP T r ⟨(d, i64 n) :: sl, rf, df, pn, nb⟩ N X) : OP T (⟨some d, .call (.f f_strings_IndexByte) as, g, may⟩ :: r) ⟨sl, rf, df, pn, nb⟩ N X :=
  o_call hg rfl ha (IndexByte_n rfl rf) (h _ idx_ge.1 idx_lt.1)
theorem o_digit {as : List Opd} {c : UInt8} (hg : wantedL sl g = some true) (ha : (getOs sl as).map AV.bares = some [u8 c.toNat])
    (h : ∀ n : Int, digit c.toNat = n → n < 16 → OP T r ⟨(d, i64 n) :: sl, rf, df, pn, nb⟩ N X) : OP T (⟨some d, .call (.f f_hex_Digit) as, g, may⟩ :: r) ⟨sl, rf, df, pn, nb⟩ N X :=
  o_call hg rfl ha (Digit_n rfl rf) (h _ rfl digit_lt)
theorem o_digit0 {as : List Opd} {c : UInt8} (hg : wantedL sl g = some true) (ha : (getOs sl as).map AV.bares = some [u8 c.toNat]) (h0 : 0 ≤ digit c.toNat)
    (h : ∀ m : Nat, digit c.toNat = m → m < 16 → OP T r ⟨(d, i64 m) :: sl, rf, df, pn, nb⟩ N X) : OP T (⟨some d, .call (.f f_hex_Digit) as, g, may⟩ :: r) ⟨sl, rf, df, pn, nb⟩ N X := by
  obtain ⟨m, hm⟩ := Int.eq_ofNat_of_zero_le h0
  exact o_call hg rfl ha (Digit_n hm rf) (h m hm (by have := @digit_lt c.toNat; omega))
theorem or_nib {x y : Nat} (hx : x < 16) (hy : y < 16) : binA .or (.d (.int .i64 ((x * 2 ^ 4 : Nat) : Int))) (.d (.int .i64 y)) = some (.d (.int .i64 ((16 * x + y : Nat) : Int))) := by
  rw [bn_or (by simp only [m64]; omega) (by simp only [m64]; omega) (by decide)]
  have := Nat.two_pow_add_eq_or_of_lt (i := 4) (b := y) (by omega) x
  rw [Nat.mul_comm x, ← this]
end

theorem getS {s : List UInt8} {m : Nat} (h : m < s.length) : ∃ y, s[m]? = some y := ⟨_, List.getElem?_eq_getElem h⟩

theorem sign_ok' {s : List UInt8} {c e a b : UInt8} {x y : Nat} (h0 : s[0]? = some c) (hc : c.toNat = 92) (h1 : s[1]? = some e) (he : e ∉ named) (hx : e.toNat = 120) (h2 : s[2]? = some a) (h3 : s[3]? = some b) (ha : digit a.toNat = (x : Int)) (hb : digit b.toNat = (y : Int)) :
    sign s = some (16 * x + y, 4) := by
  simp only [sign, h0, h1, h2, h3, ha, hb, hc, he, hx, if_false, ne_eq, not_true]
  rw [if_pos ⟨trivial, Int.natCast_nonneg _, Int.natCast_nonneg _⟩]
  rfl

theorem sign_ok {s : List UInt8} {c e a b : UInt8} {x y : Nat} {k : Int} (h0 : s[0]? = some c) (hc : ¬ c.toNat ≠ 92) (h1 : s[1]? = some e) (hx : ¬ e.toNat ≠ 120) (h2 : s[2]? = some a) (h3 : s[3]? = some b) (ha : digit a.toNat = (x : Int)) (hb : digit b.toNat = (y : Int))
    (hk : ¬ k ≥ ((0 : Nat) : Int)) (he : k < 0 → ¬ e ∈ named) : signA (sign s) = .tup [u8 (16 * x + y), i64 (4 : Nat), i64 (0 : Nat)] := by
  have he' := he (by omega)
  simp only [sign, h0, h1, h2, h3, ha, hb, hc, he', if_false]
  rw [if_pos ⟨by omega, by omega, by omega⟩]
  rfl

theorem Sign_ev (s : List UInt8) (rf : Refs) : Ev T f_class_Sign [str s] rf (.ret (signA (sign s))) rf := by
  have hs : s = [] ∨ 0 < s.length := by cases s <;> simp
  have hs' : s ≠ [] → 0 < s.length := by cases s <;> simp
  refine ev_callB rfl rfl ?_
  refine wp_seq ?_
  refine wp_ops ?_
  first | refine o_asgd rfl rfl ?_ | refine o_asgo rfl rfl ?_ | refine o_asg rfl rfl (fun _ h_ => by cases h_) ?_
  first | refine o_asgd rfl rfl ?_ | refine o_asgo rfl rfl ?_ | refine o_asg rfl rfl (fun _ h_ => by cases h_) ?_
  first | refine o_asgd rfl rfl ?_ | refine o_asgo rfl rfl ?_ | refine o_asg rfl rfl (fun _ h_ => by cases h_) ?_
  refine op_nil ?_
  refine wp_seq ?_
  refine wp_keep ?_
  refine wp_block ?_
  refine wp_seq ?_
  refine wp_ops ?_
  first | refine o_movd rfl rfl ?_ | refine o_movp rfl rfl ?_ | refine o_mova rfl rfl ?_ | refine o_mov rfl rfl ?_
  first | refine o_eqln rfl rfl rfl ?_ | refine o_eqs rfl rfl rfl ?_ | refine o_bin rfl rfl rfl rfl ?_
  first | refine o_movd rfl rfl ?_ | refine o_movp rfl rfl ?_ | refine o_mova rfl rfl ?_ | refine o_mov rfl rfl ?_
  refine o_ifp rfl ?_ ?_ <;> intro hq_ hg_ <;> simp only [hg_] <;> clear hg_
  · first
    | exfalso; first | omega | (have := hs' ‹_›; omega)
    | skip
      refine o_skip rfl ?_
      refine o_skip rfl ?_
      refine o_skip rfl ?_
      refine o_skip rfl ?_
      refine o_skip rfl ?_
      refine o_skip rfl ?_
      refine o_skip rfl ?_
      refine o_skip rfl ?_
      refine o_skip rfl ?_
      refine o_pickt rfl rfl rfl ?_
      first | refine o_asgd rfl rfl ?_ | refine o_asgo rfl rfl ?_ | refine o_asg rfl rfl (fun _ h_ => by cases h_) ?_
      refine op_nil ?_
      refine wp_cond rfl (fun _ => ?_) (fun h_ => absurd h_ (by decide))
      refine wp_seq ?_
      refine wp_ops ?_
      first | refine o_asgd rfl rfl ?_ | refine o_asgo rfl rfl ?_ | refine o_asg rfl rfl (fun _ h_ => by cases h_) ?_
      first | refine o_asgd rfl rfl ?_ | refine o_asgo rfl rfl ?_ | refine o_asg rfl rfl (fun _ h_ => by cases h_) ?_
      first | refine o_asgd rfl rfl ?_ | refine o_asgo rfl rfl ?_ | refine o_asg rfl rfl (fun _ h_ => by cases h_) ?_
      refine op_nil ?_
      refine wp_ret ?_
      refine bx_ret ?_
      refine end3 rfl rfl rfl rfl rfl ?_ (by first | rfl | simp)
      (try have e1 : s[1]? = none := List.getElem?_eq_none (by omega))
      (try have e3 : s[3]? = none := List.getElem?_eq_none (by omega))
      try (have h2_ : 2 < s.length := by omega; obtain ⟨y2, e2⟩ := getS h2_)
      try (have h3_ : 3 < s.length := by omega; obtain ⟨y3, e3⟩ := getS h3_)
      congr 1
      clear hs hs'
      first
      | (simp_all [sign, signA]; done)
      | (simp_all [sign, signA]; rw [if_neg (by omega)]; try rfl)
      | (simp_all [sign, signA]; rw [if_pos (by omega)]; try rfl)
      | (rcases hh2 : s[2]? with _ | y2 <;> rcases hh3 : s[3]? with _ | y3 <;> simp_all [sign, signA]; done)
      | (rcases hh2 : s[2]? with _ | y2 <;> rcases hh3 : s[3]? with _ | y3 <;> simp_all [sign, signA] <;> (rw [if_neg (by omega)]; try rfl))
      | exact sign_ok (by assumption) (by assumption) (by assumption) (by assumption) (by assumption) (by assumption) (by assumption) (by assumption) (by assumption) (by assumption)
  · first
    | exfalso; first | omega | (have := hs' ‹_›; omega)
    | skip
      first | refine o_movd rfl rfl ?_ | refine o_movp rfl rfl ?_ | refine o_mova rfl rfl ?_ | refine o_mov rfl rfl ?_
      (have hp_ := hs' ‹_›; refine o_idxSx rfl rfl rfl rfl hp_ ?_; intro b_ hb_)
      first | refine o_neqn rfl rfl rfl ?_ | refine o_nes rfl rfl rfl ?_ | refine o_bin rfl rfl rfl rfl ?_
      first | refine o_movd rfl rfl ?_ | refine o_movp rfl rfl ?_ | refine o_mova rfl rfl ?_ | refine o_mov rfl rfl ?_
      refine o_ifp rfl ?_ ?_ <;> intro hq_ hg_ <;> simp only [hg_] <;> clear hg_
      · first
        | exfalso; first | omega | (have := hs' ‹_›; omega)
        | skip
          first | refine o_movd rfl rfl ?_ | refine o_movp rfl rfl ?_ | refine o_mova rfl rfl ?_ | refine o_mov rfl rfl ?_
          first | refine o_idxS rfl rfl rfl rfl (by assumption) ?_ | (refine o_idxSx rfl rfl rfl rfl (by omega) ?_; intro b_ hb_) | refine o_idxS rfl rfl rfl rfl rfl ?_
          first | (refine o_ixb (l := badB) rfl rfl ?_; intro n_ hn_ hm_) | (refine o_ixb (l := named) rfl rfl ?_; intro n_ hn_ hm_)
          first | refine o_geqn rfl rfl rfl ?_ | refine o_bin rfl rfl rfl rfl ?_
          refine o_pickt rfl rfl rfl ?_
          refine o_pickf rfl rfl rfl ?_
          first | refine o_asgd rfl rfl ?_ | refine o_asgo rfl rfl ?_ | refine o_asg rfl rfl (fun _ h_ => by cases h_) ?_
          refine op_nil ?_
          first | refine wp_if rfl ?_ ?_ <;> intro hq_ | refine wp_cond rfl ?_ ?_ <;> intro hq_
          · first
            | exfalso; first | omega | (have := hs' ‹_›; omega)
            | skip
              refine wp_seq ?_
              refine wp_ops ?_
              first | refine o_asgd rfl rfl ?_ | refine o_asgo rfl rfl ?_ | refine o_asg rfl rfl (fun _ h_ => by cases h_) ?_
              first | refine o_asgd rfl rfl ?_ | refine o_asgo rfl rfl ?_ | refine o_asg rfl rfl (fun _ h_ => by cases h_) ?_
              first | refine o_asgd rfl rfl ?_ | refine o_asgo rfl rfl ?_ | refine o_asg rfl rfl (fun _ h_ => by cases h_) ?_
              refine op_nil ?_
              refine wp_ret ?_
              refine bx_ret ?_
              refine end3 rfl rfl rfl rfl rfl ?_ (by first | rfl | simp)
              (try have e1 : s[1]? = none := List.getElem?_eq_none (by omega))
              (try have e3 : s[3]? = none := List.getElem?_eq_none (by omega))
              try (have h2_ : 2 < s.length := by omega; obtain ⟨y2, e2⟩ := getS h2_)
              try (have h3_ : 3 < s.length := by omega; obtain ⟨y3, e3⟩ := getS h3_)
              congr 1
              clear hs hs'
              first
              | (simp_all [sign, signA]; done)
              | (simp_all [sign, signA]; rw [if_neg (by omega)]; try rfl)
              | (simp_all [sign, signA]; rw [if_pos (by omega)]; try rfl)
              | (rcases hh2 : s[2]? with _ | y2 <;> rcases hh3 : s[3]? with _ | y3 <;> simp_all [sign, signA]; done)
              | (rcases hh2 : s[2]? with _ | y2 <;> rcases hh3 : s[3]? with _ | y3 <;> simp_all [sign, signA] <;> (rw [if_neg (by omega)]; try rfl))
              | exact sign_ok (by assumption) (by assumption) (by assumption) (by assumption) (by assumption) (by assumption) (by assumption) (by assumption) (by assumption) (by assumption)
          · first
            | exfalso; first | omega | (have := hs' ‹_›; omega)
            | skip
              refine wp_seq ?_
              refine wp_ops ?_
              first | refine o_movd rfl rfl ?_ | refine o_movp rfl rfl ?_ | refine o_mova rfl rfl ?_ | refine o_mov rfl rfl ?_
              first | refine o_idxS rfl rfl rfl rfl (by assumption) ?_ | (refine o_idxSx rfl rfl rfl rfl (by omega) ?_; intro b_ hb_) | refine o_idxS rfl rfl rfl rfl rfl ?_
              first | refine o_neqn rfl rfl rfl ?_ | refine o_nes rfl rfl rfl ?_ | refine o_bin rfl rfl rfl rfl ?_
              first | refine o_asgd rfl rfl ?_ | refine o_asgo rfl rfl ?_ | refine o_asg rfl rfl (fun _ h_ => by cases h_) ?_
              refine op_nil ?_
              first | refine wp_if rfl ?_ ?_ <;> intro hq_ | refine wp_cond rfl ?_ ?_ <;> intro hq_
              · first
                | exfalso; first | omega | (have := hs' ‹_›; omega)
                | skip
                  refine wp_seq ?_
                  refine wp_ops ?_
                  first | refine o_movd rfl rfl ?_ | refine o_movp rfl rfl ?_ | refine o_mova rfl rfl ?_ | refine o_mov rfl rfl ?_
                  first | refine o_idxS rfl rfl rfl rfl (by assumption) ?_ | (refine o_idxSx rfl rfl rfl rfl (by omega) ?_; intro b_ hb_) | refine o_idxS rfl rfl rfl rfl rfl ?_
                  first | refine o_asgd rfl rfl ?_ | refine o_asgo rfl rfl ?_ | refine o_asg rfl rfl (fun _ h_ => by cases h_) ?_
                  first | refine o_asgd rfl rfl ?_ | refine o_asgo rfl rfl ?_ | refine o_asg rfl rfl (fun _ h_ => by cases h_) ?_
                  first | refine o_asgd rfl rfl ?_ | refine o_asgo rfl rfl ?_ | refine o_asg rfl rfl (fun _ h_ => by cases h_) ?_
                  refine op_nil ?_
                  refine wp_ret ?_
                  refine bx_ret ?_
                  refine end3 rfl rfl rfl rfl rfl ?_ (by first | rfl | simp)
                  (try have e1 : s[1]? = none := List.getElem?_eq_none (by omega))
                  (try have e3 : s[3]? = none := List.getElem?_eq_none (by omega))
                  try (have h2_ : 2 < s.length := by omega; obtain ⟨y2, e2⟩ := getS h2_)
                  try (have h3_ : 3 < s.length := by omega; obtain ⟨y3, e3⟩ := getS h3_)
                  congr 1
                  clear hs hs'
                  first
                  | (simp_all [sign, signA]; done)
                  | (simp_all [sign, signA]; rw [if_neg (by omega)]; try rfl)
                  | (simp_all [sign, signA]; rw [if_pos (by omega)]; try rfl)
                  | (rcases hh2 : s[2]? with _ | y2 <;> rcases hh3 : s[3]? with _ | y3 <;> simp_all [sign, signA]; done)
                  | (rcases hh2 : s[2]? with _ | y2 <;> rcases hh3 : s[3]? with _ | y3 <;> simp_all [sign, signA] <;> (rw [if_neg (by omega)]; try rfl))
                  | exact sign_ok (by assumption) (by assumption) (by assumption) (by assumption) (by assumption) (by assumption) (by assumption) (by assumption) (by assumption) (by assumption)
              · first
                | exfalso; first | omega | (have := hs' ‹_›; omega)
                | skip
                  refine wp_seq ?_
                  refine wp_ops ?_
                  first | refine o_movd rfl rfl ?_ | refine o_movp rfl rfl ?_ | refine o_mova rfl rfl ?_ | refine o_mov rfl rfl ?_
                  refine o_lenS rfl rfl ?_
                  first | refine o_lssn rfl rfl rfl ?_ | refine o_bin rfl rfl rfl rfl ?_
                  first | refine o_asgd rfl rfl ?_ | refine o_asgo rfl rfl ?_ | refine o_asg rfl rfl (fun _ h_ => by cases h_) ?_
                  refine op_nil ?_
                  first | refine wp_if rfl ?_ ?_ <;> intro hq_ | refine wp_cond rfl ?_ ?_ <;> intro hq_
                  · first
                    | exfalso; first | omega | (have := hs' ‹_›; omega)
                    | skip
                      refine wp_seq ?_
                      refine wp_ops ?_
                      first | refine o_asgd rfl rfl ?_ | refine o_asgo rfl rfl ?_ | refine o_asg rfl rfl (fun _ h_ => by cases h_) ?_
                      first | refine o_asgd rfl rfl ?_ | refine o_asgo rfl rfl ?_ | refine o_asg rfl rfl (fun _ h_ => by cases h_) ?_
                      first | refine o_asgd rfl rfl ?_ | refine o_asgo rfl rfl ?_ | refine o_asg rfl rfl (fun _ h_ => by cases h_) ?_
                      refine op_nil ?_
                      refine wp_ret ?_
                      refine bx_ret ?_
                      refine end3 rfl rfl rfl rfl rfl ?_ (by first | rfl | simp)
                      (try have e1 : s[1]? = none := List.getElem?_eq_none (by omega))
                      (try have e3 : s[3]? = none := List.getElem?_eq_none (by omega))
                      try (have h2_ : 2 < s.length := by omega; obtain ⟨y2, e2⟩ := getS h2_)
                      try (have h3_ : 3 < s.length := by omega; obtain ⟨y3, e3⟩ := getS h3_)
                      congr 1
                      clear hs hs'
                      first
                      | (simp_all [sign, signA]; done)
                      | (simp_all [sign, signA]; rw [if_neg (by omega)]; try rfl)
                      | (simp_all [sign, signA]; rw [if_pos (by omega)]; try rfl)
                      | (rcases hh2 : s[2]? with _ | y2 <;> rcases hh3 : s[3]? with _ | y3 <;> simp_all [sign, signA]; done)
                      | (rcases hh2 : s[2]? with _ | y2 <;> rcases hh3 : s[3]? with _ | y3 <;> simp_all [sign, signA] <;> (rw [if_neg (by omega)]; try rfl))
                      | exact sign_ok (by assumption) (by assumption) (by assumption) (by assumption) (by assumption) (by assumption) (by assumption) (by assumption) (by assumption) (by assumption)
                  · first
                    | exfalso; first | omega | (have := hs' ‹_›; omega)
                    | skip
                      refine wp_seq ?_
                      refine wp_ops ?_
                      first | refine o_movd rfl rfl ?_ | refine o_movp rfl rfl ?_ | refine o_mova rfl rfl ?_ | refine o_mov rfl rfl ?_
                      first | refine o_idxS rfl rfl rfl rfl (by assumption) ?_ | (refine o_idxSx rfl rfl rfl rfl (by omega) ?_; intro b_ hb_) | refine o_idxS rfl rfl rfl rfl rfl ?_
                      first | (refine o_ixb (l := badB) rfl rfl ?_; intro n_ hn_ hm_) | (refine o_ixb (l := named) rfl rfl ?_; intro n_ hn_ hm_)
                      first | refine o_geqn rfl rfl rfl ?_ | refine o_bin rfl rfl rfl rfl ?_
                      first | refine o_asgd rfl rfl ?_ | refine o_asgo rfl rfl ?_ | refine o_asg rfl rfl (fun _ h_ => by cases h_) ?_
                      refine op_nil ?_
                      first | refine wp_if rfl ?_ ?_ <;> intro hq_ | refine wp_cond rfl ?_ ?_ <;> intro hq_
                      · first
                        | exfalso; first | omega | (have := hs' ‹_›; omega)
                        | skip
                          refine wp_seq ?_
                          refine wp_ops ?_
                          first | refine o_movd rfl rfl ?_ | refine o_movp rfl rfl ?_ | refine o_mova rfl rfl ?_ | refine o_mov rfl rfl ?_
                          first | refine o_idxS rfl rfl rfl rfl (by assumption) ?_ | (refine o_idxSx rfl rfl rfl rfl (by omega) ?_; intro b_ hb_) | refine o_idxS rfl rfl rfl rfl rfl ?_
                          first | refine o_asgd rfl rfl ?_ | refine o_asgo rfl rfl ?_ | refine o_asg rfl rfl (fun _ h_ => by cases h_) ?_
                          first | refine o_asgd rfl rfl ?_ | refine o_asgo rfl rfl ?_ | refine o_asg rfl rfl (fun _ h_ => by cases h_) ?_
                          first | refine o_asgd rfl rfl ?_ | refine o_asgo rfl rfl ?_ | refine o_asg rfl rfl (fun _ h_ => by cases h_) ?_
                          refine op_nil ?_
                          refine wp_ret ?_
                          refine bx_ret ?_
                          refine end3 rfl rfl rfl rfl rfl ?_ (by first | rfl | simp)
                          (try have e1 : s[1]? = none := List.getElem?_eq_none (by omega))
                          (try have e3 : s[3]? = none := List.getElem?_eq_none (by omega))
                          try (have h2_ : 2 < s.length := by omega; obtain ⟨y2, e2⟩ := getS h2_)
                          try (have h3_ : 3 < s.length := by omega; obtain ⟨y3, e3⟩ := getS h3_)
                          congr 1
                          clear hs hs'
                          first
                          | (simp_all [sign, signA]; done)
                          | (simp_all [sign, signA]; rw [if_neg (by omega)]; try rfl)
                          | (simp_all [sign, signA]; rw [if_pos (by omega)]; try rfl)
                          | (rcases hh2 : s[2]? with _ | y2 <;> rcases hh3 : s[3]? with _ | y3 <;> simp_all [sign, signA]; done)
                          | (rcases hh2 : s[2]? with _ | y2 <;> rcases hh3 : s[3]? with _ | y3 <;> simp_all [sign, signA] <;> (rw [if_neg (by omega)]; try rfl))
                          | exact sign_ok (by assumption) (by assumption) (by assumption) (by assumption) (by assumption) (by assumption) (by assumption) (by assumption) (by assumption) (by assumption)
                      · first
                        | exfalso; first | omega | (have := hs' ‹_›; omega)
                        | skip
                          refine wp_seq ?_
                          refine wp_ops ?_
                          first | refine o_movd rfl rfl ?_ | refine o_movp rfl rfl ?_ | refine o_mova rfl rfl ?_ | refine o_mov rfl rfl ?_
                          refine o_lenS rfl rfl ?_
                          first | refine o_lssn rfl rfl rfl ?_ | refine o_bin rfl rfl rfl rfl ?_
                          first | refine o_movd rfl rfl ?_ | refine o_movp rfl rfl ?_ | refine o_mova rfl rfl ?_ | refine o_mov rfl rfl ?_
                          refine o_ifp rfl ?_ ?_ <;> intro hq_ hg_ <;> simp only [hg_] <;> clear hg_
                          · first
                            | exfalso; first | omega | (have := hs' ‹_›; omega)
                            | skip
                              refine o_skip rfl ?_
                              refine o_skip rfl ?_
                              refine o_skip rfl ?_
                              refine o_pickt rfl rfl rfl ?_
                              first | refine o_movd rfl rfl ?_ | refine o_movp rfl rfl ?_ | refine o_mova rfl rfl ?_ | refine o_mov rfl rfl ?_
                              refine o_skip rfl ?_
                              refine o_skip rfl ?_
                              refine o_skip rfl ?_
                              refine o_skip rfl ?_
                              refine o_pickt rfl rfl rfl ?_
                              first | refine o_movd rfl rfl ?_ | refine o_movp rfl rfl ?_ | refine o_mova rfl rfl ?_ | refine o_mov rfl rfl ?_
                              refine o_skip rfl ?_
                              refine o_skip rfl ?_
                              refine o_skip rfl ?_
                              refine o_skip rfl ?_
                              refine o_pickt rfl rfl rfl ?_
                              first | refine o_asgd rfl rfl ?_ | refine o_asgo rfl rfl ?_ | refine o_asg rfl rfl (fun _ h_ => by cases h_) ?_
                              refine op_nil ?_
                              refine wp_cond rfl (fun _ => ?_) (fun h_ => absurd h_ (by decide))
                              refine wp_seq ?_
                              refine wp_ops ?_
                              first | refine o_asgd rfl rfl ?_ | refine o_asgo rfl rfl ?_ | refine o_asg rfl rfl (fun _ h_ => by cases h_) ?_
                              first | refine o_asgd rfl rfl ?_ | refine o_asgo rfl rfl ?_ | refine o_asg rfl rfl (fun _ h_ => by cases h_) ?_
                              first | refine o_asgd rfl rfl ?_ | refine o_asgo rfl rfl ?_ | refine o_asg rfl rfl (fun _ h_ => by cases h_) ?_
                              refine op_nil ?_
                              refine wp_ret ?_
                              refine bx_ret ?_
                              refine end3 rfl rfl rfl rfl rfl ?_ (by first | rfl | simp)
                              (try have e1 : s[1]? = none := List.getElem?_eq_none (by omega))
                              (try have e3 : s[3]? = none := List.getElem?_eq_none (by omega))
                              try (have h2_ : 2 < s.length := by omega; obtain ⟨y2, e2⟩ := getS h2_)
                              try (have h3_ : 3 < s.length := by omega; obtain ⟨y3, e3⟩ := getS h3_)
                              congr 1
                              clear hs hs'
                              first
                              | (simp_all [sign, signA]; done)
                              | (simp_all [sign, signA]; rw [if_neg (by omega)]; try rfl)
                              | (simp_all [sign, signA]; rw [if_pos (by omega)]; try rfl)
                              | (rcases hh2 : s[2]? with _ | y2 <;> rcases hh3 : s[3]? with _ | y3 <;> simp_all [sign, signA]; done)
                              | (rcases hh2 : s[2]? with _ | y2 <;> rcases hh3 : s[3]? with _ | y3 <;> simp_all [sign, signA] <;> (rw [if_neg (by omega)]; try rfl))
                              | exact sign_ok (by assumption) (by assumption) (by assumption) (by assumption) (by assumption) (by assumption) (by assumption) (by assumption) (by assumption) (by assumption)
                          · first
                            | exfalso; first | omega | (have := hs' ‹_›; omega)
                            | skip
                              first | refine o_movd rfl rfl ?_ | refine o_movp rfl rfl ?_ | refine o_mova rfl rfl ?_ | refine o_mov rfl rfl ?_
                              first | refine o_idxS rfl rfl rfl rfl (by assumption) ?_ | (refine o_idxSx rfl rfl rfl rfl (by omega) ?_; intro b_ hb_) | refine o_idxS rfl rfl rfl rfl rfl ?_
                              first | refine o_neqn rfl rfl rfl ?_ | refine o_nes rfl rfl rfl ?_ | refine o_bin rfl rfl rfl rfl ?_
                              refine o_pickf rfl rfl rfl ?_
                              first | refine o_movd rfl rfl ?_ | refine o_movp rfl rfl ?_ | refine o_mova rfl rfl ?_ | refine o_mov rfl rfl ?_
                              refine o_ifp rfl ?_ ?_ <;> intro hq_ hg_ <;> simp only [hg_] <;> clear hg_
                              · first
                                | exfalso; first | omega | (have := hs' ‹_›; omega)
                                | skip
                                  refine o_skip rfl ?_
                                  refine o_skip rfl ?_
                                  refine o_skip rfl ?_
                                  refine o_skip rfl ?_
                                  refine o_pickt rfl rfl rfl ?_
                                  first | refine o_movd rfl rfl ?_ | refine o_movp rfl rfl ?_ | refine o_mova rfl rfl ?_ | refine o_mov rfl rfl ?_
                                  refine o_skip rfl ?_
                                  refine o_skip rfl ?_
                                  refine o_skip rfl ?_
                                  refine o_skip rfl ?_
                                  refine o_pickt rfl rfl rfl ?_
                                  first | refine o_asgd rfl rfl ?_ | refine o_asgo rfl rfl ?_ | refine o_asg rfl rfl (fun _ h_ => by cases h_) ?_
                                  refine op_nil ?_
                                  refine wp_cond rfl (fun _ => ?_) (fun h_ => absurd h_ (by decide))
                                  refine wp_seq ?_
                                  refine wp_ops ?_
                                  first | refine o_asgd rfl rfl ?_ | refine o_asgo rfl rfl ?_ | refine o_asg rfl rfl (fun _ h_ => by cases h_) ?_
                                  first | refine o_asgd rfl rfl ?_ | refine o_asgo rfl rfl ?_ | refine o_asg rfl rfl (fun _ h_ => by cases h_) ?_
                                  first | refine o_asgd rfl rfl ?_ | refine o_asgo rfl rfl ?_ | refine o_asg rfl rfl (fun _ h_ => by cases h_) ?_
                                  refine op_nil ?_
                                  refine wp_ret ?_
                                  refine bx_ret ?_
                                  refine end3 rfl rfl rfl rfl rfl ?_ (by first | rfl | simp)
                                  (try have e1 : s[1]? = none := List.getElem?_eq_none (by omega))
                                  (try have e3 : s[3]? = none := List.getElem?_eq_none (by omega))
                                  try (have h2_ : 2 < s.length := by omega; obtain ⟨y2, e2⟩ := getS h2_)
                                  try (have h3_ : 3 < s.length := by omega; obtain ⟨y3, e3⟩ := getS h3_)
                                  congr 1
                                  clear hs hs'
                                  first
                                  | (simp_all [sign, signA]; done)
                                  | (simp_all [sign, signA]; rw [if_neg (by omega)]; try rfl)
                                  | (simp_all [sign, signA]; rw [if_pos (by omega)]; try rfl)
                                  | (rcases hh2 : s[2]? with _ | y2 <;> rcases hh3 : s[3]? with _ | y3 <;> simp_all [sign, signA]; done)
                                  | (rcases hh2 : s[2]? with _ | y2 <;> rcases hh3 : s[3]? with _ | y3 <;> simp_all [sign, signA] <;> (rw [if_neg (by omega)]; try rfl))
                                  | exact sign_ok (by assumption) (by assumption) (by assumption) (by assumption) (by assumption) (by assumption) (by assumption) (by assumption) (by assumption) (by assumption)
                              · first
                                | exfalso; first | omega | (have := hs' ‹_›; omega)
                                | skip
                                  first | refine o_movd rfl rfl ?_ | refine o_movp rfl rfl ?_ | refine o_mova rfl rfl ?_ | refine o_mov rfl rfl ?_
                                  first | refine o_idxS rfl rfl rfl rfl (by assumption) ?_ | (refine o_idxSx rfl rfl rfl rfl (by omega) ?_; intro b_ hb_) | refine o_idxS rfl rfl rfl rfl rfl ?_
                                  refine o_digit rfl rfl ?_; intro n_ hn_ hl_
                                  first | refine o_lssn rfl rfl rfl ?_ | refine o_bin rfl rfl rfl rfl ?_
                                  refine o_pickf rfl rfl rfl ?_
                                  first | refine o_movd rfl rfl ?_ | refine o_movp rfl rfl ?_ | refine o_mova rfl rfl ?_ | refine o_mov rfl rfl ?_
                                  refine o_ifp rfl ?_ ?_ <;> intro hq_ hg_ <;> simp only [hg_] <;> clear hg_
                                  · first
                                    | exfalso; first | omega | (have := hs' ‹_›; omega)
                                    | skip
                                      refine o_skip rfl ?_
                                      refine o_skip rfl ?_
                                      refine o_skip rfl ?_
                                      refine o_skip rfl ?_
                                      refine o_pickt rfl rfl rfl ?_
                                      first | refine o_asgd rfl rfl ?_ | refine o_asgo rfl rfl ?_ | refine o_asg rfl rfl (fun _ h_ => by cases h_) ?_
                                      refine op_nil ?_
                                      refine wp_cond rfl (fun _ => ?_) (fun h_ => absurd h_ (by decide))
                                      refine wp_seq ?_
                                      refine wp_ops ?_
                                      first | refine o_asgd rfl rfl ?_ | refine o_asgo rfl rfl ?_ | refine o_asg rfl rfl (fun _ h_ => by cases h_) ?_
                                      first | refine o_asgd rfl rfl ?_ | refine o_asgo rfl rfl ?_ | refine o_asg rfl rfl (fun _ h_ => by cases h_) ?_
                                      first | refine o_asgd rfl rfl ?_ | refine o_asgo rfl rfl ?_ | refine o_asg rfl rfl (fun _ h_ => by cases h_) ?_
                                      refine op_nil ?_
                                      refine wp_ret ?_
                                      refine bx_ret ?_
                                      refine end3 rfl rfl rfl rfl rfl ?_ (by first | rfl | simp)
                                      (try have e1 : s[1]? = none := List.getElem?_eq_none (by omega))
                                      (try have e3 : s[3]? = none := List.getElem?_eq_none (by omega))
                                      try (have h2_ : 2 < s.length := by omega; obtain ⟨y2, e2⟩ := getS h2_)
                                      try (have h3_ : 3 < s.length := by omega; obtain ⟨y3, e3⟩ := getS h3_)
                                      congr 1
                                      clear hs hs'
                                      first
                                      | (simp_all [sign, signA]; done)
                                      | (simp_all [sign, signA]; rw [if_neg (by omega)]; try rfl)
                                      | (simp_all [sign, signA]; rw [if_pos (by omega)]; try rfl)
                                      | (rcases hh2 : s[2]? with _ | y2 <;> rcases hh3 : s[3]? with _ | y3 <;> simp_all [sign, signA]; done)
                                      | (rcases hh2 : s[2]? with _ | y2 <;> rcases hh3 : s[3]? with _ | y3 <;> simp_all [sign, signA] <;> (rw [if_neg (by omega)]; try rfl))
                                      | exact sign_ok (by assumption) (by assumption) (by assumption) (by assumption) (by assumption) (by assumption) (by assumption) (by assumption) (by assumption) (by assumption)
                                  · first
                                    | exfalso; first | omega | (have := hs' ‹_›; omega)
                                    | skip
                                      first | refine o_movd rfl rfl ?_ | refine o_movp rfl rfl ?_ | refine o_mova rfl rfl ?_ | refine o_mov rfl rfl ?_
                                      first | refine o_idxS rfl rfl rfl rfl (by assumption) ?_ | (refine o_idxSx rfl rfl rfl rfl (by omega) ?_; intro b_ hb_) | refine o_idxS rfl rfl rfl rfl rfl ?_
                                      refine o_digit rfl rfl ?_; intro n_ hn_ hl_
                                      first | refine o_lssn rfl rfl rfl ?_ | refine o_bin rfl rfl rfl rfl ?_
                                      refine o_pickf rfl rfl rfl ?_
                                      first | refine o_asgd rfl rfl ?_ | refine o_asgo rfl rfl ?_ | refine o_asg rfl rfl (fun _ h_ => by cases h_) ?_
                                      refine op_nil ?_
                                      first | refine wp_if rfl ?_ ?_ <;> intro hq_ | refine wp_cond rfl ?_ ?_ <;> intro hq_
                                      · first
                                        | exfalso; first | omega | (have := hs' ‹_›; omega)
                                        | skip
                                          refine wp_seq ?_
                                          refine wp_ops ?_
                                          first | refine o_asgd rfl rfl ?_ | refine o_asgo rfl rfl ?_ | refine o_asg rfl rfl (fun _ h_ => by cases h_) ?_
                                          first | refine o_asgd rfl rfl ?_ | refine o_asgo rfl rfl ?_ | refine o_asg rfl rfl (fun _ h_ => by cases h_) ?_
                                          first | refine o_asgd rfl rfl ?_ | refine o_asgo rfl rfl ?_ | refine o_asg rfl rfl (fun _ h_ => by cases h_) ?_
                                          refine op_nil ?_
                                          refine wp_ret ?_
                                          refine bx_ret ?_
                                          refine end3 rfl rfl rfl rfl rfl ?_ (by first | rfl | simp)
                                          (try have e1 : s[1]? = none := List.getElem?_eq_none (by omega))
                                          (try have e3 : s[3]? = none := List.getElem?_eq_none (by omega))
                                          try (have h2_ : 2 < s.length := by omega; obtain ⟨y2, e2⟩ := getS h2_)
                                          try (have h3_ : 3 < s.length := by omega; obtain ⟨y3, e3⟩ := getS h3_)
                                          congr 1
                                          clear hs hs'
                                          first
                                          | (simp_all [sign, signA]; done)
                                          | (simp_all [sign, signA]; rw [if_neg (by omega)]; try rfl)
                                          | (simp_all [sign, signA]; rw [if_pos (by omega)]; try rfl)
                                          | (rcases hh2 : s[2]? with _ | y2 <;> rcases hh3 : s[3]? with _ | y3 <;> simp_all [sign, signA]; done)
                                          | (rcases hh2 : s[2]? with _ | y2 <;> rcases hh3 : s[3]? with _ | y3 <;> simp_all [sign, signA] <;> (rw [if_neg (by omega)]; try rfl))
                                          | exact sign_ok (by assumption) (by assumption) (by assumption) (by assumption) (by assumption) (by assumption) (by assumption) (by assumption) (by assumption) (by assumption)
                                      · first
                                        | exfalso; first | omega | (have := hs' ‹_›; omega)
                                        | skip
                                          refine wp_skip ?_
                                          refine keepN (by (simp +decide only [Slots.keep, Slots.get, reduceIte]); exact rfl) ?_
                                          refine wp_seq ?_
                                          refine wp_ops ?_
                                          first | refine o_movd rfl rfl ?_ | refine o_movp rfl rfl ?_ | refine o_mova rfl rfl ?_ | refine o_mov rfl rfl ?_
                                          first | refine o_idxS rfl rfl rfl rfl (by assumption) ?_ | (refine o_idxSx rfl rfl rfl rfl (by omega) ?_; intro b_ hb_) | refine o_idxS rfl rfl rfl rfl rfl ?_
                                          (refine o_digit0 rfl rfl (by omega) ?_; intro m_ hm_ hl_)
                                          refine o_shln rfl rfl rfl (by (first | omega | (simp only [m64, mU, m8, n64, nU, n8, b64, bU, b8]; omega))) (by decide) (by (first | omega | (simp only [m64, mU, m8, n64, nU, n8, b64, bU, b8]; omega))) ?_
                                          first | refine o_movd rfl rfl ?_ | refine o_movp rfl rfl ?_ | refine o_mova rfl rfl ?_ | refine o_mov rfl rfl ?_
                                          first | refine o_idxS rfl rfl rfl rfl (by assumption) ?_ | (refine o_idxSx rfl rfl rfl rfl (by omega) ?_; intro b_ hb_) | refine o_idxS rfl rfl rfl rfl rfl ?_
                                          (refine o_digit0 rfl rfl (by omega) ?_; intro m_ hm_ hl_)
                                          refine o_bin rfl rfl rfl (or_nib ‹_› ‹_›) ?_
                                          refine o_toInt rfl rfl (by (first | omega | (simp only [m64, mU, m8, n64, nU, n8, b64, bU, b8]; omega))) (by (first | omega | (simp only [m64, mU, m8, n64, nU, n8, b64, bU, b8]; omega))) ?_
                                          first | refine o_asgd rfl rfl ?_ | refine o_asgo rfl rfl ?_ | refine o_asg rfl rfl (fun _ h_ => by cases h_) ?_
                                          first | refine o_asgd rfl rfl ?_ | refine o_asgo rfl rfl ?_ | refine o_asg rfl rfl (fun _ h_ => by cases h_) ?_
                                          first | refine o_asgd rfl rfl ?_ | refine o_asgo rfl rfl ?_ | refine o_asg rfl rfl (fun _ h_ => by cases h_) ?_
                                          refine op_nil ?_
                                          refine wp_ret ?_
                                          refine end3 rfl rfl rfl rfl rfl ?_ (by first | rfl | simp)
                                          (try have e1 : s[1]? = none := List.getElem?_eq_none (by omega))
                                          (try have e3 : s[3]? = none := List.getElem?_eq_none (by omega))
                                          try (have h2_ : 2 < s.length := by omega; obtain ⟨y2, e2⟩ := getS h2_)
                                          try (have h3_ : 3 < s.length := by omega; obtain ⟨y3, e3⟩ := getS h3_)
                                          congr 1
                                          clear hs hs'
                                          first
                                          | (simp_all [sign, signA]; done)
                                          | (simp_all [sign, signA]; rw [if_neg (by omega)]; try rfl)
                                          | (simp_all [sign, signA]; rw [if_pos (by omega)]; try rfl)
                                          | (rcases hh2 : s[2]? with _ | y2 <;> rcases hh3 : s[3]? with _ | y3 <;> simp_all [sign, signA]; done)
                                          | (rcases hh2 : s[2]? with _ | y2 <;> rcases hh3 : s[3]? with _ | y3 <;> simp_all [sign, signA] <;> (rw [if_neg (by omega)]; try rfl))
                                          | exact sign_ok (by assumption) (by assumption) (by assumption) (by assumption) (by assumption) (by assumption) (by assumption) (by assumption) (by assumption) (by assumption)
      · first
        | exfalso; first | omega | (have := hs' ‹_›; omega)
        | skip
          refine o_skip rfl ?_
          refine o_skip rfl ?_
          refine o_skip rfl ?_
          refine o_skip rfl ?_
          refine o_pickf rfl rfl rfl ?_
          refine o_pickf rfl rfl rfl ?_
          first | refine o_asgd rfl rfl ?_ | refine o_asgo rfl rfl ?_ | refine o_asg rfl rfl (fun _ h_ => by cases h_) ?_
          refine op_nil ?_
          refine wp_cond rfl (fun h_ => absurd h_ (by decide)) (fun _ => ?_)
          refine wp_seq ?_
          refine wp_ops ?_
          first | refine o_movd rfl rfl ?_ | refine o_movp rfl rfl ?_ | refine o_mova rfl rfl ?_ | refine o_mov rfl rfl ?_
          first | refine o_idxS rfl rfl rfl rfl (by assumption) ?_ | (refine o_idxSx rfl rfl rfl rfl (by omega) ?_; intro b_ hb_) | refine o_idxS rfl rfl rfl rfl rfl ?_
          first | refine o_neqn rfl rfl rfl ?_ | refine o_nes rfl rfl rfl ?_ | refine o_bin rfl rfl rfl rfl ?_
          first | refine o_asgd rfl rfl ?_ | refine o_asgo rfl rfl ?_ | refine o_asg rfl rfl (fun _ h_ => by cases h_) ?_
          refine op_nil ?_
          first | refine wp_if rfl ?_ ?_ <;> intro hq_ | refine wp_cond rfl ?_ ?_ <;> intro hq_
          · first
            | exfalso; first | omega | (have := hs' ‹_›; omega)
            | skip
              refine wp_seq ?_
              refine wp_ops ?_
              first | refine o_movd rfl rfl ?_ | refine o_movp rfl rfl ?_ | refine o_mova rfl rfl ?_ | refine o_mov rfl rfl ?_
              first | refine o_idxS rfl rfl rfl rfl (by assumption) ?_ | (refine o_idxSx rfl rfl rfl rfl (by omega) ?_; intro b_ hb_) | refine o_idxS rfl rfl rfl rfl rfl ?_
              first | refine o_asgd rfl rfl ?_ | refine o_asgo rfl rfl ?_ | refine o_asg rfl rfl (fun _ h_ => by cases h_) ?_
              first | refine o_asgd rfl rfl ?_ | refine o_asgo rfl rfl ?_ | refine o_asg rfl rfl (fun _ h_ => by cases h_) ?_
              first | refine o_asgd rfl rfl ?_ | refine o_asgo rfl rfl ?_ | refine o_asg rfl rfl (fun _ h_ => by cases h_) ?_
              refine op_nil ?_
              refine wp_ret ?_
              refine bx_ret ?_
              refine end3 rfl rfl rfl rfl rfl ?_ (by first | rfl | simp)
              (try have e1 : s[1]? = none := List.getElem?_eq_none (by omega))
              (try have e3 : s[3]? = none := List.getElem?_eq_none (by omega))
              try (have h2_ : 2 < s.length := by omega; obtain ⟨y2, e2⟩ := getS h2_)
              try (have h3_ : 3 < s.length := by omega; obtain ⟨y3, e3⟩ := getS h3_)
              congr 1
              clear hs hs'
              first
              | (simp_all [sign, signA]; done)
              | (simp_all [sign, signA]; rw [if_neg (by omega)]; try rfl)
              | (simp_all [sign, signA]; rw [if_pos (by omega)]; try rfl)
              | (rcases hh2 : s[2]? with _ | y2 <;> rcases hh3 : s[3]? with _ | y3 <;> simp_all [sign, signA]; done)
              | (rcases hh2 : s[2]? with _ | y2 <;> rcases hh3 : s[3]? with _ | y3 <;> simp_all [sign, signA] <;> (rw [if_neg (by omega)]; try rfl))
              | exact sign_ok (by assumption) (by assumption) (by assumption) (by assumption) (by assumption) (by assumption) (by assumption) (by assumption) (by assumption) (by assumption)
          · first
            | exfalso; first | omega | (have := hs' ‹_›; omega)
            | skip
              refine wp_seq ?_
              refine wp_ops ?_
              first | refine o_movd rfl rfl ?_ | refine o_movp rfl rfl ?_ | refine o_mova rfl rfl ?_ | refine o_mov rfl rfl ?_
              refine o_lenS rfl rfl ?_
              first | refine o_lssn rfl rfl rfl ?_ | refine o_bin rfl rfl rfl rfl ?_
              first | refine o_asgd rfl rfl ?_ | refine o_asgo rfl rfl ?_ | refine o_asg rfl rfl (fun _ h_ => by cases h_) ?_
              refine op_nil ?_
              first | refine wp_if rfl ?_ ?_ <;> intro hq_ | refine wp_cond rfl ?_ ?_ <;> intro hq_
              · first
                | exfalso; first | omega | (have := hs' ‹_›; omega)
                | skip
                  refine wp_seq ?_
                  refine wp_ops ?_
                  first | refine o_asgd rfl rfl ?_ | refine o_asgo rfl rfl ?_ | refine o_asg rfl rfl (fun _ h_ => by cases h_) ?_
                  first | refine o_asgd rfl rfl ?_ | refine o_asgo rfl rfl ?_ | refine o_asg rfl rfl (fun _ h_ => by cases h_) ?_
                  first | refine o_asgd rfl rfl ?_ | refine o_asgo rfl rfl ?_ | refine o_asg rfl rfl (fun _ h_ => by cases h_) ?_
                  refine op_nil ?_
                  refine wp_ret ?_
                  refine bx_ret ?_
                  refine end3 rfl rfl rfl rfl rfl ?_ (by first | rfl | simp)
                  (try have e1 : s[1]? = none := List.getElem?_eq_none (by omega))
                  (try have e3 : s[3]? = none := List.getElem?_eq_none (by omega))
                  try (have h2_ : 2 < s.length := by omega; obtain ⟨y2, e2⟩ := getS h2_)
                  try (have h3_ : 3 < s.length := by omega; obtain ⟨y3, e3⟩ := getS h3_)
                  congr 1
                  clear hs hs'
                  first
                  | (simp_all [sign, signA]; done)
                  | (simp_all [sign, signA]; rw [if_neg (by omega)]; try rfl)
                  | (simp_all [sign, signA]; rw [if_pos (by omega)]; try rfl)
                  | (rcases hh2 : s[2]? with _ | y2 <;> rcases hh3 : s[3]? with _ | y3 <;> simp_all [sign, signA]; done)
                  | (rcases hh2 : s[2]? with _ | y2 <;> rcases hh3 : s[3]? with _ | y3 <;> simp_all [sign, signA] <;> (rw [if_neg (by omega)]; try rfl))
                  | exact sign_ok (by assumption) (by assumption) (by assumption) (by assumption) (by assumption) (by assumption) (by assumption) (by assumption) (by assumption) (by assumption)
              · first
                | exfalso; first | omega | (have := hs' ‹_›; omega)
                | skip
                  refine wp_seq ?_
                  refine wp_ops ?_
                  first | refine o_movd rfl rfl ?_ | refine o_movp rfl rfl ?_ | refine o_mova rfl rfl ?_ | refine o_mov rfl rfl ?_
                  first | refine o_idxS rfl rfl rfl rfl (by assumption) ?_ | (refine o_idxSx rfl rfl rfl rfl (by omega) ?_; intro b_ hb_) | refine o_idxS rfl rfl rfl rfl rfl ?_
                  first | (refine o_ixb (l := badB) rfl rfl ?_; intro n_ hn_ hm_) | (refine o_ixb (l := named) rfl rfl ?_; intro n_ hn_ hm_)
                  first | refine o_geqn rfl rfl rfl ?_ | refine o_bin rfl rfl rfl rfl ?_
                  first | refine o_asgd rfl rfl ?_ | refine o_asgo rfl rfl ?_ | refine o_asg rfl rfl (fun _ h_ => by cases h_) ?_
                  refine op_nil ?_
                  first | refine wp_if rfl ?_ ?_ <;> intro hq_ | refine wp_cond rfl ?_ ?_ <;> intro hq_
                  · first
                    | exfalso; first | omega | (have := hs' ‹_›; omega)
                    | skip
                      refine wp_seq ?_
                      refine wp_ops ?_
                      first | refine o_movd rfl rfl ?_ | refine o_movp rfl rfl ?_ | refine o_mova rfl rfl ?_ | refine o_mov rfl rfl ?_
                      first | refine o_idxS rfl rfl rfl rfl (by assumption) ?_ | (refine o_idxSx rfl rfl rfl rfl (by omega) ?_; intro b_ hb_) | refine o_idxS rfl rfl rfl rfl rfl ?_
                      first | refine o_asgd rfl rfl ?_ | refine o_asgo rfl rfl ?_ | refine o_asg rfl rfl (fun _ h_ => by cases h_) ?_
                      first | refine o_asgd rfl rfl ?_ | refine o_asgo rfl rfl ?_ | refine o_asg rfl rfl (fun _ h_ => by cases h_) ?_
                      first | refine o_asgd rfl rfl ?_ | refine o_asgo rfl rfl ?_ | refine o_asg rfl rfl (fun _ h_ => by cases h_) ?_
                      refine op_nil ?_
                      refine wp_ret ?_
                      refine bx_ret ?_
                      refine end3 rfl rfl rfl rfl rfl ?_ (by first | rfl | simp)
                      (try have e1 : s[1]? = none := List.getElem?_eq_none (by omega))
                      (try have e3 : s[3]? = none := List.getElem?_eq_none (by omega))
                      try (have h2_ : 2 < s.length := by omega; obtain ⟨y2, e2⟩ := getS h2_)
                      try (have h3_ : 3 < s.length := by omega; obtain ⟨y3, e3⟩ := getS h3_)
                      congr 1
                      clear hs hs'
                      first
                      | (simp_all [sign, signA]; done)
                      | (simp_all [sign, signA]; rw [if_neg (by omega)]; try rfl)
                      | (simp_all [sign, signA]; rw [if_pos (by omega)]; try rfl)
                      | (rcases hh2 : s[2]? with _ | y2 <;> rcases hh3 : s[3]? with _ | y3 <;> simp_all [sign, signA]; done)
                      | (rcases hh2 : s[2]? with _ | y2 <;> rcases hh3 : s[3]? with _ | y3 <;> simp_all [sign, signA] <;> (rw [if_neg (by omega)]; try rfl))
                      | exact sign_ok (by assumption) (by assumption) (by assumption) (by assumption) (by assumption) (by assumption) (by assumption) (by assumption) (by assumption) (by assumption)
                  · first
                    | exfalso; first | omega | (have := hs' ‹_›; omega)
                    | skip
                      refine wp_seq ?_
                      refine wp_ops ?_
                      first | refine o_movd rfl rfl ?_ | refine o_movp rfl rfl ?_ | refine o_mova rfl rfl ?_ | refine o_mov rfl rfl ?_
                      refine o_lenS rfl rfl ?_
                      first | refine o_lssn rfl rfl rfl ?_ | refine o_bin rfl rfl rfl rfl ?_
                      first | refine o_movd rfl rfl ?_ | refine o_movp rfl rfl ?_ | refine o_mova rfl rfl ?_ | refine o_mov rfl rfl ?_
                      refine o_ifp rfl ?_ ?_ <;> intro hq_ hg_ <;> simp only [hg_] <;> clear hg_
                      · first
                        | exfalso; first | omega | (have := hs' ‹_›; omega)
                        | skip
                          refine o_skip rfl ?_
                          refine o_skip rfl ?_
                          refine o_skip rfl ?_
                          refine o_pickt rfl rfl rfl ?_
                          first | refine o_movd rfl rfl ?_ | refine o_movp rfl rfl ?_ | refine o_mova rfl rfl ?_ | refine o_mov rfl rfl ?_
                          refine o_skip rfl ?_
                          refine o_skip rfl ?_
                          refine o_skip rfl ?_
                          refine o_skip rfl ?_
                          refine o_pickt rfl rfl rfl ?_
                          first | refine o_movd rfl rfl ?_ | refine o_movp rfl rfl ?_ | refine o_mova rfl rfl ?_ | refine o_mov rfl rfl ?_
                          refine o_skip rfl ?_
                          refine o_skip rfl ?_
                          refine o_skip rfl ?_
                          refine o_skip rfl ?_
                          refine o_pickt rfl rfl rfl ?_
                          first | refine o_asgd rfl rfl ?_ | refine o_asgo rfl rfl ?_ | refine o_asg rfl rfl (fun _ h_ => by cases h_) ?_
                          refine op_nil ?_
                          refine wp_cond rfl (fun _ => ?_) (fun h_ => absurd h_ (by decide))
                          refine wp_seq ?_
                          refine wp_ops ?_
                          first | refine o_asgd rfl rfl ?_ | refine o_asgo rfl rfl ?_ | refine o_asg rfl rfl (fun _ h_ => by cases h_) ?_
                          first | refine o_asgd rfl rfl ?_ | refine o_asgo rfl rfl ?_ | refine o_asg rfl rfl (fun _ h_ => by cases h_) ?_
                          first | refine o_asgd rfl rfl ?_ | refine o_asgo rfl rfl ?_ | refine o_asg rfl rfl (fun _ h_ => by cases h_) ?_
                          refine op_nil ?_
                          refine wp_ret ?_
                          refine bx_ret ?_
                          refine end3 rfl rfl rfl rfl rfl ?_ (by first | rfl | simp)
                          (try have e1 : s[1]? = none := List.getElem?_eq_none (by omega))
                          (try have e3 : s[3]? = none := List.getElem?_eq_none (by omega))
                          try (have h2_ : 2 < s.length := by omega; obtain ⟨y2, e2⟩ := getS h2_)
                          try (have h3_ : 3 < s.length := by omega; obtain ⟨y3, e3⟩ := getS h3_)
                          congr 1
                          clear hs hs'
                          first
                          | (simp_all [sign, signA]; done)
                          | (simp_all [sign, signA]; rw [if_neg (by omega)]; try rfl)
                          | (simp_all [sign, signA]; rw [if_pos (by omega)]; try rfl)
                          | (rcases hh2 : s[2]? with _ | y2 <;> rcases hh3 : s[3]? with _ | y3 <;> simp_all [sign, signA]; done)
                          | (rcases hh2 : s[2]? with _ | y2 <;> rcases hh3 : s[3]? with _ | y3 <;> simp_all [sign, signA] <;> (rw [if_neg (by omega)]; try rfl))
                          | exact sign_ok (by assumption) (by assumption) (by assumption) (by assumption) (by assumption) (by assumption) (by assumption) (by assumption) (by assumption) (by assumption)
                      · first
                        | exfalso; first | omega | (have := hs' ‹_›; omega)
                        | skip
                          first | refine o_movd rfl rfl ?_ | refine o_movp rfl rfl ?_ | refine o_mova rfl rfl ?_ | refine o_mov rfl rfl ?_
                          first | refine o_idxS rfl rfl rfl rfl (by assumption) ?_ | (refine o_idxSx rfl rfl rfl rfl (by omega) ?_; intro b_ hb_) | refine o_idxS rfl rfl rfl rfl rfl ?_
                          first | refine o_neqn rfl rfl rfl ?_ | refine o_nes rfl rfl rfl ?_ | refine o_bin rfl rfl rfl rfl ?_
                          refine o_pickf rfl rfl rfl ?_
                          first | refine o_movd rfl rfl ?_ | refine o_movp rfl rfl ?_ | refine o_mova rfl rfl ?_ | refine o_mov rfl rfl ?_
                          refine o_ifp rfl ?_ ?_ <;> intro hq_ hg_ <;> simp only [hg_] <;> clear hg_
                          · first
                            | exfalso; first | omega | (have := hs' ‹_›; omega)
                            | skip
                              refine o_skip rfl ?_
                              refine o_skip rfl ?_
                              refine o_skip rfl ?_
                              refine o_skip rfl ?_
                              refine o_pickt rfl rfl rfl ?_
                              first | refine o_movd rfl rfl ?_ | refine o_movp rfl rfl ?_ | refine o_mova rfl rfl ?_ | refine o_mov rfl rfl ?_
                              refine o_skip rfl ?_
                              refine o_skip rfl ?_
                              refine o_skip rfl ?_
                              refine o_skip rfl ?_
                              refine o_pickt rfl rfl rfl ?_
                              first | refine o_asgd rfl rfl ?_ | refine o_asgo rfl rfl ?_ | refine o_asg rfl rfl (fun _ h_ => by cases h_) ?_
                              refine op_nil ?_
                              refine wp_cond rfl (fun _ => ?_) (fun h_ => absurd h_ (by decide))
                              refine wp_seq ?_
                              refine wp_ops ?_
                              first | refine o_asgd rfl rfl ?_ | refine o_asgo rfl rfl ?_ | refine o_asg rfl rfl (fun _ h_ => by cases h_) ?_
                              first | refine o_asgd rfl rfl ?_ | refine o_asgo rfl rfl ?_ | refine o_asg rfl rfl (fun _ h_ => by cases h_) ?_
                              first | refine o_asgd rfl rfl ?_ | refine o_asgo rfl rfl ?_ | refine o_asg rfl rfl (fun _ h_ => by cases h_) ?_
                              refine op_nil ?_
                              refine wp_ret ?_
                              refine bx_ret ?_
                              refine end3 rfl rfl rfl rfl rfl ?_ (by first | rfl | simp)
                              (try have e1 : s[1]? = none := List.getElem?_eq_none (by omega))
                              (try have e3 : s[3]? = none := List.getElem?_eq_none (by omega))
                              try (have h2_ : 2 < s.length := by omega; obtain ⟨y2, e2⟩ := getS h2_)
                              try (have h3_ : 3 < s.length := by omega; obtain ⟨y3, e3⟩ := getS h3_)
                              congr 1
                              clear hs hs'
                              first
                              | (simp_all [sign, signA]; done)
                              | (simp_all [sign, signA]; rw [if_neg (by omega)]; try rfl)
                              | (simp_all [sign, signA]; rw [if_pos (by omega)]; try rfl)
                              | (rcases hh2 : s[2]? with _ | y2 <;> rcases hh3 : s[3]? with _ | y3 <;> simp_all [sign, signA]; done)
                              | (rcases hh2 : s[2]? with _ | y2 <;> rcases hh3 : s[3]? with _ | y3 <;> simp_all [sign, signA] <;> (rw [if_neg (by omega)]; try rfl))
                              | exact sign_ok (by assumption) (by assumption) (by assumption) (by assumption) (by assumption) (by assumption) (by assumption) (by assumption) (by assumption) (by assumption)
                          · first
                            | exfalso; first | omega | (have := hs' ‹_›; omega)
                            | skip
                              first | refine o_movd rfl rfl ?_ | refine o_movp rfl rfl ?_ | refine o_mova rfl rfl ?_ | refine o_mov rfl rfl ?_
                              first | refine o_idxS rfl rfl rfl rfl (by assumption) ?_ | (refine o_idxSx rfl rfl rfl rfl (by omega) ?_; intro b_ hb_) | refine o_idxS rfl rfl rfl rfl rfl ?_
                              refine o_digit rfl rfl ?_; intro n_ hn_ hl_
                              first | refine o_lssn rfl rfl rfl ?_ | refine o_bin rfl rfl rfl rfl ?_
                              refine o_pickf rfl rfl rfl ?_
                              first | refine o_movd rfl rfl ?_ | refine o_movp rfl rfl ?_ | refine o_mova rfl rfl ?_ | refine o_mov rfl rfl ?_
                              refine o_ifp rfl ?_ ?_ <;> intro hq_ hg_ <;> simp only [hg_] <;> clear hg_
                              · first
                                | exfalso; first | omega | (have := hs' ‹_›; omega)
                                | skip
                                  refine o_skip rfl ?_
                                  refine o_skip rfl ?_
                                  refine o_skip rfl ?_
                                  refine o_skip rfl ?_
                                  refine o_pickt rfl rfl rfl ?_
                                  first | refine o_asgd rfl rfl ?_ | refine o_asgo rfl rfl ?_ | refine o_asg rfl rfl (fun _ h_ => by cases h_) ?_
                                  refine op_nil ?_
                                  refine wp_cond rfl (fun _ => ?_) (fun h_ => absurd h_ (by decide))
                                  refine wp_seq ?_
                                  refine wp_ops ?_
                                  first | refine o_asgd rfl rfl ?_ | refine o_asgo rfl rfl ?_ | refine o_asg rfl rfl (fun _ h_ => by cases h_) ?_
                                  first | refine o_asgd rfl rfl ?_ | refine o_asgo rfl rfl ?_ | refine o_asg rfl rfl (fun _ h_ => by cases h_) ?_
                                  first | refine o_asgd rfl rfl ?_ | refine o_asgo rfl rfl ?_ | refine o_asg rfl rfl (fun _ h_ => by cases h_) ?_
                                  refine op_nil ?_
                                  refine wp_ret ?_
                                  refine bx_ret ?_
                                  refine end3 rfl rfl rfl rfl rfl ?_ (by first | rfl | simp)
                                  (try have e1 : s[1]? = none := List.getElem?_eq_none (by omega))
                                  (try have e3 : s[3]? = none := List.getElem?_eq_none (by omega))
                                  try (have h2_ : 2 < s.length := by omega; obtain ⟨y2, e2⟩ := getS h2_)
                                  try (have h3_ : 3 < s.length := by omega; obtain ⟨y3, e3⟩ := getS h3_)
                                  congr 1
                                  clear hs hs'
                                  first
                                  | (simp_all [sign, signA]; done)
                                  | (simp_all [sign, signA]; rw [if_neg (by omega)]; try rfl)
                                  | (simp_all [sign, signA]; rw [if_pos (by omega)]; try rfl)
                                  | (rcases hh2 : s[2]? with _ | y2 <;> rcases hh3 : s[3]? with _ | y3 <;> simp_all [sign, signA]; done)
                                  | (rcases hh2 : s[2]? with _ | y2 <;> rcases hh3 : s[3]? with _ | y3 <;> simp_all [sign, signA] <;> (rw [if_neg (by omega)]; try rfl))
                                  | exact sign_ok (by assumption) (by assumption) (by assumption) (by assumption) (by assumption) (by assumption) (by assumption) (by assumption) (by assumption) (by assumption)
                              · first
                                | exfalso; first | omega | (have := hs' ‹_›; omega)
                                | skip
                                  first | refine o_movd rfl rfl ?_ | refine o_movp rfl rfl ?_ | refine o_mova rfl rfl ?_ | refine o_mov rfl rfl ?_
                                  first | refine o_idxS rfl rfl rfl rfl (by assumption) ?_ | (refine o_idxSx rfl rfl rfl rfl (by omega) ?_; intro b_ hb_) | refine o_idxS rfl rfl rfl rfl rfl ?_
                                  refine o_digit rfl rfl ?_; intro n_ hn_ hl_
                                  first | refine o_lssn rfl rfl rfl ?_ | refine o_bin rfl rfl rfl rfl ?_
                                  refine o_pickf rfl rfl rfl ?_
                                  first | refine o_asgd rfl rfl ?_ | refine o_asgo rfl rfl ?_ | refine o_asg rfl rfl (fun _ h_ => by cases h_) ?_
                                  refine op_nil ?_
                                  first | refine wp_if rfl ?_ ?_ <;> intro hq_ | refine wp_cond rfl ?_ ?_ <;> intro hq_
                                  · first
                                    | exfalso; first | omega | (have := hs' ‹_›; omega)
                                    | skip
                                      refine wp_seq ?_
                                      refine wp_ops ?_
                                      first | refine o_asgd rfl rfl ?_ | refine o_asgo rfl rfl ?_ | refine o_asg rfl rfl (fun _ h_ => by cases h_) ?_
                                      first | refine o_asgd rfl rfl ?_ | refine o_asgo rfl rfl ?_ | refine o_asg rfl rfl (fun _ h_ => by cases h_) ?_
                                      first | refine o_asgd rfl rfl ?_ | refine o_asgo rfl rfl ?_ | refine o_asg rfl rfl (fun _ h_ => by cases h_) ?_
                                      refine op_nil ?_
                                      refine wp_ret ?_
                                      refine bx_ret ?_
                                      refine end3 rfl rfl rfl rfl rfl ?_ (by first | rfl | simp)
                                      (try have e1 : s[1]? = none := List.getElem?_eq_none (by omega))
                                      (try have e3 : s[3]? = none := List.getElem?_eq_none (by omega))
                                      try (have h2_ : 2 < s.length := by omega; obtain ⟨y2, e2⟩ := getS h2_)
                                      try (have h3_ : 3 < s.length := by omega; obtain ⟨y3, e3⟩ := getS h3_)
                                      congr 1
                                      clear hs hs'
                                      first
                                      | (simp_all [sign, signA]; done)
                                      | (simp_all [sign, signA]; rw [if_neg (by omega)]; try rfl)
                                      | (simp_all [sign, signA]; rw [if_pos (by omega)]; try rfl)
                                      | (rcases hh2 : s[2]? with _ | y2 <;> rcases hh3 : s[3]? with _ | y3 <;> simp_all [sign, signA]; done)
                                      | (rcases hh2 : s[2]? with _ | y2 <;> rcases hh3 : s[3]? with _ | y3 <;> simp_all [sign, signA] <;> (rw [if_neg (by omega)]; try rfl))
                                      | exact sign_ok (by assumption) (by assumption) (by assumption) (by assumption) (by assumption) (by assumption) (by assumption) (by assumption) (by assumption) (by assumption)
                                  · first
                                    | exfalso; first | omega | (have := hs' ‹_›; omega)
                                    | skip
                                      refine wp_skip ?_
                                      refine keepN (by (simp +decide only [Slots.keep, Slots.get, reduceIte]); exact rfl) ?_
                                      refine wp_seq ?_
                                      refine wp_ops ?_
                                      first | refine o_movd rfl rfl ?_ | refine o_movp rfl rfl ?_ | refine o_mova rfl rfl ?_ | refine o_mov rfl rfl ?_
                                      first | refine o_idxS rfl rfl rfl rfl (by assumption) ?_ | (refine o_idxSx rfl rfl rfl rfl (by omega) ?_; intro b_ hb_) | refine o_idxS rfl rfl rfl rfl rfl ?_
                                      (refine o_digit0 rfl rfl (by omega) ?_; intro m_ hm_ hl_)
                                      refine o_shln rfl rfl rfl (by (first | omega | (simp only [m64, mU, m8, n64, nU, n8, b64, bU, b8]; omega))) (by decide) (by (first | omega | (simp only [m64, mU, m8, n64, nU, n8, b64, bU, b8]; omega))) ?_
                                      first | refine o_movd rfl rfl ?_ | refine o_movp rfl rfl ?_ | refine o_mova rfl rfl ?_ | refine o_mov rfl rfl ?_
                                      first | refine o_idxS rfl rfl rfl rfl (by assumption) ?_ | (refine o_idxSx rfl rfl rfl rfl (by omega) ?_; intro b_ hb_) | refine o_idxS rfl rfl rfl rfl rfl ?_
                                      (refine o_digit0 rfl rfl (by omega) ?_; intro m_ hm_ hl_)
                                      refine o_bin rfl rfl rfl (or_nib ‹_› ‹_›) ?_
                                      refine o_toInt rfl rfl (by (first | omega | (simp only [m64, mU, m8, n64, nU, n8, b64, bU, b8]; omega))) (by (first | omega | (simp only [m64, mU, m8, n64, nU, n8, b64, bU, b8]; omega))) ?_
                                      first | refine o_asgd rfl rfl ?_ | refine o_asgo rfl rfl ?_ | refine o_asg rfl rfl (fun _ h_ => by cases h_) ?_
                                      first | refine o_asgd rfl rfl ?_ | refine o_asgo rfl rfl ?_ | refine o_asg rfl rfl (fun _ h_ => by cases h_) ?_
                                      first | refine o_asgd rfl rfl ?_ | refine o_asgo rfl rfl ?_ | refine o_asg rfl rfl (fun _ h_ => by cases h_) ?_
                                      refine op_nil ?_
                                      refine wp_ret ?_
                                      refine end3 rfl rfl rfl rfl rfl ?_ (by first | rfl | simp)
                                      (try have e1 : s[1]? = none := List.getElem?_eq_none (by omega))
                                      (try have e3 : s[3]? = none := List.getElem?_eq_none (by omega))
                                      try (have h2_ : 2 < s.length := by omega; obtain ⟨y2, e2⟩ := getS h2_)
                                      try (have h3_ : 3 < s.length := by omega; obtain ⟨y3, e3⟩ := getS h3_)
                                      congr 1
                                      clear hs hs'
                                      first
                                      | (simp_all [sign, signA]; done)
                                      | (simp_all [sign, signA]; rw [if_neg (by omega)]; try rfl)
                                      | (simp_all [sign, signA]; rw [if_pos (by omega)]; try rfl)
                                      | (rcases hh2 : s[2]? with _ | y2 <;> rcases hh3 : s[3]? with _ | y3 <;> simp_all [sign, signA]; done)
                                      | (rcases hh2 : s[2]? with _ | y2 <;> rcases hh3 : s[3]? with _ | y3 <;> simp_all [sign, signA] <;> (rw [if_neg (by omega)]; try rfl))
                                      | exact sign_ok (by assumption) (by assumption) (by assumption) (by assumption) (by assumption) (by assumption) (by assumption) (by assumption) (by assumption) (by assumption)

end Go.Ab.R04
