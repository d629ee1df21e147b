/- A part of the proof: tools. No condition. -/
import Derived.Test.YtghchmemjjpcbaaC4
import Derived.Test.YtghchmemjjpcbaaL3
import Derived.Lib.Bytealg
set_option linter.all false
namespace Go.Ab.R05j
set_option maxRecDepth 100000
set_option linter.all false
set_option maxHeartbeats 4000000
abbrev i64 (n : Int) : AV := .d (.int .i64 n)
abbrev u8 (n : Nat) : AV := .nat .u8 n
abbrev str (s : List UInt8) : AV := .d (.str s)
abbrev bl (b : Bool) : AV := .d (.bool b)
abbrev lst (es : List (List D)) : AV := .d (.lst es)
def orcF : List Nat := [f_bytealg_IndexByteString, f_class_Text]
class Base (T : Tb) : Prop extends TOK T where
 tb : T.tab = lookupF tabl
 td : T.tabD = lookupF R05j.tabD
 idx : ∀ args, T.orc f_bytealg_IndexByteString args = idxByte args
 none : ∀ f args, orcF.contains f = false → T.orc f args = none
variable {T : Tb} [hT : Base T]
theorem ev_fn {f : FuncId} {args : List AV} {rf : Refs} {o : Out} {rf' : Refs} {af : AFn} (hne : orcF.contains f = false) (hf : lookupF tabl f = some af)
  (h : lenK rf 0 fun nb => entK args 0 fun sl => vc T nb af.body (endN T af nb (fun a b => EndE a b o rf')) (endX T af nb (fun a b => EndE a b o rf')) sl rf [] none) : Ev T f args rf o rf' := by
 exact ev_vc (hT.none f args hne) (by rw [hT.tb]; exact hf) h
theorem call_fn {f : FuncId} {args : List AV} {rf : Refs} {Q : Out → Refs → Prop} {af : AFn} (hne : orcF.contains f = false) (hf : lookupF tabl f = some af)
  (h : lenK rf 0 fun nb => entK args 0 fun sl => vc T nb af.body (endN T af nb Q) (endX T af nb Q) sl rf [] none) : CallE T f args rf Q := by
 exact callE_vc (hT.none f args hne) (by rw [hT.tb]; exact hf) h
def digit (c : Nat) : Int := if 48 ≤ c ∧ c ≤ 57 then (c : Int) - 48 else if 97 ≤ c ∧ c ≤ 102 then (c : Int) - 87 else if 65 ≤ c ∧ c ≤ 70 then (c : Int) - 55 else -1
theorem Digit_ev (c : Nat) (hc : c < 256) (rf : Refs) : Ev T f_hex_Digit [u8 c] rf (.ret (i64 (digit c))) rf := by
 refine Ev.any ?_ rfl rf
 refine ev_fn rfl rfl ?_
 (repeat' (first| (intro (u_ : Unit); clear u_)| refine condT ?_| refine condF ?_| refine condp (by assumption) ?_| refine condn (by assumption) ?_| refine condN ?_| refine idxSb (by assumption) ?_| (refine condD ?_ ?_ <;> intro hq_ <;> first | (exfalso; omega) | skip)| (refine idxS (by omega) ?_; intro b_ hb_; have hl_ := b_.toNat_lt)| refine wrA (by omega) ?_| refine wrS (by omega) (by omega) ?_| refine wrI (by omega) (by omega) ?_| refine wrBA (by omega) ?_| refine wrB (by omega) (by omega) ?_| refine strC (by omega) ?_| refine nilB rfl ?_))
 all_goals (refine ⟨?_, rfl⟩; unfold digit; (repeat (first | rw [if_pos (by omega)] | rw [if_neg (by omega)])); first | done | rfl | (congr 4; omega))
def isWordB (c : Nat) : Bool := c == 32 || c == 95 || (decide (48 ≤ c) && decide (c ≤ 57)) || (decide (65 ≤ c) && decide (c ≤ 90)) || (decide (97 ≤ c) && decide (c ≤ 122))
theorem isWord_ev (c : Nat) (hc : c < 256) (rf : Refs) : Ev T f_class_isWord [u8 c] rf (.ret (bl (isWordB c))) rf := by
 refine Ev.any ?_ rfl rf
 refine ev_fn rfl rfl ?_
 (repeat' (first| (intro (u_ : Unit); clear u_)| refine condT ?_| refine condF ?_| refine condp (by assumption) ?_| refine condn (by assumption) ?_| refine condN ?_| refine idxSb (by assumption) ?_| (refine condD ?_ ?_ <;> intro hq_ <;> first | (exfalso; omega) | skip)| (refine idxS (by omega) ?_; intro b_ hb_; have hl_ := b_.toNat_lt)| refine wrA (by omega) ?_| refine wrS (by omega) (by omega) ?_| refine wrI (by omega) (by omega) ?_| refine wrBA (by omega) ?_| refine wrB (by omega) (by omega) ?_| refine strC (by omega) ?_| refine nilB rfl ?_))
 all_goals (refine ⟨?_, rfl⟩; congr 3; rw [Bool.eq_iff_iff]; simp [isWordB]; omega)
theorem IndexByte_ev (s : List UInt8) (c : Nat) (rf : Refs) : Ev T f_strings_IndexByte [str s, u8 c] rf (.ret (i64 (Lib.indexByte s c.toUInt8))) rf := by
 refine Ev.any ?_ rfl rf
 have h2 : Ev T f_stringslite_IndexByte [str s, u8 c] [] (.ret (i64 (Lib.indexByte s c.toUInt8))) [] := by
  refine ev_fn rfl rfl ?_
  (repeat' (first| (intro (u_ : Unit); clear u_)| refine condT ?_| refine condF ?_| refine condp (by assumption) ?_| refine condn (by assumption) ?_| refine condN ?_| refine idxSb (by assumption) ?_| refine callE_ev (ev_orc (hT.idx _)) ?_| (refine condD ?_ ?_ <;> intro hq_ <;> first | (exfalso; omega) | skip)| (refine idxS (by omega) ?_; intro b_ hb_; have hl_ := b_.toNat_lt)| refine wrA (by omega) ?_| refine wrS (by omega) (by omega) ?_| refine wrI (by omega) (by omega) ?_| refine wrBA (by omega) ?_| refine wrB (by omega) (by omega) ?_| refine strC (by omega) ?_| refine nilB rfl ?_))
  exact ⟨rfl, rfl⟩
 refine ev_fn rfl rfl ?_
 (repeat' (first| (intro (u_ : Unit); clear u_)| refine condT ?_| refine condF ?_| refine condp (by assumption) ?_| refine condn (by assumption) ?_| refine condN ?_| refine idxSb (by assumption) ?_| refine callE_ev h2 ?_| (refine condD ?_ ?_ <;> intro hq_ <;> first | (exfalso; omega) | skip)| (refine idxS (by omega) ?_; intro b_ hb_; have hl_ := b_.toNat_lt)| refine wrA (by omega) ?_| refine wrS (by omega) (by omega) ?_| refine wrI (by omega) (by omega) ?_| refine wrBA (by omega) ?_| refine wrB (by omega) (by omega) ?_| refine strC (by omega) ?_| refine nilB rfl ?_))
 exact ⟨rfl, rfl⟩
def hexd (c : Nat) : UInt8 := if c < 10 then UInt8.ofNat (48 + c) else UInt8.ofNat (87 + c)
def hexOf : List UInt8 → List UInt8
 | [] => []
 | b :: s => hexd (b.toNat / 16) :: hexd (b.toNat % 16) :: hexOf s
theorem hexd_get : ∀ m : Nat, m < 16 → ([48, 49, 50, 51, 52, 53, 54, 55, 56, 57, 97, 98, 99, 100, 101, 102] : List UInt8)[m]? = some (hexd m) := by decide
theorem hexOf_append (s t : List UInt8) : hexOf (s ++ t) = hexOf s ++ hexOf t := by
 induction s with
 | nil => rfl
 | cons b s ih => simp [hexOf, ih]
theorem hexOf_length (s : List UInt8) : (hexOf s).length = 2 * s.length := by
 induction s with
 | nil => rfl
 | cons b s ih => simp [hexOf, ih]; omega
theorem take_succ_of {s : List UInt8} {i : Nat} {b : UInt8} (h : s[i]? = some b) : s.take (i + 1) = s.take i ++ [b] := by
 rw [List.take_add_one, h]; rfl
theorem getS {s : List UInt8} {m : Nat} (h : m < s.length) : ∃ y, s[m]? = some y := ⟨_, List.getElem?_eq_getElem h⟩
theorem Hex_ev (s : List UInt8) (hs : s.length ≤ 2 ^ 30) (rf : Refs) : Ev T f_hex_Hex [str s] rf (.ret (str (120 :: hexOf s))) rf := by
 refine Ev.any ?_ rfl rf
 refine ev_fn rfl rfl ?_
 (repeat' (first| (intro (u_ : Unit); clear u_)| refine condT ?_| refine condF ?_| refine condp (by assumption) ?_| refine condn (by assumption) ?_| refine condN ?_| refine idxSb (by assumption) ?_| (refine condD ?_ ?_ <;> intro hq_ <;> first | (exfalso; omega) | skip)| (refine idxS (by omega) ?_; intro b_ hb_; have hl_ := b_.toNat_lt)| refine wrA (by omega) ?_| refine wrS (by omega) (by omega) ?_| refine wrI (by omega) (by omega) ?_| refine wrBA (by omega) ?_| refine wrB (by omega) (by omega) ?_| refine strC (by omega) ?_| refine nilB rfl ?_))
 refine loopR (fun i : Nat => [(9, i64 i), (3, .own (bytesOf (120 :: hexOf (s.take i))))]) (fun _ => []) (fun i => s.length - i) (fun i => i ≤ s.length) 0 (by omega) rfl rfl ?_
 intro i hi
 (repeat' (first| (intro (u_ : Unit); clear u_)| refine condT ?_| refine condF ?_| refine condp (by assumption) ?_| refine condn (by assumption) ?_| refine condN ?_| refine idxSb (by assumption) ?_| refine shrN (by decide) ?_| refine bitAnd (by rw [m8]; omega) (by decide) (by decide) ?_| refine idxSb (hexd_get _ (by omega)) ?_| refine idxSb (hexd_get _ (by have : b_.toNat &&& 15 ≤ 15 := Nat.and_le_right; omega)) ?_| refine appL (by simp [bytesOf, hexOf_length]; omega) (sizesB_bytesOf _) rfl ?_| (refine condD ?_ ?_ <;> intro hq_ <;> first | (exfalso; omega) | skip)| (refine idxS (by omega) ?_; intro b_ hb_; have hl_ := b_.toNat_lt)| refine wrA (by omega) ?_| refine wrS (by omega) (by omega) ?_| refine wrI (by omega) (by omega) ?_| refine wrBA (by omega) ?_| refine wrB (by omega) (by omega) ?_| refine strC (by omega) ?_| refine nilB rfl ?_))
 ·refine ⟨i + 1, by omega, by omega, ?_, rfl, rfl, rfl⟩
  rw [take_succ_of hb_, hexOf_append]
  have : b_.toNat &&& 15 = b_.toNat % 16 := Nat.and_two_pow_sub_one_eq_mod b_.toNat 4
  rw [this]
  simp only [hexOf, bytesOf]
  simp [upd, Slots.get]
 ·have : i = s.length := by omega
  subst this
  rw [List.take_of_length_le (Nat.le_refl _)]
  (repeat' (first| (intro (u_ : Unit); clear u_)| refine condT ?_| refine condF ?_| refine condp (by assumption) ?_| refine condn (by assumption) ?_| refine condN ?_| refine idxSb (by assumption) ?_| refine strB (strOf_bytesOf _) ?_| (refine condD ?_ ?_ <;> intro hq_ <;> first | (exfalso; omega) | skip)| (refine idxS (by omega) ?_; intro b_ hb_; have hl_ := b_.toNat_lt)| refine wrA (by omega) ?_| refine wrS (by omega) (by omega) ?_| refine wrI (by omega) (by omega) ?_| refine wrBA (by omega) ?_| refine wrB (by omega) (by omega) ?_| refine strC (by omega) ?_| refine nilB rfl ?_))
  exact ⟨rfl, rfl⟩
def plainS (c : Nat) : List UInt8 := if isWordB c then [UInt8.ofNat c] else [92, 120, hexd (c / 16), hexd (c % 16)]
theorem toNat_ofNat_u8 {c : Nat} (hc : c < 256) : (UInt8.ofNat c).toNat = c := by
 rw [UInt8.toNat_ofNat']; omega
theorem strOf1 {c : Nat} : strOf [[.int .u8 (c : Int)]] = some [UInt8.ofNat c] := by
 simp [strOf]
theorem Plain_ev (c : Nat) (hc : c < 256) (rf : Refs) : Ev T f_class_Plain [u8 c] rf (.ret (str (plainS c))) rf := by
 have hx : Ev T f_hex_Hex [str [UInt8.ofNat c]] [] (.ret (str [120, hexd (c / 16), hexd (c % 16)])) [] := by
  have h := Hex_ev (T := T) [UInt8.ofNat c] (by simp) []
  rw [hexOf, hexOf, toNat_ofNat_u8 hc] at h
  exact h
 refine Ev.any ?_ rfl rf
 unfold plainS
 refine ev_fn rfl rfl ?_
 (repeat' (first| (intro (u_ : Unit); clear u_)| refine condT ?_| refine condF ?_| refine condp (by assumption) ?_| refine condn (by assumption) ?_| refine condN ?_| refine idxSb (by assumption) ?_| refine callE_ev (isWord_ev c hc _) ?_| refine callE_ev hx ?_| refine strB strOf1 ?_| (refine condB ?_ ?_ <;> intro hw_)| refine strC (by simp) ?_| (refine condD ?_ ?_ <;> intro hq_ <;> first | (exfalso; omega) | skip)| (refine idxS (by omega) ?_; intro b_ hb_; have hl_ := b_.toNat_lt)| refine wrA (by omega) ?_| refine wrS (by omega) (by omega) ?_| refine wrI (by omega) (by omega) ?_| refine wrBA (by omega) ?_| refine wrB (by omega) (by omega) ?_| refine strC (by omega) ?_| refine nilB rfl ?_))
 ·rw [if_pos hw_]; exact ⟨rfl, rfl⟩
 ·rw [if_neg (by simp [hw_])]; exact ⟨rfl, rfl⟩
end Go.Ab.R05j
namespace Go.Ab.R05j
set_option maxRecDepth 100000
set_option linter.all false
set_option maxHeartbeats 4000000
variable {T : Tb} [hT : Base T]
def named : List UInt8 := [92, 93, 91, 94, 45, 47, 46, 42, 43, 63, 40, 41, 124, 123, 125, 36]
def badB : List UInt8 := [10, 93, 91, 94, 45]
def sign (s : List UInt8) : Option (Nat × Nat) :=
 match s[0]? with
 | none => none
 | some c =>
   if c.toNat ≠ 92 then (if c ∈ badB then none else some (c.toNat, 1)) else
   match s[1]? with
   | none => none
   | some e =>
     if e ∈ named then some (e.toNat, 2) else
     match s[2]?, s[3]? with
     | some a, some b => if e.toNat = 120 ∧ 0 ≤ digit a.toNat ∧ 0 ≤ digit b.toNat then some (16 * (digit a.toNat).toNat + (digit b.toNat).toNat, 4) else none
     | _, _ => none
def signA : Option (Nat × Nat) → AV
 | none => .tup [u8 0, i64 0, i64 2]
 | some (b, n) => .tup [u8 b, i64 n, i64 0]
theorem idx_ge {l : List UInt8} {c : UInt8} : 0 ≤ Lib.indexByte l c ↔ c ∈ l := by
 induction l with
 | nil => simp [Lib.indexByte]
 | cons b l ih =>
   have := Lib.indexByte_ge l c
   simp only [Lib.indexByte, List.mem_cons]
   by_cases h : b = c
   ·simp [h]
   ·have h' : c ≠ b := fun e => h e.symm
    simp only [beq_iff_eq, h, h', if_false, false_or, ← ih]
    split <;> omega
theorem idx_lt {l : List UInt8} {c : UInt8} : Lib.indexByte l c < 0 ↔ ¬ c ∈ l := by rw [← idx_ge]; omega
theorem digit_lt {c : Nat} : digit c < 16 := by unfold digit; split <;> (try split) <;> (try split) <;> omega
section
variable {rf : Refs} {k : Out → Refs → Prop}
theorem ixbE {l : List UInt8} {c : UInt8} (h : ∀ n : Int, (0 ≤ n → c ∈ l) → (n < 0 → ¬ c ∈ l) → k (.ret (i64 n)) rf) : CallE T f_strings_IndexByte [str l, u8 c.toNat] rf k := by
 have := IndexByte_ev (T := T) l c.toNat rf
 rw [show c.toNat.toUInt8 = c from UInt8.ofNat_toNat] at this
 exact callE_ev this (h _ idx_ge.1 idx_lt.1)
theorem digE {c : UInt8} (h : ∀ n : Int, digit c.toNat = n → n < 16 → k (.ret (i64 n)) rf) : CallE T f_hex_Digit [u8 c.toNat] rf k :=
 callE_ev (Digit_ev _ c.toNat_lt rf) (h _ rfl digit_lt)
theorem digE0 {c : UInt8} (h0 : 0 ≤ digit c.toNat) (h : ∀ m : Nat, digit c.toNat = m → m < 16 → k (.ret (i64 m)) rf) : CallE T f_hex_Digit [u8 c.toNat] rf k := by
 obtain ⟨m, hm⟩ := Int.eq_ofNat_of_zero_le h0
 exact digE fun n hn hl => by rw [← hn, hm]; exact h m hm (by have := @digit_lt c.toNat; omega)
theorem orNib {x y : Nat} {c : Int → Prop} (hx : x < 16) (hy : y < 16) (h : c ((16 * x + y : Nat) : Int)) : BitE .or .i64 ((x * 2 ^ 4 : Nat) : Int) (y : Int) c := by
 refine bitOr (by rw [m64]; omega) (by rw [m64]; omega) (by decide) ?_
 have := Nat.two_pow_add_eq_or_of_lt (i := 4) (b := y) (by omega) x
 rw [Nat.mul_comm x, ← this]
 exact h
end
theorem sign_ok' {s : List UInt8} {c e a b : UInt8} {x y : Nat} (h0 : s[0]? = some c) (hc : c.toNat = 92) (h1 : s[1]? = some e) (he : e ∉ named) (hx : e.toNat = 120) (h2 : s[2]? = some a) (h3 : s[3]? = some b) (ha : digit a.toNat = (x : Int)) (hb : digit b.toNat = (y : Int)) :
  sign s = some (16 * x + y, 4) := by
 simp only [sign, h0, h1, h2, h3, ha, hb, hc, he, hx, if_false, ne_eq, not_true]
 rw [if_pos ⟨trivial, Int.natCast_nonneg _, Int.natCast_nonneg _⟩]
 rfl
theorem mem_badB (c : UInt8) : c ∈ badB ↔ (c.toNat = 10 ∨ c.toNat = 93 ∨ c.toNat = 91 ∨ c.toNat = 94 ∨ c.toNat = 45) := by
 simp only [badB, List.mem_cons, List.not_mem_nil, or_false, ← UInt8.toNat_inj]
 rfl
theorem sg_none {s : List UInt8} (h : s.length < 1) : signA (sign s) = .tup [u8 0, i64 (0 : Nat), i64 (2 : Nat)] := by
 have : s = [] := by cases s <;> simp_all
 subst this; rfl
theorem sg_nil {s : List UInt8} (h : s = []) : signA (sign s) = .tup [u8 0, i64 (0 : Nat), i64 (2 : Nat)] := sg_none (by rw [h]; decide)
theorem sg_bad {s : List UInt8} {c : UInt8} (h : s[0]? = some c) (hb : c.toNat = 10 ∨ c.toNat = 93 ∨ c.toNat = 91 ∨ c.toNat = 94 ∨ c.toNat = 45) : signA (sign s) = .tup [u8 0, i64 (0 : Nat), i64 (2 : Nat)] := by
 simp only [sign, h, if_pos ((mem_badB c).2 hb), if_pos (show c.toNat ≠ 92 by omega)]; rfl
theorem sg_one {s : List UInt8} {c : UInt8} (h : s[0]? = some c) (hn : c.toNat ≠ 92) (hb : ¬ (c.toNat = 10 ∨ c.toNat = 93 ∨ c.toNat = 91 ∨ c.toNat = 94 ∨ c.toNat = 45)) : signA (sign s) = .tup [u8 c.toNat, i64 (1 : Nat), i64 (0 : Nat)] := by
 simp only [sign, h, if_neg (fun x => hb ((mem_badB c).1 x)), if_pos hn]; rfl
theorem sg_short {s : List UInt8} {c : UInt8} (h : s[0]? = some c) (hn : c.toNat = 92) (hl : s.length < 2) : signA (sign s) = .tup [u8 0, i64 (0 : Nat), i64 (2 : Nat)] := by
 simp only [sign, h, if_neg (show ¬ c.toNat ≠ 92 by omega), List.getElem?_eq_none (show s.length ≤ 1 by omega)]; rfl
theorem sg_named {s : List UInt8} {c e : UInt8} (h : s[0]? = some c) (hn : c.toNat = 92) (he : s[1]? = some e) (hm : e ∈ named) : signA (sign s) = .tup [u8 e.toNat, i64 (2 : Nat), i64 (0 : Nat)] := by
 simp only [sign, h, if_neg (show ¬ c.toNat ≠ 92 by omega), he, if_pos hm]; rfl
theorem sg_form {s : List UInt8} {c e : UInt8} (h : s[0]? = some c) (hn : c.toNat = 92) (he : s[1]? = some e) (hm : e ∉ named)
  (hx : s.length < 4 ∨ e.toNat ≠ 120 ∨ (∃ a, s[2]? = some a ∧ digit a.toNat < 0) ∨ (∃ a, s[3]? = some a ∧ digit a.toNat < 0)) : signA (sign s) = .tup [u8 0, i64 (0 : Nat), i64 (2 : Nat)] := by
 simp only [sign, h, if_neg (show ¬ c.toNat ≠ 92 by omega), he, if_neg hm]
 rcases h2 : s[2]? with _ | a
 ·rfl
 rcases h3 : s[3]? with _ | b
 ·rfl
 simp only
 have h4 : 3 < s.length := (List.getElem?_eq_some_iff.1 h3).1
 rw [if_neg]
 ·rfl
 rintro ⟨p, q, r⟩
 rcases hx with hx | hx | ⟨a', ha, hx⟩ | ⟨a', ha, hx⟩
 ·omega
 ·exact hx p
 ·rw [h2] at ha; cases ha; omega
 ·rw [h3] at ha; cases ha; omega
theorem sg_hex {s : List UInt8} {c e a b : UInt8} {x y : Nat} (h : s[0]? = some c) (hn : c.toNat = 92) (he : s[1]? = some e) (hm : e ∉ named) (hx : e.toNat = 120) (h2 : s[2]? = some a) (h3 : s[3]? = some b) (ha : digit a.toNat = (x : Int)) (hb : digit b.toNat = (y : Int)) :
  signA (sign s) = .tup [u8 (16 * x + y), i64 (4 : Nat), i64 (0 : Nat)] := by
 rw [sign_ok' h hn he hm hx h2 h3 ha hb]; rfl
theorem nib {x y : Int} (hx : 0 ≤ x) (hx' : x < 16) (hy : 0 ≤ y) (hy' : y < 16) : ∃ a b : Nat, x = a ∧ y = b ∧ a < 16 ∧ b < 16 := ⟨x.toNat, y.toNat, by omega, by omega, by omega, by omega⟩
theorem Sign_ev (s : List UInt8) (rf : Refs) : Ev T f_class_Sign [str s] rf (.ret (signA (sign s))) rf := by
 refine Ev.any ?_ rfl rf
 refine ev_fn rfl rfl ?_
 (repeat' (first| (intro (u_ : Unit); clear u_)| refine condT ?_| refine condF ?_| refine condp (by assumption) ?_| refine condn (by assumption) ?_| refine condN ?_| refine idxSb (by assumption) ?_| (refine idxS (List.length_pos_iff.2 (by assumption)) ?_; intro b_ hb_; have hl_ := b_.toNat_lt; have hp_ := List.length_pos_iff.2 ‹¬ s = []›)| (refine ixbE (l := badB) ?_; intro n_ hn_ hm_)| (refine ixbE (l := named) ?_; intro n_ hn_ hm_)| (refine digE0 (by omega) ?_; intro m_ hd_ hdl_)| (refine digE ?_; intro n_ hd_ hdl_)| refine shlN (by decide) (by decide) (by rw [m64]; omega) ?_| refine orNib (by omega) (by omega) ?_| (refine condD ?_ ?_ <;> intro hq_ <;> first | (exfalso; omega) | skip)| (refine idxS (by omega) ?_; intro b_ hb_; have hl_ := b_.toNat_lt)| refine wrA (by omega) ?_| refine wrS (by omega) (by omega) ?_| refine wrI (by omega) (by omega) ?_| refine wrBA (by omega) ?_| refine wrB (by omega) (by omega) ?_| refine strC (by omega) ?_| refine nilB rfl ?_))
 all_goals (refine ⟨?_, rfl⟩; congr 1; symm; first
  | exact sg_nil (by assumption)
  | exact sg_bad (by assumption) ((mem_badB _).1 (hn_ (by omega)))
  | exact sg_one (by assumption) (by omega) (fun h => hm_ (by omega) ((mem_badB _).2 h))
  | exact sg_short (by assumption) (by omega) (by omega)
  | exact sg_named (by assumption) (by omega) (by assumption) (hn_ (by omega))
  | exact sg_form (by assumption) (by omega) (by assumption) (hm_ (by omega)) (.inl (by omega))
  | exact sg_form (by assumption) (by omega) (by assumption) (hm_ (by omega)) (.inr (.inl (by omega)))
  | exact sg_form (by assumption) (by omega) (by assumption) (hm_ (by omega)) (.inr (.inr (.inl ⟨_, by assumption, by omega⟩)))
  | exact sg_form (by assumption) (by omega) (by assumption) (hm_ (by omega)) (.inr (.inr (.inr ⟨_, by assumption, by omega⟩)))
  | exact sg_hex (by assumption) (by omega) (by assumption) (hm_ (by omega)) (by omega) (by assumption) (by assumption) (by assumption) (by assumption))
end Go.Ab.R05j
