/- Numbers: what operations on whole numbers come to, said in natural numbers. -/
import Derived.Test.YtpdfcjgehdlheaaA31
set_option linter.all false
namespace Go.Ab

theorem m64 : IntKind.i64.max = 9223372036854775807 := rfl
theorem mU : IntKind.u64.max = 18446744073709551615 := rfl
theorem m8 : IntKind.u8.max = 255 := rfl
theorem n64 : IntKind.i64.min = -9223372036854775808 := rfl
theorem nU : IntKind.u64.min = 0 := rfl
theorem n8 : IntKind.u8.min = 0 := rfl
theorem b64 : IntKind.i64.bits = 64 := rfl
theorem bU : IntKind.u64.bits = 64 := rfl
theorem b8 : IntKind.u8.bits = 8 := rfl

theorem toInt_ofInt_nat {w x : Nat} (h : x < 2 ^ w) : (BitVec.ofInt w (x : Int)).toNat = x := by
  rw [BitVec.ofInt_natCast, BitVec.toNat_ofNat, Nat.mod_eq_of_lt h]

theorem bn_quo {k : IntKind} {a b : Nat} (ha : (a : Int) ≤ k.max) (hk : k.min ≤ 0) (hb : b ≠ 0) : binA .quo (.d (.int k a)) (.d (.int k b)) = some (.d (.int k ((a / b : Nat) : Int))) := by
  simp only [binA, intBin, if_true]
  rw [if_neg (by omega), ← Int.ofNat_tdiv, wrap_of (by have := Int.natCast_nonneg (a / b); omega) (by have := Nat.div_le_self a b; omega)]

theorem bn_rem {k : IntKind} {a b : Nat} (hb : b ≠ 0) : binA .rem (.d (.int k a)) (.d (.int k b)) = some (.d (.int k ((a % b : Nat) : Int))) := by
  simp only [binA, intBin, if_true]
  rw [if_neg (by omega), ← Int.ofNat_tmod]

theorem bn_shr {k k' : IntKind} {a b : Nat} (hb : b ≤ k.bits) : binA .shr (.d (.int k a)) (.d (.int k' b)) = some (.d (.int k ((a / 2 ^ b : Nat) : Int))) := by
  simp only [binA]
  rw [if_neg (by omega)]
  have h1 : Nat.min (b : Int).toNat k.bits = b := by
    show min (b : Int).toNat k.bits = b
    rw [Int.toNat_natCast]; omega
  have h2 : (2 : Int) ^ b = ((2 ^ b : Nat) : Int) := by simp
  rw [h1, h2, Int.fdiv_eq_ediv_of_nonneg _ (Int.natCast_nonneg _)]
  rfl

theorem bn_shl {k k' : IntKind} {a b : Nat} (hb : b ≤ k.bits) (hk : k.min ≤ 0) (hm : ((a * 2 ^ b : Nat) : Int) ≤ k.max) : binA .shl (.d (.int k a)) (.d (.int k' b)) = some (.d (.int k ((a * 2 ^ b : Nat) : Int))) := by
  simp only [binA]
  rw [if_neg (by omega)]
  have h1 : Nat.min (b : Int).toNat k.bits = b := by
    show min (b : Int).toNat k.bits = b
    rw [Int.toNat_natCast]; omega
  have h2 : (2 : Int) ^ b = ((2 ^ b : Nat) : Int) := by simp
  rw [h1, h2, ← Int.natCast_mul, wrap_of (by have := Int.natCast_nonneg (a * 2 ^ b); omega) hm]

theorem wrap_bits {k : IntKind} {x : Nat} (hk : k.min ≤ 0) (h : (x : Int) ≤ k.max) : k.wrap (x : Int) = x := wrap_of (by omega) h

theorem max_lt {k : IntKind} {x : Nat} (h : (x : Int) ≤ k.max) : x < 2 ^ k.bits := by
  cases k <;> simp [IntKind.max, IntKind.signed, IntKind.bits] at h ⊢ <;> omega

theorem bn_and {k : IntKind} {a b : Nat} (ha : (a : Int) ≤ k.max) (hb : (b : Int) ≤ k.max) (hk : k.min ≤ 0) : binA .and (.d (.int k a)) (.d (.int k b)) = some (.d (.int k ((a &&& b : Nat) : Int))) := by
  simp only [binA, intBin, if_true]
  rw [BitVec.toNat_and, toInt_ofInt_nat (max_lt ha), toInt_ofInt_nat (max_lt hb), wrap_bits hk (by have : a &&& b ≤ a := Nat.and_le_left; omega)]

theorem or_le {k : IntKind} {a b : Nat} (ha : (a : Int) ≤ k.max) (hb : (b : Int) ≤ k.max) : ((a ||| b : Nat) : Int) ≤ k.max := by
  have key : ∀ w : Nat, a < 2 ^ w → b < 2 ^ w → a ||| b < 2 ^ w := fun w h1 h2 => Nat.or_lt_two_pow h1 h2
  cases k <;> simp only [IntKind.max, IntKind.signed, IntKind.bits, if_true, if_false, Bool.false_eq_true] at ha hb ⊢
  all_goals first
    | (have := key 7 (by omega) (by omega); omega)
    | (have := key 8 (by omega) (by omega); omega)
    | (have := key 15 (by omega) (by omega); omega)
    | (have := key 16 (by omega) (by omega); omega)
    | (have := key 31 (by omega) (by omega); omega)
    | (have := key 32 (by omega) (by omega); omega)
    | (have := key 63 (by omega) (by omega); omega)
    | (have := key 64 (by omega) (by omega); omega)

theorem bn_or {k : IntKind} {a b : Nat} (ha : (a : Int) ≤ k.max) (hb : (b : Int) ≤ k.max) (hk : k.min ≤ 0) : binA .or (.d (.int k a)) (.d (.int k b)) = some (.d (.int k ((a ||| b : Nat) : Int))) := by
  simp only [binA, intBin, if_true]
  rw [BitVec.toNat_or, toInt_ofInt_nat (max_lt ha), toInt_ofInt_nat (max_lt hb), wrap_bits hk (or_le ha hb)]

theorem bn_add {k : IntKind} {a b : Nat} (hk : k.min ≤ 0) (h : ((a + b : Nat) : Int) ≤ k.max) : binA .add (.d (.int k a)) (.d (.int k b)) = some (.d (.int k ((a + b : Nat) : Int))) := by
  simp only [binA, intBin, if_true]
  rw [← Int.natCast_add, wrap_bits hk h]

theorem bn_sub {k : IntKind} {a b : Nat} (hk : k.min ≤ 0) (hb : b ≤ a) (h : (a : Int) ≤ k.max) : binA .sub (.d (.int k a)) (.d (.int k b)) = some (.d (.int k ((a - b : Nat) : Int))) := by
  simp only [binA, intBin, if_true]
  rw [← Int.natCast_sub hb, wrap_bits hk (by omega)]

theorem bn_mul {k : IntKind} {a b : Nat} (hk : k.min ≤ 0) (h : ((a * b : Nat) : Int) ≤ k.max) : binA .mul (.d (.int k a)) (.d (.int k b)) = some (.d (.int k ((a * b : Nat) : Int))) := by
  simp only [binA, intBin, if_true]
  rw [← Int.natCast_mul, wrap_bits hk h]

theorem bn_eql {k : IntKind} {a b : Nat} : binA .eql (.d (.int k a)) (.d (.int k b)) = some (.d (.bool (decide (a = b)))) := by
  simp only [binA, intBin, if_true]
  congr 3
  rw [Bool.eq_iff_iff]; simp; omega
theorem bn_neq {k : IntKind} {a b : Nat} : binA .neq (.d (.int k a)) (.d (.int k b)) = some (.d (.bool (decide (a ≠ b)))) := by
  simp only [binA, intBin, if_true]
  congr 3
  rw [Bool.eq_iff_iff]; simp; omega
theorem bn_lss {k : IntKind} {a b : Nat} : binA .lss (.d (.int k a)) (.d (.int k b)) = some (.d (.bool (decide (a < b)))) := by
  simp only [binA, intBin, if_true, Int.ofNat_lt]
theorem bn_leq {k : IntKind} {a b : Nat} : binA .leq (.d (.int k a)) (.d (.int k b)) = some (.d (.bool (decide (a ≤ b)))) := by
  simp only [binA, intBin, if_true, Int.ofNat_le]
theorem bn_gtr {k : IntKind} {a b : Nat} : binA .gtr (.d (.int k a)) (.d (.int k b)) = some (.d (.bool (decide (b < a)))) := by
  simp only [binA, intBin, if_true, gt_iff_lt, Int.ofNat_lt]
theorem bn_geq {k : IntKind} {a b : Nat} : binA .geq (.d (.int k a)) (.d (.int k b)) = some (.d (.bool (decide (b ≤ a)))) := by
  simp only [binA, intBin, if_true, ge_iff_le, Int.ofNat_le]


section
variable {T : Tb} {sl : Slots} {rf : Refs} {df : List (AV × List AV)} {pn : Option (Option AV)} {nb : Nat} {N : St → Prop} {X : Ex → St → Prop}
/-- a guard that is not known yet -/
theorem o_if {l : List AOp} {t : Nat} {b : Bool} {d : Option Nat} {o : AOpk} {c : Bool} {m : Bool} (ht : sl.get t = some (.d (.bool b))) (h1 : b = true → OP T (⟨d, o, some (t, c), m⟩ :: l) ⟨sl, rf, df, pn, nb⟩ N X) (h2 : b = false → OP T (⟨d, o, some (t, c), m⟩ :: l) ⟨sl, rf, df, pn, nb⟩ N X) :
    OP T (⟨d, o, some (t, c), m⟩ :: l) ⟨sl, rf, df, pn, nb⟩ N X := by
  cases b
  · exact h2 rfl
  · exact h1 rfl

theorem o_eqln {r : List AOp} {d : Nat} {g : Option (Nat × Bool)} {may : Bool} {k : IntKind} {x y : Opd} {a b : Nat} (hg : wantedL sl g = some true) (hx : getO sl x = some (.d (.int k a))) (hy : getO sl y = some (.d (.int k b)))  (h : OP T r ⟨(d, .d (.bool (decide (a = b)))) :: sl, rf, df, pn, nb⟩ N X) : OP T (⟨some d, .bin .eql x y, g, may⟩ :: r) ⟨sl, rf, df, pn, nb⟩ N X :=
  o_bin hg hx hy (bn_eql) h
theorem o_neqn {r : List AOp} {d : Nat} {g : Option (Nat × Bool)} {may : Bool} {k : IntKind} {x y : Opd} {a b : Nat} (hg : wantedL sl g = some true) (hx : getO sl x = some (.d (.int k a))) (hy : getO sl y = some (.d (.int k b)))  (h : OP T r ⟨(d, .d (.bool (decide (a ≠ b)))) :: sl, rf, df, pn, nb⟩ N X) : OP T (⟨some d, .bin .neq x y, g, may⟩ :: r) ⟨sl, rf, df, pn, nb⟩ N X :=
  o_bin hg hx hy (bn_neq) h
theorem o_lssn {r : List AOp} {d : Nat} {g : Option (Nat × Bool)} {may : Bool} {k : IntKind} {x y : Opd} {a b : Nat} (hg : wantedL sl g = some true) (hx : getO sl x = some (.d (.int k a))) (hy : getO sl y = some (.d (.int k b)))  (h : OP T r ⟨(d, .d (.bool (decide (a < b)))) :: sl, rf, df, pn, nb⟩ N X) : OP T (⟨some d, .bin .lss x y, g, may⟩ :: r) ⟨sl, rf, df, pn, nb⟩ N X :=
  o_bin hg hx hy (bn_lss) h
theorem o_leqn {r : List AOp} {d : Nat} {g : Option (Nat × Bool)} {may : Bool} {k : IntKind} {x y : Opd} {a b : Nat} (hg : wantedL sl g = some true) (hx : getO sl x = some (.d (.int k a))) (hy : getO sl y = some (.d (.int k b)))  (h : OP T r ⟨(d, .d (.bool (decide (a ≤ b)))) :: sl, rf, df, pn, nb⟩ N X) : OP T (⟨some d, .bin .leq x y, g, may⟩ :: r) ⟨sl, rf, df, pn, nb⟩ N X :=
  o_bin hg hx hy (bn_leq) h
theorem o_gtrn {r : List AOp} {d : Nat} {g : Option (Nat × Bool)} {may : Bool} {k : IntKind} {x y : Opd} {a b : Nat} (hg : wantedL sl g = some true) (hx : getO sl x = some (.d (.int k a))) (hy : getO sl y = some (.d (.int k b)))  (h : OP T r ⟨(d, .d (.bool (decide (b < a)))) :: sl, rf, df, pn, nb⟩ N X) : OP T (⟨some d, .bin .gtr x y, g, may⟩ :: r) ⟨sl, rf, df, pn, nb⟩ N X :=
  o_bin hg hx hy (bn_gtr) h
theorem o_geqn {r : List AOp} {d : Nat} {g : Option (Nat × Bool)} {may : Bool} {k : IntKind} {x y : Opd} {a b : Nat} (hg : wantedL sl g = some true) (hx : getO sl x = some (.d (.int k a))) (hy : getO sl y = some (.d (.int k b)))  (h : OP T r ⟨(d, .d (.bool (decide (b ≤ a)))) :: sl, rf, df, pn, nb⟩ N X) : OP T (⟨some d, .bin .geq x y, g, may⟩ :: r) ⟨sl, rf, df, pn, nb⟩ N X :=
  o_bin hg hx hy (bn_geq) h
theorem o_addkn {r : List AOp} {d : Nat} {g : Option (Nat × Bool)} {may : Bool} {k : IntKind} {x y : Opd} {a b : Nat} (hg : wantedL sl g = some true) (hx : getO sl x = some (.d (.int k a))) (hy : getO sl y = some (.d (.int k b))) (hk : k.min ≤ 0) (hm : ((a + b : Nat) : Int) ≤ k.max) (h : OP T r ⟨(d, .d (.int k ((a + b : Nat) : Int))) :: sl, rf, df, pn, nb⟩ N X) : OP T (⟨some d, .bin .add x y, g, may⟩ :: r) ⟨sl, rf, df, pn, nb⟩ N X :=
  o_bin hg hx hy (bn_add hk hm) h
theorem o_subkn {r : List AOp} {d : Nat} {g : Option (Nat × Bool)} {may : Bool} {k : IntKind} {x y : Opd} {a b : Nat} (hg : wantedL sl g = some true) (hx : getO sl x = some (.d (.int k a))) (hy : getO sl y = some (.d (.int k b))) (hk : k.min ≤ 0) (hb : b ≤ a) (hm : (a : Int) ≤ k.max) (h : OP T r ⟨(d, .d (.int k ((a - b : Nat) : Int))) :: sl, rf, df, pn, nb⟩ N X) : OP T (⟨some d, .bin .sub x y, g, may⟩ :: r) ⟨sl, rf, df, pn, nb⟩ N X :=
  o_bin hg hx hy (bn_sub hk hb hm) h
theorem o_remn {r : List AOp} {d : Nat} {g : Option (Nat × Bool)} {may : Bool} {k : IntKind} {x y : Opd} {a b : Nat} (hg : wantedL sl g = some true) (hx : getO sl x = some (.d (.int k a))) (hy : getO sl y = some (.d (.int k b))) (hb : b ≠ 0) (h : OP T r ⟨(d, .d (.int k ((a % b : Nat) : Int))) :: sl, rf, df, pn, nb⟩ N X) : OP T (⟨some d, .bin .rem x y, g, may⟩ :: r) ⟨sl, rf, df, pn, nb⟩ N X :=
  o_bin hg hx hy (bn_rem hb) h
theorem o_quon {r : List AOp} {d : Nat} {g : Option (Nat × Bool)} {may : Bool} {k : IntKind} {x y : Opd} {a b : Nat} (hg : wantedL sl g = some true) (hx : getO sl x = some (.d (.int k a))) (hy : getO sl y = some (.d (.int k b))) (hm : (a : Int) ≤ k.max) (hk : k.min ≤ 0) (hb : b ≠ 0) (h : OP T r ⟨(d, .d (.int k ((a / b : Nat) : Int))) :: sl, rf, df, pn, nb⟩ N X) : OP T (⟨some d, .bin .quo x y, g, may⟩ :: r) ⟨sl, rf, df, pn, nb⟩ N X :=
  o_bin hg hx hy (bn_quo hm hk hb) h
theorem o_shrn {r : List AOp} {d : Nat} {g : Option (Nat × Bool)} {may : Bool} {k k' : IntKind} {x y : Opd} {a b : Nat} (hg : wantedL sl g = some true) (hx : getO sl x = some (.d (.int k a))) (hy : getO sl y = some (.d (.int k' b))) (hb : b ≤ k.bits) (h : OP T r ⟨(d, .d (.int k ((a / 2 ^ b : Nat) : Int))) :: sl, rf, df, pn, nb⟩ N X) : OP T (⟨some d, .bin .shr x y, g, may⟩ :: r) ⟨sl, rf, df, pn, nb⟩ N X :=
  o_bin hg hx hy (bn_shr hb) h
theorem o_shln {r : List AOp} {d : Nat} {g : Option (Nat × Bool)} {may : Bool} {k k' : IntKind} {x y : Opd} {a b : Nat} (hg : wantedL sl g = some true) (hx : getO sl x = some (.d (.int k a))) (hy : getO sl y = some (.d (.int k' b))) (hb : b ≤ k.bits) (hk : k.min ≤ 0) (hm : ((a * 2 ^ b : Nat) : Int) ≤ k.max) (h : OP T r ⟨(d, .d (.int k ((a * 2 ^ b : Nat) : Int))) :: sl, rf, df, pn, nb⟩ N X) : OP T (⟨some d, .bin .shl x y, g, may⟩ :: r) ⟨sl, rf, df, pn, nb⟩ N X :=
  o_bin hg hx hy (bn_shl hb hk hm) h
theorem o_andn {r : List AOp} {d : Nat} {g : Option (Nat × Bool)} {may : Bool} {k : IntKind} {x y : Opd} {a b : Nat} (hg : wantedL sl g = some true) (hx : getO sl x = some (.d (.int k a))) (hy : getO sl y = some (.d (.int k b))) (ha : (a : Int) ≤ k.max) (hb : ((b : Nat) : Int) ≤ k.max) (hk : k.min ≤ 0) (h : OP T r ⟨(d, .d (.int k ((a &&& b : Nat) : Int))) :: sl, rf, df, pn, nb⟩ N X) : OP T (⟨some d, .bin .and x y, g, may⟩ :: r) ⟨sl, rf, df, pn, nb⟩ N X :=
  o_bin hg hx hy (bn_and ha hb hk) h
theorem o_orn {r : List AOp} {d : Nat} {g : Option (Nat × Bool)} {may : Bool} {k : IntKind} {x y : Opd} {a b : Nat} (hg : wantedL sl g = some true) (hx : getO sl x = some (.d (.int k a))) (hy : getO sl y = some (.d (.int k b))) (ha : (a : Int) ≤ k.max) (hb : ((b : Nat) : Int) ≤ k.max) (hk : k.min ≤ 0) (h : OP T r ⟨(d, .d (.int k ((a ||| b : Nat) : Int))) :: sl, rf, df, pn, nb⟩ N X) : OP T (⟨some d, .bin .or x y, g, may⟩ :: r) ⟨sl, rf, df, pn, nb⟩ N X :=
  o_bin hg hx hy (bn_or ha hb hk) h
theorem o_mulkn {r : List AOp} {d : Nat} {g : Option (Nat × Bool)} {may : Bool} {k : IntKind} {x y : Opd} {a b : Nat} (hg : wantedL sl g = some true) (hx : getO sl x = some (.d (.int k a))) (hy : getO sl y = some (.d (.int k b))) (hk : k.min ≤ 0) (hm : ((a * b : Nat) : Int) ≤ k.max) (h : OP T r ⟨(d, .d (.int k ((a * b : Nat) : Int))) :: sl, rf, df, pn, nb⟩ N X) : OP T (⟨some d, .bin .mul x y, g, may⟩ :: r) ⟨sl, rf, df, pn, nb⟩ N X :=
  o_bin hg hx hy (bn_mul hk hm) h

theorem o_skip {r : List AOp} {d : Nat} {o : AOpk} {t : Nat} {b may : Bool} (hg : wantedL sl (some (t, b)) = some false) (h : OP T r ⟨(d, .tup []) :: sl, rf, df, pn, nb⟩ N X) : OP T (⟨some d, o, some (t, b), may⟩ :: r) ⟨sl, rf, df, pn, nb⟩ N X := o_off hg h

theorem o_ifp {l : List AOp} {t : Nat} {p : Prop} [Decidable p] {d : Option Nat} {o : AOpk} {c : Bool} {m : Bool} (ht : sl.get t = some (.d (.bool (decide p)))) (h1 : p → decide p = true → OP T (⟨d, o, some (t, c), m⟩ :: l) ⟨sl, rf, df, pn, nb⟩ N X) (h2 : ¬ p → decide p = false → OP T (⟨d, o, some (t, c), m⟩ :: l) ⟨sl, rf, df, pn, nb⟩ N X) :
    OP T (⟨d, o, some (t, c), m⟩ :: l) ⟨sl, rf, df, pn, nb⟩ N X := by
  by_cases h : p
  · exact h1 h (decide_eq_true h)
  · exact h2 h (decide_eq_false h)

theorem end0 {af : AFn} {n : Nat} {o : Out} {rf' : Refs} (hr : af.res = []) (ho : o = .ret (.tup [])) (hrf : rf' = rf.take n) : EndX af n o rf' .ret ⟨sl, rf, [], pn, nb⟩ :=
  .ret (v := .tup []) rfl (by rw [hr]; rfl) (Nat.zero_le _) ho hrf
theorem end1 {af : AFn} {n t : Nat} {y : D} {o : Out} {rf' : Refs} (hk : af.keep = false) (hr : af.res = [.tmp t]) (hv : sl.get t = some (.d y)) (ho : o = .ret (.d y)) (hrf : rf' = rf.take n) : EndX af n o rf' .ret ⟨sl, rf, [], pn, nb⟩ :=
  .ret (v := .d y) rfl (by rw [hr, hk]; simp only [resOf, resAs, resA, hv]; rfl) (Nat.zero_le _) ho hrf
theorem end2 {af : AFn} {n t u : Nat} {y z : D} {o : Out} {rf' : Refs} (hk : af.keep = false) (hr : af.res = [.tmp t, .tmp u]) (hv : sl.get t = some (.d y)) (hw : sl.get u = some (.d z)) (ho : o = .ret (.tup [.d y, .d z])) (hrf : rf' = rf.take n) : EndX af n o rf' .ret ⟨sl, rf, [], pn, nb⟩ :=
  .ret (v := .tup [.d y, .d z]) rfl (by rw [hr, hk]; simp only [resOf, resAs, resA, hv, hw]; rfl) (by simp [AV.refB, AV.refBs]) ho hrf
theorem end3 {af : AFn} {n t u q : Nat} {x y z : D} {o : Out} {rf' : Refs} (hk : af.keep = false) (hr : af.res = [.tmp t, .tmp u, .tmp q]) (hv : sl.get t = some (.d x)) (hw : sl.get u = some (.d y)) (hx : sl.get q = some (.d z)) (ho : o = .ret (.tup [.d x, .d y, .d z])) (hrf : rf' = rf.take n) : EndX af n o rf' .ret ⟨sl, rf, [], pn, nb⟩ :=
  .ret (v := .tup [.d x, .d y, .d z]) rfl (by rw [hr, hk]; simp only [resOf, resAs, resA, hv, hw, hx]; rfl) (by simp [AV.refB, AV.refBs]) ho hrf
theorem enda {af : AFn} {n t : Nat} {y : List AV} {o : Out} {rf' : Refs} (hk : af.keep = false) (hr : af.res = [.tmp t]) (hv : sl.get t = some (.agg y)) (hb : AV.refBs y = 0) (ho : o = .ret (.agg (AV.bares y))) (hrf : rf' = rf.take n) : EndX af n o rf' .ret ⟨sl, rf, [], pn, nb⟩ :=
  .ret (v := .agg (AV.bares y)) rfl (by rw [hr, hk]; simp only [resOf, resAs, resA, hv]; rfl) (by simp [AV.refB, refBs_bares, hb]) ho hrf
end
end Go.Ab
