/- A part of the proof: tools. No condition. -/
import Derived.Test.YtghchmemjjpcbaaL2
import Derived.RangeFuncIn
import Derived.LoopNIn
import Derived.OpenShut
import Derived.JoinedCond
import Derived.ShutString
import Derived.Deep.Strs
import Derived.Carry
set_option linter.all false
namespace Go.Ab
theorem m64 : IntKind.i64.max = 9223372036854775807 := rfl
theorem mU : IntKind.u64.max = 18446744073709551615 := rfl
theorem m8 : IntKind.u8.max = 255 := rfl
theorem n64 : IntKind.i64.min = -9223372036854775808 := rfl
theorem nU : IntKind.u64.min = 0 := rfl
theorem n8 : IntKind.u8.min = 0 := rfl
theorem b64 : IntKind.i64.bits = 64 := rfl
theorem bU : IntKind.u64.bits = 64 := rfl
theorem b8 : IntKind.u8.bits = 8 := rfl
theorem mm : IntKind.i64.max = 9223372036854775807 ∧ IntKind.u64.max = 18446744073709551615 ∧ IntKind.u8.max = 255 ∧ IntKind.i64.min = -9223372036854775808 ∧ IntKind.u64.min = 0 ∧ IntKind.u8.min = 0 ∧ IntKind.i64.bits = 64 ∧ IntKind.u64.bits = 64 ∧ IntKind.u8.bits = 8 := ⟨m64, mU, m8, n64, nU, n8, b64, bU, b8⟩
theorem toInt_ofInt_nat {w x : Nat} (h : x < 2 ^ w) : (BitVec.ofInt w (x : Int)).toNat = x := by
 rw [BitVec.ofInt_natCast, BitVec.toNat_ofNat, Nat.mod_eq_of_lt h]
theorem bn_quo {k : IntKind} {a b : Nat} (ha : (a : Int) ≤ k.max) (hk : k.min ≤ 0) (hb : b ≠ 0) : binA .quo (.d (.int k a)) (.d (.int k b)) = some (.d (.int k ((a / b : Nat) : Int))) := by
 simp only [binA, intBin, if_true]
 rw [if_neg (by omega), ← Int.ofNat_tdiv, wrap_of (by have := Int.natCast_nonneg (a / b); omega) (by have := Nat.div_le_self a b; omega)]
theorem bn_rem {k : IntKind} {a b : Nat} (hb : b ≠ 0) : binA .rem (.d (.int k a)) (.d (.int k b)) = some (.d (.int k ((a % b : Nat) : Int))) := by
 simp only [binA, intBin, if_true]
 rw [if_neg (by omega), ← Int.ofNat_tmod]
theorem bn_shr {k k' : IntKind} {a b : Nat} (hb : b ≤ k.bits) : binA .shr (.d (.int k a)) (.d (.int k' b)) = some (.d (.int k ((a / 2 ^ b : Nat) : Int))) := by
 simp only [binA]
 rw [if_neg (by omega)]
 have h1 : Nat.min (b : Int).toNat k.bits = b := by
  show min (b : Int).toNat k.bits = b
  rw [Int.toNat_natCast]; omega
 have h2 : (2 : Int) ^ b = ((2 ^ b : Nat) : Int) := by simp
 rw [h1, h2, Int.fdiv_eq_ediv_of_nonneg _ (Int.natCast_nonneg _)]
 rfl
theorem bn_shl {k k' : IntKind} {a b : Nat} (hb : b ≤ k.bits) (hk : k.min ≤ 0) (hm : ((a * 2 ^ b : Nat) : Int) ≤ k.max) : binA .shl (.d (.int k a)) (.d (.int k' b)) = some (.d (.int k ((a * 2 ^ b : Nat) : Int))) := by
 simp only [binA]
 rw [if_neg (by omega)]
 have h1 : Nat.min (b : Int).toNat k.bits = b := by
  show min (b : Int).toNat k.bits = b
  rw [Int.toNat_natCast]; omega
 have h2 : (2 : Int) ^ b = ((2 ^ b : Nat) : Int) := by simp
 rw [h1, h2, ← Int.natCast_mul, wrap_of (by have := Int.natCast_nonneg (a * 2 ^ b); omega) hm]
theorem wrap_bits {k : IntKind} {x : Nat} (hk : k.min ≤ 0) (h : (x : Int) ≤ k.max) : k.wrap (x : Int) = x := wrap_of (by omega) h
theorem max_lt {k : IntKind} {x : Nat} (h : (x : Int) ≤ k.max) : x < 2 ^ k.bits := by
 cases k <;> simp [IntKind.max, IntKind.signed, IntKind.bits] at h ⊢ <;> omega
theorem bn_and {k : IntKind} {a b : Nat} (ha : (a : Int) ≤ k.max) (hb : (b : Int) ≤ k.max) (hk : k.min ≤ 0) : binA .and (.d (.int k a)) (.d (.int k b)) = some (.d (.int k ((a &&& b : Nat) : Int))) := by
 simp only [binA, intBin, if_true]
 rw [BitVec.toNat_and, toInt_ofInt_nat (max_lt ha), toInt_ofInt_nat (max_lt hb), wrap_bits hk (by have : a &&& b ≤ a := Nat.and_le_left; omega)]
theorem or_le {k : IntKind} {a b : Nat} (ha : (a : Int) ≤ k.max) (hb : (b : Int) ≤ k.max) : ((a ||| b : Nat) : Int) ≤ k.max := by
 have key : ∀ w : Nat, a < 2 ^ w → b < 2 ^ w → a ||| b < 2 ^ w := fun w h1 h2 => Nat.or_lt_two_pow h1 h2
 cases k <;> simp only [IntKind.max, IntKind.signed, IntKind.bits, if_true, if_false, Bool.false_eq_true] at ha hb ⊢
 all_goals first
  | (have := key 7 (by omega) (by omega); omega)
  | (have := key 8 (by omega) (by omega); omega)
  | (have := key 15 (by omega) (by omega); omega)
  | (have := key 16 (by omega) (by omega); omega)
  | (have := key 31 (by omega) (by omega); omega)
  | (have := key 32 (by omega) (by omega); omega)
  | (have := key 63 (by omega) (by omega); omega)
  | (have := key 64 (by omega) (by omega); omega)
theorem bn_or {k : IntKind} {a b : Nat} (ha : (a : Int) ≤ k.max) (hb : (b : Int) ≤ k.max) (hk : k.min ≤ 0) : binA .or (.d (.int k a)) (.d (.int k b)) = some (.d (.int k ((a ||| b : Nat) : Int))) := by
 simp only [binA, intBin, if_true]
 rw [BitVec.toNat_or, toInt_ofInt_nat (max_lt ha), toInt_ofInt_nat (max_lt hb), wrap_bits hk (or_le ha hb)]
theorem bn_add {k : IntKind} {a b : Nat} (hk : k.min ≤ 0) (h : ((a + b : Nat) : Int) ≤ k.max) : binA .add (.d (.int k a)) (.d (.int k b)) = some (.d (.int k ((a + b : Nat) : Int))) := by
 simp only [binA, intBin, if_true]
 rw [← Int.natCast_add, wrap_bits hk h]
theorem bn_sub {k : IntKind} {a b : Nat} (hk : k.min ≤ 0) (hb : b ≤ a) (h : (a : Int) ≤ k.max) : binA .sub (.d (.int k a)) (.d (.int k b)) = some (.d (.int k ((a - b : Nat) : Int))) := by
 simp only [binA, intBin, if_true]
 rw [← Int.natCast_sub hb, wrap_bits hk (by omega)]
theorem bn_mul {k : IntKind} {a b : Nat} (hk : k.min ≤ 0) (h : ((a * b : Nat) : Int) ≤ k.max) : binA .mul (.d (.int k a)) (.d (.int k b)) = some (.d (.int k ((a * b : Nat) : Int))) := by
 simp only [binA, intBin, if_true]
 rw [← Int.natCast_mul, wrap_bits hk h]
theorem bn_eql {k : IntKind} {a b : Nat} : binA .eql (.d (.int k a)) (.d (.int k b)) = some (.d (.bool (decide (a = b)))) := by
 simp only [binA, intBin, if_true]
 congr 3
 rw [Bool.eq_iff_iff]; simp; omega
theorem bn_neq {k : IntKind} {a b : Nat} : binA .neq (.d (.int k a)) (.d (.int k b)) = some (.d (.bool (decide (a ≠ b)))) := by
 simp only [binA, intBin, if_true]
 congr 3
 rw [Bool.eq_iff_iff]; simp; omega
theorem bn_lss {k : IntKind} {a b : Nat} : binA .lss (.d (.int k a)) (.d (.int k b)) = some (.d (.bool (decide (a < b)))) := by
 simp only [binA, intBin, if_true, Int.ofNat_lt]
theorem bn_leq {k : IntKind} {a b : Nat} : binA .leq (.d (.int k a)) (.d (.int k b)) = some (.d (.bool (decide (a ≤ b)))) := by
 simp only [binA, intBin, if_true, Int.ofNat_le]
theorem bn_gtr {k : IntKind} {a b : Nat} : binA .gtr (.d (.int k a)) (.d (.int k b)) = some (.d (.bool (decide (b < a)))) := by
 simp only [binA, intBin, if_true, gt_iff_lt, Int.ofNat_lt]
theorem bn_geq {k : IntKind} {a b : Nat} : binA .geq (.d (.int k a)) (.d (.int k b)) = some (.d (.bool (decide (b ≤ a)))) := by
 simp only [binA, intBin, if_true, ge_iff_le, Int.ofNat_le]
section
variable {T : Tb} {sl : Slots} {rf : Refs} {df : List (AV × List AV)} {pn : Option (Option AV)} {nb : Nat} {N : St → Prop} {X : Ex → St → Prop}
theorem o_if {l : List AOp} {t : Nat} {b : Bool} {d : Option Nat} {o : AOpk} {c : Bool} {m : Bool} (ht : sl.get t = some (.d (.bool b))) (h1 : b = true → OP T (⟨d, o, some (t, c), m⟩ :: l) ⟨sl, rf, df, pn, nb⟩ N X) (h2 : b = false → OP T (⟨d, o, some (t, c), m⟩ :: l) ⟨sl, rf, df, pn, nb⟩ N X) :
  OP T (⟨d, o, some (t, c), m⟩ :: l) ⟨sl, rf, df, pn, nb⟩ N X := by
 cases b
 ·exact h2 rfl
 ·exact h1 rfl
theorem o_eqln {r : List AOp} {d : Nat} {g : Option (Nat × Bool)} {may : Bool} {k : IntKind} {x y : Opd} {a b : Nat} (hg : wantedL sl g = some true) (hx : getO sl x = some (.d (.int k a))) (hy : getO sl y = some (.d (.int k b)))  (h : OP T r ⟨(d, .d (.bool (decide (a = b)))) :: sl, rf, df, pn, nb⟩ N X) : OP T (⟨some d, .bin .eql x y, g, may⟩ :: r) ⟨sl, rf, df, pn, nb⟩ N X :=
 o_bin hg hx hy (bn_eql) h
theorem o_neqn {r : List AOp} {d : Nat} {g : Option (Nat × Bool)} {may : Bool} {k : IntKind} {x y : Opd} {a b : Nat} (hg : wantedL sl g = some true) (hx : getO sl x = some (.d (.int k a))) (hy : getO sl y = some (.d (.int k b)))  (h : OP T r ⟨(d, .d (.bool (decide (a ≠ b)))) :: sl, rf, df, pn, nb⟩ N X) : OP T (⟨some d, .bin .neq x y, g, may⟩ :: r) ⟨sl, rf, df, pn, nb⟩ N X :=
 o_bin hg hx hy (bn_neq) h
theorem o_lssn {r : List AOp} {d : Nat} {g : Option (Nat × Bool)} {may : Bool} {k : IntKind} {x y : Opd} {a b : Nat} (hg : wantedL sl g = some true) (hx : getO sl x = some (.d (.int k a))) (hy : getO sl y = some (.d (.int k b)))  (h : OP T r ⟨(d, .d (.bool (decide (a < b)))) :: sl, rf, df, pn, nb⟩ N X) : OP T (⟨some d, .bin .lss x y, g, may⟩ :: r) ⟨sl, rf, df, pn, nb⟩ N X :=
 o_bin hg hx hy (bn_lss) h
theorem o_leqn {r : List AOp} {d : Nat} {g : Option (Nat × Bool)} {may : Bool} {k : IntKind} {x y : Opd} {a b : Nat} (hg : wantedL sl g = some true) (hx : getO sl x = some (.d (.int k a))) (hy : getO sl y = some (.d (.int k b)))  (h : OP T r ⟨(d, .d (.bool (decide (a ≤ b)))) :: sl, rf, df, pn, nb⟩ N X) : OP T (⟨some d, .bin .leq x y, g, may⟩ :: r) ⟨sl, rf, df, pn, nb⟩ N X :=
 o_bin hg hx hy (bn_leq) h
theorem o_gtrn {r : List AOp} {d : Nat} {g : Option (Nat × Bool)} {may : Bool} {k : IntKind} {x y : Opd} {a b : Nat} (hg : wantedL sl g = some true) (hx : getO sl x = some (.d (.int k a))) (hy : getO sl y = some (.d (.int k b)))  (h : OP T r ⟨(d, .d (.bool (decide (b < a)))) :: sl, rf, df, pn, nb⟩ N X) : OP T (⟨some d, .bin .gtr x y, g, may⟩ :: r) ⟨sl, rf, df, pn, nb⟩ N X :=
 o_bin hg hx hy (bn_gtr) h
theorem o_geqn {r : List AOp} {d : Nat} {g : Option (Nat × Bool)} {may : Bool} {k : IntKind} {x y : Opd} {a b : Nat} (hg : wantedL sl g = some true) (hx : getO sl x = some (.d (.int k a))) (hy : getO sl y = some (.d (.int k b)))  (h : OP T r ⟨(d, .d (.bool (decide (b ≤ a)))) :: sl, rf, df, pn, nb⟩ N X) : OP T (⟨some d, .bin .geq x y, g, may⟩ :: r) ⟨sl, rf, df, pn, nb⟩ N X :=
 o_bin hg hx hy (bn_geq) h
theorem o_addkn {r : List AOp} {d : Nat} {g : Option (Nat × Bool)} {may : Bool} {k : IntKind} {x y : Opd} {a b : Nat} (hg : wantedL sl g = some true) (hx : getO sl x = some (.d (.int k a))) (hy : getO sl y = some (.d (.int k b))) (hk : k.min ≤ 0) (hm : ((a + b : Nat) : Int) ≤ k.max) (h : OP T r ⟨(d, .d (.int k ((a + b : Nat) : Int))) :: sl, rf, df, pn, nb⟩ N X) : OP T (⟨some d, .bin .add x y, g, may⟩ :: r) ⟨sl, rf, df, pn, nb⟩ N X :=
 o_bin hg hx hy (bn_add hk hm) h
theorem o_subkn {r : List AOp} {d : Nat} {g : Option (Nat × Bool)} {may : Bool} {k : IntKind} {x y : Opd} {a b : Nat} (hg : wantedL sl g = some true) (hx : getO sl x = some (.d (.int k a))) (hy : getO sl y = some (.d (.int k b))) (hk : k.min ≤ 0) (hb : b ≤ a) (hm : (a : Int) ≤ k.max) (h : OP T r ⟨(d, .d (.int k ((a - b : Nat) : Int))) :: sl, rf, df, pn, nb⟩ N X) : OP T (⟨some d, .bin .sub x y, g, may⟩ :: r) ⟨sl, rf, df, pn, nb⟩ N X :=
 o_bin hg hx hy (bn_sub hk hb hm) h
theorem o_remn {r : List AOp} {d : Nat} {g : Option (Nat × Bool)} {may : Bool} {k : IntKind} {x y : Opd} {a b : Nat} (hg : wantedL sl g = some true) (hx : getO sl x = some (.d (.int k a))) (hy : getO sl y = some (.d (.int k b))) (hb : b ≠ 0) (h : OP T r ⟨(d, .d (.int k ((a % b : Nat) : Int))) :: sl, rf, df, pn, nb⟩ N X) : OP T (⟨some d, .bin .rem x y, g, may⟩ :: r) ⟨sl, rf, df, pn, nb⟩ N X :=
 o_bin hg hx hy (bn_rem hb) h
theorem o_quon {r : List AOp} {d : Nat} {g : Option (Nat × Bool)} {may : Bool} {k : IntKind} {x y : Opd} {a b : Nat} (hg : wantedL sl g = some true) (hx : getO sl x = some (.d (.int k a))) (hy : getO sl y = some (.d (.int k b))) (hm : (a : Int) ≤ k.max) (hk : k.min ≤ 0) (hb : b ≠ 0) (h : OP T r ⟨(d, .d (.int k ((a / b : Nat) : Int))) :: sl, rf, df, pn, nb⟩ N X) : OP T (⟨some d, .bin .quo x y, g, may⟩ :: r) ⟨sl, rf, df, pn, nb⟩ N X :=
 o_bin hg hx hy (bn_quo hm hk hb) h
theorem o_shrn {r : List AOp} {d : Nat} {g : Option (Nat × Bool)} {may : Bool} {k k' : IntKind} {x y : Opd} {a b : Nat} (hg : wantedL sl g = some true) (hx : getO sl x = some (.d (.int k a))) (hy : getO sl y = some (.d (.int k' b))) (hb : b ≤ k.bits) (h : OP T r ⟨(d, .d (.int k ((a / 2 ^ b : Nat) : Int))) :: sl, rf, df, pn, nb⟩ N X) : OP T (⟨some d, .bin .shr x y, g, may⟩ :: r) ⟨sl, rf, df, pn, nb⟩ N X :=
 o_bin hg hx hy (bn_shr hb) h
theorem o_shln {r : List AOp} {d : Nat} {g : Option (Nat × Bool)} {may : Bool} {k k' : IntKind} {x y : Opd} {a b : Nat} (hg : wantedL sl g = some true) (hx : getO sl x = some (.d (.int k a))) (hy : getO sl y = some (.d (.int k' b))) (hb : b ≤ k.bits) (hk : k.min ≤ 0) (hm : ((a * 2 ^ b : Nat) : Int) ≤ k.max) (h : OP T r ⟨(d, .d (.int k ((a * 2 ^ b : Nat) : Int))) :: sl, rf, df, pn, nb⟩ N X) : OP T (⟨some d, .bin .shl x y, g, may⟩ :: r) ⟨sl, rf, df, pn, nb⟩ N X :=
 o_bin hg hx hy (bn_shl hb hk hm) h
theorem o_andn {r : List AOp} {d : Nat} {g : Option (Nat × Bool)} {may : Bool} {k : IntKind} {x y : Opd} {a b : Nat} (hg : wantedL sl g = some true) (hx : getO sl x = some (.d (.int k a))) (hy : getO sl y = some (.d (.int k b))) (ha : (a : Int) ≤ k.max) (hb : ((b : Nat) : Int) ≤ k.max) (hk : k.min ≤ 0) (h : OP T r ⟨(d, .d (.int k ((a &&& b : Nat) : Int))) :: sl, rf, df, pn, nb⟩ N X) : OP T (⟨some d, .bin .and x y, g, may⟩ :: r) ⟨sl, rf, df, pn, nb⟩ N X :=
 o_bin hg hx hy (bn_and ha hb hk) h
theorem o_orn {r : List AOp} {d : Nat} {g : Option (Nat × Bool)} {may : Bool} {k : IntKind} {x y : Opd} {a b : Nat} (hg : wantedL sl g = some true) (hx : getO sl x = some (.d (.int k a))) (hy : getO sl y = some (.d (.int k b))) (ha : (a : Int) ≤ k.max) (hb : ((b : Nat) : Int) ≤ k.max) (hk : k.min ≤ 0) (h : OP T r ⟨(d, .d (.int k ((a ||| b : Nat) : Int))) :: sl, rf, df, pn, nb⟩ N X) : OP T (⟨some d, .bin .or x y, g, may⟩ :: r) ⟨sl, rf, df, pn, nb⟩ N X :=
 o_bin hg hx hy (bn_or ha hb hk) h
theorem o_mulkn {r : List AOp} {d : Nat} {g : Option (Nat × Bool)} {may : Bool} {k : IntKind} {x y : Opd} {a b : Nat} (hg : wantedL sl g = some true) (hx : getO sl x = some (.d (.int k a))) (hy : getO sl y = some (.d (.int k b))) (hk : k.min ≤ 0) (hm : ((a * b : Nat) : Int) ≤ k.max) (h : OP T r ⟨(d, .d (.int k ((a * b : Nat) : Int))) :: sl, rf, df, pn, nb⟩ N X) : OP T (⟨some d, .bin .mul x y, g, may⟩ :: r) ⟨sl, rf, df, pn, nb⟩ N X :=
 o_bin hg hx hy (bn_mul hk hm) h
theorem o_skip {r : List AOp} {d : Nat} {o : AOpk} {t : Nat} {b may : Bool} (hg : wantedL sl (some (t, b)) = some false) (h : OP T r ⟨(d, .tup []) :: sl, rf, df, pn, nb⟩ N X) : OP T (⟨some d, o, some (t, b), may⟩ :: r) ⟨sl, rf, df, pn, nb⟩ N X := o_off hg h
theorem o_ifp {l : List AOp} {t : Nat} {p : Prop} [Decidable p] {d : Option Nat} {o : AOpk} {c : Bool} {m : Bool} (ht : sl.get t = some (.d (.bool (decide p)))) (h1 : p → decide p = true → OP T (⟨d, o, some (t, c), m⟩ :: l) ⟨sl, rf, df, pn, nb⟩ N X) (h2 : ¬ p → decide p = false → OP T (⟨d, o, some (t, c), m⟩ :: l) ⟨sl, rf, df, pn, nb⟩ N X) :
  OP T (⟨d, o, some (t, c), m⟩ :: l) ⟨sl, rf, df, pn, nb⟩ N X := by
 by_cases h : p
 ·exact h1 h (decide_eq_true h)
 ·exact h2 h (decide_eq_false h)
theorem end0 {af : AFn} {n : Nat} {o : Out} {rf' : Refs} (hr : af.res = []) (ho : o = .ret (.tup [])) (hrf : rf' = rf.take n) : EndX af n o rf' .ret ⟨sl, rf, [], pn, nb⟩ :=
 .ret (v := .tup []) rfl (by rw [hr]; cases af.keep <;> rfl) (Nat.zero_le _) ho hrf
theorem end1 {af : AFn} {n t : Nat} {y : D} {o : Out} {rf' : Refs} (hk : af.keep = false) (hr : af.res = [.tmp t]) (hv : sl.get t = some (.d y)) (ho : o = .ret (.d y)) (hrf : rf' = rf.take n) : EndX af n o rf' .ret ⟨sl, rf, [], pn, nb⟩ :=
 .ret (v := .d y) rfl (by rw [hr, hk]; simp only [resOf, resOf0, resAs, resA, hv]; rfl) (Nat.zero_le _) ho hrf
theorem end2 {af : AFn} {n t u : Nat} {y z : D} {o : Out} {rf' : Refs} (hk : af.keep = false) (hr : af.res = [.tmp t, .tmp u]) (hv : sl.get t = some (.d y)) (hw : sl.get u = some (.d z)) (ho : o = .ret (.tup [.d y, .d z])) (hrf : rf' = rf.take n) : EndX af n o rf' .ret ⟨sl, rf, [], pn, nb⟩ :=
 .ret (v := .tup [.d y, .d z]) rfl (by rw [hr, hk]; simp only [resOf, resOf0, resAs, resA, hv, hw]; rfl) (by simp [AV.refB, AV.refBs]) ho hrf
theorem end3 {af : AFn} {n t u q : Nat} {x y z : D} {o : Out} {rf' : Refs} (hk : af.keep = false) (hr : af.res = [.tmp t, .tmp u, .tmp q]) (hv : sl.get t = some (.d x)) (hw : sl.get u = some (.d y)) (hx : sl.get q = some (.d z)) (ho : o = .ret (.tup [.d x, .d y, .d z])) (hrf : rf' = rf.take n) : EndX af n o rf' .ret ⟨sl, rf, [], pn, nb⟩ :=
 .ret (v := .tup [.d x, .d y, .d z]) rfl (by rw [hr, hk]; simp only [resOf, resOf0, resAs, resA, hv, hw, hx]; rfl) (by simp [AV.refB, AV.refBs]) ho hrf
theorem enda {af : AFn} {n t : Nat} {y : List AV} {o : Out} {rf' : Refs} (hk : af.keep = false) (hr : af.res = [.tmp t]) (hv : sl.get t = some (.agg y)) (hb : AV.refBs y = 0) (ho : o = .ret (.agg (AV.bares y))) (hrf : rf' = rf.take n) : EndX af n o rf' .ret ⟨sl, rf, [], pn, nb⟩ :=
 .ret (v := .agg (AV.bares y)) rfl (by rw [hr, hk]; simp only [resOf, resOf0, resAs, resA, hv]; rfl) (by simp [AV.refB, refBs_bares, hb]) ho hrf
end
end Go.Ab
namespace Go.Ab
theorem sizesB_bytesOf (l : List UInt8) : sizesB 1 (bytesOf l) = true := by cases l <;> rfl
theorem bytesOf_length (l : List UInt8) : (bytesOf l).length = l.length := by simp [bytesOf]
theorem bytesOf_append (l m : List UInt8) : bytesOf (l ++ m) = bytesOf l ++ bytesOf m := by simp [bytesOf]
theorem strOf_bytesOf (l : List UInt8) : strOf (bytesOf l) = some l := by
 induction l with
 | nil => rfl
 | cons b l ih =>
   show (strOf (bytesOf l)).map _ = _
   rw [ih]
   simp
theorem sizesB_append {sz : Nat} {es ys : List (List D)} (h1 : sizesB sz es = true) (h2 : sizesB sz ys = true) : sizesB sz (es ++ ys) = true := by
 cases es with
 | nil => exact h2
 | cons e es => exact h1
section
variable {T : Tb} {sl : Slots} {rf : Refs} {df : List (AV × List AV)} {pn : Option (Option AV)} {nb : Nat} {N : St → Prop} {X : Ex → St → Prop} {r : List AOp} {d : Nat} {g : Option (Nat × Bool)} {may : Bool}
theorem o_mkls {sz : Nat} {zero : List AV} {parts : List (Nat × Nat × Opd)} {cs : List AV} {ds : List D} {es : List (List D)} (hg : wantedL sl g = some true) (hf : fillA sl zero parts = some cs) (hd : toDs cs = some ds) (hs : 0 < sz) (hl : ds.length ≤ lim) (he : chunks sz (ds.length / sz) ds = es)
  (h : OP T r ⟨(d, .own es) :: sl, rf, df, pn, nb⟩ N X) : OP T (⟨some d, .mkls sz zero parts, g, may⟩ :: r) ⟨sl, rf, df, pn, nb⟩ N X := by
 subst he
 refine o_pure hg ?_ h
 simp only [stepOp, hf, hd]
 rw [if_pos ⟨hs, hl⟩]
 rfl
theorem o_mkls1 {z : AV} {x : Opd} {a : D} (hg : wantedL sl g = some true) (hx : getO sl x = some (.d a)) (h : OP T r ⟨(d, .own [[a]]) :: sl, rf, df, pn, nb⟩ N X) : OP T (⟨some d, .mkls 1 [z] [(0, 1, x)], g, may⟩ :: r) ⟨sl, rf, df, pn, nb⟩ N X := by
 refine o_mkls (cs := [.d a]) (ds := [a]) (es := [[a]]) hg ?_ rfl (by decide) (by exact Nat.le_of_ble_eq_true rfl) (by simp [chunks]) h
 simp only [fillA, hx, AV.cells]
 rfl
theorem o_mkls2 {z z' : AV} {x y : Opd} {a b : D} (hg : wantedL sl g = some true) (hx : getO sl x = some (.d a)) (hy : getO sl y = some (.d b)) (h : OP T r ⟨(d, .own [[a], [b]]) :: sl, rf, df, pn, nb⟩ N X) : OP T (⟨some d, .mkls 1 [z, z'] [(0, 1, x), (1, 1, y)], g, may⟩ :: r) ⟨sl, rf, df, pn, nb⟩ N X := by
 refine o_mkls (cs := [.d a, .d b]) (ds := [a, b]) (es := [[a], [b]]) hg ?_ rfl (by decide) (by exact Nat.le_of_ble_eq_true rfl) (by simp [chunks]) h
 simp only [fillA, hx, hy, AV.cells]
 rfl
theorem o_mklsa {sz : Nat} {zero : List AV} {x : Opd} {cs : List AV} {ds : List D} (hg : wantedL sl g = some true) (hx : getO sl x = some (.agg cs)) (hc : cs.length = sz) (hz : zero.length = sz) (hs : 0 < sz) (hl : sz ≤ lim) (hd : toDs cs = some ds)
  (h : OP T r ⟨(d, .own [ds]) :: sl, rf, df, pn, nb⟩ N X) : OP T (⟨some d, .mkls sz zero [(0, sz, x)], g, may⟩ :: r) ⟨sl, rf, df, pn, nb⟩ N X := by
 have hset : ∀ (l m : List AV) (pre : List AV), l.length = m.length → setRange (pre ++ l) pre.length m = pre ++ m := by
  intro l
  induction l with
  | nil => intro m pre hl; cases m <;> simp at hl; simp [setRange]
  | cons x l ih =>
    intro m pre hl
    cases m with
    | nil => simp at hl
    | cons y m =>
      simp only [setRange]
      have := ih m (pre ++ [y]) (by simpa using hl)
      simp only [List.append_assoc, List.cons_append, List.nil_append, List.length_append, List.length_cons, List.length_nil] at this
      rw [← this]
      congr 1
      simp
 have hlen : ∀ {l : List AV} {m : List D}, toDs l = some m → m.length = l.length := fun {l} => by
  induction l with
  | nil => intro m h; simp [toDs] at h; subst h; rfl
  | cons x l ih =>
    intro m h
    simp only [toDs] at h
    split at h
    ·rename_i y ys _ h2; cases h; simp [ih h2]
    ·cases h
 have hdl : ds.length = sz := by rw [hlen hd, hc]
 refine o_mkls (cs := cs) (ds := ds) (es := [ds]) hg ?_ hd hs (by omega) ?_ h
 ·have := hset zero cs [] (by omega)
  simp only [List.nil_append, List.length_nil] at this
  simp only [fillA, hx, AV.cells, this, AV.solid]
  rw [if_pos ⟨hc, by omega, trivial⟩]
 ·rw [hdl, Nat.div_self hs]
  simp only [chunks]
  rw [List.take_of_length_le (by omega)]
theorem o_build {zero : List AV} {parts : List (Nat × Nat × Opd)} {cs : List AV} (hg : wantedL sl g = some true) (hf : fillA sl zero parts = some cs) (h : OP T r ⟨(d, .agg cs) :: sl, rf, df, pn, nb⟩ N X) : OP T (⟨some d, .build zero parts, g, may⟩ :: r) ⟨sl, rf, df, pn, nb⟩ N X :=
 o_pure hg (by simp only [stepOp, hf]; rfl) h
theorem o_same {t : Nat} {e : List D} {es : List (List D)} (hg : wantedL sl g = some true) (hx : sl.get t = some (.own (e :: es))) (h : OP T r ⟨(d, .own (e :: es)) :: (t, .d (.lst (e :: es))) :: sl, rf, df, pn, nb⟩ N X) : OP T (⟨some d, .same (.t t), g, may⟩ :: r) ⟨sl, rf, df, pn, nb⟩ N X := by
 refine op_val (v := .own (e :: es)) (s' := ⟨(t, .d (.lst (e :: es))) :: sl, rf, df, pn, nb⟩) ((wantedL_eq _ _).trans hg) ?_ h
 simp only [stepOp, rawO, hx, unOwn]
 rfl
theorem o_appo {sz t : Nat} {y : Opd} {v : AV} {es ys : List (List D)} (hg : wantedL sl g = some true) (hx : sl.get t = some (.own es)) (hy : getO sl y = some v) (hv : v.elems? = some ys) (hl : es.length + ys.length ≤ lim) (h1 : sizesB sz es = true) (h2 : sizesB sz ys = true)
  (h : OP T r ⟨(d, .own (es ++ ys)) :: (t, .d (.lst es)) :: sl, rf, df, pn, nb⟩ N X) : OP T (⟨some d, .append sz (.t t) y, g, may⟩ :: r) ⟨sl, rf, df, pn, nb⟩ N X := by
 refine op_val (v := .own (es ++ ys)) (s' := ⟨(t, .d (.lst es)) :: sl, rf, df, pn, nb⟩) ((wantedL_eq _ _).trans hg) ?_ h
 simp only [stepOp, rawO, hx, hy, appendA, hv, unOwn]
 rw [if_pos ⟨hl, h1, h2⟩]
 rfl
theorem o_appn {sz t : Nat} {y : Opd} {v : AV} {e : List D} {ys : List (List D)} (hg : wantedL sl g = some true) (hx : sl.get t = some .nil) (hy : getO sl y = some v) (hv : v.elems? = some (e :: ys)) (hl : (e :: ys).length ≤ lim) (h2 : sizesB sz (e :: ys) = true)
  (h : OP T r ⟨(d, .own (e :: ys)) :: sl, rf, df, pn, nb⟩ N X) : OP T (⟨some d, .append sz (.t t) y, g, may⟩ :: r) ⟨sl, rf, df, pn, nb⟩ N X := by
 refine o_pure hg ?_ h
 simp only [stepOp, rawO, hx, hy, appendA, hv, unOwn]
 rw [if_pos ⟨hl, h2⟩]
theorem o_bytesStr {x : Opd} {v : AV} {es : List (List D)} {l : List UInt8} (hg : wantedL sl g = some true) (hx : getO sl x = some v) (hv : v.list? = some es) (hs : strOf es = some l) (h : OP T r ⟨(d, .d (.str l)) :: sl, rf, df, pn, nb⟩ N X) : OP T (⟨some d, .bytesStr x, g, may⟩ :: r) ⟨sl, rf, df, pn, nb⟩ N X :=
 o_pure hg (by simp only [stepOp, hx, hv, hs]; rfl) h
theorem o_strBytes {x : Opd} {c : UInt8} {l : List UInt8} (hg : wantedL sl g = some true) (hx : getO sl x = some (.d (.str (c :: l)))) (h : OP T r ⟨(d, .own (bytesOf (c :: l))) :: sl, rf, df, pn, nb⟩ N X) : OP T (⟨some d, .strBytes x, g, may⟩ :: r) ⟨sl, rf, df, pn, nb⟩ N X :=
 o_pure hg (by simp only [stepOp, hx]; rfl) h
theorem o_cat {x y : Opd} {a b : List UInt8} (hg : wantedL sl g = some true) (hx : getO sl x = some (.d (.str a))) (hy : getO sl y = some (.d (.str b))) (hl : a.length + b.length ≤ lim) (h : OP T r ⟨(d, .d (.str (a ++ b))) :: sl, rf, df, pn, nb⟩ N X) : OP T (⟨some d, .bin .add x y, g, may⟩ :: r) ⟨sl, rf, df, pn, nb⟩ N X :=
 o_bin hg hx hy (v := .d (.str (a ++ b))) (by simp only [binA, strBin]; rw [if_pos hl]) h
theorem o_eqs {x y : Opd} {a b : List UInt8} (hg : wantedL sl g = some true) (hx : getO sl x = some (.d (.str a))) (hy : getO sl y = some (.d (.str b))) (h : OP T r ⟨(d, .d (.bool (decide (a = b)))) :: sl, rf, df, pn, nb⟩ N X) : OP T (⟨some d, .bin .eql x y, g, may⟩ :: r) ⟨sl, rf, df, pn, nb⟩ N X :=
 o_bin hg hx hy (v := .d (.bool (decide (a = b)))) (by
  simp only [binA, strBin]
  congr 3
  rw [Bool.eq_iff_iff]; simp) h
theorem o_nes {x y : Opd} {a b : List UInt8} (hg : wantedL sl g = some true) (hx : getO sl x = some (.d (.str a))) (hy : getO sl y = some (.d (.str b))) (h : OP T r ⟨(d, .d (.bool (decide (a ≠ b)))) :: sl, rf, df, pn, nb⟩ N X) : OP T (⟨some d, .bin .neq x y, g, may⟩ :: r) ⟨sl, rf, df, pn, nb⟩ N X :=
 o_bin hg hx hy (v := .d (.bool (decide (a ≠ b)))) (by
  simp only [binA, strBin]
  congr 3
  rw [Bool.eq_iff_iff]; simp) h
theorem o_extr {x : Opd} {i : Nat} {vs : List AV} {v : AV} (hg : wantedL sl g = some true) (hx : getO sl x = some (.tup vs)) (hv : vs[i]? = some v) (h : OP T r ⟨(d, v) :: sl, rf, df, pn, nb⟩ N X) : OP T (⟨some d, .extr x i, g, may⟩ :: r) ⟨sl, rf, df, pn, nb⟩ N X :=
 o_pure hg (by simp only [stepOp, hx, hv]; rfl) h
theorem o_store1 {a x : Opd} {q off : Nat} {y : D} {cs us : List AV} {rf' : Refs} (hg : wantedL sl g = some true) (ha : getO sl a = some (.ptr q off)) (hx : rawO sl x = some (.d y))
  (hr : rf[q]? = some cs) (hn : off < cs.length) (hu : cs.set off (.d y) = us) (hrf : rf.set q us = rf') (h : OP T r ⟨sl, rf', df, pn, nb⟩ N X) (hm : isMp cs = false := by rfl) :
  OP T (⟨none, .store 1 a x, g, may⟩ :: r) ⟨sl, rf, df, pn, nb⟩ N X := by
 subst hu hrf
 exact o_store hg ha hx (fun _ h => by cases h) rfl rfl rfl hr (by omega) (.inl (by simp [AV.cellsO, AV.refBs, AV.refB])) rfl h hm
theorem o_idxSx {x i : Opd} {l : List UInt8} {k : IntKind} {n : Int} {m : Nat} (hg : wantedL sl g = some true) (hx : getO sl x = some (.d (.str l))) (hi : getO sl i = some (.d (.int k n))) (hn : n = (m : Int)) (hm : m < l.length)
  (h : ∀ b : UInt8, l[m]? = some b → OP T r ⟨(d, .d (.int .u8 b.toNat)) :: sl, rf, df, pn, nb⟩ N X) : OP T (⟨some d, .idxS x i, g, may⟩ :: r) ⟨sl, rf, df, pn, nb⟩ N X :=
 o_idxS hg hx hi hn (List.getElem?_eq_getElem hm) (h _ (List.getElem?_eq_getElem hm))
theorem o_sub0 {x : Opd} {lo : Opd} {k : IntKind} {n : Int} {i : Nat} {l : List UInt8} (hg : wantedL sl g = some true) (hx : getO sl x = some (.d (.str l))) (hlo : getO sl lo = some (.d (.int k n))) (hn : n = (i : Int)) (hi : i ≤ l.length)
  (h : OP T r ⟨(d, .d (.str (l.drop i))) :: sl, rf, df, pn, nb⟩ N X) : OP T (⟨some d, .sliceS x (some lo) none, g, may⟩ :: r) ⟨sl, rf, df, pn, nb⟩ N X := by
 have := o_sliceS (T := T) (rf := rf) (df := df) (pn := pn) (nb := nb) (N := N) (X := X) (r := r) (d := d) (may := may) (hi := none) (lo := some lo) (i := i) (j := l.length) hg hx (by subst hn; simp only [asIdx, hlo]; rw [if_pos (by omega)]; simp) rfl hi (Nat.le_refl _)
 rw [List.take_of_length_le (Nat.le_refl _)] at this
 exact this h
theorem o_sub2 {x : Opd} {lo hi : Opd} {k k' : IntKind} {n n' : Int} {i j : Nat} {l : List UInt8} (hg : wantedL sl g = some true) (hx : getO sl x = some (.d (.str l))) (hlo : getO sl lo = some (.d (.int k n))) (hhi : getO sl hi = some (.d (.int k' n'))) (hn : n = (i : Int)) (hn' : n' = (j : Int)) (hij : i ≤ j) (hj : j ≤ l.length)
  (h : OP T r ⟨(d, .d (.str ((l.take j).drop i))) :: sl, rf, df, pn, nb⟩ N X) : OP T (⟨some d, .sliceS x (some lo) (some hi), g, may⟩ :: r) ⟨sl, rf, df, pn, nb⟩ N X :=
 o_sliceS hg hx (by subst hn; simp only [asIdx, hlo]; rw [if_pos (by omega)]; simp) (by subst hn'; simp only [asIdx, hhi]; rw [if_pos (by omega)]; simp) hij hj h
theorem o_subh {x : Opd} {hi : Opd} {k' : IntKind} {n' : Int} {j : Nat} {l : List UInt8} (hg : wantedL sl g = some true) (hx : getO sl x = some (.d (.str l))) (hhi : getO sl hi = some (.d (.int k' n'))) (hn' : n' = (j : Int)) (hj : j ≤ l.length)
  (h : OP T r ⟨(d, .d (.str (l.take j))) :: sl, rf, df, pn, nb⟩ N X) : OP T (⟨some d, .sliceS x none (some hi), g, may⟩ :: r) ⟨sl, rf, df, pn, nb⟩ N X := by
 have := o_sliceS (T := T) (rf := rf) (df := df) (pn := pn) (nb := nb) (N := N) (X := X) (r := r) (d := d) (may := may) (lo := none) (hi := some hi) (i := 0) (j := j) (sl := sl) hg hx rfl (by subst hn'; simp only [asIdx, hhi]; rw [if_pos (by omega)]; simp) (Nat.zero_le _) hj
 exact this h
theorem o_fld {off : Nat} {agg : Option Nat} {x : Opd} {cs : List AV} {v : AV} (hg : wantedL sl g = some true) (hx : getO sl x = some (.agg cs)) (hv : partA agg cs off = some v) (h : OP T r ⟨(d, v) :: sl, rf, df, pn, nb⟩ N X) : OP T (⟨some d, .fld off agg x, g, may⟩ :: r) ⟨sl, rf, df, pn, nb⟩ N X :=
 o_pure hg (by simp only [stepOp, hx, hv]; rfl) h
theorem o_idxV {n sz : Nat} {agg : Option Nat} {x i : Opd} {cs : List AV} {v : AV} {k : IntKind} {m : Int} {j : Nat} (hg : wantedL sl g = some true) (hx : getO sl x = some (.agg cs)) (hi : getO sl i = some (.d (.int k m))) (hm : m = (j : Int)) (hj : j < n) (hv : partA agg cs (j * sz) = some v) (h : OP T r ⟨(d, v) :: sl, rf, df, pn, nb⟩ N X) : OP T (⟨some d, .idxV n sz agg x i, g, may⟩ :: r) ⟨sl, rf, df, pn, nb⟩ N X := by
 refine o_pure hg ?_ h
 subst hm
 simp only [stepOp, hx, hi]
 rw [if_neg (by omega)]
 simp only [Int.toNat_natCast, hv]
 rfl
theorem o_eqc {ne : Bool} {ks : List PK} {x y : Opd} {a b : List AV} {t : Bool} (hg : wantedL sl g = some true) (hx : getO sl x = some (.agg a)) (hy : getO sl y = some (.agg b)) (ht : eqCells ks a b = some t) (h : OP T r ⟨(d, .d (.bool (t != ne))) :: sl, rf, df, pn, nb⟩ N X) : OP T (⟨some d, .eqc ne ks x y, g, may⟩ :: r) ⟨sl, rf, df, pn, nb⟩ N X :=
 o_pure hg (by simp only [stepOp, hx, hy, ht]; rfl) h
theorem o_beq {ne : Bool} {x y : Opd} {a b : Bool} (hg : wantedL sl g = some true) (hx : getO sl x = some (.d (.bool a))) (hy : getO sl y = some (.d (.bool b))) (h : OP T r ⟨(d, .d (.bool ((a == b) != ne))) :: sl, rf, df, pn, nb⟩ N X) : OP T (⟨some d, .beq ne x y, g, may⟩ :: r) ⟨sl, rf, df, pn, nb⟩ N X :=
 o_pure hg (by simp only [stepOp, hx, hy]; rfl) h
theorem o_not {x : Opd} {a : Bool} (hg : wantedL sl g = some true) (hx : getO sl x = some (.d (.bool a))) (h : OP T r ⟨(d, .d (.bool (!a))) :: sl, rf, df, pn, nb⟩ N X) : OP T (⟨some d, .un .not x, g, may⟩ :: r) ⟨sl, rf, df, pn, nb⟩ N X :=
 o_pure hg (by simp only [stepOp, hx]; rfl) h
theorem o_mkfn {f : Fn} {first cap : List Opd} {a b : List AV} (hg : wantedL sl g = some true) (h1 : getOs sl first = some a) (h2 : getOs sl cap = some b) (h : OP T r ⟨(d, .fn f a b) :: sl, rf, df, pn, nb⟩ N X) : OP T (⟨some d, .mkfn f first cap, g, may⟩ :: r) ⟨sl, rf, df, pn, nb⟩ N X :=
 o_pure hg (by simp only [stepOp, h1, h2]; rfl) h
theorem o_callc {f : Opd} {aa : List Opd} {id : FuncId} {first cap vs : List AV} {v : AV} {rf' : Refs} (hg : wantedL sl g = some true) (hf : getO sl f = some (.fn (.func id) first cap)) (ha : (getOs sl aa).map (fun us => AV.bargs (first ++ us ++ cap)) = some vs)
  (he : Ev T id vs rf (.ret v) rf') (h : OP T r ⟨(d, v) :: sl, rf', df, pn, nb⟩ N X) : OP T (⟨some d, .call f aa, g, may⟩ :: r) ⟨sl, rf, df, pn, nb⟩ N X := by
 cases hh : getOs sl aa with
 | none => rw [hh] at ha; cases ha
 | some us =>
   rw [hh] at ha
   cases ha
   exact op_call (s := ⟨sl, rf, df, pn, nb⟩) ((wantedL_eq _ _).trans hg) hf hh he h
theorem o_callz {f : Opd} {aa : List Opd} {id : FuncId} {vs : List AV} {v : AV} {rf' : Refs} (hg : wantedL sl g = some true) (hf : getO sl f = some (.fn (.func id) [] [])) (ha : (getOs sl aa).map AV.bargs = some vs) (hz : AV.refBs vs = 0)
  (he : Ev T id vs [] (.ret v) rf') (h : OP T r ⟨(d, v) :: sl, rf, df, pn, nb⟩ N X) (hvz : v.refB = 0 := by rfl) : OP T (⟨some d, .callZ f aa, g, may⟩ :: r) ⟨sl, rf, df, pn, nb⟩ N X := by
 cases hh : getOs sl aa with
 | none => rw [hh] at ha; cases ha
 | some us =>
   rw [hh] at ha
   cases ha
   exact op_callZ (s := ⟨sl, rf, df, pn, nb⟩) ((wantedL_eq _ _).trans hg) hf hh (by simpa using hz) (by simpa using he) hvz h
inductive KeepN (keep : List Nat) (N : St → Prop) (s : St) : Prop
 | mk (h : N { s with sl := s.sl.keep keep })
theorem wp_keep {keep : List Nat} {b : AC} {s : St} (h : WP T b s (KeepN keep N) X) : WP T (.trim keep b) s N X :=
 wp_trim (h.mono (fun _ h => h.1) (fun _ _ h => h))
theorem keepN {keep : List Nat} {sl' : Slots} (hk : sl.keep keep = sl') (h : N ⟨sl', rf, df, pn, nb⟩) : KeepN keep N ⟨sl, rf, df, pn, nb⟩ := by
 subst hk
 exact ⟨h⟩
end
end Go.Ab
namespace Go.Ab
abbrev DF := List (AV × List AV)
abbrev PN := Option (Option AV)
abbrev KN := Slots → Refs → DF → PN → Prop
abbrev KX := Ex → Slots → Refs → DF → PN → Prop
/-! things that are to be shown -/
structure CondE (b : Bool) (A B : Prop) : Prop where
 h1 : b = true → A
 h2 : b = false → B
inductive CallE (T : Tb) (f : FuncId) (args : List AV) (rf : Refs) (k : Out → Refs → Prop) : Prop
 | mk (o : Out) (rf' : Refs) (h : Ev T f args rf o rf') (h' : k o rf')
structure WrE (q : IntKind) (n : Int) (c : Int → Prop) : Prop where
 h : c (q.wrap n)
structure QuoE (q : IntKind) (a b : Int) (c : Int → Prop) : Prop where
 h0 : b ≠ 0
 h : c (q.wrap (a.tdiv b))
structure RemE (a b : Int) (c : Int → Prop) : Prop where
 h0 : b ≠ 0
 h : c (a.tmod b)
inductive BitE (op : BinOp) (q : IntKind) (a b : Int) (c : Int → Prop) : Prop
 | mk (n : Int) (h : binA op (.d (.int q a)) (.d (.int q b)) = some (.d (.int q n))) (h' : c n)
inductive ShE (op : BinOp) (q q' : IntKind) (a b : Int) (c : Int → Prop) : Prop
 | mk (n : Int) (h : binA op (.d (.int q a)) (.d (.int q' b)) = some (.d (.int q n))) (h' : c n)
structure CatE (a b : List UInt8) (c : List UInt8 → Prop) : Prop where
 h0 : a.length + b.length ≤ lim
 h : c (a ++ b)
inductive EqcE (ks : List PK) (a b : List AV) (c : Bool → Prop) : Prop
 | mk (t : Bool) (h : eqCells ks a b = some t) (h' : c t)
inductive NilE (nk : Nat) (a : AV) (c : Bool → Prop) : Prop
 | mk (t : Bool) (h : eqNilA nk a = some t) (h' : c t)
inductive UnE (op : UnOp) (q : IntKind) (a : Int) (c : Int → Prop) : Prop
 | mk (n : Int) (h : unA op (.d (.int q a)) = some (.d (.int q n))) (h' : c n)
structure BytesE (l : List UInt8) (c : AV → Prop) : Prop where
 h0 : l = [] → c (.d (.lst []))
 h1 : l ≠ [] → c (.own (bytesOf l))
inductive StrE (es : List (List D)) (c : List UInt8 → Prop) : Prop
 | mk (l : List UInt8) (h : strOf es = some l) (h' : c l)
inductive SubE (l : List UInt8) (lo hi : Option Int) (c : List UInt8 → Prop) : Prop
 | mk (i j : Nat) (h1 : lo.getD 0 = i) (h2 : hi.getD l.length = j) (h3 : i ≤ j) (h4 : j ≤ l.length) (h : c ((l.take j).drop i))
inductive SubL (sz : Nat) (l : List (List D)) (lo hi : Option Int) (c : List (List D) → Prop) : Prop
 | mk (i j : Nat) (h1 : lo.getD 0 = i) (h2 : hi.getD l.length = j) (h3 : i ≤ j) (h4 : j ≤ l.length) (h5 : sizesB sz l = true) (h : c ((l.take j).drop i))
inductive SubA (n : Nat) (lo hi : Option Int) (c : Nat → Nat → Prop) : Prop
 | mk (i j : Nat) (h1 : lo.getD 0 = i) (h2 : hi.getD n = j) (h3 : i ≤ j) (h4 : j ≤ n) (h : c i j)
inductive IdxA (m : Nat) (n : Int) (c : Nat → Prop) : Prop
 | mk (i : Nat) (h1 : n = i) (h2 : i < m) (h : c i)
inductive IdxL (sz : Nat) (es : List (List D)) (n : Int) (c : List D → Prop) : Prop
 | mk (i : Nat) (cs : List D) (h1 : n = i) (h2 : es[i]? = some cs) (h3 : cs.length = sz) (h : c cs)
inductive IdxS (l : List UInt8) (n : Int) (c : UInt8 → Prop) : Prop
 | mk (i : Nat) (b : UInt8) (h1 : n = i) (h2 : l[i]? = some b) (h : c b)
inductive AppE (sz : Nat) (es ys : List (List D)) (c : List (List D) → Prop) : Prop
 | mk (h1 : es.length + ys.length ≤ lim) (h2 : sizesB sz es = true) (h3 : sizesB sz ys = true) (h : c (es ++ ys))
structure AppN (sz : Nat) (ys : List (List D)) (c : AV → Prop) : Prop where
 h1 : ys.length ≤ lim
 h2 : sizesB sz ys = true
 h3 : ys = [] → c .nil
 h4 : ys ≠ [] → c (.own ys)
inductive CopyE (n : Nat) (cs : List AV) (off : Nat) (es : List (List D)) (c : Nat → List AV → Prop) : Prop
 | mk (h1 : off + Nat.min es.length n ≤ cs.length) (h2 : (es.all fun e => e.length == 1) = true)
   (h : c (Nat.min es.length n) (setRange cs off ((es.take (Nat.min es.length n)).map fun e => AV.d (e.headD .nilp))))
structure EndE (v : Out) (rf : Refs) (o : Out) (rf' : Refs) : Prop where
 h1 : v = o
 h2 : rf = rf'
inductive LoopE (T : Tb) (keep : List Nat) (b : AC) (sl : Slots) (rf : Refs) (df : DF) (pn : PN) (nb : Nat) (X : KX) : Prop
 | mk (h : LP T keep rf.length b ⟨sl, rf, df, pn, nb⟩ (fun e s => s.nb = nb ∧ X e s.sl s.rf s.df s.pn))
inductive HoleE : Prop
inductive FindE (pk : PK) (x : D) (kvs : List AV) (c : Option (Nat × AV) → Prop) : Prop
 | mk (q : Option (Nat × AV)) (h : findK pk x kvs 0 = some q) (h' : c q)
inductive EntE (n : Int) (kvs : List AV) (c : Nat → Prop) : Prop
 | mk (i : Nat) (h1 : n = i) (h2 : 2 * i + 1 < kvs.length) (h : c i)
inductive MkSE (n : Int) (c : Nat → Prop) : Prop
 | mk (i : Nat) (h1 : n = i) (h2 : i ≤ lim) (h : c i)
/-! lookups, with what goes on -/
def lk : Slots → Nat → (AV → Prop) → Prop
 | [], _, _ => False
 | (i, v) :: r, n, k => match Nat.beq i n with
   | true => k v
   | false => lk r n k
def raw (sl : Slots) (x : Opd) (k : AV → Prop) : Prop :=
 match x with
 | .t n => lk sl n k
 | .c v => k v
 | .f id => k (.fn (.func id) [] [])
mutual
def fz : AV → (AV → Prop) → Prop
 | .own es, k => k (.d (.lst es))
 | .agg cs, k => fzs cs fun cs' => k (.agg cs')
 | .ifc t v, k => fz v fun v' => k (.ifc t v')
 | .tup vs, k => fzs vs fun vs' => k (.tup vs')
 | .d x, k => k (.d x)
 | .nil, k => k .nil
 | .ptr r o, k => k (.ptr r o)
 | .ept c o, k => k (.ept c o)
 | .sref r o n, k => k (.sref r o n)
 | .mp r, k => k (.mp r)
 | .fn f a b, k => k (.fn f a b)
def fzs : List AV → (List AV → Prop) → Prop
 | [], k => k []
 | v :: r, k => fz v fun v' => fzs r fun r' => k (v' :: r')
end
mutual
def bareK : AV → (AV → Prop) → Prop
 | .own es, k => k (.d (.lst es))
 | .nil, k => k (.d (.lst []))
 | .agg cs, k => baresK cs fun cs' => k (.agg cs')
 | .ifc t v, k => bareK v fun v' => k (.ifc t v')
 | .tup vs, k => k (.tup vs)
 | .d x, k => k (.d x)
 | .ptr r o, k => k (.ptr r o)
 | .ept c o, k => k (.ept c o)
 | .sref r o n, k => k (.sref r o n)
 | .mp r, k => k (.mp r)
 | .fn f a b, k => k (.fn f a b)
def baresK : List AV → (List AV → Prop) → Prop
 | [], k => k []
 | v :: r, k => bareK v fun v' => baresK r fun r' => k (v' :: r')
end
def bargK : AV → (AV → Prop) → Prop
 | .nil, k => k .nil
 | .own es, k => k (.d (.lst es))
 | .agg cs, k => baresK cs fun cs' => k (.agg cs')
 | .ifc t v, k => bareK v fun v' => k (.ifc t v')
 | .tup vs, k => k (.tup vs)
 | .d x, k => k (.d x)
 | .ptr r o, k => k (.ptr r o)
 | .ept c o, k => k (.ept c o)
 | .sref r o n, k => k (.sref r o n)
 | .mp r, k => k (.mp r)
 | .fn f a b, k => k (.fn f a b)
def bargsK : List AV → (List AV → Prop) → Prop
 | [], k => k []
 | v :: r, k => bargK v fun v' => bargsK r fun r' => k (v' :: r')
def gv (sl : Slots) (x : Opd) (k : AV → Prop) : Prop := raw sl x fun v => fz v k
def gvs (sl : Slots) : List Opd → (List AV → Prop) → Prop
 | [], k => k []
 | x :: r, k => gv sl x fun v => gvs sl r fun vs => k (v :: vs)
def nthK {α : Type} : List α → Nat → (α → Prop) → Prop
 | [], _, _ => False
 | a :: _, 0, k => k a
 | _ :: r, n + 1, k => nthK r n k
def setK {α : Type} : List α → Nat → α → (List α → Prop) → Prop
 | [], _, _, _ => False
 | _ :: r, 0, v, k => k (v :: r)
 | a :: r, n + 1, v, k => setK r n v fun r' => k (a :: r')
def takeK {α : Type} : Nat → List α → (List α → Prop) → Prop
 | 0, _, k => k []
 | _ + 1, [], _ => False
 | n + 1, a :: r, k => takeK n r fun r' => k (a :: r')
def subK {α : Type} : Nat → Nat → List α → (List α → Prop) → Prop
 | 0, n, l, k => takeK n l k
 | _ + 1, _, [], _ => False
 | i + 1, n, _ :: l, k => subK i n l k
def takeS {α : Type} : Nat → List α → (List α → Prop) → Prop
 | 0, _, k => k []
 | _ + 1, [], k => k []
 | n + 1, a :: r, k => takeS n r fun r' => k (a :: r')
def ovrK : List AV → List AV → (List AV → Prop) → Prop
 | [], cs, k => k cs
 | _ :: _, [], _ => False
 | v :: vs, _ :: cs, k => ovrK vs cs fun r => k (v :: r)
def splK : Nat → List AV → List AV → (List AV → Prop) → Prop
 | 0, cs, vs, k => ovrK vs cs k
 | _ + 1, [], _, _ => False
 | n + 1, c :: cs, vs, k => splK n cs vs fun r => k (c :: r)
def appK {α : Type} : List α → α → (List α → Prop) → Prop
 | [], x, k => k [x]
 | a :: r, x, k => appK r x fun r' => k (a :: r')
def lenK {α : Type} : List α → Nat → (Nat → Prop) → Prop
 | [], n, k => k n
 | _ :: r, n, k => lenK r (n + 1) k
def ccK {α : Type} : List α → List α → (List α → Prop) → Prop
 | [], m, k => k m
 | a :: r, m, k => ccK r m fun r' => k (a :: r')
def mapD : List D → (List AV → Prop) → Prop
 | [], k => k []
 | x :: r, k => mapD r fun r' => k (.d x :: r')
def keepK (sl : Slots) : List Nat → (Slots → Prop) → Prop
 | [], k => k []
 | n :: ns, k => lkO sl n (fun v => keepK sl ns fun r => k ((n, v) :: r)) (keepK sl ns k)
where
 lkO : Slots → Nat → (AV → Prop) → Prop → Prop
 | [], _, _, e => e
 | (i, v) :: r, n, k, e => match Nat.beq i n with
   | true => k v
   | false => lkO r n k e
def unK (sl : Slots) (x : Opd) (v : AV) (k : Slots → Prop) : Prop :=
 match x, v with
 | .t n, .own es => k ((n, .d (.lst es)) :: sl)
 | _, _ => k sl
def ifK (b : Bool) (p : Prop) : Prop := match b with
 | true => p
 | false => False
def cellsK (v : AV) (k : List AV → Prop) : Prop := match v with
 | .agg cs => k cs
 | .tup _ => False
 | .own es => k [.own es]
 | .d x => k [.d x]
 | .nil => k [.nil]
 | .ptr r o => k [.ptr r o]
 | .ept c o => k [.ept c o]
 | .sref r o n => k [.sref r o n]
 | .mp r => k [.mp r]
 | .fn f a b => k [.fn f a b]
 | .ifc t v => k [.ifc t v]
def fillK (sl : Slots) (cs : List AV) : List (Nat × Nat × Opd) → (List AV → Prop) → Prop
 | [], k => k cs
 | (off, size, x) :: r, k => gv sl x fun v => cellsK v fun vs => lenK vs 0 fun n => ifK (Nat.beq n size) (splK off cs vs fun cs' => fillK sl cs' r k)
def toDsK : List AV → (List D → Prop) → Prop
 | [], k => k []
 | v :: r, k => match v with
   | .d x => toDsK r fun r' => k (x :: r')
   | .nil => toDsK r fun r' => k (.lst [] :: r')
   | .own es => toDsK r fun r' => k (.lst es :: r')
   | _ => False
def chK (sz : Nat) : Nat → List D → (List (List D) → Prop) → Prop
 | 0, _, k => k []
 | n + 1, l, k => takeS sz l fun a => dropS sz l fun b => chK sz n b fun r => k (a :: r)
where
 dropS : Nat → List D → (List D → Prop) → Prop
 | 0, l, k => k l
 | _ + 1, [], k => k []
 | n + 1, _ :: l, k => dropS n l k
def ldK (rf : Refs) (agg : Option Nat) (p : AV) (k : AV → Prop) : Prop :=
 match p with
 | .ptr r off => nthK rf r fun cs => ifK (!isMp cs) (match agg with
   | none => nthK cs off k
   | some n => subK off n cs fun l => k (.agg l))
 | .ept cs off => match agg with
   | none => nthK cs off fun x => k (.d x)
   | some n => subK off n cs fun l => mapD l fun l' => k (.agg l')
 | _ => False
def partK (agg : Option Nat) (cs : List AV) (off : Nat) (k : AV → Prop) : Prop :=
 match agg with
 | none => nthK cs off k
 | some n => subK off n cs fun l => k (.agg l)
def stK (rf : Refs) (nb sz : Nat) (a v : AV) (k : Refs → Prop) : Prop :=
 match a with
 | .ptr r off => fzA v fun v' => cellsK v' fun vs => lenK vs 0 fun n => ifK (Nat.beq n sz && vs.all AV.one && (Nat.ble (AV.refBs vs) (r + 1) || Nat.ble nb r))
   (nthK rf r fun cs => ifK (!isMp cs) (splK off cs vs fun cs' => setK rf r cs' k))
 | _ => False
where
 fzA (v : AV) (k : AV → Prop) : Prop := match v with
 | .agg cs => fzs cs fun cs' => k (.agg cs')
 | .tup _ => False
 | .own es => k (.own es)
 | .d x => k (.d x)
 | .nil => k .nil
 | .ptr r o => k (.ptr r o)
 | .ept c o => k (.ept c o)
 | .sref r o n => k (.sref r o n)
 | .mp r => k (.mp r)
 | .fn f a b => k (.fn f a b)
 | .ifc t v => k (.ifc t v)
def listK (v : AV) (k : List (List D) → Prop) : Prop := match v with
 | .d (.lst es) => k es
 | .own es => k es
 | .nil => k []
 | _ => False
def elemsK (v : AV) (k : List (List D) → Prop) : Prop := match v with
 | .d (.str s) => k (bytesOf s)
 | .d (.lst es) => k es
 | .own es => k es
 | .nil => k []
 | _ => False
def vint (op : BinOp) (q : IntKind) (a b : Int) (k : AV → Prop) : Prop :=
 match op with
 | .add => Unit → WrE q (a + b) fun n => k (.d (.int q n))
 | .sub => Unit → WrE q (a - b) fun n => k (.d (.int q n))
 | .mul => Unit → WrE q (a * b) fun n => k (.d (.int q n))
 | .quo => Unit → QuoE q a b fun n => k (.d (.int q n))
 | .rem => Unit → RemE a b fun n => k (.d (.int q n))
 | .and => Unit → BitE .and q a b fun n => k (.d (.int q n))
 | .or => Unit → BitE .or q a b fun n => k (.d (.int q n))
 | .xor => Unit → BitE .xor q a b fun n => k (.d (.int q n))
 | .andNot => Unit → BitE .andNot q a b fun n => k (.d (.int q n))
 | .eql => k (.d (.bool (decide (a = b))))
 | .neq => k (.d (.bool (decide (a ≠ b))))
 | .lss => k (.d (.bool (decide (a < b))))
 | .leq => k (.d (.bool (decide (a ≤ b))))
 | .gtr => k (.d (.bool (decide (b < a))))
 | .geq => k (.d (.bool (decide (b ≤ a))))
 | _ => False
def vstr (op : BinOp) (a b : List UInt8) (k : AV → Prop) : Prop :=
 match op with
 | .add => Unit → CatE a b fun l => k (.d (.str l))
 | .eql => k (.d (.bool (decide (a = b))))
 | .neq => k (.d (.bool (decide (a ≠ b))))
 | .lss => k (.d (.bool (Op.bytesLess a b)))
 | .leq => k (.d (.bool (Op.bytesLess a b || decide (a = b))))
 | .gtr => k (.d (.bool !(Op.bytesLess a b || decide (a = b))))
 | .geq => k (.d (.bool !(Op.bytesLess a b)))
 | _ => False
def kindEq : IntKind → IntKind → Bool := fun a b => decide (a = b)
def vbin (op : BinOp) (x y : AV) (k : AV → Prop) : Prop :=
 match x, y with
 | .d (.int q a), .d (.int q' b) =>
   match op with
   | .shl => Unit → ShE .shl q q' a b fun n => k (.d (.int q n))
   | .shr => Unit → ShE .shr q q' a b fun n => k (.d (.int q n))
   | op => ifK (kindEq q q') (vint op q a b k)
 | .d (.str a), .d (.str b) => vstr op a b k
 | _, _ => False
def optK (sl : Slots) (x : Option Opd) (k : Option Int → Prop) : Prop := match x with
 | none => k none
 | some x => gv sl x fun v => match v with
   | .d (.int _ n) => k (some n)
   | _ => False
def apK (sl : Slots) (r : Nat) : List Opd → Prop → Prop
 | [], p => p
 | x :: l, p => gv sl x fun v => match v with
   | .ptr q _ => match Nat.beq q r with
     | true => False
     | false => apK sl r l p
   | _ => False
def callK (T : Tb) (sl : Slots) (rf : Refs) (f : Opd) (args : List Opd) (k : Out → Refs → Prop) : Prop :=
 gv sl f fun fv => match fv with
  | .fn (.func id) first cap => gvs sl args fun vs => ccK vs cap fun l => ccK first l fun l => bargsK l fun l => Unit → CallE T id l rf k
  | _ => False
def setB : Slots → Nat → Bool → (Slots → Prop) → Prop
 | [], _, _, k => k []
 | (i, v) :: r, n, b, k => match Nat.beq i n with
   | true => k ((i, .d (.bool b)) :: r)
   | false => setB r n b fun r' => k ((i, v) :: r')
def setO (c : Opd) (sl : Slots) (b : Bool) (k : Slots → Prop) : Prop := match c with
 | .t n => setB sl n b k
 | _ => k sl
def kindB (pk : PK) (x : D) : Bool := match x.kind? with
 | some k => decide (k = pk)
 | none => false
def mapK (cs : List AV) (k : List AV → Prop) : Prop := match cs with
 | .tup [] :: kvs => k kvs
 | _ => False
def vop (T : Tb) (o : AOpk) (sl : Slots) (rf : Refs) (df : DF) (pn : PN) (nb : Nat) (kv : AV → KN) (kn : KN) (kp : AV → KN) : Prop :=
 match o with
 | .mov x => gv sl x fun v => kv v sl rf df pn
 | .take t => lk sl t fun v => unK sl (.t t) v fun sl' => kv v sl' rf df pn
 | .asg x => raw sl x fun v => unK sl x v fun sl' => kv v sl' rf df pn
 | .pick c a b => gv sl c fun v => match v with
   | .d (.bool t) => Unit → CondE t (gv sl a fun v => setO c sl true fun sl => kv v sl rf df pn) (gv sl b fun v => setO c sl false fun sl => kv v sl rf df pn)
   | _ => False
 | .alloc cells => lenK rf 0 fun n => appK rf cells fun rf' => kv (.ptr n 0) sl rf' df pn
 | .box x => gv sl x fun v => cellsK v fun cs => ifK (!isMp cs) (lenK rf 0 fun n => appK rf cs fun rf' => kv (.ptr n 0) sl rf' df pn)
 | .build zero parts => fillK sl zero parts fun cs => kv (.agg cs) sl rf df pn
 | .mkls sz zero parts => fillK sl zero parts fun cs => toDsK cs fun ds => lenK ds 0 fun n => ifK (Nat.ble 1 sz && Nat.ble n lim) (chK sz (n / sz) ds fun es => kv (.own es) sl rf df pn)
 | .load agg a => gv sl a fun p => ldK rf agg p fun v => fz v fun v => kv v sl rf df pn
 | .loadB agg a base => gv sl a fun p => gv sl base fun q => match p, q with
   | .ptr r off, .ptr r' _ => ifK (Nat.beq r r') (ldK rf agg (.ptr r off) fun v => fz v fun v => kv v sl rf df pn)
   | _, _ => False
 | .takeload a => gv sl a fun p => match p with
   | .ptr r off => nthK rf r fun cs => ifK (!isMp cs) (nthK cs off fun v => fz v fun v' => setK cs off v' fun cs' => setK rf r cs' fun rf' => kv v sl rf' df pn)
   | _ => False
 | .recheck _ _ _ => False
 | .store sz a v => gv sl a fun p => raw sl v fun x => stK rf nb sz p x fun rf' => unK sl v x fun sl' => kn sl' rf' df pn
 | .storeW sz a v ws => gv sl a fun p => raw sl v fun x => match p with
   | .ptr r off => apK sl r ws (stK rf nb sz (.ptr r off) x fun rf' => unK sl v x fun sl' => kn sl' rf' df pn)
   | _ => False
 | .nilchk x => gv sl x fun v => match v with
   | .ptr r off => kv (.ptr r off) sl rf df pn
   | .ept cs off => kv (.ept cs off) sl rf df pn
   | .fn (.func id) a b => kv (.fn (.func id) a b) sl rf df pn
   | _ => False
 | .bin op x y => gv sl x fun a => gv sl y fun b => vbin op a b fun v => kv v sl rf df pn
 | .beq ne x y => gv sl x fun a => gv sl y fun b => match a, b with
   | .d (.bool a), .d (.bool b) => kv (.d (.bool ((a == b) != ne))) sl rf df pn
   | _, _ => False
 | .eqc ne ks x y => gv sl x fun a => gv sl y fun b => match a, b with
   | .agg a, .agg b => Unit → EqcE ks a b fun t => kv (.d (.bool (t != ne))) sl rf df pn
   | _, _ => False
 | .eqnil nk ne x => gv sl x fun a => Unit → NilE nk a fun t => kv (.d (.bool (t != ne))) sl rf df pn
 | .un op x => gv sl x fun a => match op, a with
   | .not, .d (.bool b) => kv (.d (.bool !b)) sl rf df pn
   | .neg, .d (.int q n) => Unit → WrE q (0 - n) fun n => kv (.d (.int q n)) sl rf df pn
   | .xor, .d (.int q n) => Unit → UnE .xor q n fun n => kv (.d (.int q n)) sl rf df pn
   | _, _ => False
 | .toInt k x => gv sl x fun a => match a with
   | .d (.int _ n) => Unit → WrE k n fun n => kv (.d (.int k n)) sl rf df pn
   | _ => False
 | .ident x => gv sl x fun a => match a with
   | .d (.str l) => kv (.d (.str l)) sl rf df pn
   | _ => False
 | .same x => raw sl x fun a => match a with
   | .own (e :: es) => unK sl x (.own (e :: es)) fun sl' => kv (.own (e :: es)) sl' rf df pn
   | _ => False
 | .strBytes x => gv sl x fun a => match a with
   | .d (.str l) => Unit → BytesE l fun v => kv v sl rf df pn
   | _ => False
 | .bytesStr x => gv sl x fun a => listK a fun es => Unit → StrE es fun l => kv (.d (.str l)) sl rf df pn
 | .mkifc t x => gv sl x fun v => kv (.ifc t v) sl rf df pn
 | .mkfn f first cap => gvs sl first fun a => gvs sl cap fun b => kv (.fn f a b) sl rf df pn
 | .sliceS x lo hi => gv sl x fun a => match a with
   | .d (.str l) => optK sl lo fun lo => optK sl hi fun hi => Unit → SubE l lo hi fun l => kv (.d (.str l)) sl rf df pn
   | _ => False
 | .slice sz x lo hi => gv sl x fun a => listK a fun l => optK sl lo fun lo => optK sl hi fun hi => Unit → SubL sz l lo hi fun l => kv (.d (.lst l)) sl rf df pn
 | .slArr n x lo hi => gv sl x fun a => match a with
   | .ptr r off => optK sl lo fun lo => optK sl hi fun hi => Unit → SubA n lo hi fun i j => kv (.sref r (off + i) (j - i)) sl rf df pn
   | _ => False
 | .fldA off x => gv sl x fun a => match a with
   | .ptr r o => kv (.ptr r (o + off)) sl rf df pn
   | .ept cs o => kv (.ept cs (o + off)) sl rf df pn
   | _ => False
 | .fld off agg x => gv sl x fun a => match a with
   | .agg cs => partK agg cs off fun v => kv v sl rf df pn
   | _ => False
 | .idxA arr sz x i => gv sl i fun i => gv sl x fun a => match i, arr with
   | .d (.int _ n), some m => (match a with
     | .ptr r off => Unit → IdxA m n fun j => kv (.ptr r (off + j * sz)) sl rf df pn
     | .ept cs off => Unit → IdxA m n fun j => kv (.ept cs (off + j * sz)) sl rf df pn
     | _ => False)
   | .d (.int _ n), none => (match a with
     | .sref r off m => ifK (Nat.beq sz 1) (Unit → IdxA m n fun j => kv (.ptr r (off + j)) sl rf df pn)
     | a => listK a fun es => Unit → IdxL sz es n fun cs => kv (.ept cs 0) sl rf df pn)
   | _, _ => False
 | .idxS x i => gv sl x fun a => gv sl i fun i => match a, i with
   | .d (.str l), .d (.int _ n) => Unit → IdxS l n fun b => kv (.d (.int .u8 b.toNat)) sl rf df pn
   | _, _ => False
 | .idxV m sz agg x i => gv sl x fun a => gv sl i fun i => match a, i with
   | .agg cs, .d (.int _ n) => Unit → IdxA m n fun j => partK agg cs (j * sz) fun v => kv v sl rf df pn
   | _, _ => False
 | .assertT t zero x => gv sl x fun a => match a with
   | .ifc t' v => match Nat.beq t' t with
     | true => kv (.tup [v, .d (.bool true)]) sl rf df pn
     | false => kv (.tup [zero, .d (.bool false)]) sl rf df pn
   | .d .nilI => kv (.tup [zero, .d (.bool false)]) sl rf df pn
   | _ => False
 | .extr x i => gv sl x fun a => match a with
   | .tup vs => nthK vs i fun v => kv v sl rf df pn
   | _ => False
 | .call f args => callK T sl rf f args fun o rf' => match o with
   | .ret v => kv v sl rf' df pn
   | .pan v => kp v sl rf' df pn
 | .callZ f args => gv sl f fun fv => match fv with
   | .fn (.func id) first cap => gvs sl args fun vs => ccK vs cap fun l => ccK first l fun l => bargsK l fun l => ifK (Nat.beq (AV.refBs l) 0) (Unit → CallE T id l [] fun o _ => match o with
     | .ret v => ifK (Nat.beq v.refB 0) (kv v sl rf df pn)
     | .pan _ => False)
   | _ => False
 | .callQ f args => callK T sl rf f args fun o rf' => match o with
   | .ret v => rf' = rf ∧ kv v sl rf df pn
   | .pan _ => False
 | .lenS x => gv sl x fun a => match a with
   | .d (.str l) => kv (.d (.int .i64 l.length)) sl rf df pn
   | _ => False
 | .len x => gv sl x fun a => match a with
   | .sref _ _ n => kv (.d (.int .i64 n)) sl rf df pn
   | .d (.lst es) => kv (.d (.int .i64 es.length)) sl rf df pn
   | .nil => kv (.d (.int .i64 (0 : Nat))) sl rf df pn
   | _ => False
 | .lenArr n => kv (.d (.int .i64 n)) sl rf df pn
 | .append sz x y => raw sl x fun a => gv sl y fun b => elemsK b fun ys => match a with
   | .own es => Unit → AppE sz es ys fun es' => unK sl x (.own es) fun sl' => kv (.own es') sl' rf df pn
   | .nil => Unit → AppN sz ys fun v => kv v sl rf df pn
   | _ => False
 | .copy x y => gv sl x fun a => gv sl y fun b => match a with
   | .sref r off n => listK b fun es => nthK rf r fun cs => ifK (!isMp cs) <| Unit → CopyE n cs off es fun m cs' => setK rf r cs' fun rf' => kv (.d (.int .i64 m)) sl rf' df pn
   | _ => False
 | .min x y => gv sl x fun a => gv sl y fun b => match a, b with
   | .d (.int k a), .d (.int k' b) => ifK (kindEq k k') (kv (.d (.int k (min a b))) sl rf df pn)
   | _, _ => False
 | .max x y => gv sl x fun a => gv sl y fun b => match a, b with
   | .d (.int k a), .d (.int k' b) => ifK (kindEq k k') (kv (.d (.int k (max a b))) sl rf df pn)
   | _, _ => False
 | .recover => match pn with
   | some (some v) => fz v fun v => kv v sl rf df (some none)
   | some none => kv (.d .nilI) sl rf df (some none)
   | none => False
 | .defer f args => gv sl f fun fv => match fv with
   | .fn (.func id) first cap => gvs sl args fun vs => baresK vs fun vs => kn sl rf ((.fn (.func id) first cap, vs) :: df) pn
   | _ => False
 | .panic x => gv sl x fun a => match a with
   | .ifc t v => kp (.ifc t v) sl rf df pn
   | _ => False
 | .stuck => Unit → HoleE
 | .makeMap => lenK rf 0 fun n => appK rf [.tup []] fun rf' => kv (.mp n) sl rf' df pn
 | .lookup pk ok zero m k => gv sl m fun a => gv sl k fun b => match a, b with
   | .mp r, .d x => ifK (kindB pk x) (nthK rf r fun cs => mapK cs fun kvs => Unit → FindE pk x kvs fun q => match q with
     | some (_, v) => fz v fun v => (match ok with
       | true => kv (.tup [v, .d (.bool true)]) sl rf df pn
       | false => kv v sl rf df pn)
     | none => fz zero fun v => (match ok with
       | true => kv (.tup [v, .d (.bool false)]) sl rf df pn
       | false => kv v sl rf df pn))
   | _, _ => False
 | .mapSet pk m k v => gv sl m fun a => gv sl k fun b => gv sl v fun u => match a, b with
   | .mp r, .d x => ifK (kindB pk x && (Nat.ble u.refB (r + 1) || Nat.ble nb r)) (nthK rf r fun cs => mapK cs fun kvs => Unit → FindE pk x kvs fun q => match q with
     | some (i, _) => setK kvs (2 * i + 1) u fun kvs' => setK rf r (.tup [] :: kvs') fun rf' => kn sl rf' df pn
     | none => ccK kvs [.d x, u] fun kvs' => setK rf r (.tup [] :: kvs') fun rf' => kn sl rf' df pn)
   | _, _ => False
 | .mapEntry pk zero m k => gv sl m fun a => gv sl k fun b => match a, b with
   | .mp r, .d x => ifK (kindB pk x && Nat.beq zero.refB 0) (nthK rf r fun cs => mapK cs fun kvs => Unit → FindE pk x kvs fun q => match q with
     | some (i, v) => fz v fun v => kv (.tup [v, .d (.int .i64 i)]) sl rf df pn
     | none => fz zero fun z => lenK kvs 0 fun n => ccK kvs [.d x, z] fun kvs' => setK rf r (.tup [] :: kvs') fun rf' => kv (.tup [z, .d (.int .i64 (n / 2 : Nat))]) sl rf' df pn)
   | _, _ => False
 | .entrySet m st v => gv sl m fun a => gv sl st fun b => gv sl v fun u => match a, b with
   | .mp r, .d (.int _ n) => ifK (Nat.ble u.refB (r + 1) || Nat.ble nb r) (nthK rf r fun cs => mapK cs fun kvs => Unit → EntE n kvs fun i => setK kvs (2 * i + 1) u fun kvs' => setK rf r (.tup [] :: kvs') fun rf' => kn sl rf' df pn)
   | _, _ => False
 | .mkS cell n => gv sl n fun a => match a with
   | .d (.int _ m) => ifK cell.solid (Unit → MkSE m fun j => lenK rf 0 fun r => appK rf (List.replicate j cell) fun rf' => kv (.sref r 0 j) sl rf' df pn)
   | _ => False
 | .callO f pre x post => gv sl f fun fv => match fv with
   | .fn (.func id) first cap => gvs sl pre fun vs => raw sl x fun xv => gvs sl post fun ws => ccK first vs fun l => bargsK l fun l1 => ccK ws cap fun l => bargsK l fun l2 => ccK l1 (xv :: l2) fun l =>
     Unit → CallE T id l rf fun o rf' => unK sl x xv fun sl' => match o with
      | .ret v => kv v sl' rf' df pn
      | .pan v => kp v sl' rf' df pn
   | _ => False
def putK (dst : Option Nat) (v : AV) (sl : Slots) (k : Slots → Prop) : Prop :=
 match dst with
 | some d => k ((d, v) :: sl)
 | none => k sl
def putN (dst : Option Nat) (k : KN) : AV → KN := fun v sl rf df pn => putK dst v sl fun sl => k sl rf df pn
def panN (may : Bool) (X : KX) : AV → KN := fun v sl rf df pn => ifK may (X (.pan v) sl rf df pn)
def offN (dst : Option Nat) (k : KN) : KN := fun sl rf df pn => putK dst (.tup []) sl fun sl => k sl rf df pn
def onN (T : Tb) (nb : Nat) (dst : Option Nat) (op : AOpk) (may : Bool) (k : KN) (X : KX) : KN := fun sl rf df pn => vop T op sl rf df pn nb (putN dst k) k (panN may X)
def grdN (t : Nat) (w : Bool) (on off : KN) : KN := fun sl rf df pn => lk sl t fun g => match g with
 | .tup [] => off sl rf df pn
 | .d (.bool x) => (match w with
   | true => Unit → CondE x (setB sl t true fun sl => on sl rf df pn) (setB sl t false fun sl => off sl rf df pn)
   | false => Unit → CondE x (setB sl t true fun sl => off sl rf df pn) (setB sl t false fun sl => on sl rf df pn))
 | _ => False
def vops (T : Tb) (nb : Nat) (N : KN) (X : KX) : List AOp → KN
 | [] => N
 | ⟨dst, op, none, may⟩ :: r => onN T nb dst op may (vops T nb N X r) X
 | ⟨dst, op, some (t, w), may⟩ :: r => grdN t w (onN T nb dst op may (vops T nb N X r) X) (offN dst (vops T nb N X r))
def cndN (c : Opd) (t e : KN) : KN := fun sl rf df pn => gv sl c fun v => match v with
 | .d (.bool x) => Unit → CondE x (setO c sl true fun sl => t sl rf df pn) (setO c sl false fun sl => e sl rf df pn)
 | _ => False
def blkX (i : Nat) (N : KN) (X : KX) : KX := fun e sl rf df pn => match e with
 | .exit j => (match Nat.beq j i with
   | true => N sl rf df pn
   | false => X (.exit j) sl rf df pn)
 | .nrm => X .nrm sl rf df pn
 | .ret => X .ret sl rf df pn
 | .goto l => X (.goto l) sl rf df pn
 | .pan v => X (.pan v) sl rf df pn
def kepN (keep : List Nat) (N : KN) : KN := fun sl rf df pn => keepK sl keep fun sl => N sl rf df pn
def lopN (T : Tb) (nb : Nat) (keep : List Nat) (b : AC) (X : KX) : KN := fun sl rf df pn => keepK sl keep fun sl => Unit → LoopE T keep b sl rf df pn nb X
def holN : KN := fun _ _ _ _ => Unit → HoleE
def nogX (X : KX) : KX := fun e sl rf df pn => match e with
 | .goto _ => False
 | .exit i => X (.exit i) sl rf df pn
 | .nrm => X .nrm sl rf df pn
 | .ret => X .ret sl rf df pn
 | .pan v => X (.pan v) sl rf df pn
def scoX (l : Nat) (r : KN) (X : KX) : KX := fun e sl rf df pn => match e with
 | .goto j => (match Nat.beq j l with
   | true => r sl rf df pn
   | false => False)
 | .exit i => X (.exit i) sl rf df pn
 | .nrm => X .nrm sl rf df pn
 | .ret => X .ret sl rf df pn
 | .pan v => X (.pan v) sl rf df pn
/-! operations in a drawn order: each order comes to the same -/
abbrev DO := Ex × Slots × Refs × DF × PN
structure EqD (a b : DO) (c : Prop) : Prop where
 h : a = b
 h' : c
def pickK (l : List AOp) : List Nat → (List AOp → Prop) → Prop
 | [], k => k []
 | i :: r, k => nthK l i fun o => pickK l r fun r' => k (o :: r')
def stripK (sl : Slots) (rf : Refs) (t : Nat) (k : Refs → Prop) : Prop := lk sl t fun v => match v with
 | .ptr r _ => nthK rf r fun cs => ifK (!isMp cs) (fzs cs fun cs' => setK rf r cs' k)
 | _ => False
def nrmN (nk : List Nat) (K : DO → Prop) : KN := fun sl rf df pn => keepK sl nk fun sl => K (.nrm, sl, rf, df, pn)
def nrmX (pk : List Nat) (t : Nat) (K : DO → Prop) : KX := fun e sl rf df pn => match e with
 | .pan v => keepK sl pk fun sl => stripK sl rf t fun rf => K (.pan v, sl, rf, df, pn)
 | _ => False
def vD (T : Tb) (nb : Nat) (l : List AOp) (nk pk : List Nat) (t : Nat) (sl : Slots) (rf : Refs) (df : DF) (pn : PN) : List (List Nat) → (DO → Prop) → Prop
 | [], _ => False
 | [o], K => pickK l o fun l' => vops T nb (nrmN nk K) (nrmX pk t K) l' sl rf df pn
 | o :: o' :: r, K => pickK l o fun l' => vops T nb (nrmN nk fun a => vD T nb l nk pk t sl rf df pn (o' :: r) fun b => Unit → EqD a b (K b))
   (nrmX pk t fun a => vD T nb l nk pk t sl rf df pn (o' :: r) fun b => Unit → EqD a b (K b)) l' sl rf df pn
def finD (N : KN) (X : KX) : DO → Prop
 | (.nrm, sl, rf, df, pn) => N sl rf df pn
 | (.pan v, sl, rf, df, pn) => X (.pan v) sl rf df pn
 | _ => False
def vc (T : Tb) (nb : Nat) : AC → KN → KX → KN
 | .skip => fun N _ => N
 | .ops l => fun N X => vops T nb N X l
 | .opsD l ords nk pk t => fun N X sl rf df pn => vD T nb l nk pk t sl rf df pn ords (finD N X)
 | .seq a b => fun N X => vc T nb a (vc T nb b N X) X
 | .cond c t e => fun N X => cndN c (vc T nb t N X) (vc T nb e N X)
 | .block i b => fun N X => vc T nb b N (blkX i N X)
 | .loop keep b => fun _ X => lopN T nb keep b X
 | .exit i => fun _ X => X (.exit i)
 | .ret => fun _ X => X .ret
 | .trim keep b => fun N X => vc T nb b (kepN keep N) X
 | .hole => fun _ _ => holN
 | .label => fun N _ => N
 | .goto l => fun _ X => X (.goto l)
 | .scope l b r => fun N X => vc T nb b N (scoX l (vc T nb r N (nogX X)) X)
end Go.Ab
namespace Go.Ab
theorem lk_el : ∀ {sl : Slots} {n : Nat} {k : AV → Prop}, lk sl n k → ∃ v, sl.get n = some v ∧ k v
 | [], _, _, h => h.elim
 | (i, v) :: r, n, k, h => by
   simp only [lk] at h
   split at h <;> rename_i hb
   ·have := Nat.eq_of_beq_eq_true hb
    exact ⟨v, by simp [Slots.get, this], h⟩
   ·have : i ≠ n := by intro e; subst e; simp at hb
    obtain ⟨w, h1, h2⟩ := lk_el h
    exact ⟨w, by simp [Slots.get, this, h1], h2⟩
theorem raw_el {sl : Slots} {x : Opd} {k : AV → Prop} (h : raw sl x k) : ∃ v, rawO sl x = some v ∧ k v := by
 cases x with
 | t n => exact lk_el h
 | c v => exact ⟨v, rfl, h⟩
 | f id => exact ⟨_, rfl, h⟩
mutual
theorem fz_el' : ∀ (v : AV) (k : AV → Prop), fz v k → k v.strip
 | .own es, k, h => by simp only [fz] at h; simp only [AV.strip]; exact h
 | .agg cs, k, h => by simp only [fz] at h; simp only [AV.strip]; exact fzs_el' cs _ h
 | .ifc t v, k, h => by simp only [fz] at h; simp only [AV.strip]; exact fz_el' v _ h
 | .tup vs, k, h => by simp only [fz] at h; simp only [AV.strip]; exact fzs_el' vs _ h
 | .d x, k, h => by simp only [fz] at h; simp only [AV.strip]; exact h
 | .nil, k, h => by simp only [fz] at h; simp only [AV.strip]; exact h
 | .ptr r o, k, h => by simp only [fz] at h; simp only [AV.strip]; exact h
 | .ept c o, k, h => by simp only [fz] at h; simp only [AV.strip]; exact h
 | .sref r o n, k, h => by simp only [fz] at h; simp only [AV.strip]; exact h
 | .mp r, k, h => by simp only [fz] at h; simp only [AV.strip]; exact h
 | .fn f a b, k, h => by simp only [fz] at h; simp only [AV.strip]; exact h
theorem fzs_el' : ∀ (l : List AV) (k : List AV → Prop), fzs l k → k (AV.strips l)
 | [], k, h => by simp only [fzs] at h; simp only [AV.strips]; exact h
 | v :: r, k, h => by
   simp only [fzs] at h
   have h1 := fz_el' v _ h
   simp only [AV.strips]
   exact fzs_el' r _ h1
end
theorem fz_el {v : AV} {k : AV → Prop} (h : fz v k) : k v.strip := fz_el' v k h
theorem fzs_el {v : List AV} {k : List AV → Prop} (h : fzs v k) : k (AV.strips v) := fzs_el' v k h
mutual
theorem bareK_el' : ∀ (v : AV) (k : AV → Prop), bareK v k → k v.bare
 | .own es, k, h => by simp only [bareK] at h; simp only [AV.bare]; exact h
 | .agg cs, k, h => by simp only [bareK] at h; simp only [AV.bare]; exact baresK_el' cs _ h
 | .ifc t v, k, h => by simp only [bareK] at h; simp only [AV.bare]; exact bareK_el' v _ h
 | .tup vs, k, h => by simp only [bareK] at h; simp only [AV.bare]; exact h
 | .d x, k, h => by simp only [bareK] at h; simp only [AV.bare]; exact h
 | .nil, k, h => by simp only [bareK] at h; simp only [AV.bare]; exact h
 | .ptr r o, k, h => by simp only [bareK] at h; simp only [AV.bare]; exact h
 | .ept c o, k, h => by simp only [bareK] at h; simp only [AV.bare]; exact h
 | .sref r o n, k, h => by simp only [bareK] at h; simp only [AV.bare]; exact h
 | .mp r, k, h => by simp only [bareK] at h; simp only [AV.bare]; exact h
 | .fn f a b, k, h => by simp only [bareK] at h; simp only [AV.bare]; exact h
theorem baresK_el' : ∀ (l : List AV) (k : List AV → Prop), baresK l k → k (AV.bares l)
 | [], k, h => by simp only [baresK] at h; simp only [AV.bares]; exact h
 | v :: r, k, h => by
   simp only [baresK] at h
   have h1 := bareK_el' v _ h
   simp only [AV.bares]
   exact baresK_el' r _ h1
end
theorem bargK_el : ∀ (v : AV) (k : AV → Prop), bargK v k → k v.barg
 | .own es, k, h => h
 | .agg cs, k, h => by simp only [bargK] at h; simp only [AV.barg, AV.bare]; exact baresK_el' cs _ h
 | .ifc t v, k, h => by simp only [bargK] at h; simp only [AV.barg, AV.bare]; exact bareK_el' v _ h
 | .tup vs, k, h => h
 | .d x, k, h => h
 | .nil, k, h => h
 | .ptr r o, k, h => h
 | .ept c o, k, h => h
 | .sref r o n, k, h => h
 | .mp r, k, h => h
 | .fn f a b, k, h => h
theorem bargsK_el' : ∀ (l : List AV) (k : List AV → Prop), bargsK l k → k (AV.bargs l)
 | [], k, h => by simp only [bargsK] at h; simp only [AV.bargs]; exact h
 | v :: r, k, h => by
   simp only [bargsK] at h
   have h1 := bargK_el v _ h
   simp only [AV.bargs]
   exact bargsK_el' r _ h1
theorem bargsK_el {v : List AV} {k : List AV → Prop} (h : bargsK v k) : k (AV.bargs v) := bargsK_el' v k h
theorem bareK_el {v : AV} {k : AV → Prop} (h : bareK v k) : k v.bare := bareK_el' v k h
theorem baresK_el {v : List AV} {k : List AV → Prop} (h : baresK v k) : k (AV.bares v) := baresK_el' v k h
theorem gv_el {sl : Slots} {x : Opd} {k : AV → Prop} (h : gv sl x k) : ∃ v, getO sl x = some v ∧ k v := by
 obtain ⟨v, h1, h2⟩ := raw_el h
 exact ⟨v.strip, by simp [getO, h1], fz_el h2⟩
theorem gvs_el {sl : Slots} : ∀ {l : List Opd} {k : List AV → Prop}, gvs sl l k → ∃ vs, getOs sl l = some vs ∧ k vs
 | [], k, h => ⟨[], rfl, h⟩
 | x :: r, k, h => by
   obtain ⟨v, h1, h2⟩ := gv_el h
   obtain ⟨vs, h3, h4⟩ := gvs_el h2
   exact ⟨v :: vs, by simp [getOs, h1, h3], h4⟩
theorem nthK_el {α : Type} : ∀ {l : List α} {i : Nat} {k : α → Prop}, nthK l i k → ∃ v, l[i]? = some v ∧ k v
 | [], i, k, h => by cases i <;> exact h.elim
 | a :: r, 0, k, h => ⟨a, rfl, h⟩
 | a :: r, i + 1, k, h => by
   obtain ⟨v, h1, h2⟩ := nthK_el (l := r) h
   exact ⟨v, by simpa using h1, h2⟩
theorem setK_el {α : Type} : ∀ {l : List α} {i : Nat} {v : α} {k : List α → Prop}, setK l i v k → k (l.set i v)
 | [], i, v, k, h => by cases i <;> exact h.elim
 | a :: r, 0, v, k, h => h
 | a :: r, i + 1, v, k, h => setK_el (l := r) h
theorem takeK_el {α : Type} : ∀ {n : Nat} {l : List α} {k : List α → Prop}, takeK n l k → n ≤ l.length ∧ k (l.take n)
 | 0, l, k, h => ⟨Nat.zero_le _, by simpa [takeK] using h⟩
 | n + 1, [], k, h => h.elim
 | n + 1, a :: r, k, h => by
   obtain ⟨h1, h2⟩ := takeK_el (l := r) h
   exact ⟨by simpa using h1, by simpa using h2⟩
theorem subK_el {α : Type} : ∀ {i n : Nat} {l : List α} {k : List α → Prop}, subK i n l k → i + n ≤ l.length ∧ k ((l.drop i).take n)
 | 0, n, l, k, h => by
   obtain ⟨h1, h2⟩ := takeK_el (l := l) h
   exact ⟨by omega, by simpa using h2⟩
 | i + 1, n, [], k, h => h.elim
 | i + 1, n, a :: r, k, h => by
   obtain ⟨h1, h2⟩ := subK_el (l := r) h
   exact ⟨by simp; omega, by simpa using h2⟩
theorem takeS_el {α : Type} : ∀ {n : Nat} {l : List α} {k : List α → Prop}, takeS n l k → k (l.take n)
 | 0, l, k, h => by simpa [takeS] using h
 | n + 1, [], k, h => by simpa [takeS] using h
 | n + 1, a :: r, k, h => by simpa using takeS_el (l := r) h
theorem dropS_el : ∀ {n : Nat} {l : List D} {k : List D → Prop}, chK.dropS n l k → k (l.drop n)
 | 0, l, k, h => by simpa [chK.dropS] using h
 | n + 1, [], k, h => by simpa [chK.dropS] using h
 | n + 1, a :: r, k, h => by simpa using dropS_el (l := r) h
theorem setRange_cons : ∀ (vs : List AV) (c : AV) (cs : List AV) (n : Nat), setRange (c :: cs) (n + 1) vs = c :: setRange cs n vs
 | [], c, cs, n => rfl
 | v :: vs, c, cs, n => by simp only [setRange, List.set_cons_succ]; exact setRange_cons vs c _ _
theorem ovrK_el : ∀ {vs cs : List AV} {k : List AV → Prop}, ovrK vs cs k → vs.length ≤ cs.length ∧ k (setRange cs 0 vs)
 | [], cs, k, h => ⟨Nat.zero_le _, by simp only [ovrK] at h; simp only [setRange]; exact h⟩
 | v :: vs, [], k, h => h.elim
 | v :: vs, c :: cs, k, h => by
   obtain ⟨h1, h2⟩ := ovrK_el (vs := vs) (cs := cs) h
   refine ⟨by simpa using h1, ?_⟩
   simp only [setRange, List.set_cons_zero, setRange_cons]
   exact h2
theorem splK_el : ∀ {off : Nat} {cs vs : List AV} {k : List AV → Prop}, splK off cs vs k → off + vs.length ≤ cs.length ∧ k (setRange cs off vs)
 | 0, cs, vs, k, h => by
   obtain ⟨h1, h2⟩ := ovrK_el (vs := vs) (cs := cs) h
   exact ⟨by omega, h2⟩
 | n + 1, [], vs, k, h => h.elim
 | n + 1, c :: cs, vs, k, h => by
   obtain ⟨h1, h2⟩ := splK_el (off := n) (cs := cs) (vs := vs) h
   exact ⟨by simp; omega, by rw [setRange_cons]; exact h2⟩
theorem appK_el {α : Type} : ∀ {l : List α} {x : α} {k : List α → Prop}, appK l x k → k (l ++ [x])
 | [], x, k, h => h
 | a :: r, x, k, h => appK_el (l := r) h
theorem lenK_el {α : Type} : ∀ {l : List α} {n : Nat} {k : Nat → Prop}, lenK l n k → k (n + l.length)
 | [], n, k, h => h
 | a :: r, n, k, h => by
   have := lenK_el (l := r) h
   rwa [show n + (a :: r).length = n + 1 + r.length by simp; omega]
theorem ccK_el {α : Type} : ∀ {l m : List α} {k : List α → Prop}, ccK l m k → k (l ++ m)
 | [], m, k, h => h
 | a :: r, m, k, h => ccK_el (l := r) h
theorem mapD_el : ∀ {l : List D} {k : List AV → Prop}, mapD l k → k (l.map .d)
 | [], k, h => h
 | a :: r, k, h => mapD_el (l := r) h
theorem lkO_el : ∀ {sl : Slots} {n : Nat} {k : AV → Prop} {e : Prop}, keepK.lkO sl n k e → match sl.get n with | some v => k v | none => e
 | [], _, _, _, h => h
 | (i, v) :: r, n, k, e, h => by
   simp only [keepK.lkO] at h
   split at h <;> rename_i hb
   ·have := Nat.eq_of_beq_eq_true hb
    simpa [Slots.get, this] using h
   ·have hne : i ≠ n := by intro e; subst e; simp at hb
    have := lkO_el h
    simpa [Slots.get, hne] using this
theorem keepK_el {sl : Slots} : ∀ {ns : List Nat} {k : Slots → Prop}, keepK sl ns k → k (sl.keep ns)
 | [], k, h => h
 | n :: ns, k, h => by
   have := lkO_el h
   simp only [Slots.keep]
   split at this <;> rename_i hg
   ·rw [hg]; exact keepK_el this
   ·rw [hg]; exact keepK_el this
theorem unK_el {sl : Slots} {x : Opd} {v : AV} {k : Slots → Prop} {rf : Refs} {df : DF} {pn : PN} {nb : Nat} (h : unK sl x v k) (hx : rawO sl x = some v) :
  ∃ sl', unOwn ⟨sl, rf, df, pn, nb⟩ x = ⟨sl', rf, df, pn, nb⟩ ∧ k sl' := by
 cases x with
 | t n =>
   simp only [rawO] at hx
   simp only [unOwn, hx]
   cases v <;> exact ⟨_, rfl, h⟩
 | c w => exact ⟨sl, rfl, by cases v <;> exact h⟩
 | f id => exact ⟨sl, rfl, by cases v <;> exact h⟩
theorem ifK_el {b : Bool} {p : Prop} (h : ifK b p) : b = true ∧ p := by cases b <;> first | exact h.elim | exact ⟨rfl, h⟩
theorem cellsK_el {v : AV} {k : List AV → Prop} (h : cellsK v k) : v.solid = true ∧ k v.cells := by
 cases v <;> first | exact h.elim | exact ⟨rfl, h⟩
theorem fillK_el {sl : Slots} : ∀ {parts : List (Nat × Nat × Opd)} {cs : List AV} {k : List AV → Prop}, fillK sl cs parts k → ∃ r, fillA sl cs parts = some r ∧ k r
 | [], cs, k, h => ⟨cs, rfl, h⟩
 | (off, size, x) :: ps, cs, k, h => by
   obtain ⟨v, h1, h2⟩ := gv_el h
   obtain ⟨h3, h4⟩ := cellsK_el h2
   obtain ⟨h5, h6⟩ := ifK_el (lenK_el h4)
   obtain ⟨h7, h8⟩ := splK_el h6
   obtain ⟨r, h9, h10⟩ := fillK_el h8
   have h5' := Nat.eq_of_beq_eq_true h5
   rw [Nat.zero_add] at h5'
   refine ⟨r, ?_, h10⟩
   simp only [fillA, h1]
   rw [if_pos ⟨h5', by omega, h3⟩]
   exact h9
theorem toDsK_el : ∀ {l : List AV} {k : List D → Prop}, toDsK l k → ∃ ds, toDs l = some ds ∧ k ds
 | [], k, h => ⟨[], rfl, h⟩
 | v :: r, k, h => by
   cases v <;> first
    | exact h.elim
    | (obtain ⟨ds, h1, h2⟩ := toDsK_el (l := r) h
       exact ⟨_, by simp only [toDs, AV.toD, h1], h2⟩)
theorem chK_el {sz : Nat} : ∀ {n : Nat} {l : List D} {k : List (List D) → Prop}, chK sz n l k → k (chunks sz n l)
 | 0, l, k, h => by simp only [chK] at h; simp only [chunks]; exact h
 | n + 1, l, k, h => by
   simp only [chK] at h
   exact chK_el (n := n) (dropS_el (takeS_el h))
theorem mpF {cs : List AV} (h : (!isMp cs) = true) : isMp cs = false := by simpa using h
theorem mapK_el {cs : List AV} {k : List AV → Prop} (h : mapK cs k) : ∃ kvs, cs = .tup [] :: kvs ∧ k kvs := by
 cases cs with
 | nil => exact h.elim
 | cons c r =>
   cases c with
   | tup vs => cases vs with
     | nil => exact ⟨r, rfl, h⟩
     | cons v vs => exact h.elim
   | _ => exact h.elim
theorem kindB_el {pk : PK} {x : D} (h : kindB pk x = true) : x.kind? = some pk := by
 unfold kindB at h
 split at h
 ·rename_i k hk
  rw [hk, of_decide_eq_true h]
 ·cases h
theorem ldK_el {rf : Refs} {agg : Option Nat} {p : AV} {k : AV → Prop} (h : ldK rf agg p k) : ∃ v, loadAt rf agg p = some v ∧ k v := by
 cases p with
 | ptr r off =>
   obtain ⟨cs, h1, h2⟩ := nthK_el h
   obtain ⟨hm, h2⟩ := ifK_el h2
   have hm := mpF hm
   cases agg with
   | none =>
     obtain ⟨v, h3, h4⟩ := nthK_el h2
     exact ⟨v, by simp only [loadAt, h1, hm, if_true, h3], h4⟩
   | some n =>
     obtain ⟨h3, h4⟩ := subK_el h2
     exact ⟨_, by simp only [loadAt, Refs.cellsAt, h1, hm, h3, and_self, if_true, Option.map_some], h4⟩
 | ept cs off =>
   cases agg with
   | none =>
     obtain ⟨v, h3, h4⟩ := nthK_el h
     exact ⟨_, by simp only [loadAt, h3, Option.map_some], h4⟩
   | some n =>
     obtain ⟨h3, h4⟩ := subK_el h
     exact ⟨_, by simp only [loadAt, h3, if_true], mapD_el h4⟩
 | _ => exact h.elim
theorem partK_el {agg : Option Nat} {cs : List AV} {off : Nat} {k : AV → Prop} (h : partK agg cs off k) : ∃ v, partA agg cs off = some v ∧ k v := by
 cases agg with
 | none => exact nthK_el h
 | some n =>
   obtain ⟨h3, h4⟩ := subK_el h
   exact ⟨_, by simp only [partA, h3, if_true], h4⟩
theorem stK_el {rf : Refs} {nb sz : Nat} {a v : AV} {k : Refs → Prop} (h : stK rf nb sz a v k) : ∃ rf', storeAt rf nb sz a v = some rf' ∧ k rf' := by
 cases a with
 | ptr r off =>
   have key : ∀ vs, vs = v.cellsO → (lenK vs 0 fun n => ifK (Nat.beq n sz && vs.all AV.one && (Nat.ble (AV.refBs vs) (r + 1) || Nat.ble nb r))
    (nthK rf r fun cs => ifK (!isMp cs) (splK off cs vs fun cs' => setK rf r cs' k))) → ∃ rf', storeAt rf nb sz (.ptr r off) v = some rf' ∧ k rf' := fun vs hv h => by
    subst hv
    obtain ⟨h1, h2⟩ := ifK_el (lenK_el h)
    obtain ⟨cs, h3, h4⟩ := nthK_el h2
    obtain ⟨hm, h4⟩ := ifK_el h4
    have hm := mpF hm
    obtain ⟨h5, h6⟩ := splK_el h4
    have h7 := setK_el h6
    simp only [Bool.and_eq_true, Bool.or_eq_true, Nat.zero_add] at h1
    have h8 := Nat.eq_of_beq_eq_true h1.1.1
    refine ⟨_, ?_, h7⟩
    simp only [storeAt]
    rw [if_neg (by simp [h8, h1.1.2]), h3]
    simp only
    rw [if_pos ⟨hm, by omega, h1.2.imp Nat.le_of_ble_eq_true Nat.le_of_ble_eq_true⟩]
   simp only [stK] at h
   cases v with
   | agg cs => exact key _ rfl (fzs_el h)
   | tup vs => exact h.elim
   | own es => exact key _ rfl h
   | d x => exact key _ rfl h
   | nil => exact key _ rfl h
   | ptr r o => exact key _ rfl h
   | ept c o => exact key _ rfl h
   | sref r o n => exact key _ rfl h
   | mp r => exact key _ rfl h
   | fn f a b => exact key _ rfl h
   | ifc t v => exact key _ rfl h
 | _ => exact h.elim
theorem listK_el {v : AV} {k : List (List D) → Prop} (h : listK v k) : ∃ es, v.list? = some es ∧ k es := by
 cases v with
 | d x => cases x <;> first | exact h.elim | exact ⟨_, rfl, h⟩
 | own es => exact ⟨_, rfl, h⟩
 | nil => exact ⟨_, rfl, h⟩
 | _ => exact h.elim
theorem elemsK_el {v : AV} {k : List (List D) → Prop} (h : elemsK v k) : ∃ es, v.elems? = some es ∧ k es := by
 cases v with
 | d x => cases x <;> first | exact h.elim | exact ⟨_, rfl, h⟩
 | own es => exact ⟨_, rfl, h⟩
 | nil => exact ⟨_, rfl, h⟩
 | _ => exact h.elim
theorem vint_el {op : BinOp} {q : IntKind} {a b : Int} {k : AV → Prop} (h : vint op q a b k) (h1 : op ≠ .shl) (h2 : op ≠ .shr) : ∃ v, binA op (.d (.int q a)) (.d (.int q b)) = some v ∧ k v := by
 cases op
 case add => exact ⟨_, by simp only [binA, if_true, intBin], (h ()).h⟩
 case sub => exact ⟨_, by simp only [binA, if_true, intBin], (h ()).h⟩
 case mul => exact ⟨_, by simp only [binA, if_true, intBin], (h ()).h⟩
 case quo =>
  obtain ⟨h0, h⟩ := h ()
  exact ⟨_, by simp only [binA, if_true, intBin, h0, if_false], h⟩
 case rem =>
  obtain ⟨h0, h⟩ := h ()
  exact ⟨_, by simp only [binA, if_true, intBin, h0, if_false], h⟩
 case and => obtain ⟨n, h3, h4⟩ := h (); exact ⟨_, h3, h4⟩
 case or => obtain ⟨n, h3, h4⟩ := h (); exact ⟨_, h3, h4⟩
 case xor => obtain ⟨n, h3, h4⟩ := h (); exact ⟨_, h3, h4⟩
 case andNot => obtain ⟨n, h3, h4⟩ := h (); exact ⟨_, h3, h4⟩
 case eql =>
  refine ⟨.d (.bool (a == b)), by simp only [binA, if_true, intBin], ?_⟩
  have e : (a == b) = decide (a = b) := by rw [Bool.eq_iff_iff]; simp
  rw [e]; exact h
 case neq =>
  refine ⟨.d (.bool (a != b)), by simp only [binA, if_true, intBin], ?_⟩
  have e : (a != b) = decide (a ≠ b) := by rw [Bool.eq_iff_iff]; simp
  rw [e]; exact h
 case lss => exact ⟨.d (.bool (decide (a < b))), by simp only [binA, if_true, intBin], h⟩
 case leq => exact ⟨.d (.bool (decide (a ≤ b))), by simp only [binA, if_true, intBin], h⟩
 case gtr => exact ⟨.d (.bool (decide (a > b))), by simp only [binA, if_true, intBin], h⟩
 case geq => exact ⟨.d (.bool (decide (a ≥ b))), by simp only [binA, if_true, intBin], h⟩
 case shl => exact absurd rfl h1
 case shr => exact absurd rfl h2
 all_goals exact h.elim
theorem vstr_el {op : BinOp} {a b : List UInt8} {k : AV → Prop} (h : vstr op a b k) : ∃ v, strBin op a b = some v ∧ k v := by
 have e : (a == b) = decide (a = b) := by rw [Bool.eq_iff_iff]; simp
 cases op
 case add =>
  obtain ⟨h0, h⟩ := h ()
  exact ⟨_, by simp only [strBin, h0, if_true], h⟩
 case eql => exact ⟨_, rfl, by rw [e]; exact h⟩
 case neq =>
  refine ⟨_, rfl, ?_⟩
  have e2 : (!(a == b)) = decide (a ≠ b) := by rw [e]; simp
  rw [e2]; exact h
 case lss => exact ⟨_, rfl, h⟩
 case leq => exact ⟨_, rfl, by rw [e]; exact h⟩
 case gtr => exact ⟨_, rfl, by rw [e]; exact h⟩
 case geq => exact ⟨_, rfl, h⟩
 all_goals exact h.elim
theorem vbin_el {op : BinOp} {x y : AV} {k : AV → Prop} (h : vbin op x y k) : ∃ v, binA op x y = some v ∧ k v := by
 cases x with
 | d x =>
   cases y with
   | d y =>
     cases x with
     | int q a =>
       cases y with
       | int q' b =>
         by_cases h1 : op = .shl
         ·subst h1
          obtain ⟨n, h3, h4⟩ := h ()
          exact ⟨_, h3, h4⟩
         by_cases h2 : op = .shr
         ·subst h2
          obtain ⟨n, h3, h4⟩ := h ()
          exact ⟨_, h3, h4⟩
         have h' : ifK (kindEq q q') (vint op q a b k) := by
          cases op <;> first | exact absurd rfl h1 | exact absurd rfl h2 | exact h
         obtain ⟨h3, h4⟩ := ifK_el h'
         have h5 : q = q' := of_decide_eq_true h3
         subst h5
         exact vint_el h4 h1 h2
       | _ => exact h.elim
     | str a =>
       cases y with
       | str b => exact vstr_el h
       | _ => exact h.elim
     | _ => cases y <;> exact h.elim
   | _ => cases x <;> exact h.elim
 | _ => cases y <;> exact h.elim
theorem optK_el {sl : Slots} {x : Option Opd} {k : Option Int → Prop} (h : optK sl x k) : ∃ o, (∀ d i : Nat, o.getD (d : Int) = (i : Int) → asIdx sl x d = some i) ∧ k o := by
 cases x with
 | none =>
   refine ⟨none, fun d i e => ?_, h⟩
   simp only [Option.getD_none] at e
   simp only [asIdx, Option.some.injEq]; omega
 | some x =>
   obtain ⟨v, h1, h2⟩ := gv_el h
   cases v with
   | d y =>
     cases y with
     | int q n =>
       refine ⟨some n, fun d i e => ?_, h2⟩
       simp only [Option.getD_some] at e
       subst e
       simp [asIdx, h1]
     | _ => exact h2.elim
   | _ => exact h2.elim
theorem apK_el {sl : Slots} {r : Nat} : ∀ {l : List Opd} {p : Prop}, apK sl r l p → apartB sl r l = true ∧ p
 | [], p, h => ⟨rfl, h⟩
 | x :: l, p, h => by
   obtain ⟨v, h1, h2⟩ := gv_el h
   cases v with
   | ptr q off =>
     simp only at h2
     split at h2 <;> rename_i hb
     ·exact h2.elim
     ·obtain ⟨h3, h4⟩ := apK_el h2
      have hne : q ≠ r := by intro e; subst e; simp at hb
      exact ⟨by simp [apartB, h1, h3, hne], h4⟩
   | _ => exact h2.elim
theorem setB_el : ∀ {sl : Slots} {n : Nat} {b : Bool} {k : Slots → Prop}, setB sl n b k → sl.get n = some (.d (.bool b)) → k sl
 | [], n, b, k, h, _ => h
 | (i, v) :: r, n, b, k, h, hg => by
   simp only [setB] at h
   split at h <;> rename_i hb
   ·have := Nat.eq_of_beq_eq_true hb
    simp only [Slots.get, this, if_true, Option.some.injEq] at hg
    subst hg
    exact h
   ·have hne : i ≠ n := by intro e; subst e; simp at hb
    simp only [Slots.get, hne, if_false] at hg
    exact setB_el (sl := r) (k := fun r' => k ((i, v) :: r')) h hg
theorem getO_bool {sl : Slots} {x : Opd} {b : Bool} (h : getO sl x = some (.d (.bool b))) : rawO sl x = some (.d (.bool b)) := by
 simp only [getO, Option.map_eq_some_iff] at h
 obtain ⟨u, h1, h2⟩ := h
 rw [h1]
 cases u <;> simp [AV.strip] at h2
 rw [h2]
theorem setO_el {c : Opd} {sl : Slots} {b : Bool} {k : Slots → Prop} (h : setO c sl b k) (hg : getO sl c = some (.d (.bool b))) : k sl := by
 cases c with
 | t n => exact setB_el h (getO_bool hg)
 | c v => exact h
 | f id => exact h
theorem callK_el {T : Tb} {sl : Slots} {rf : Refs} {f : Opd} {args : List Opd} {k : Out → Refs → Prop} (h : callK T sl rf f args k) :
  ∃ id first cap vs, getO sl f = some (.fn (.func id) first cap) ∧ getOs sl args = some vs ∧ CallE T id (AV.bargs (first ++ vs ++ cap)) rf k := by
 obtain ⟨v, h1, h2⟩ := gv_el h
 cases v with
 | fn g a b =>
   cases g with
   | func id =>
     obtain ⟨vs, h3, h4⟩ := gvs_el h2
     have := bargsK_el (ccK_el (ccK_el h4)) ()
     rw [← List.append_assoc] at this
     exact ⟨id, a, b, vs, h1, h3, this⟩
   | _ => exact h2.elim
 | _ => exact h2.elim
end Go.Ab
namespace Go.Ab
inductive Res (T : Tb) (s : St) (o : AOpk) (kv : AV → KN) (kn : KN) (kp : AV → KN) : Prop
 | val (k : Nat) (v : AV) (sl : Slots) (rf : Refs) (df : DF) (pn : PN) (h : stepOp (T.C k) s o = some (.val v ⟨sl, rf, df, pn, s.nb⟩)) (h' : kv v sl rf df pn)
 | none_ (k : Nat) (sl : Slots) (rf : Refs) (df : DF) (pn : PN) (h : stepOp (T.C k) s o = some (.none_ ⟨sl, rf, df, pn, s.nb⟩)) (h' : kn sl rf df pn)
 | pan (k : Nat) (v : AV) (sl : Slots) (rf : Refs) (df : DF) (pn : PN) (h : stepOp (T.C k) s o = some (.pan v ⟨sl, rf, df, pn, s.nb⟩)) (h' : kp v sl rf df pn)
section
variable {T : Tb} {sl : Slots} {rf : Refs} {df : DF} {pn : PN} {nb : Nat} {kv : AV → KN} {kn : KN} {kp : AV → KN}
theorem res_vl {o : AOpk} {v : AV} (hs : stepOp (T.C 0) ⟨sl, rf, df, pn, nb⟩ o = vl ⟨sl, rf, df, pn, nb⟩ (some v)) (h : kv v sl rf df pn) : Res T ⟨sl, rf, df, pn, nb⟩ o kv kn kp :=
 .val 0 v sl rf df pn hs h
set_option maxHeartbeats 4000000 in
theorem vop_res {o : AOpk} (h : vop T o sl rf df pn nb kv kn kp) : Res T ⟨sl, rf, df, pn, nb⟩ o kv kn kp := by
 cases o <;> simp only [vop] at h
 case mov x =>
  obtain ⟨v, h1, h2⟩ := gv_el h
  exact res_vl (by simp only [stepOp, h1]) h2
 case take t =>
  obtain ⟨v, h1, h2⟩ := lk_el h
  obtain ⟨sl', h3, h4⟩ := unK_el (rf := rf) (df := df) (pn := pn) (nb := nb) h2 h1
  exact .val 0 v sl' rf df pn (by simp only [stepOp, h1, h3]) h4
 case asg x =>
  obtain ⟨v, h1, h2⟩ := raw_el h
  obtain ⟨sl', h3, h4⟩ := unK_el (rf := rf) (df := df) (pn := pn) (nb := nb) h2 h1
  exact .val 0 v sl' rf df pn (by simp only [stepOp, h1, h3]) h4
 case pick c a b =>
  obtain ⟨v, h1, h2⟩ := gv_el h
  cases v with
  | d x =>
    cases x with
    | bool t =>
      have h3 := h2 ()
      cases t with
      | true =>
        obtain ⟨w, h4, h5⟩ := gv_el (h3.h1 rfl)
        exact res_vl (v := w) (by simp only [stepOp, h1, if_true, h4]) (setO_el h5 h1)
      | false =>
        obtain ⟨w, h4, h5⟩ := gv_el (h3.h2 rfl)
        exact res_vl (v := w) (by simp [stepOp, h1, h4]) (setO_el h5 h1)
    | _ => exact h2.elim
  | _ => exact h2.elim
 case alloc cells =>
  have h2 := appK_el (lenK_el h)
  rw [Nat.zero_add] at h2
  exact .val 0 _ sl _ df pn (by simp only [stepOp]) h2
 case box x =>
  obtain ⟨v, h1, h2⟩ := gv_el h
  obtain ⟨h3, h4⟩ := cellsK_el h2
  obtain ⟨hm, h4⟩ := ifK_el h4
  have hm := mpF hm
  have h5 := appK_el (lenK_el h4)
  rw [Nat.zero_add] at h5
  exact .val 0 _ sl _ df pn (by simp only [stepOp, h1, h3, hm, and_self, if_true]) h5
 case build zero parts =>
  obtain ⟨cs, h1, h2⟩ := fillK_el h
  exact res_vl (by simp only [stepOp, h1, Option.map_some]) h2
 case mkls sz zero parts =>
  obtain ⟨cs, h1, h2⟩ := fillK_el h
  obtain ⟨ds, h3, h4⟩ := toDsK_el h2
  obtain ⟨h5, h6⟩ := ifK_el (lenK_el h4)
  have h7 := chK_el h6
  simp only [Nat.zero_add, Bool.and_eq_true] at h5 h7
  refine res_vl (v := .own (chunks sz (ds.length / sz) ds)) ?_ h7
  simp only [stepOp, h1, h3]
  rw [if_pos ⟨Nat.le_of_ble_eq_true h5.1, Nat.le_of_ble_eq_true h5.2⟩]
 case load agg a =>
  obtain ⟨p, h1, h2⟩ := gv_el h
  obtain ⟨v, h3, h4⟩ := ldK_el h2
  exact res_vl (by simp only [stepOp, h1, h3, Option.map_some]) (fz_el h4)
 case loadB agg a base =>
  obtain ⟨p, h1, h2⟩ := gv_el h
  obtain ⟨q, h3, h4⟩ := gv_el h2
  cases p with
  | ptr r off =>
    cases q with
    | ptr r' off' =>
      obtain ⟨h5, h6⟩ := ifK_el h4
      obtain ⟨v, h7, h8⟩ := ldK_el h6
      have h9 := Nat.eq_of_beq_eq_true h5
      exact res_vl (by simp only [stepOp, h1, h3, h9, if_true]; rw [← h9, h7]; rfl) (fz_el h8)
    | _ => exact h4.elim
  | _ => cases q <;> exact h4.elim
 case takeload a =>
  obtain ⟨p, h1, h2⟩ := gv_el h
  cases p with
  | ptr r off =>
    obtain ⟨cs, h3, h4⟩ := nthK_el h2
    obtain ⟨hm, h4⟩ := ifK_el h4
    have hm := mpF hm
    obtain ⟨v, h5, h6⟩ := nthK_el h4
    have h7 := setK_el (setK_el (fz_el h6))
    exact .val 0 v sl _ df pn (by simp only [stepOp, h1, loadAt, h3, hm, if_true, h5]) h7
  | _ => exact h2.elim
 case store sz a v =>
  obtain ⟨p, h1, h2⟩ := gv_el h
  obtain ⟨x, h3, h4⟩ := raw_el h2
  obtain ⟨rf', h5, h6⟩ := stK_el h4
  obtain ⟨sl', h7, h8⟩ := unK_el (rf := rf') (df := df) (pn := pn) (nb := nb) h6 h3
  exact .none_ 0 sl' rf' df pn (by simp only [stepOp, h1, h3, h5, h7]) h8
 case storeW sz a v ws =>
  obtain ⟨p, h1, h2⟩ := gv_el h
  obtain ⟨x, h3, h4⟩ := raw_el h2
  cases p with
  | ptr r off =>
    obtain ⟨h9, h4⟩ := apK_el h4
    obtain ⟨rf', h5, h6⟩ := stK_el h4
    obtain ⟨sl', h7, h8⟩ := unK_el (rf := rf') (df := df) (pn := pn) (nb := nb) h6 h3
    exact .none_ 0 sl' rf' df pn (by simp only [stepOp, h1, h3, h5, h7, h9, if_true]) h8
  | _ => exact h4.elim
 case nilchk x =>
  obtain ⟨v, h1, h2⟩ := gv_el h
  cases v with
  | ptr r off => exact res_vl (by simp only [stepOp, h1]) h2
  | ept cs off => exact res_vl (by simp only [stepOp, h1]) h2
  | fn f a b =>
    cases f <;> first
     | exact h2.elim
     | exact res_vl (by simp only [stepOp, h1]) h2
  | _ => exact h2.elim
 case bin op x y =>
  obtain ⟨a, h1, h2⟩ := gv_el h
  obtain ⟨b, h3, h4⟩ := gv_el h2
  obtain ⟨v, h5, h6⟩ := vbin_el h4
  exact res_vl (by simp only [stepOp, h1, h3, h5]) h6
 case beq ne x y =>
  obtain ⟨a, h1, h2⟩ := gv_el h
  obtain ⟨b, h3, h4⟩ := gv_el h2
  cases a with
  | d a =>
    cases a with
    | bool a =>
      cases b with
      | d b =>
        cases b with
        | bool b => exact res_vl (by simp only [stepOp, h1, h3]) h4
        | _ => exact h4.elim
      | _ => exact h4.elim
    | _ => exact h4.elim
  | _ => exact h4.elim
 case eqc ne ks x y =>
  obtain ⟨a, h1, h2⟩ := gv_el h
  obtain ⟨b, h3, h4⟩ := gv_el h2
  cases a with
  | agg a =>
    cases b with
    | agg b =>
      obtain ⟨t, h5, h6⟩ := h4 ()
      exact res_vl (by simp only [stepOp, h1, h3, h5, Option.map_some]) h6
    | _ => exact h4.elim
  | _ => exact h4.elim
 case eqnil nk ne x =>
  obtain ⟨a, h1, h2⟩ := gv_el h
  obtain ⟨t, h5, h6⟩ := h2 ()
  exact res_vl (by simp only [stepOp, h1, h5, Option.map_some]) h6
 case un op x =>
  obtain ⟨a, h1, h2⟩ := gv_el h
  cases a with
  | d a =>
    cases op <;> cases a <;> first
     | exact h2.elim
     | exact res_vl (by simp only [stepOp, h1, unA]) h2
     | exact res_vl (by simp only [stepOp, h1, unA]) (h2 ()).h
     | (obtain ⟨n, h5, h6⟩ := h2 ()
        exact res_vl (by simp only [stepOp, h1, h5]) h6)
  | _ => cases op <;> exact h2.elim
 case toInt k x =>
  obtain ⟨a, h1, h2⟩ := gv_el h
  cases a with
  | d a =>
    cases a with
    | int q n => exact res_vl (by simp only [stepOp, h1]) (h2 ()).h
    | _ => exact h2.elim
  | _ => exact h2.elim
 case ident x =>
  obtain ⟨a, h1, h2⟩ := gv_el h
  cases a with
  | d a =>
    cases a with
    | str l => exact res_vl (by simp only [stepOp, h1]) h2
    | _ => exact h2.elim
  | _ => exact h2.elim
 case same x =>
  obtain ⟨a, h1, h2⟩ := raw_el h
  cases a with
  | own l =>
    cases l with
    | nil => exact h2.elim
    | cons e es =>
      obtain ⟨sl', h7, h8⟩ := unK_el (rf := rf) (df := df) (pn := pn) (nb := nb) h2 h1
      exact .val 0 _ sl' rf df pn (by simp only [stepOp, h1, h7]) h8
  | _ => exact h2.elim
 case strBytes x =>
  obtain ⟨a, h1, h2⟩ := gv_el h
  cases a with
  | d a =>
    cases a with
    | str l =>
      have h3 := h2 ()
      cases l with
      | nil => exact res_vl (by simp only [stepOp, h1]) (h3.h0 rfl)
      | cons c l => exact res_vl (by simp only [stepOp, h1]) (h3.h1 (by simp))
    | _ => exact h2.elim
  | _ => exact h2.elim
 case bytesStr x =>
  obtain ⟨a, h1, h2⟩ := gv_el h
  obtain ⟨es, h3, h4⟩ := listK_el h2
  obtain ⟨l, h5, h6⟩ := h4 ()
  exact res_vl (by simp only [stepOp, h1, h3, h5, Option.map_some]) h6
 case mkifc t x =>
  obtain ⟨a, h1, h2⟩ := gv_el h
  exact res_vl (by simp only [stepOp, h1]) h2
 case mkfn f first cap =>
  obtain ⟨a, h1, h2⟩ := gvs_el h
  obtain ⟨b, h3, h4⟩ := gvs_el h2
  exact res_vl (by simp only [stepOp, h1, h3]) h4
 case sliceS x lo hi =>
  obtain ⟨a, h1, h2⟩ := gv_el h
  cases a with
  | d a =>
    cases a with
    | str l =>
      obtain ⟨o, h3, h4⟩ := optK_el h2
      obtain ⟨o', h5, h6⟩ := optK_el h4
      obtain ⟨i, j, h7, h8, h9, h10, h11⟩ := h6 ()
      refine res_vl ?_ h11
      simp only [stepOp, h1]
      rw [h3 0 i h7, h5 _ j h8]
      simp only [h9, h10, and_self, if_true]
    | _ => exact h2.elim
  | _ => exact h2.elim
 case slice sz x lo hi =>
  obtain ⟨a, h1, h2⟩ := gv_el h
  obtain ⟨l, h12, h13⟩ := listK_el h2
  obtain ⟨o, h3, h4⟩ := optK_el h13
  obtain ⟨o', h5, h6⟩ := optK_el h4
  obtain ⟨i, j, h7, h8, h9, h10, h14, h11⟩ := h6 ()
  refine res_vl ?_ h11
  simp only [stepOp, h1, h12]
  rw [h3 0 i h7, h5 _ j h8]
  simp only [h9, h10, h14, and_self, if_true]
 case slArr n x lo hi =>
  obtain ⟨a, h1, h2⟩ := gv_el h
  cases a with
  | ptr r off =>
    obtain ⟨o, h3, h4⟩ := optK_el h2
    obtain ⟨o', h5, h6⟩ := optK_el h4
    obtain ⟨i, j, h7, h8, h9, h10, h11⟩ := h6 ()
    refine res_vl ?_ h11
    simp only [stepOp, h1]
    rw [h3 0 i h7, h5 _ j h8]
    simp only [h9, h10, and_self, if_true]
  | _ => exact h2.elim
 case fldA off x =>
  obtain ⟨a, h1, h2⟩ := gv_el h
  cases a <;> first
   | exact h2.elim
   | exact res_vl (by simp only [stepOp, h1]) h2
 case fld off agg x =>
  obtain ⟨a, h1, h2⟩ := gv_el h
  cases a with
  | agg cs =>
    obtain ⟨v, h3, h4⟩ := partK_el h2
    exact res_vl (by simp only [stepOp, h1, h3]) h4
  | _ => exact h2.elim
 case idxA arr sz x i =>
  obtain ⟨iv, h1, h2⟩ := gv_el h
  obtain ⟨a, h3, h4⟩ := gv_el h2
  cases iv with
  | d iv =>
    cases iv with
    | int q n =>
      cases arr with
      | some m =>
        cases a <;> first
         | exact h4.elim
         | (obtain ⟨j, h5, h6, h7⟩ := h4 ()
            refine res_vl ?_ h7
            subst h5
            simp only [stepOp, h1, h3]
            rw [if_neg (by omega), if_pos (by omega), Int.toNat_natCast])
      | none =>
        have key : (∀ r o m, a ≠ .sref r o m) → (listK a fun es => Unit → IdxL sz es n fun cs => kv (.ept cs 0) sl rf df pn) → Res T ⟨sl, rf, df, pn, nb⟩ (.idxA none sz x i) kv kn kp := fun hne h4 => by
         obtain ⟨es, h5, h6⟩ := listK_el h4
         obtain ⟨j, cs, h7, h8, h9, h10⟩ := h6 ()
         refine res_vl ?_ h10
         subst h7
         simp only [stepOp, h1, h3]
         rw [if_neg (by omega)]
         cases a <;> first
          | exact absurd rfl (hne _ _ _)
          | simp only [h5, Int.toNat_natCast, h8, h9, if_true]
        cases a with
        | sref r off m =>
          obtain ⟨h5, h6⟩ := ifK_el h4
          obtain ⟨j, h7, h8, h9⟩ := h6 ()
          refine res_vl ?_ h9
          subst h7
          simp only [stepOp, h1, h3]
          rw [if_neg (by omega), if_pos ⟨by omega, Nat.eq_of_beq_eq_true h5⟩, Int.toNat_natCast]
        | _ => exact key (by intros; simp) h4
    | _ => cases arr <;> exact h4.elim
  | _ => cases arr <;> exact h4.elim
 case idxS x i =>
  obtain ⟨a, h1, h2⟩ := gv_el h
  obtain ⟨iv, h3, h4⟩ := gv_el h2
  cases a with
  | d a =>
    cases a with
    | str l =>
      cases iv with
      | d iv =>
        cases iv with
        | int q n =>
          obtain ⟨j, b, h7, h8, h9⟩ := h4 ()
          refine res_vl ?_ h9
          subst h7
          simp only [stepOp, h1, h3]
          rw [if_neg (by omega)]
          simp only [Int.toNat_natCast, h8, Option.map_some]
        | _ => exact h4.elim
      | _ => exact h4.elim
    | _ => cases iv <;> exact h4.elim
  | _ => cases iv <;> exact h4.elim
 case idxV m sz agg x i =>
  obtain ⟨a, h1, h2⟩ := gv_el h
  obtain ⟨iv, h3, h4⟩ := gv_el h2
  cases a with
  | agg cs =>
    cases iv with
    | d iv =>
      cases iv with
      | int q n =>
        obtain ⟨j, h7, h8, h9⟩ := h4 ()
        obtain ⟨v, h10, h11⟩ := partK_el h9
        refine res_vl ?_ h11
        subst h7
        simp only [stepOp, h1, h3]
        rw [if_neg (by omega)]
        simp only [Int.toNat_natCast, h10]
      | _ => exact h4.elim
    | _ => exact h4.elim
  | _ => cases iv <;> exact h4.elim
 case assertT t zero x =>
  obtain ⟨a, h1, h2⟩ := gv_el h
  cases a with
  | ifc t' v =>
    simp only at h2
    split at h2 <;> rename_i hb
    ·have := Nat.eq_of_beq_eq_true hb
     exact res_vl (by simp only [stepOp, h1, this, if_true]) h2
    ·have hne : t' ≠ t := by intro e; subst e; simp at hb
     exact res_vl (by simp only [stepOp, h1, hne, if_false]) h2
  | d y =>
    cases y <;> first
     | exact h2.elim
     | exact res_vl (by simp only [stepOp, h1]) h2
  | _ => exact h2.elim
 case extr x i =>
  obtain ⟨a, h1, h2⟩ := gv_el h
  cases a with
  | tup vs =>
    obtain ⟨v, h3, h4⟩ := nthK_el h2
    exact res_vl (by simp only [stepOp, h1, h3]) h4
  | _ => exact h2.elim
 case call f args =>
  obtain ⟨id, first, cap, vs, h1, h2, o, rf', ⟨k, h3⟩, h4⟩ := callK_el h
  cases o with
  | ret v => exact .val k v sl rf' df pn (by simp only [stepOp, h1, h2, h3]) h4
  | pan v => exact .pan k v sl rf' df pn (by simp only [stepOp, h1, h2, h3]) h4
 case callZ f args =>
  obtain ⟨v, h1, h2⟩ := gv_el h
  cases v with
  | fn g a b =>
    cases g with
    | func id =>
      obtain ⟨vs, h3, h4⟩ := gvs_el h2
      obtain ⟨h5, h6⟩ := ifK_el (bargsK_el (ccK_el (ccK_el h4)))
      rw [← List.append_assoc] at h5 h6
      have h7 := Nat.eq_of_beq_eq_true h5
      obtain ⟨o, rf', ⟨k, h8⟩, h9⟩ := h6 ()
      cases o with
      | ret v =>
        obtain ⟨h10, h11⟩ := ifK_el h9
        exact .val k v sl rf df pn (by simp only [stepOp, h1, h3, h7, if_true, h8, Nat.eq_of_beq_eq_true h10]) h11
      | pan v => exact h9.elim
    | _ => exact h2.elim
  | _ => exact h2.elim
 case callQ f args =>
  obtain ⟨id, first, cap, vs, h1, h2, o, rf', ⟨k, h3⟩, h4⟩ := callK_el h
  cases o with
  | ret v =>
    obtain ⟨rfl, h5⟩ := h4
    exact .val k v sl rf' df pn (by simp only [stepOp, h1, h2, h3, sameRf_refl, if_true]) h5
  | pan v => exact h4.elim
 case lenS x =>
  obtain ⟨a, h1, h2⟩ := gv_el h
  cases a with
  | d a =>
    cases a with
    | str l => exact res_vl (by simp only [stepOp, h1]) h2
    | _ => exact h2.elim
  | _ => exact h2.elim
 case len x =>
  obtain ⟨a, h1, h2⟩ := gv_el h
  cases a with
  | d a =>
    cases a with
    | lst es => exact res_vl (by simp only [stepOp, h1, AV.list?, Option.map_some]) h2
    | _ => exact h2.elim
  | nil => exact res_vl (by simp only [stepOp, h1, AV.list?, Option.map_some, List.length_nil]) h2
  | sref r o n => exact res_vl (by simp only [stepOp, h1]) h2
  | _ => exact h2.elim
 case lenArr n => exact res_vl (by simp only [stepOp]) h
 case append sz x y =>
  obtain ⟨a, h1, h2⟩ := raw_el h
  obtain ⟨b, h3, h4⟩ := gv_el h2
  obtain ⟨ys, h5, h6⟩ := elemsK_el h4
  cases a with
  | own es =>
    obtain ⟨h7, h8, h9, h10⟩ := h6 ()
    obtain ⟨sl', h11, h12⟩ := unK_el (rf := rf) (df := df) (pn := pn) (nb := nb) h10 h1
    exact .val 0 _ sl' rf df pn (by simp only [stepOp, h1, h3, appendA, h5, h7, h8, h9, and_self, if_true, h11]) h12
  | nil =>
    obtain ⟨h7, h8, h9, h10⟩ := h6 ()
    have hu : unOwn ⟨sl, rf, df, pn, nb⟩ x = ⟨sl, rf, df, pn, nb⟩ := unOwn_ne h1 (fun es e => by cases e)
    cases ys with
    | nil => exact .val 0 _ sl rf df pn (by simp only [stepOp, h1, h3, appendA, h5, h7, h8, and_self, if_true, hu]) (h9 rfl)
    | cons y ys => exact .val 0 _ sl rf df pn (by simp only [stepOp, h1, h3, appendA, h5, h7, h8, and_self, if_true, hu]) (h10 (by simp))
  | _ => exact h6.elim
 case copy x y =>
  obtain ⟨a, h1, h2⟩ := gv_el h
  obtain ⟨b, h3, h4⟩ := gv_el h2
  cases a with
  | sref r off n =>
    obtain ⟨es, h5, h6⟩ := listK_el h4
    obtain ⟨cs, h7, h8⟩ := nthK_el h6
    obtain ⟨hm, h8⟩ := ifK_el h8
    obtain ⟨h9, h10, h11⟩ := h8 ()
    have h12 := setK_el h11
    refine .val 0 _ sl _ df pn ?_ h12
    simp only [stepOp, h1, h3, h5, h7]
    rw [if_pos ⟨mpF hm, h9, h10⟩]
  | _ => exact h4.elim
 case min x y =>
  obtain ⟨a, h1, h2⟩ := gv_el h
  obtain ⟨b, h3, h4⟩ := gv_el h2
  cases a with
  | d a =>
    cases a with
    | int q a =>
      cases b with
      | d b =>
        cases b with
        | int q' b =>
          obtain ⟨h5, h6⟩ := ifK_el h4
          have h7 : q = q' := of_decide_eq_true h5
          refine res_vl (v := .d (.int q (min a b))) ?_ h6
          simp only [stepOp, h1, h3, h7, if_true]
          congr 4
          omega
        | _ => exact h4.elim
      | _ => exact h4.elim
    | _ => cases b <;> exact h4.elim
  | _ => cases b <;> exact h4.elim
 case max x y =>
  obtain ⟨a, h1, h2⟩ := gv_el h
  obtain ⟨b, h3, h4⟩ := gv_el h2
  cases a with
  | d a =>
    cases a with
    | int q a =>
      cases b with
      | d b =>
        cases b with
        | int q' b =>
          obtain ⟨h5, h6⟩ := ifK_el h4
          have h7 : q = q' := of_decide_eq_true h5
          refine res_vl (v := .d (.int q (max a b))) ?_ h6
          simp only [stepOp, h1, h3, h7, if_true]
          congr 4
          omega
        | _ => exact h4.elim
      | _ => exact h4.elim
    | _ => cases b <;> exact h4.elim
  | _ => cases b <;> exact h4.elim
 case recover =>
  cases pn with
  | none => exact h.elim
  | some m =>
    cases m with
    | none => exact .val 0 _ sl rf df _ (by simp only [stepOp]) h
    | some v => exact .val 0 _ sl rf df _ (by simp only [stepOp]) (fz_el h)
 case defer f args =>
  obtain ⟨v, h1, h2⟩ := gv_el h
  cases v with
  | fn g a b =>
    cases g with
    | func id =>
      obtain ⟨vs, h3, h4⟩ := gvs_el h2
      exact .none_ 0 sl rf _ pn (by simp only [stepOp, h1, h3]) (baresK_el h4)
    | _ => exact h2.elim
  | _ => exact h2.elim
 case panic x =>
  obtain ⟨a, h1, h2⟩ := gv_el h
  cases a with
  | ifc t v => exact .pan 0 _ sl rf df pn (by simp only [stepOp, h1]) h2
  | _ => exact h2.elim
 case stuck => exact nomatch (h ())
 case makeMap =>
  have h2 := appK_el (lenK_el h)
  rw [Nat.zero_add] at h2
  exact .val 0 _ sl _ df pn (by simp only [stepOp]) h2
 case lookup pk ok zero m k =>
  obtain ⟨a, h1, h2⟩ := gv_el h
  obtain ⟨b, h3, h4⟩ := gv_el h2
  cases a with
  | mp r =>
    cases b with
    | d x =>
      obtain ⟨h5, h6⟩ := ifK_el h4
      obtain ⟨cs, h7, h8⟩ := nthK_el h6
      obtain ⟨kvs, rfl, h9⟩ := mapK_el h8
      obtain ⟨q, h10, h11⟩ := h9 ()
      have hk := kindB_el h5
      cases q with
      | none =>
        have h12 := fz_el h11
        cases ok with
        | true => exact res_vl (by simp only [stepOp, h1, h3, hk, h7, h10, if_true]) h12
        | false => exact res_vl (by simp only [stepOp, h1, h3, hk, h7, h10, if_true, Bool.false_eq_true, if_false]) h12
      | some p =>
        have h12 := fz_el h11
        cases ok with
        | true => exact res_vl (by simp only [stepOp, h1, h3, hk, h7, h10, if_true]) h12
        | false => exact res_vl (by simp only [stepOp, h1, h3, hk, h7, h10, if_true, Bool.false_eq_true, if_false]) h12
    | _ => exact h4.elim
  | _ => cases b <;> exact h4.elim
 case mapSet pk m k v =>
  obtain ⟨a, h1, h2⟩ := gv_el h
  obtain ⟨b, h3, h4⟩ := gv_el h2
  obtain ⟨u, hu, h4⟩ := gv_el h4
  cases a with
  | mp r =>
    cases b with
    | d x =>
      obtain ⟨h5, h6⟩ := ifK_el h4
      obtain ⟨cs, h7, h8⟩ := nthK_el h6
      obtain ⟨kvs, rfl, h9⟩ := mapK_el h8
      obtain ⟨q, h10, h11⟩ := h9 ()
      simp only [Bool.and_eq_true, Bool.or_eq_true] at h5
      have hk := kindB_el h5.1
      have hb : u.refB ≤ r + 1 ∨ nb ≤ r := h5.2.imp Nat.le_of_ble_eq_true Nat.le_of_ble_eq_true
      cases q with
      | none =>
        have h12 := setK_el (ccK_el h11)
        exact .none_ 0 sl _ df pn (by simp only [stepOp, h1, h3, hu, hk, h7, h10, hb, and_self, if_true]) h12
      | some p =>
        have h12 := setK_el (setK_el h11)
        exact .none_ 0 sl _ df pn (by simp only [stepOp, h1, h3, hu, hk, h7, h10, hb, and_self, if_true]) h12
    | _ => exact h4.elim
  | _ => cases b <;> exact h4.elim
 case mapEntry pk zero m k =>
  obtain ⟨a, h1, h2⟩ := gv_el h
  obtain ⟨b, h3, h4⟩ := gv_el h2
  cases a with
  | mp r =>
    cases b with
    | d x =>
      obtain ⟨h5, h6⟩ := ifK_el h4
      obtain ⟨cs, h7, h8⟩ := nthK_el h6
      obtain ⟨kvs, rfl, h9⟩ := mapK_el h8
      obtain ⟨q, h10, h11⟩ := h9 ()
      simp only [Bool.and_eq_true] at h5
      have hk := kindB_el h5.1
      have hz := Nat.eq_of_beq_eq_true h5.2
      cases q with
      | none =>
        have h12 := setK_el (ccK_el (lenK_el (fz_el h11)))
        rw [Nat.zero_add] at h12
        exact .val 0 _ sl _ df pn (by simp only [stepOp, h1, h3, hk, hz, h7, h10, and_self, if_true]) h12
      | some p =>
        have h12 := fz_el h11
        exact .val 0 _ sl _ df pn (by simp only [stepOp, h1, h3, hk, hz, h7, h10, and_self, if_true]) h12
    | _ => exact h4.elim
  | _ => cases b <;> exact h4.elim
 case entrySet m st v =>
  obtain ⟨a, h1, h2⟩ := gv_el h
  obtain ⟨b, h3, h4⟩ := gv_el h2
  obtain ⟨u, hu, h4⟩ := gv_el h4
  cases a with
  | mp r =>
    cases b with
    | d x =>
      cases x with
      | int q n =>
        obtain ⟨h5, h6⟩ := ifK_el h4
        obtain ⟨cs, h7, h8⟩ := nthK_el h6
        obtain ⟨kvs, rfl, h9⟩ := mapK_el h8
        obtain ⟨i, h10, h11, h12⟩ := h9 ()
        have h13 := setK_el (setK_el h12)
        simp only [Bool.or_eq_true] at h5
        have hb : u.refB ≤ r + 1 ∨ nb ≤ r := h5.imp Nat.le_of_ble_eq_true Nat.le_of_ble_eq_true
        subst h10
        refine .none_ 0 sl _ df pn ?_ h13
        simp only [stepOp, h1, h3, hu, h7]
        rw [if_pos ⟨by omega, hb⟩, Int.toNat_natCast, if_pos h11]
      | _ => exact h4.elim
    | _ => exact h4.elim
  | _ => cases b with
    | d x => cases x <;> exact h4.elim
    | _ => exact h4.elim
 case mkS cell n =>
  obtain ⟨a, h1, h2⟩ := gv_el h
  cases a with
  | d x =>
    cases x with
    | int q m =>
      obtain ⟨h3, h4⟩ := ifK_el h2
      obtain ⟨j, h5, h6, h7⟩ := h4 ()
      have h8 := appK_el (lenK_el h7)
      rw [Nat.zero_add] at h8
      subst h5
      refine .val 0 _ sl _ df pn ?_ h8
      simp only [stepOp, h1]
      rw [if_pos ⟨by omega, by exact_mod_cast h6, h3⟩, Int.toNat_natCast]
    | _ => exact h2.elim
  | _ => exact h2.elim
 case callO f pre x post =>
  obtain ⟨v, h1, h2⟩ := gv_el h
  cases v with
  | fn g a b =>
    cases g with
    | func id =>
      obtain ⟨vs, h3, h4⟩ := gvs_el h2
      obtain ⟨xv, h5, h6⟩ := raw_el h4
      obtain ⟨ws, h7, h8⟩ := gvs_el h6
      have h9 := ccK_el (bargsK_el (ccK_el (bargsK_el (ccK_el h8)))) ()
      obtain ⟨o, rf', ⟨k, h10⟩, h11⟩ := h9
      obtain ⟨sl', h12, h13⟩ := unK_el (rf := rf') (df := df) (pn := pn) (nb := nb) h11 h5
      cases o with
      | ret v => exact .val k v sl' rf' df pn (by simp only [stepOp, h1, h3, h5, h7, h10, h12]) h13
      | pan v => exact .pan k v sl' rf' df pn (by simp only [stepOp, h1, h3, h5, h7, h10, h12]) h13
    | _ => exact h2.elim
  | _ => exact h2.elim
theorem putK_el {dst : Option Nat} {v : AV} {k : Slots → Prop} (h : putK dst v sl k) : ∃ sl', putO ⟨sl, rf, df, pn, nb⟩ dst v = ⟨sl', rf, df, pn, nb⟩ ∧ k sl' := by
 cases dst with
 | none => exact ⟨sl, rfl, h⟩
 | some d => exact ⟨_, rfl, h⟩
def NS (nb : Nat) (N : KN) : St → Prop := fun s => s.nb = nb ∧ N s.sl s.rf s.df s.pn
def XS (nb : Nat) (X : KX) : Ex → St → Prop := fun e s => s.nb = nb ∧ X e s.sl s.rf s.df s.pn
theorem stepK {s : St} {o : AOpk} {d : Did} {k k' : Nat} (h : stepOp (T.C k) s o = some d) (hk : k ≤ k') : stepOp (T.C k') s o = some d := stepOp_mono (call_le hk) h
variable {N : KN} {X : KX}
theorem vop_ops {dst : Option Nat} {o : AOpk} {g : Option (Nat × Bool)} {may : Bool} {r : List AOp} (hg : wantedA ⟨sl, rf, df, pn, nb⟩ g = some true)
  (ih : ∀ sl rf df pn, vops T nb N X r sl rf df pn → OP T r ⟨sl, rf, df, pn, nb⟩ (NS nb N) (XS nb X))
  (h : onN T nb dst o may (vops T nb N X r) X sl rf df pn) : OP T (⟨dst, o, g, may⟩ :: r) ⟨sl, rf, df, pn, nb⟩ (NS nb N) (XS nb X) := by
 cases vop_res h with
 | val k v sl' rf' df' pn' h1 h2 =>
   obtain ⟨sl2, h3, h4⟩ := putK_el (rf := rf') (df := df') (pn := pn') (nb := nb) h2
   obtain ⟨k', e, s', h5, h6⟩ := ih _ _ _ _ h4
   refine ⟨max k k', e, s', ?_, h6⟩
   simp only [runOps, hg]
   rw [stepK h1 (Nat.le_max_left _ _)]
   simp only [h3]
   exact opsK h5 (Nat.le_max_right _ _)
 | none_ k sl' rf' df' pn' h1 h2 =>
   obtain ⟨k', e, s', h5, h6⟩ := ih _ _ _ _ h2
   refine ⟨max k k', e, s', ?_, h6⟩
   simp only [runOps, hg]
   rw [stepK h1 (Nat.le_max_left _ _)]
   exact opsK h5 (Nat.le_max_right _ _)
 | pan k v sl' rf' df' pn' h1 h2 =>
   obtain ⟨h3, h4⟩ := ifK_el h2
   refine ⟨k, .pan v, ⟨sl', rf', df', pn', nb⟩, ?_, rfl, h4⟩
   simp only [runOps, hg, h1, h3, if_true]
theorem vops_op : ∀ {l : List AOp} {sl : Slots} {rf : Refs} {df : DF} {pn : PN}, vops T nb N X l sl rf df pn → OP T l ⟨sl, rf, df, pn, nb⟩ (NS nb N) (XS nb X)
 | [], sl, rf, df, pn, h => op_nil ⟨rfl, h⟩
 | ⟨dst, o, none, may⟩ :: r, sl, rf, df, pn, h => vop_ops rfl (fun _ _ _ _ h => vops_op h) h
 | ⟨dst, o, some (t, w), may⟩ :: r, sl, rf, df, pn, h => by
   obtain ⟨g, h1, h2⟩ := lk_el h
   have hoff : ∀ {x : AV}, sl.get t = some x → wantedA ⟨sl, rf, df, pn, nb⟩ (some (t, w)) = some false → offN dst (vops T nb N X r) sl rf df pn →
     OP T (⟨dst, o, some (t, w), may⟩ :: r) ⟨sl, rf, df, pn, nb⟩ (NS nb N) (XS nb X) := fun _ hw h => by
    obtain ⟨sl2, h3, h4⟩ := putK_el (rf := rf) (df := df) (pn := pn) (nb := nb) h
    refine op_off hw ?_
    rw [h3]
    exact vops_op h4
   cases g with
   | d x =>
     cases x with
     | bool x =>
       have hw : wantedA ⟨sl, rf, df, pn, nb⟩ (some (t, w)) = some (x == w) := by simp only [wantedA, h1]
       cases w with
       | true =>
         have h3 := h2 ()
         cases x with
         | true => exact vop_ops hw (fun _ _ _ _ h => vops_op h) (setB_el (h3.h1 rfl) h1)
         | false => exact hoff h1 hw (setB_el (h3.h2 rfl) h1)
       | false =>
         have h3 := h2 ()
         cases x with
         | true => exact hoff h1 hw (setB_el (h3.h1 rfl) h1)
         | false => exact vop_ops hw (fun _ _ _ _ h => vops_op h) (setB_el (h3.h2 rfl) h1)
     | _ => exact h2.elim
   | tup vs =>
     cases vs with
     | nil => exact hoff h1 (by simp only [wantedA, h1]) h2
     | cons a b => exact h2.elim
   | _ => exact h2.elim
end
section
variable {T : Tb} {nb : Nat}
theorem pickK_el {l : List AOp} : ∀ {o : List Nat} {k : List AOp → Prop}, pickK l o k → k (pickL l o)
 | [], k, h => h
 | i :: r, k, h => by
   simp only [pickK] at h
   obtain ⟨x, h1, h2⟩ := nthK_el h
   have := pickK_el h2
   simp only [pickL, List.filterMap_cons, h1] at this ⊢
   exact this
theorem stripK_el {s : St} {t : Nat} {k : Refs → Prop} (h : stripK s.sl s.rf t k) : k (stripAt s t).rf ∧ stripAt s t = { s with rf := (stripAt s t).rf } := by
 obtain ⟨v, h1, h2⟩ := lk_el h
 cases v <;> try exact h2.elim
 rename_i r off
 obtain ⟨cs, h3, h4⟩ := nthK_el h2
 obtain ⟨h5, h6⟩ := ifK_el h4
 have h7 := setK_el (fzs_el h6)
 have h8 : isMp cs = false := by simpa using h5
 have h9 : stripAt s t = { s with rf := s.rf.set r (AV.strips cs) } := by
  unfold stripAt
  rw [h1]
  simp only [h3]
  rw [if_neg (by rw [h8]; decide)]
 rw [h9]
 exact ⟨h7, rfl⟩
theorem vD_one {l' : List AOp} {nk pk : List Nat} {t : Nat} {sl : Slots} {rf : Refs} {df : DF} {pn : PN} {K : DO → Prop} (h : vops T nb (nrmN nk K) (nrmX pk t K) l' sl rf df pn) :
  ∃ k e s e' s', runOps (T.C k) l' ⟨sl, rf, df, pn, nb⟩ = some (e, s) ∧ normD nk pk t (e, s) = (e', s') ∧ s'.nb = nb ∧ K (e', s'.sl, s'.rf, s'.df, s'.pn) := by
 obtain ⟨k, e, s, h1, h2⟩ := vops_op h
 refine ⟨k, e, s, (normD nk pk t (e, s)).1, (normD nk pk t (e, s)).2, h1, rfl, ?_⟩
 obtain ⟨sl1, rf1, df1, pn1, nb1⟩ := s
 cases e with
 | nrm =>
   obtain ⟨h3, h4⟩ := h2
   exact ⟨h3, keepK_el h4⟩
 | pan v =>
   obtain ⟨h3, h4⟩ := h2
   have h5 := keepK_el h4
   have h6 := stripK_el (s := ⟨sl1.keep pk, rf1, df1, pn1, nb1⟩) h5
   simp only [normD]
   rw [h6.2]
   exact ⟨h3, h6.1⟩
 | _ => exact h2.2.elim
theorem vD_el {l : List AOp} {nk pk : List Nat} {t : Nat} {sl : Slots} {rf : Refs} {df : DF} {pn : PN} : ∀ {ords : List (List Nat)} {K : DO → Prop}, vD T nb l nk pk t sl rf df pn ords K →
  ∃ k e s, runD (T.C k) l nk pk t ⟨sl, rf, df, pn, nb⟩ ords = some (e, s) ∧ s.nb = nb ∧ K (e, s.sl, s.rf, s.df, s.pn)
 | [], K, h => h.elim
 | [o], K, h => by
   simp only [vD] at h
   obtain ⟨k, e, s, e', s', h1, h2, h3, h4⟩ := vD_one (pickK_el h)
   exact ⟨k, e', s', by simp only [runD, h1, Option.map_some, h2], h3, h4⟩
 | o :: o' :: r, K, h => by
   simp only [vD] at h
   obtain ⟨k, e, s, e', s', h1, h2, h3, h4⟩ := vD_one (pickK_el h)
   obtain ⟨k2, e2, s2, h5, h6, h7⟩ := vD_el h4
   obtain ⟨h8, h9⟩ := h7 ()
   refine ⟨max k k2, e2, s2, ?_, h6, h9⟩
   have m1 := runOps_mono (call_le (Nat.le_max_left k k2)) h1
   have m2 := runD_mono (call_le (Nat.le_max_right k k2)) h5
   simp only [Prod.mk.injEq] at h8
   obtain ⟨q1, q2, q3, q4, q5⟩ := h8
   have hs : (e', s') = (e2, s2) := by
    obtain ⟨a1, a2, a3, a4, a5⟩ := s'
    obtain ⟨b1, b2, b3, b4, b5⟩ := s2
    simp only at q1 q2 q3 q4 q5 h3 h6
    subst q1 q2 q3 q4 q5 h3 h6
    rfl
   have he := normD_ex h2
   have hx := runOps_ex m1
   simp only [runD, m1, m2, h2, hs]
   rw [if_pos]
   rw [← hs, he]
   exact sameES_refl hx.1 hx.2.1 hx.2.2
theorem vc_wp' : ∀ (c : AC) (N : KN) (X : KX) (sl : Slots) (rf : Refs) (df : DF) (pn : PN), vc T nb c N X sl rf df pn → WP T c ⟨sl, rf, df, pn, nb⟩ (NS nb N) (XS nb X)
 | .skip, N, X, sl, rf, df, pn, h => wp_skip ⟨rfl, h⟩
 | .ops l, N, X, sl, rf, df, pn, h => wp_ops (vops_op h)
 | .opsD l ords nk pk t, N, X, sl, rf, df, pn, h => by
   obtain ⟨k, e, s, h1, h2, h3⟩ := vD_el h
   refine ⟨k, e, s, h1, ?_⟩
   cases e with
   | nrm => exact ⟨h2, h3⟩
   | pan v => exact ⟨h2, h3⟩
   | _ => exact h3.elim
 | .seq a b, N, X, sl, rf, df, pn, h => by
   refine wp_seq ((vc_wp' a _ _ _ _ _ _ h).mono (fun s h1 => ?_) (fun e s h1 => h1))
   obtain ⟨sl', rf', df', pn', nb'⟩ := s
   obtain ⟨h3, h2⟩ := h1
   have h3 := h3.symm
   simp only at h3
   subst h3
   exact vc_wp' b _ _ _ _ _ _ h2
 | .cond c t e, N, X, sl, rf, df, pn, h => by
   obtain ⟨v, h1, h2⟩ := gv_el h
   cases v with
   | d x =>
     cases x with
     | bool x =>
       have h3 := h2 ()
       exact wp_cond h1 (fun q => vc_wp' t _ _ _ _ _ _ (setO_el (h3.h1 q) (q ▸ h1))) (fun q => vc_wp' e _ _ _ _ _ _ (setO_el (h3.h2 q) (q ▸ h1)))
     | _ => exact h2.elim
   | _ => exact h2.elim
 | .block i b, N, X, sl, rf, df, pn, h => by
   refine wp_block ((vc_wp' b _ _ _ _ _ _ h).mono (fun s h1 => h1) (fun e s h1 => ?_))
   obtain ⟨h1, h2⟩ := h1
   cases e with
   | exit j =>
     simp only [blkX] at h2
     split at h2 <;> rename_i hb
     ·have := Nat.eq_of_beq_eq_true hb
      subst this
      exact bx_here ⟨h1, h2⟩
     ·exact bx_exit (show (j == i) = false from by have hb : Nat.beq j i = false := hb; simpa using fun e : j = i => by subst e; simp at hb) ⟨h1, h2⟩
   | nrm => exact ⟨⟨h1, h2⟩⟩
   | ret => exact ⟨⟨h1, h2⟩⟩
   | goto l => exact ⟨⟨h1, h2⟩⟩
   | pan v => exact ⟨⟨h1, h2⟩⟩
 | .loop keep b, N, X, sl, rf, df, pn, h => by
   obtain ⟨k, e, s', h1, h2⟩ := (keepK_el h ()).1
   have h3 : (⟨sl, rf, df, pn, nb⟩ : St).trimLoop keep rf.length = ⟨sl.keep keep, rf, df, pn, nb⟩ := by
    unfold St.trimLoop
    simp only [List.take_length, ite_self]
   refine ⟨k, e, s', by simp only [run, h3]; exact h1, ?_⟩
   cases e with
   | nrm =>
     exfalso
     have key : ∀ (k' : Nat) (s : St), runLoop (run (T.C k) k b) keep rf.length k' s = some (.nrm, s') → False := by
      intro k'
      induction k' with
      | zero => intro s h; simp [runLoop] at h
      | succ k' ih =>
        intro s h
        simp only [runLoop] at h
        split at h
        ·exact ih _ h
        ·rename_i hn; exact hn _ h
     exact key _ _ h1
   | _ => exact h2
 | .exit i, N, X, sl, rf, df, pn, h => wp_exit ⟨rfl, h⟩
 | .ret, N, X, sl, rf, df, pn, h => wp_ret ⟨rfl, h⟩
 | .trim keep b, N, X, sl, rf, df, pn, h => by
   refine wp_trim ((vc_wp' b _ _ _ _ _ _ h).mono (fun s h1 => ?_) (fun e s h1 => h1))
   exact ⟨h1.1, keepK_el h1.2⟩
 | .hole, N, X, sl, rf, df, pn, h => nomatch (h ())
 | .label, N, X, sl, rf, df, pn, h => wp_label' ⟨rfl, h⟩
 | .goto l, N, X, sl, rf, df, pn, h => wp_goto' ⟨rfl, h⟩
 | .scope l b r, N, X, sl, rf, df, pn, h => by
   refine wp_scope ((vc_wp' b _ _ _ _ _ _ h).mono (fun s h1 => h1) (fun e s h1 => ?_))
   obtain ⟨h1, h2⟩ := h1
   cases e with
   | goto j =>
     simp only [scoX] at h2
     split at h2 <;> rename_i hb
     ·have := Nat.eq_of_beq_eq_true hb
      subst this
      refine sx_goto ?_
      obtain ⟨sl', rf', df', pn', nb'⟩ := s
      have h1 := h1.symm
      simp only at h1
      subst h1
      refine (vc_wp' r _ _ _ _ _ _ h2).mono (fun s h3 => h3) (fun e s h3 => ?_)
      obtain ⟨h3, h4⟩ := h3
      cases e with
      | goto i => exact h4.elim
      | _ => exact ⟨⟨h3, h4⟩⟩
     ·exact h2.elim
   | _ => exact ⟨⟨h1, h2⟩⟩
theorem vc_wp (c : AC) {N : KN} {X : KX} {sl : Slots} {rf : Refs} {df : DF} {pn : PN} (h : vc T nb c N X sl rf df pn) : WP T c ⟨sl, rf, df, pn, nb⟩ (NS nb N) (XS nb X) := vc_wp' c _ _ _ _ _ _ h
end
end Go.Ab
namespace Go.Ab
class TOK (T : Tb) : Prop where
 tab : TabOK T.tab
 tabD : TabOK T.tabD
 orc : OrcPlain T.orc
inductive EvD (T : Tb) (f : FuncId) (args : List AV) (m : Option AV) (rf : Refs) (o : Out) (m' : Option AV) (rf' : Refs) : Prop
 | mk (k : Nat) (h : callD T.tabD (T.C k) k f args m rf = some (o, m', rf'))
inductive DefE (T : Tb) (f : FuncId) (args : List AV) (m : Option AV) (rf : Refs) (k : Out → Option AV → Refs → Prop) : Prop
 | mk (o : Out) (m' : Option AV) (rf' : Refs) (h : EvD T f args m rf o m' rf') (h' : k o m' rf')
def resVK (sl : Slots) (rf : Refs) (r : ResV) (k : AV → Prop) : Prop := match r with
 | .tmp t => lk sl t k
 | .cell a agg => lk sl a fun p => ldK rf agg p k
def resVsK (sl : Slots) (rf : Refs) : List ResV → (List AV → Prop) → Prop
 | [], k => k []
 | r :: rs, k => resVK sl rf r fun v => resVsK sl rf rs fun vs => k (v :: vs)
def finK (nb : Nat) (Q : Out → Refs → Prop) (rf : Refs) (v : AV) : Prop := match Nat.ble v.refB nb with
 | true => takeS nb rf fun rf1 => Unit → Q (.ret v) rf1
 | false => Unit → Q (.ret v) rf
def resK (af : AFn) (nb : Nat) (Q : Out → Refs → Prop) (sl : Slots) (rf : Refs) : Prop :=
 match af.keep, af.res with
 | true, [.tmp t] => lk sl t fun v => finK nb Q rf v
 | _, l => resVsK sl rf l fun vs => match vs with
   | [] => finK nb Q rf (.tup [])
   | [v] => bareK v fun v => finK nb Q rf v
   | v :: w :: r => baresK (v :: w :: r) fun vs => finK nb Q rf (.tup vs)
def leaveK (T : Tb) (af : AFn) (nb : Nat) (Q : Out → Refs → Prop) (sl : Slots) : DF → Option AV → Refs → Prop
 | [], some v, rf => bareK v fun v => ifK (Nat.ble v.refB nb) (takeS nb rf fun rf1 => Unit → Q (.pan v) rf1)
 | [], none, rf => resK af nb Q sl rf
 | (f, vs) :: r, m, rf => match f with
   | .fn (.func id) first cap => ccK vs cap fun l => ccK first l fun l => bargsK l fun l => Unit → DefE T id l m rf fun o1 m1 rf1 => match o1 with
     | .ret _ => leaveK T af nb Q sl r m1 rf1
     | .pan v => leaveK T af nb Q sl r (some v) rf1
   | _ => False
def endN (T : Tb) (af : AFn) (nb : Nat) (Q : Out → Refs → Prop) : KN := fun sl rf df _ => leaveK T af nb Q sl df none rf
def endX (T : Tb) (af : AFn) (nb : Nat) (Q : Out → Refs → Prop) : KX := fun e sl rf df _ => match e with
 | .ret => leaveK T af nb Q sl df none rf
 | .pan v => leaveK T af nb Q sl df (some v) rf
 | _ => False
def entK : List AV → Nat → (Slots → Prop) → Prop
 | [], _, k => k []
 | v :: r, i, k => entK r (i + 1) fun s => k ((i, v) :: s)
theorem entK_el : ∀ {l : List AV} {i : Nat} {k : Slots → Prop}, entK l i k → k (enterS l i)
 | [], i, k, h => by simp only [entK] at h; simp only [enterS]; exact h
 | v :: r, i, k, h => by simp only [enterS]; exact entK_el (l := r) h
theorem resVK_el {s : St} {r : ResV} {k : AV → Prop} (h : resVK s.sl s.rf r k) : ∃ v, resA s r = some v ∧ k v := by
 cases r with
 | tmp t => exact lk_el h
 | cell a agg =>
   obtain ⟨p, h1, h2⟩ := lk_el h
   obtain ⟨v, h3, h4⟩ := ldK_el h2
   exact ⟨v, by simp only [resA, h1, h3], h4⟩
theorem resVsK_el {s : St} : ∀ {l : List ResV} {k : List AV → Prop}, resVsK s.sl s.rf l k → ∃ vs, resAs s l = some vs ∧ k vs
 | [], k, h => ⟨[], rfl, h⟩
 | r :: l, k, h => by
   obtain ⟨v, h1, h2⟩ := resVK_el h
   obtain ⟨vs, h3, h4⟩ := resVsK_el h2
   exact ⟨v :: vs, by simp only [resAs, h1, h3], h4⟩
theorem finK_el {nb : Nat} {Q : Out → Refs → Prop} {rf : Refs} {v : AV} (h : finK nb Q rf v) : (v.refB ≤ nb ∧ Q (.ret v) (rf.take nb)) ∨ (¬ v.refB ≤ nb ∧ Q (.ret v) rf) := by
 unfold finK at h
 split at h
 ·rename_i h1
  exact .inl ⟨Nat.le_of_ble_eq_true h1, takeS_el h ()⟩
 ·rename_i h1
  exact .inr ⟨fun q => (by rw [Nat.ble_eq_true_of_le q] at h1; cases h1), h ()⟩
theorem resK_el {af : AFn} {nb : Nat} {Q : Out → Refs → Prop} {s : St} (h : resK af nb Q s.sl s.rf) : ∃ v, resOf s af.keep af.res = some v ∧ ((v.refB ≤ nb ∧ Q (.ret v) (s.rf.take nb)) ∨ (¬ v.refB ≤ nb ∧ Q (.ret v) s.rf)) := by
 unfold resK at h
 unfold resOf
 split at h
 ·rename_i t hk hr
  obtain ⟨v, h1, h2⟩ := lk_el h
  exact ⟨v, by rw [hk, hr]; exact h1, finK_el h2⟩
 ·rename_i hne
  have h0 : ∀ v, resOf0 s af.res = some v → (match af.keep, af.res with | true, [.tmp t] => s.sl.get t | _, l => resOf0 s l) = some v := fun v hv => by
   split
   ·rename_i t hk hr
    exact absurd hr (by rw [hk] at hne; intro e; exact hne t rfl e)
   ·exact hv
  obtain ⟨vs, h1, h2⟩ := resVsK_el h
  cases vs with
  | nil => exact ⟨_, h0 _ (by simp only [resOf0, h1]; rfl), finK_el h2⟩
  | cons v r =>
    cases r with
    | nil => exact ⟨_, h0 _ (by simp only [resOf0, h1]), finK_el (bareK_el h2)⟩
    | cons w r => exact ⟨_, h0 _ (by simp only [resOf0, h1]), finK_el (baresK_el h2)⟩
theorem callD_monoT {T : Tb} {k k' : Nat} (hk : k ≤ k') {f : FuncId} {a : List AV} {m : Option AV} {rf : Refs} {r} (h : callD T.tabD (T.C k) k f a m rf = some r) : callD T.tabD (T.C k') k' f a m rf = some r :=
 callD_mono (call_le hk) hk h
theorem leaveK_el {T : Tb} {af : AFn} {nb : Nat} {Q : Out → Refs → Prop} : ∀ {df : DF} {m : Option AV} {s : St}, leaveK T af nb Q s.sl df m s.rf →
  ∃ k o rf', leave (callD T.tabD (T.C k) k) af nb df m s = some (o, rf') ∧ Q o rf'
 | [], some v, s, h => by
   obtain ⟨h1, h2⟩ := ifK_el (bareK_el h)
   have h3 := takeS_el h2 ()
   refine ⟨0, _, _, ?_, h3⟩
   simp only [leave]
   have h4 := Nat.le_of_ble_eq_true h1
   rw [refB_bare] at h4
   rw [if_pos h4]
 | [], none, s, h => by
   obtain ⟨v, h1, ⟨h2, h3⟩ | ⟨h2, h3⟩⟩ := resK_el h
   ·refine ⟨0, _, _, ?_, h3⟩
    simp only [leave, h1]
    rw [if_pos h2]
   ·refine ⟨0, _, _, ?_, h3⟩
    simp only [leave, h1]
    rw [if_neg h2]
 | (f, vs) :: r, m, s, h => by
   cases f <;> try exact h.elim
   rename_i fn first cap
   cases fn <;> try exact h.elim
   rename_i id
   have h1 := bargsK_el (ccK_el (ccK_el h)) ()
   rw [← List.append_assoc] at h1
   obtain ⟨o1, m1, rf1, ⟨k, h2⟩, h3⟩ := h1
   cases o1 with
   | ret v =>
     obtain ⟨k', o, rf', h4, h5⟩ := leaveK_el (s := { s with rf := rf1 }) h3
     refine ⟨max k k', o, rf', ?_, h5⟩
     simp only [leave]
     rw [callD_monoT (Nat.le_max_left _ _) h2]
     exact leave_mono (fun f a m rf r h => callD_monoT (Nat.le_max_right _ _) h) h4
   | pan v =>
     obtain ⟨k', o, rf', h4, h5⟩ := leaveK_el (s := { s with rf := rf1 }) h3
     refine ⟨max k k', o, rf', ?_, h5⟩
     simp only [leave]
     rw [callD_monoT (Nat.le_max_left _ _) h2]
     exact leave_mono (fun f a m rf r h => callD_monoT (Nat.le_max_right _ _) h) h4
theorem callE_vc {T : Tb} {f : FuncId} {args : List AV} {rf : Refs} {Q : Out → Refs → Prop} {af : AFn} (ho : T.orc f args = none) (hf : T.tab f = some af)
  (h : lenK rf 0 fun nb => entK args 0 fun sl => vc T nb af.body (endN T af nb Q) (endX T af nb Q) sl rf [] none) : CallE T f args rf Q := by
 have h1 := entK_el (lenK_el h)
 rw [Nat.zero_add] at h1
 obtain ⟨k, e, s', h2, h3⟩ := vc_wp _ h1
 have fin : ∀ m, (∃ k' o rf', leave (callD T.tabD (T.C k') k') af rf.length s'.df m s' = some (o, rf') ∧ Q o rf') → (match e with | .nrm => m = none | .ret => m = none | .pan v => m = some v | _ => False) → CallE T f args rf Q := fun m ⟨k', o, rf', h4, hQ⟩ hm => by
  refine ⟨o, rf', ⟨max k k' + 1, ?_⟩, hQ⟩
  simp only [Tb.C, call, ho, hf]
  have h5 := runK h2 (Nat.le_max_left k k')
  simp only [Tb.C] at h5
  rw [h5]
  have h6 := leave_mono (fun f a m rf r h => callD_monoT (T := T) (Nat.le_max_right k k') h) h4
  cases e with
  | nrm => simp only at hm; subst hm; exact h6
  | ret => simp only at hm; subst hm; exact h6
  | pan v => simp only at hm; subst hm; exact h6
  | exit i => exact hm.elim
  | goto i => exact hm.elim
 cases e with
 | nrm => exact fin none (leaveK_el h3.2) rfl
 | ret => exact fin none (leaveK_el h3.2) rfl
 | pan v => exact fin (some v) (leaveK_el h3.2) rfl
 | exit i => exact h3.2.elim
 | goto i => exact h3.2.elim
theorem ev_vc {T : Tb} {f : FuncId} {args : List AV} {rf : Refs} {o : Out} {rf' : Refs} {af : AFn} (ho : T.orc f args = none) (hf : T.tab f = some af)
  (h : lenK rf 0 fun nb => entK args 0 fun sl => vc T nb af.body (endN T af nb (fun a b => EndE a b o rf')) (endX T af nb (fun a b => EndE a b o rf')) sl rf [] none) : Ev T f args rf o rf' := by
 obtain ⟨o1, rf1, h1, h2⟩ := callE_vc ho hf h
 rw [← h2.h1, ← h2.h2]
 exact h1
theorem evd_vc {T : Tb} {f : FuncId} {args : List AV} {m : Option AV} {rf : Refs} {o : Out} {m' : Option AV} {rf' : Refs} {af : AFn} (hf : T.tabD f = some af)
  (h : lenK rf 0 fun nb => entK args 0 fun sl => vc T nb af.body (fun _ rf df pn => df = [] ∧ (match pn with | some x => x = m' | none => False) ∧ takeS nb rf fun rf1 => EndE (.ret (.tup [])) rf1 o rf')
   (fun e _ rf df pn => match e with
    | .ret => df = [] ∧ (match pn with | some x => x = m' | none => False) ∧ takeS nb rf fun rf1 => EndE (.ret (.tup [])) rf1 o rf'
    | .pan v => df = [] ∧ (match pn with | some x => x = m' | none => False) ∧ bareK v fun v => ifK (Nat.ble v.refB nb) (takeS nb rf fun rf1 => EndE (.pan v) rf1 o rf')
    | _ => False) sl rf [] (some m)) : EvD T f args m rf o m' rf' := by
 have h1 := entK_el (lenK_el h)
 rw [Nat.zero_add] at h1
 obtain ⟨k, e, s', h2, h3⟩ := vc_wp _ h1
 refine ⟨k, ?_⟩
 unfold callD
 simp only [hf]
 rw [h2]
 have hp : ∀ {x : PN}, (match x with | some x => x = m' | none => False) → x.getD none = m' := fun {x} h => by
  cases x with
  | none => exact h.elim
  | some y => exact h
 cases e with
 | nrm =>
   obtain ⟨_, h4, h5, h6⟩ := h3
   have h7 := takeS_el h6
   simp only [h4, List.isEmpty_nil, if_true, hp h5]
   rw [← h7.h1, ← h7.h2]
 | ret =>
   obtain ⟨_, h4, h5, h6⟩ := h3
   have h7 := takeS_el h6
   simp only [h4, List.isEmpty_nil, if_true, hp h5]
   rw [← h7.h1, ← h7.h2]
 | pan v =>
   obtain ⟨_, h4, h5, h6⟩ := h3
   obtain ⟨h8, h9⟩ := ifK_el (bareK_el h6)
   have h7 := takeS_el h9
   have h10 := Nat.le_of_ble_eq_true h8
   rw [refB_bare] at h10
   simp only [h4, List.isEmpty_nil, true_and, h10, if_true, hp h5]
   rw [← h7.h1, ← h7.h2]
 | exit i => exact h3.2.elim
 | goto i => exact h3.2.elim
/-! calls from code -/
section
variable {T : Tb} {f : FuncId} {args : List AV} {rf : Refs} {k : Out → Refs → Prop}
theorem callE_ev {o : Out} {rf' : Refs} (h : Ev T f args rf o rf') (h' : k o rf') : CallE T f args rf k := ⟨o, rf', h, h'⟩
theorem Ev.big [hT : TOK T] {a0 : List AV} {rf0 : Refs} {o : Out} {rf0' : Refs} (h : Ev T f a0 rf0 o rf0') (m : Mv) {RF : Refs} (hR : Rl m RF rf0 RF) :
  ∃ RF', Rl m RF rf0' RF' ∧ Ev T f (AV.mvs m a0) RF (o.mv m) RF' := by
 obtain ⟨k, h⟩ := h
 obtain ⟨RF', h1, h2⟩ := call_mv hT.tab hT.tabD hT.orc k _ _ _ _ _ _ hR h
 exact ⟨RF', h1, k, h2⟩
def Mv.none (N : Nat) : Mv := ⟨0, N, fun _ => 0, fun _ _ _ h => absurd h (Nat.not_lt_zero _), fun _ h => absurd h (Nat.not_lt_zero _)⟩
theorem Out.mv_clean {m : Mv} {o : Out} (h : o.val.refB = 0) : o.mv m = o := by
 cases o <;> (simp only [Out.val] at h; simp only [Out.mv, Ab.mv_clean m h])
theorem Rl.none_eq {B rf RF : Refs} {N : Nat} (h : Rl (Mv.none N) B rf RF) : RF.take N = B.take N := by
 apply List.ext_getElem?
 intro j
 by_cases hj : j < N
 ·rw [List.getElem?_take_of_lt hj, List.getElem?_take_of_lt hj]
  exact h.there j hj (fun i hi => absurd hi (Nat.not_lt_zero _))
 ·rw [List.getElem?_take_eq_none (by omega), List.getElem?_take_eq_none (by omega)]
theorem Ev.any [hT : TOK T] {o : Out} (h : Ev T f args [] o []) (ha : AV.refBs args = 0) (rf : Refs) : Ev T f args rf o rf := by
 have hb : o.val.refB = 0 := by
  obtain ⟨k, h1⟩ := h
  have := (call_wf hT.tab hT.tabD (fun f a v h => (hT.orc f a v h).1) k _ _ _ _ _ h1 (fun r cs hr => by simp at hr) (by rw [ha]; exact Nat.le_refl _)).2.2.1
  simpa using this
 obtain ⟨RF', h1, h2⟩ := h.big (Mv.none rf.length) (RF := rf) ⟨Nat.zero_le _, by simp [Mv.none], fun i hi => by simp at hi, fun _ _ _ => rfl⟩
 have h3 := h1.none_eq
 have h4 : RF'.length = rf.length := by rw [h1.len]; simp [Mv.none]
 rw [List.take_of_length_le (by omega), List.take_of_length_le (Nat.le_refl _)] at h3
 subst h3
 rwa [mvs_clean _ ha, Out.mv_clean hb] at h2
theorem callE_pl [TOK T] {o : Out} (h : Ev T f args [] o []) (ha : AV.refBs args = 0) (h' : k o rf) : CallE T f args rf k := ⟨o, rf, h.any ha rf, h'⟩
def okL : List Nat → Nat → Bool
 | [], _ => true
 | [a], N => Nat.blt a N
 | a :: b :: r, N => Nat.blt a b && okL (b :: r) N
theorem okL_lt : ∀ {l : List Nat} {N : Nat}, okL l N = true → ∀ i, i < l.length → l.getD i 0 < N
 | [], _, _, i, hi => by simp at hi
 | [a], N, h, i, hi => by
   simp only [List.length_cons, List.length_nil] at hi
   obtain rfl : i = 0 := by omega
   simp only [okL, Nat.blt, Nat.ble_eq] at h
   simp only [List.getD_cons_zero]; omega
 | a :: b :: r, N, h, i, hi => by
   simp only [okL, Bool.and_eq_true] at h
   cases i with
   | zero =>
     have h1 := okL_lt h.2 0 (by simp)
     have h2 : a < b := by have := h.1; simp only [Nat.blt, Nat.ble_eq] at this; omega
     simp only [List.getD_cons_zero] at h1 ⊢
     omega
   | succ i => simpa using okL_lt h.2 i (by simpa using hi)
theorem okL_mono : ∀ {l : List Nat} {N : Nat}, okL l N = true → ∀ i j, i < j → j < l.length → l.getD i 0 < l.getD j 0
 | [], _, _, i, j, _, hj => by simp at hj
 | [a], N, h, i, j, hi, hj => by simp at hj; omega
 | a :: b :: r, N, h, i, j, hi, hj => by
   simp only [okL, Bool.and_eq_true] at h
   have h2 : a < b := by have := h.1; simp only [Nat.blt, Nat.ble_eq] at this; omega
   cases j with
   | zero => omega
   | succ j =>
     cases i with
     | zero =>
       simp only [List.getD_cons_zero, List.getD_cons_succ]
       cases j with
       | zero => simpa using h2
       | succ j =>
         have := okL_mono h.2 0 (j + 1) (by omega) (by simpa using hj)
         simp only [List.getD_cons_zero] at this
         omega
     | succ i => simpa using okL_mono h.2 i j (by omega) (by simpa using hj)
def Mv.of (l : List Nat) (N : Nat) (h : okL l N = true) : Mv := ⟨l.length, N, fun i => l.getD i 0, okL_mono h, okL_lt h⟩
def scat : List Nat → Refs → Refs → Refs
 | p :: l, c :: cs, rf => scat l cs (rf.set p c)
 | _, _, rf => rf
theorem scat_length : ∀ (l : List Nat) (cs rf : Refs), (scat l cs rf).length = rf.length
 | [], cs, rf => by simp [scat]
 | p :: l, [], rf => by simp [scat]
 | p :: l, c :: cs, rf => by simp [scat, scat_length l cs]
theorem scat_out : ∀ (l : List Nat) (cs rf : Refs) (j : Nat), (∀ i, i < l.length → l.getD i 0 ≠ j) → (scat l cs rf)[j]? = rf[j]?
 | [], cs, rf, j, h => by simp [scat]
 | p :: l, [], rf, j, h => by simp [scat]
 | p :: l, c :: cs, rf, j, h => by
   simp only [scat]
   rw [scat_out l cs _ j (fun i hi => by simpa using h (i + 1) (by simpa using hi)), List.getElem?_set_ne]
   simpa using h 0 (by simp)
theorem scat_in : ∀ (l : List Nat) (cs rf : Refs) (N : Nat), okL l N = true → N ≤ rf.length → ∀ i, i < l.length → i < cs.length → (scat l cs rf)[l.getD i 0]? = cs[i]?
 | [], cs, rf, N, _, _, i, hi, _ => by simp at hi
 | p :: l, [], rf, N, _, _, i, _, hi => by simp at hi
 | p :: l, c :: cs, rf, N, h, hN, i, hi, hc => by
   simp only [scat]
   cases i with
   | zero =>
     simp only [List.getD_cons_zero, List.getElem?_cons_zero]
     rw [scat_out]
     ·have := okL_lt h 0 (by simp)
      simp only [List.getD_cons_zero] at this
      rw [List.getElem?_set_self (by omega)]
     ·intro i hi
      have := okL_mono h 0 (i + 1) (by omega) (by simpa using hi)
      simp only [List.getD_cons_zero, List.getD_cons_succ] at this
      omega
   | succ i =>
     simp only [List.getD_cons_succ, List.getElem?_cons_succ]
     have h' : okL l N = true := by
      cases l with
      | nil => rfl
      | cons b r => simp only [okL, Bool.and_eq_true] at h; exact h.2
     exact scat_in l cs _ N h' (by simpa using hN) i (by simpa using hi) (by simpa using hc)
theorem Ev.at [hT : TOK T] {a0 : List AV} {rf0 : Refs} {o : Out} {rf0' : Refs} (h : Ev T f a0 rf0 o rf0') (l : List Nat) {RF : Refs} (hl : okL l RF.length = true) (hn : l.length = rf0.length) (hn' : rf0'.length = rf0.length)
  (hr : l.map (RF[·]?) = rf0.map (fun cs => some (AV.mvs (Mv.of l RF.length hl) cs))) :
  Ev T f (AV.mvs (Mv.of l RF.length hl) a0) RF (o.mv (Mv.of l RF.length hl)) (scat l (rf0'.map (AV.mvs (Mv.of l RF.length hl))) RF) := by
 generalize hm : Mv.of l RF.length hl = m at *
 have e1 : m.n = l.length := by subst hm; rfl
 have e2 : m.N = RF.length := by subst hm; rfl
 have e3 : ∀ i, m.g i = l.getD i 0 := fun i => by subst hm; rfl
 have e4 : ∀ i, i < l.length → m.to i = l.getD i 0 := fun i hi => by unfold Mv.to; rw [if_pos (by omega), e3]
 have e5 : ∀ i, i < l.length → l[i]? = some (l.getD i 0) := fun i hi => by rw [List.getD_eq_getElem?_getD, List.getElem?_eq_getElem hi]; rfl
 have hR : Rl m RF rf0 RF := by
  refine ⟨by omega, by omega, fun i hi => ?_, fun _ _ _ => rfl⟩
  have h1 := congrArg (·[i]?) hr
  simp only [List.getElem?_map] at h1
  rw [e5 i (by omega)] at h1
  rw [e4 i (by omega)]
  rw [List.getElem?_eq_getElem hi] at h1 ⊢
  simpa using h1
 obtain ⟨RF', h1, h2⟩ := h.big m hR
 have h3 : Rl m RF rf0' (scat l (rf0'.map (AV.mvs m)) RF) := by
  refine ⟨by omega, by rw [scat_length]; omega, fun i hi => ?_, fun j hj hne => ?_⟩
  ·rw [e4 i (by omega), scat_in l _ _ _ hl (Nat.le_refl _) i (by omega) (by simpa using hi), List.getElem?_map]
  ·exact scat_out _ _ _ _ fun i hi => by rw [← e3]; exact hne i (by omega)
 rwa [h1.uniq h3]
def scatK : List Nat → Refs → Refs → (Refs → Prop) → Prop
 | p :: l, c :: cs, rf, k => setK rf p c fun rf' => scatK l cs rf' k
 | [], _, rf, k => k rf
 | _ :: _, [], rf, k => k rf
theorem scatK_el : ∀ {l : List Nat} {cs rf : Refs} {k : Refs → Prop}, scatK l cs rf k → k (scat l cs rf)
 | p :: l, c :: cs, rf, k, h => by simp only [scat]; exact scatK_el (setK_el h)
 | [], cs, rf, k, h => by simpa only [scat, scatK] using h
 | _ :: _, [], rf, k, h => by simpa only [scat, scatK] using h
def mvOK (m : Mv) (o : Out) (k : Out → Prop) : Prop := match o with
 | .ret v => mvK m v fun v => k (.ret v)
 | .pan v => mvK m v fun v => k (.pan v)
where
 mvK (m : Mv) (v : AV) (k : AV → Prop) : Prop := k (v.mv m)
theorem callE_at [TOK T] {a0 : List AV} {rf0 : Refs} {o : Out} {rf0' : Refs} (l : List Nat) (h : Ev T f a0 rf0 o rf0') (hl : okL l rf.length = true) (hn : l.length = rf0.length) (hn' : rf0'.length = rf0.length)
  (hr : l.map (rf[·]?) = rf0.map (fun cs => some (AV.mvs (Mv.of l rf.length hl) cs))) (ha : AV.mvs (Mv.of l rf.length hl) a0 = args)
  (h' : scatK l (rf0'.map (AV.mvs (Mv.of l rf.length hl))) rf (k (o.mv (Mv.of l rf.length hl)))) : CallE T f args rf k := by
 have := h.at l hl hn hn' hr
 rw [ha] at this
 exact ⟨_, _, this, scatK_el h'⟩
end
/-! loops -/
def upd : Slots → Slots → Slots
 | [], _ => []
 | (i, v) :: r, ch => (i, (ch.get i).getD v) :: upd r ch
def updK : Slots → Slots → (Slots → Prop) → Prop
 | [], _, k => k []
 | (i, v) :: r, ch, k => keepK.lkO ch i (fun w => updK r ch fun r' => k ((i, w) :: r')) (updK r ch fun r' => k ((i, v) :: r'))
theorem updK_el : ∀ {sl ch : Slots} {k : Slots → Prop}, updK sl ch k → k (upd sl ch)
 | [], ch, k, h => h
 | (i, v) :: r, ch, k, h => by
   have h1 := lkO_el h
   simp only [upd]
   split at h1 <;> rename_i hg
   ·rw [hg]; exact updK_el h1
   ·rw [hg]; exact updK_el h1
theorem updK_mk : ∀ {sl ch : Slots} {k : Slots → Prop}, k (upd sl ch) → updK sl ch k
 | [], ch, k, h => h
 | (i, v) :: r, ch, k, h => by
   have key : ∀ (s : Slots) (a : AV → Prop) (b : Prop), (match s.get i with | some v => a v | none => b) → keepK.lkO s i a b := fun s => by
    induction s with
    | nil => intro a b h; exact h
    | cons p s ih =>
      intro a b h
      obtain ⟨j, w⟩ := p
      simp only [keepK.lkO]
      by_cases hj : j = i
      ·subst hj; simp [Slots.get] at h; simpa using h
      ·have hb : Nat.beq j i = false := by
        cases hq : Nat.beq j i with
        | false => rfl
        | true => exact absurd (Nat.eq_of_beq_eq_true hq) hj
       rw [hb]
       exact ih a b (by simpa [Slots.get, hj] using h)
   apply key
   simp only [upd] at h
   cases hg : ch.get i with
   | none => rw [hg] at h; exact updK_mk h
   | some w => rw [hg] at h; exact updK_mk h
def lkR : List (Nat × List AV) → Nat → List AV → List AV
 | [], _, c => c
 | (j, d) :: r, i, c => match Nat.beq j i with
   | true => d
   | false => lkR r i c
def updR' : Refs → Nat → List (Nat × List AV) → Refs
 | [], _, _ => []
 | c :: r, i, h => lkR h i c :: updR' r (i + 1) h
def updR (rf : Refs) (h : List (Nat × List AV)) : Refs := match h with
 | [] => rf
 | a :: r => updR' rf 0 (a :: r)
def lkRK : List (Nat × List AV) → Nat → List AV → (List AV → Prop) → Prop
 | [], _, c, k => k c
 | (j, d) :: r, i, c, k => match Nat.beq j i with
   | true => k d
   | false => lkRK r i c k
def updRK' : Refs → Nat → List (Nat × List AV) → (Refs → Prop) → Prop
 | [], _, _, k => k []
 | c :: r, i, h, k => lkRK h i c fun c' => updRK' r (i + 1) h fun r' => k (c' :: r')
def updRK (rf : Refs) (h : List (Nat × List AV)) (k : Refs → Prop) : Prop := match h with
 | [] => k rf
 | a :: r => updRK' rf 0 (a :: r) k
theorem lkRK_el : ∀ {h : List (Nat × List AV)} {i : Nat} {c : List AV} {k : List AV → Prop}, lkRK h i c k → k (lkR h i c)
 | [], i, c, k, h => h
 | (j, d) :: r, i, c, k, h => by
   simp only [lkRK] at h
   simp only [lkR]
   split at h <;> rename_i hb
   ·exact h
   ·exact lkRK_el h
theorem updRK'_el : ∀ {rf : Refs} {i : Nat} {h : List (Nat × List AV)} {k : Refs → Prop}, updRK' rf i h k → k (updR' rf i h)
 | [], i, h, k, q => q
 | c :: r, i, h, k, q => by
   have q1 := lkRK_el q
   exact updRK'_el (rf := r) q1
theorem updRK_el {rf : Refs} {h : List (Nat × List AV)} {k : Refs → Prop} (q : updRK rf h k) : k (updR rf h) := by
 cases h with
 | nil => exact q
 | cons a r => exact updRK'_el q
inductive IterE {σ : Type} (keep : List Nat) (n nb : Nat) (ch : σ → Slots) (hch : σ → List (Nat × List AV)) (m : σ → Nat) (P : σ → Prop) (x : σ) (sl0 : Slots) (rf0 : Refs) (df0 : DF) (pn0 : PN) (sl' sl : Slots) (rf : Refs) (df : DF) (pn : PN) : Prop
 | mk (y : σ) (hP : P y) (hm : m y < m x) (h1 : sl = upd sl0 (ch y)) (h2 : (St.trimLoop ⟨sl', rf, df, pn, nb⟩ keep n).rf = updR rf0 (hch y)) (h3 : df = df0) (h4 : pn = pn0)
theorem trim_or (s : St) (keep : List Nat) (n : Nat) : s.trimLoop keep n = ⟨s.sl.keep keep, s.rf.take n, s.df, s.pn, s.nb⟩ ∨ s.trimLoop keep n = ⟨s.sl.keep keep, s.rf, s.df, s.pn, s.nb⟩ := by
 by_cases hc : AV.refBs ((s.sl.keep keep).map (·.2)) ≤ n ∧ refsB ((s.rf.take n).drop s.nb) ≤ n ∧ dfB s.df ≤ n
 ·exact .inl (if_pos hc)
 ·exact .inr (if_neg hc)
theorem trim_same {sl : Slots} {rf : Refs} {df : DF} {pn : PN} {nb n : Nat} {keep : List Nat} (h : rf.length = n) : (St.trimLoop ⟨sl, rf, df, pn, nb⟩ keep n).rf = rf := by
 rcases trim_or ⟨sl, rf, df, pn, nb⟩ keep n with e | e
 ·rw [e]; simp [← h]
 ·rw [e]
theorem trim_eq {s : St} {keep : List Nat} {n : Nat} : s.trimLoop keep n = ⟨s.sl.keep keep, (s.trimLoop keep n).rf, s.df, s.pn, s.nb⟩ := by
 rcases trim_or s keep n with e | e <;> rw [e]
theorem loopR {σ : Type} {T : Tb} {keep : List Nat} {b : AC} {sl : Slots} {rf : Refs} {df : DF} {pn : PN} {nb : Nat} {X : KX} (ch : σ → Slots) (hch : σ → List (Nat × List AV)) (m : σ → Nat) (P : σ → Prop) (x0 : σ)
  (h0 : P x0) (hs : sl = upd sl (ch x0)) (hr : rf = updR rf (hch x0))
  (step : ∀ x, P x → updK sl (ch x) fun sl1 => updRK rf (hch x) fun rf1 => lenK rf 0 fun n => vc T nb b (fun sl' rf' df' pn' => keepK sl' keep fun sl2 => Unit → IterE keep n nb ch hch m P x sl rf df pn sl' sl2 rf' df' pn') X sl1 rf1 df pn) :
  LoopE T keep b sl rf df pn nb X := by
 have key : ∀ (k : Nat) x, m x = k → P x → LP T keep rf.length b ⟨upd sl (ch x), updR rf (hch x), df, pn, nb⟩ (XS nb X) := by
  intro k
  induction k using Nat.strongRecOn with
  | _ k ih =>
    intro x hk hP
    refine LP.step ((vc_wp b (lenK_el (updRK_el (updK_el (step x hP))))).mono (fun s h1 => ?_) (fun e s h1 => h1))
    obtain ⟨rfl, h2⟩ := h1
    obtain ⟨y, hPy, hm, h3, h4, h5, h6⟩ := keepK_el h2 ()
    rw [Nat.zero_add] at h4
    have := ih (m y) (by omega) y rfl hPy
    rw [trim_eq, h3, h4, h5, h6]
    exact this
 have := key _ x0 rfl h0
 rw [← hs, ← hr] at this
 exact ⟨this⟩
end Go.Ab
namespace Go.Ab
theorem condT {A B : Prop} (h : A) : CondE true A B := ⟨fun _ => h, fun h => by cases h⟩
theorem condF {A B : Prop} (h : B) : CondE false A B := ⟨fun h => (by cases h), fun _ => h⟩
theorem condD {p : Prop} [Decidable p] {A B : Prop} (h1 : p → A) (h2 : ¬ p → B) : CondE (decide p) A B := ⟨fun h => h1 (of_decide_eq_true h), fun h => h2 (of_decide_eq_false h)⟩
theorem condN {b : Bool} {A B : Prop} (h : CondE b B A) : CondE (!b) A B := ⟨fun q => h.h2 (by simpa using q), fun q => h.h1 (by simpa using q)⟩
theorem condX {b : Bool} {A B : Prop} (h : CondE b A B) : CondE (b != false) A B := ⟨fun q => h.h1 (by simpa using q), fun q => h.h2 (by simpa using q)⟩
theorem condY {b : Bool} {A B : Prop} (h : CondE b B A) : CondE (b != true) A B := ⟨fun q => h.h2 (by simpa using q), fun q => h.h1 (by simpa using q)⟩
theorem condB {b : Bool} {A B : Prop} (h1 : b = true → A) (h2 : b = false → B) : CondE b A B := ⟨h1, h2⟩
theorem condt {b : Bool} {A B : Prop} (hb : b = true) (h : A) : CondE b A B := by subst hb; exact condT h
theorem condf {b : Bool} {A B : Prop} (hb : b = false) (h : B) : CondE b A B := by subst hb; exact condF h
theorem condp {p : Prop} [Decidable p] {A B : Prop} (hp : p) (h : A) : CondE (decide p) A B := condt (decide_eq_true hp) h
theorem condn {p : Prop} [Decidable p] {A B : Prop} (hp : ¬ p) (h : B) : CondE (decide p) A B := condf (decide_eq_false hp) h
theorem wr_of {q : IntKind} {n : Int} {c : Int → Prop} (h1 : q.min ≤ n) (h2 : n ≤ q.max) (h : c n) : WrE q n c := ⟨by rw [wrap_of h1 h2]; exact h⟩
theorem wrA {a b : Nat} {c : Int → Prop} (h1 : a + b ≤ 9223372036854775807) (h : c ((a + b : Nat) : Int)) : WrE .i64 ((a : Int) + (b : Int)) c := wr_of (by rw [n64]; omega) (by rw [m64]; omega) (by simpa using h)
theorem wrS {a b : Nat} {c : Int → Prop} (h1 : b ≤ a) (h2 : a ≤ 9223372036854775807) (h : c ((a - b : Nat) : Int)) : WrE .i64 ((a : Int) - (b : Int)) c := wr_of (by rw [n64]; omega) (by rw [m64]; omega) (by rw [Int.ofNat_sub h1] at h; exact h)
theorem wrM {a b : Nat} {c : Int → Prop} (h1 : a * b ≤ 9223372036854775807) (h : c ((a * b : Nat) : Int)) : WrE .i64 ((a : Int) * (b : Int)) c :=
 wr_of (by rw [n64, ← Int.natCast_mul]; omega) (by rw [m64, ← Int.natCast_mul]; omega) (by simpa using h)
theorem wrI {n : Int} {c : Int → Prop} (h1 : -9223372036854775808 ≤ n) (h2 : n ≤ 9223372036854775807) (h : c n) : WrE .i64 n c := wr_of (by rw [n64]; exact h1) (by rw [m64]; exact h2) h
theorem wrB {n : Int} {c : Int → Prop} (h1 : 0 ≤ n) (h2 : n ≤ 255) (h : c n) : WrE .u8 n c := wr_of (by rw [n8]; exact h1) (by rw [m8]; exact h2) h
theorem wrBA {a b : Nat} {c : Int → Prop} (h1 : a + b ≤ 255) (h : c ((a + b : Nat) : Int)) : WrE .u8 ((a : Int) + (b : Int)) c := wr_of (by rw [n8]; omega) (by rw [m8]; omega) (by simpa using h)
theorem wrBS {a b : Nat} {c : Int → Prop} (h1 : b ≤ a) (h2 : a ≤ 255) (h : c ((a - b : Nat) : Int)) : WrE .u8 ((a : Int) - (b : Int)) c := wr_of (by rw [n8]; omega) (by rw [m8]; omega) (by rw [Int.ofNat_sub h1] at h; exact h)
theorem wrU {n : Int} {c : Int → Prop} (h1 : 0 ≤ n) (h2 : n ≤ 18446744073709551615) (h : c n) : WrE .u64 n c := wr_of (by rw [nU]; exact h1) (by rw [mU]; exact h2) h
theorem strC {a b : List UInt8} {c : List UInt8 → Prop} (h1 : a.length + b.length ≤ 17179869184) (h : c (a ++ b)) : CatE a b c := ⟨h1, h⟩
theorem remN {a b : Nat} {c : Int → Prop} (h1 : b ≠ 0) (h : c ((a % b : Nat) : Int)) : RemE (a : Int) (b : Int) c := ⟨by omega, by
 have : (a : Int).tmod (b : Int) = ((a % b : Nat) : Int) := by rw [Int.ofNat_tmod]
 rw [this]; exact h⟩
theorem quoN {q : IntKind} {a b : Nat} {c : Int → Prop} (hk : q.min ≤ 0) (h0 : (a : Int) ≤ q.max) (h1 : b ≠ 0) (h : c ((a / b : Nat) : Int)) : QuoE q (a : Int) (b : Int) c := by
 refine ⟨by omega, ?_⟩
 have e : (a : Int).tdiv (b : Int) = ((a / b : Nat) : Int) := by rw [Int.ofNat_tdiv]
 have h3 : ((a / b : Nat) : Int) ≤ (a : Int) := Int.ofNat_le.2 (Nat.div_le_self a b)
 have h4 := Int.natCast_nonneg (a / b)
 rw [e, wrap_of (Int.le_trans hk h4) (Int.le_trans h3 h0)]
 exact h
theorem idxS {l : List UInt8} {i : Nat} {c : UInt8 → Prop} (h1 : i < l.length) (h : ∀ b, l[i]? = some b → c b) : IdxS l (i : Int) c := ⟨i, l[i], rfl, List.getElem?_eq_getElem h1, h _ (List.getElem?_eq_getElem h1)⟩
theorem idxSb {l : List UInt8} {i : Nat} {b : UInt8} {c : UInt8 → Prop} (h1 : l[i]? = some b) (h : c b) : IdxS l (i : Int) c := ⟨i, b, rfl, h1, h⟩
theorem idxSi {l : List UInt8} {n : Int} (i : Nat) {c : UInt8 → Prop} (hn : n = i) (h1 : i < l.length) (h : ∀ b, l[i]? = some b → c b) : IdxS l n c := ⟨i, l[i], hn, List.getElem?_eq_getElem h1, h _ (List.getElem?_eq_getElem h1)⟩
theorem idxLb {sz : Nat} {es : List (List D)} {i : Nat} {cs : List D} {c : List D → Prop} (h1 : es[i]? = some cs) (h2 : cs.length = sz) (h : c cs) : IdxL sz es (i : Int) c := ⟨i, cs, rfl, h1, h2, h⟩
theorem idxAi {m i : Nat} {c : Nat → Prop} (h1 : i < m) (h : c i) : IdxA m (i : Int) c := ⟨i, rfl, h1, h⟩
theorem subLo {l : List UInt8} {i : Nat} {c : List UInt8 → Prop} (h1 : i ≤ l.length) (h : c (l.drop i)) : SubE l (some (i : Int)) none c := ⟨i, l.length, rfl, rfl, h1, Nat.le_refl _, by rw [List.take_of_length_le (Nat.le_refl _)]; exact h⟩
theorem subHi {l : List UInt8} {i : Nat} {c : List UInt8 → Prop} (h1 : i ≤ l.length) (h : c (l.take i)) : SubE l none (some (i : Int)) c := ⟨0, i, rfl, rfl, Nat.zero_le _, h1, h⟩
theorem subBo {l : List UInt8} {i j : Nat} {c : List UInt8 → Prop} (h1 : i ≤ j) (h2 : j ≤ l.length) (h : c ((l.take j).drop i)) : SubE l (some (i : Int)) (some (j : Int)) c := ⟨i, j, rfl, rfl, h1, h2, h⟩
theorem subLLo {sz : Nat} {l : List (List D)} {i : Nat} {c : List (List D) → Prop} (h1 : i ≤ l.length) (h2 : sizesB sz l = true) (h : c (l.drop i)) : SubL sz l (some (i : Int)) none c := ⟨i, l.length, rfl, rfl, h1, Nat.le_refl _, h2, by rw [List.take_of_length_le (Nat.le_refl _)]; exact h⟩
theorem subLHi {sz : Nat} {l : List (List D)} {i : Nat} {c : List (List D) → Prop} (h1 : i ≤ l.length) (h2 : sizesB sz l = true) (h : c (l.take i)) : SubL sz l none (some (i : Int)) c := ⟨0, i, rfl, rfl, Nat.zero_le _, h1, h2, h⟩
theorem subAa {n : Nat} {c : Nat → Nat → Prop} (h : c 0 n) : SubA n none none c := ⟨0, n, rfl, rfl, Nat.zero_le _, Nat.le_refl _, h⟩
theorem appL {sz : Nat} {es ys : List (List D)} {c : List (List D) → Prop} (h1 : es.length + ys.length ≤ 17179869184) (h2 : sizesB sz es = true) (h3 : sizesB sz ys = true) (h : c (es ++ ys)) : AppE sz es ys c := ⟨h1, h2, h3, h⟩
theorem appN1 {sz : Nat} {y : List D} {ys : List (List D)} {c : AV → Prop} (h1 : (y :: ys).length ≤ 17179869184) (h2 : y.length = sz) (h : c (.own (y :: ys))) : AppN sz (y :: ys) c := ⟨h1, by simp [sizesB, h2], fun e => by simp at e, fun _ => h⟩
theorem nilB {nk : Nat} {a : AV} {c : Bool → Prop} {t : Bool} (h1 : eqNilA nk a = some t) (h : c t) : NilE nk a c := ⟨t, h1, h⟩
theorem eqcB {ks : List PK} {a b : List AV} {c : Bool → Prop} {t : Bool} (h1 : eqCells ks a b = some t) (h : c t) : EqcE ks a b c := ⟨t, h1, h⟩
theorem strB {es : List (List D)} {l : List UInt8} {c : List UInt8 → Prop} (h1 : strOf es = some l) (h : c l) : StrE es c := ⟨l, h1, h⟩
theorem bytesB {l : List UInt8} {c : AV → Prop} (h0 : l ≠ []) (h : c (.own (bytesOf l))) : BytesE l c := ⟨fun e => absurd e h0, fun _ => h⟩
theorem bitAnd {q : IntKind} {a b : Nat} {c : Int → Prop} (ha : (a : Int) ≤ q.max) (hb : (b : Int) ≤ q.max) (hk : q.min ≤ 0) (h : c ((a &&& b : Nat) : Int)) : BitE .and q (a : Int) (b : Int) c := ⟨_, bn_and ha hb hk, h⟩
theorem bitOr {q : IntKind} {a b : Nat} {c : Int → Prop} (ha : (a : Int) ≤ q.max) (hb : (b : Int) ≤ q.max) (hk : q.min ≤ 0) (h : c ((a ||| b : Nat) : Int)) : BitE .or q (a : Int) (b : Int) c := ⟨_, bn_or ha hb hk, h⟩
theorem shlN {q q' : IntKind} {a b : Nat} {c : Int → Prop} (hb : b ≤ q.bits) (hk : q.min ≤ 0) (hm : ((a * 2 ^ b : Nat) : Int) ≤ q.max) (h : c ((a * 2 ^ b : Nat) : Int)) : ShE .shl q q' (a : Int) (b : Int) c := ⟨_, bn_shl hb hk hm, h⟩
theorem shrN {q q' : IntKind} {a b : Nat} {c : Int → Prop} (hb : b ≤ q.bits) (h : c ((a / 2 ^ b : Nat) : Int)) : ShE .shr q q' (a : Int) (b : Int) c := ⟨_, bn_shr hb, h⟩
/-! loops of several things that change -/
section
variable {T : Tb} {keep : List Nat} {b : AC} {sl : Slots} {rf : Refs} {df : DF} {pn : PN} {nb : Nat} {X : KX}
inductive Iter2 {α β : Type} (keep : List Nat) (n nb : Nat) (ch : α → β → Slots) (hch : α → β → List (Nat × List AV)) (m : α → β → Nat) (P : α → β → Prop) (x1 : α) (x2 : β) (sl0 : Slots) (rf0 : Refs) (df0 : DF) (pn0 : PN) (sl' sl : Slots) (rf : Refs) (df : DF) (pn : PN) : Prop
 | mk (y1 : α) (y2 : β) (hP : P y1 y2) (hm : m y1 y2 < m x1 x2) (h1 : sl = upd sl0 (ch y1 y2)) (h2 : (St.trimLoop ⟨sl', rf, df, pn, nb⟩ keep n).rf = updR rf0 (hch y1 y2)) (h3 : df = df0) (h4 : pn = pn0)
inductive Iter3 {α β γ : Type} (keep : List Nat) (n nb : Nat) (ch : α → β → γ → Slots) (hch : α → β → γ → List (Nat × List AV)) (m : α → β → γ → Nat) (P : α → β → γ → Prop) (x1 : α) (x2 : β) (x3 : γ) (sl0 : Slots) (rf0 : Refs) (df0 : DF) (pn0 : PN) (sl' sl : Slots) (rf : Refs) (df : DF) (pn : PN) : Prop
 | mk (y1 : α) (y2 : β) (y3 : γ) (hP : P y1 y2 y3) (hm : m y1 y2 y3 < m x1 x2 x3) (h1 : sl = upd sl0 (ch y1 y2 y3)) (h2 : (St.trimLoop ⟨sl', rf, df, pn, nb⟩ keep n).rf = updR rf0 (hch y1 y2 y3)) (h3 : df = df0) (h4 : pn = pn0)
inductive Iter4 {α β γ δ : Type} (keep : List Nat) (n nb : Nat) (ch : α → β → γ → δ → Slots) (hch : α → β → γ → δ → List (Nat × List AV)) (m : α → β → γ → δ → Nat) (P : α → β → γ → δ → Prop) (x1 : α) (x2 : β) (x3 : γ) (x4 : δ) (sl0 : Slots) (rf0 : Refs) (df0 : DF) (pn0 : PN) (sl' sl : Slots) (rf : Refs) (df : DF) (pn : PN) : Prop
 | mk (y1 : α) (y2 : β) (y3 : γ) (y4 : δ) (hP : P y1 y2 y3 y4) (hm : m y1 y2 y3 y4 < m x1 x2 x3 x4) (h1 : sl = upd sl0 (ch y1 y2 y3 y4)) (h2 : (St.trimLoop ⟨sl', rf, df, pn, nb⟩ keep n).rf = updR rf0 (hch y1 y2 y3 y4)) (h3 : df = df0) (h4 : pn = pn0)
theorem kx_mono {T : Tb} {nb : Nat} (c : AC) {N N' : KN} {X : KX} {sl : Slots} {rf : Refs} {df : DF} {pn : PN} (h : WP T c ⟨sl, rf, df, pn, nb⟩ (NS nb N) (XS nb X)) (hN : ∀ sl rf df pn, N sl rf df pn → N' sl rf df pn) : WP T c ⟨sl, rf, df, pn, nb⟩ (NS nb N') (XS nb X) :=
 h.mono (fun _ h => ⟨h.1, hN _ _ _ _ h.2⟩) (fun _ _ h => h)
theorem loopW {σ : Type} (ch : σ → Slots) (hch : σ → List (Nat × List AV)) (m : σ → Nat) (P : σ → Prop) (x0 : σ)
  (h0 : P x0) (hs : sl = upd sl (ch x0)) (hr : rf = updR rf (hch x0))
  (step : ∀ x, P x → WP T b ⟨upd sl (ch x), updR rf (hch x), df, pn, nb⟩ (NS nb (fun sl' rf' df' pn' => IterE keep rf.length nb ch hch m P x sl rf df pn sl' (sl'.keep keep) rf' df' pn')) (XS nb X)) :
  LoopE T keep b sl rf df pn nb X := by
 have key : ∀ (k : Nat) x, m x = k → P x → LP T keep rf.length b ⟨upd sl (ch x), updR rf (hch x), df, pn, nb⟩ (XS nb X) := by
  intro k
  induction k using Nat.strongRecOn with
  | _ k ih =>
    intro x hk hP
    refine LP.step ((step x hP).mono (fun s h1 => ?_) (fun e s h1 => h1))
    obtain ⟨rfl, y, hPy, hm, h3, h4, h5, h6⟩ := h1
    have := ih (m y) (by omega) y rfl hPy
    rw [trim_eq, h3, h4, h5, h6]
    exact this
 have := key _ x0 rfl h0
 rw [← hs, ← hr] at this
 exact ⟨this⟩
theorem loopR2 {α β : Type} (ch : α → β → Slots) (hch : α → β → List (Nat × List AV)) (m : α → β → Nat) (P : α → β → Prop) (x1 : α) (x2 : β)
  (h0 : P x1 x2) (hs : sl = upd sl (ch x1 x2)) (hr : rf = updR rf (hch x1 x2))
  (step : ∀ x1 x2, P x1 x2 → updK sl (ch x1 x2) fun sl1 => updRK rf (hch x1 x2) fun rf1 => lenK rf 0 fun n => vc T nb b (fun sl' rf' df' pn' => keepK sl' keep fun sl2 => Unit → Iter2 keep n nb ch hch m P x1 x2 sl rf df pn sl' sl2 rf' df' pn') X sl1 rf1 df pn) :
  LoopE T keep b sl rf df pn nb X := by
 refine loopW (fun p : α × β => ch p.1 p.2) (fun p => hch p.1 p.2) (fun p => m p.1 p.2) (fun p => P p.1 p.2) (x1, x2) h0 hs hr fun ⟨a, b⟩ hP => ?_
 refine kx_mono _ (vc_wp _ (lenK_el (updRK_el (updK_el (step a b hP))))) fun sl' rf' df' pn' h => ?_
 obtain ⟨y1, y2, h1, h2, h3, h4, h5, h6⟩ := keepK_el h ()
 exact ⟨(y1, y2), h1, h2, h3, by simpa using h4, h5, h6⟩
theorem loopR3 {α β γ : Type} (ch : α → β → γ → Slots) (hch : α → β → γ → List (Nat × List AV)) (m : α → β → γ → Nat) (P : α → β → γ → Prop) (x1 : α) (x2 : β) (x3 : γ)
  (h0 : P x1 x2 x3) (hs : sl = upd sl (ch x1 x2 x3)) (hr : rf = updR rf (hch x1 x2 x3))
  (step : ∀ x1 x2 x3, P x1 x2 x3 → updK sl (ch x1 x2 x3) fun sl1 => updRK rf (hch x1 x2 x3) fun rf1 => lenK rf 0 fun n => vc T nb b (fun sl' rf' df' pn' => keepK sl' keep fun sl2 => Unit → Iter3 keep n nb ch hch m P x1 x2 x3 sl rf df pn sl' sl2 rf' df' pn') X sl1 rf1 df pn) :
  LoopE T keep b sl rf df pn nb X := by
 refine loopW (fun p : α × β × γ => ch p.1 p.2.1 p.2.2) (fun p => hch p.1 p.2.1 p.2.2) (fun p => m p.1 p.2.1 p.2.2) (fun p => P p.1 p.2.1 p.2.2) (x1, x2, x3) h0 hs hr fun ⟨a, b, c⟩ hP => ?_
 refine kx_mono _ (vc_wp _ (lenK_el (updRK_el (updK_el (step a b c hP))))) fun sl' rf' df' pn' h => ?_
 obtain ⟨y1, y2, y3, h1, h2, h3, h4, h5, h6⟩ := keepK_el h ()
 exact ⟨(y1, y2, y3), h1, h2, h3, by simpa using h4, h5, h6⟩
theorem loopR4 {α β γ δ : Type} (ch : α → β → γ → δ → Slots) (hch : α → β → γ → δ → List (Nat × List AV)) (m : α → β → γ → δ → Nat) (P : α → β → γ → δ → Prop) (x1 : α) (x2 : β) (x3 : γ) (x4 : δ)
  (h0 : P x1 x2 x3 x4) (hs : sl = upd sl (ch x1 x2 x3 x4)) (hr : rf = updR rf (hch x1 x2 x3 x4))
  (step : ∀ x1 x2 x3 x4, P x1 x2 x3 x4 → updK sl (ch x1 x2 x3 x4) fun sl1 => updRK rf (hch x1 x2 x3 x4) fun rf1 => lenK rf 0 fun n => vc T nb b (fun sl' rf' df' pn' => keepK sl' keep fun sl2 => Unit → Iter4 keep n nb ch hch m P x1 x2 x3 x4 sl rf df pn sl' sl2 rf' df' pn') X sl1 rf1 df pn) :
  LoopE T keep b sl rf df pn nb X := by
 refine loopW (fun p : α × β × γ × δ => ch p.1 p.2.1 p.2.2.1 p.2.2.2) (fun p => hch p.1 p.2.1 p.2.2.1 p.2.2.2) (fun p => m p.1 p.2.1 p.2.2.1 p.2.2.2) (fun p => P p.1 p.2.1 p.2.2.1 p.2.2.2) (x1, x2, x3, x4) h0 hs hr fun ⟨a, b, c, d⟩ hP => ?_
 refine kx_mono _ (vc_wp _ (lenK_el (updRK_el (updK_el (step a b c d hP))))) fun sl' rf' df' pn' h => ?_
 obtain ⟨y1, y2, y3, y4, h1, h2, h3, h4, h5, h6⟩ := keepK_el h ()
 exact ⟨(y1, y2, y3, y4), h1, h2, h3, by simpa using h4, h5, h6⟩
end
end Go.Ab
namespace Go.Ab
variable [Glb]
def FW (r : Option Nat) : Fence := { Fence.wide with round := r }
theorem callsIn_FW {r : Option Nat} {nn : Nat} {P : Program} {f : FuncId} {args : Array Value} {w : World} {R : Ending → World → Prop} (h : Calls P f args w R) : CallsIn (FW r) nn P f args w R :=
 callsIn_wide.2 h
theorem rowsIn_FW {r : Option Nat} {nn : Nat} {P : Program} {row : String} {args : Array Value} {w : World} {R : Value → World → Prop} (h : Rows P row args w R) : RowsIn (FW r) nn P row args w R :=
 fun c cs _ => let ⟨v, w', hr, s⟩ := h c cs; ⟨v, w', hr, stepsIn_wide.2 s⟩
section
variable {P : Program} {E : Env} {K : Ctx} {s : St} {a : Act} {w : World} {next : Act → World → Prop} {Q : Exit → Act → World → Prop} {C : CallFn} {N : Nat} {ops : Array Oper} {r : Option Nat} {nn : Nat}
theorem wpIn_of_wp {o : Oper} (hd : o.semAt r a.eval = execOp a.eval o) (h : o.wp P a w next Q) : o.wpIn (FW r) nn P a w next Q := by
 refine ⟨fun f _ => trivial, ?_⟩
 have hr : (FW r).round = r := rfl
 rw [hr, hd]
 unfold Oper.wp at h
 generalize (execOp a.eval o).run P w = x at h
 unfold Oper.upon at h
 split at h
 ·exact h
 ·exact h
 ·exact h
 ·exact ⟨fun hh => by simp [FW, Fence.wide] at hh, callsIn_FW h⟩
 ·exact ⟨fun hh => by simp [FW, Fence.wide] at hh, rowsIn_FW h⟩
 ·exact h
 ·exact h.elim
def AOpk.isDefer : AOpk → Bool
 | .defer _ _ => true
 | _ => false
def AC.noDefer : AC → Bool
 | .ops l => l.all fun o => !o.op.isDefer
 | .seq a b => a.noDefer && b.noDefer
 | .cond _ t e => t.noDefer && e.noDefer
 | .block _ b => b.noDefer
 | .loop _ b => b.noDefer
 | .trim _ b => b.noDefer
 | _ => true
def AC.flat : AC → Bool
 | .seq a b => a.flat && b.flat
 | .cond _ t e => t.flat && e.flat
 | .block _ b => b.flat
 | .loop _ b => b.flat
 | .trim _ b => b.flat
 | .scope _ _ _ => false
 | .label => false
 | .goto _ => false
 | .opsD _ _ _ _ _ => false
 | _ => true
set_option maxHeartbeats 1000000 in
theorem not_defer {x : AOpk} {o : Oper} (h : chkOp P x o = true) (hx : x.isDefer = false) : ∀ c, o.op ≠ .defer c := by
 intro c hc
 cases x <;> simp only [AOpk.isDefer, Bool.true_eq_false] at hx <;> simp [chkOp, hc] at h
theorem opsIn_wp (hC : CallSound P C) (hCW : CallWF C) {l : List AOp} (hc : chkL P N ops l ops.toList = true) (hnd : r = none ∨ ∀ o, o ∈ l → o.op.isDefer = false) : ∀ (ord : List Nat) (s : St) (a : Act) (w : World) (K : Ctx) (e : Ex) (s' : St),
  Inv E K s a w N → runOps C (pickL l ord) s = some (e, s') → (∀ ex a' w' K', ExR K' e ex → Inv E K' s' a' w' N → Up s.rf.length K K' → Q ex a' w') → wpOpsIn (FW r) nn P ops Q ord a w
 | [], s, a, w, K, e, s', h, hr, hQ => by
   simp only [pickL, List.filterMap_nil, runOps, Option.some.injEq, Prod.mk.injEq] at hr
   obtain ⟨rfl, rfl⟩ := hr
   exact hQ .normal a w K trivial h (Up.refl _ _)
 | i :: ord, s, a, w, K, e, s', h, hr, hQ => by
   rcases chkL_get hc i with ⟨h1, h2⟩ | ⟨ao, o, h1, h2, h3⟩
   ·rw [Array.getElem?_toList] at h2
    simp only [pickL, List.filterMap_cons, h1] at hr
    simp only [wpOpsIn, h2]
    exact opsIn_wp hC hCW hc hnd ord s a w K e s' h hr hQ
   ·rw [Array.getElem?_toList] at h2
    simp only [pickL, List.filterMap_cons, h1, runOps] at hr
    simp only [wpOpsIn, h2]
    have h3' := h3
    simp only [chk1, Bool.and_eq_true, beq_iff_eq] at h3'
    obtain ⟨⟨⟨⟨⟨c1, c2⟩, _⟩, c3⟩, c4⟩, c5⟩ := h3'
    split at hr
    ·simp at hr
    ·rename_i hwant
     rw [guard_ok h.sim c5 hwant rfl]
     simp only [Bool.false_eq_true, if_false]
     refine ⟨fun _ _ => trivial, ?_⟩
     have hI : Inv E K (putO s ao.dst (.tup [])) (a.put ao.dst undef) w N :=
      h.put h.sim h.wf (Up.refl _ _) rfl (by simp only [Rep, RepL]; exact ⟨#[], rfl, rfl⟩) (by simp [AV.refB, AV.refBs]) (fresh_of_not_own (by intro es e; cases e)) (fun d hd => by rw [hd] at c4; simp at c4; exact c4.1)
     rw [← c3]
     refine opsIn_wp hC hCW hc hnd ord _ _ w K e s' hI hr fun ex a' w' K' h5 h6 h7 => hQ ex a' w' K' h5 h6 (by rwa [putO_rf] at h7)
    ·rename_i hwant
     rw [guard_ok h.sim c5 hwant rfl]
     simp only [if_true]
     have hsem : o.semAt r a.eval = execOp a.eval o := by
      rcases hnd with rfl | hnd
      ·rfl
      ·exact Oper.semAt_eq _ _ _ (not_defer c1 (hnd ao (List.mem_of_getElem? h1)))
     refine wpIn_of_wp hsem ?_
     split at hr
     ·rename_i v s1 hs
      refine step_wp hC hCW h h3 hs ?_
      intro a' w' K' h5 h6
      have hl := stepOp_len hCW hs h.wf c2
      refine opsIn_wp hC hCW hc hnd ord _ _ w' K' e s' h5 hr fun ex a'' w'' K'' h7 h8 h9 => hQ ex a'' w'' K'' h7 h8 (h6.trans (h9.le ?_))
      rw [putO_rf]; exact hl
     ·rename_i s1 hs
      refine step_wp hC hCW h h3 hs ?_
      intro a' w' K' h5 h6
      have hl := stepOp_len hCW hs h.wf c2
      exact opsIn_wp hC hCW hc hnd ord _ _ w' K' e s' h5 hr fun ex a'' w'' K'' h7 h8 h9 => hQ ex a'' w'' K'' h7 h8 (h6.trans (h9.le hl))
     ·rename_i v s1 hs
      refine step_wp hC hCW h h3 hs ?_
      intro a' pv ch w' K' h5 h6 h7 h8
      split at hr
      ·simp only [Option.some.injEq, Prod.mk.injEq] at hr
       obtain ⟨rfl, rfl⟩ := hr
       exact hQ (.panic ch) a' w' K' ⟨pv, h6, h7⟩ h5 h8
      ·simp at hr
     ·simp at hr
theorem runIn_wp (hC : CallSound P C) (hCW : CallWF C) (h0 : RB E.rf0.length E.rf0) (kk : Nat) : ∀ (c : AC) (code : Code) (s : St) (a : Act) (w : World) (K : Ctx) (Q : Exit → Act → World → Prop) (e : Ex) (s' : St),
  chkC P N c code = true → c.cok = true → c.flat = true → (r = none ∨ c.noDefer = true) → Inv E K s a w N → run C kk c s = some (e, s') → (∀ ex a' w' K', ExR K' e ex → Inv E K' s' a' w' N → Q ex a' w') → code.wpIn (FW r) nn P Q a w
 | .skip, code, s, a, w, K, Q, e, s', hc, _, hfl, _, h, hr, hQ => by
   cases code <;> simp [chkC] at hc
   simp only [run, Option.some.injEq, Prod.mk.injEq] at hr
   obtain ⟨rfl, rfl⟩ := hr
   exact wpIn_skip (hQ .normal a w K trivial h)
 | .ops l, code, s, a, w, K, Q, e, s', hc, hk, hfl, hnd, h, hr, hQ => by
   cases code <;> simp [chkC] at hc
   rename_i id ops draw
   simp only [run] at hr
   have hnd' : r = none ∨ ∀ o, o ∈ l → o.op.isDefer = false := hnd.imp (fun x => x) fun q o ho => by simpa using List.all_eq_true.1 q o ho
   have hlen : l.length = ops.size := by
    have : ∀ {l : List AOp} {m : List Oper}, chkL P N ops l m = true → l.length = m.length := fun {l m} => by
     induction l generalizing m with
     | nil => intro h; cases m <;> simp [chkL] at h ⊢
     | cons x l ih =>
       intro h
       cases m with
       | nil => simp [chkL] at h
       | cons o m =>
         simp only [chkL, Bool.and_eq_true] at h
         simp [ih h.2]
    simpa using this hc.1
   cases draw with
   | false =>
     refine wpIn_region ?_
     have hp := pickL_range l ops.size 0 (by omega)
     rw [List.drop_zero, ← List.range_eq_range'] at hp
     exact opsIn_wp hC hCW hc.1 hnd' _ s a w K e s' h (by rw [hp]; exact hr) fun ex a' w' K' h1 h2 _ => hQ ex a' w' K' h1 h2
   | true =>
     refine wpIn_region_draw fun t => ?_
     have hd : P.follows .mixedOrders = true ∧ drawOK ops l = true := by
      rcases hc.2 with h | h
      ·cases h
      ·exact h
     rw [hd.1]
     obtain ⟨u', h1, h2⟩ := schedule_runs hlen hd.2 t hr
     have h' : Inv E K s a { w with drawn := w.drawn + 1 } N := ⟨h.sim.drew, h.wf, h.df, h.size⟩
     refine opsIn_wp hC hCW hc.1 hnd' _ s a _ K e u' h' h1 fun ex a' w' K' h3 h4 _ => hQ ex a' w' K' h3 (h4.alike ⟨fun t => (h2.1 t).symm, h2.2.symm⟩)
 | .seq x y, code, s, a, w, K, Q, e, s', hc, hk, hfl, hnd, h, hr, hQ => by
   cases code <;> simp [chkC] at hc
   rename_i cx cy
   simp only [AC.cok, Bool.and_eq_true] at hk
   simp only [run] at hr
   refine wpIn_seq ?_
   split at hr
   ·rename_i s1 hr1
    refine runIn_wp hC hCW h0 kk x cx s a w K _ _ s1 hc.1 hk.1 (Bool.and_eq_true_iff.1 hfl).1 (hnd.imp (fun x => x) fun q => (Bool.and_eq_true_iff.1 q).1) h hr1 fun ex a' w' K' h1 h2 => ?_
    cases ex <;> simp only [ExR] at h1
    exact runIn_wp hC hCW h0 kk y cy s1 a' w' K' Q e s' hc.2 hk.2 (Bool.and_eq_true_iff.1 hfl).2 (hnd.imp (fun x => x) fun q => (Bool.and_eq_true_iff.1 q).2) h2 hr hQ
   ·rename_i hne
    refine runIn_wp hC hCW h0 kk x cx s a w K _ e s' hc.1 hk.1 (Bool.and_eq_true_iff.1 hfl).1 (hnd.imp (fun x => x) fun q => (Bool.and_eq_true_iff.1 q).1) h hr fun ex a' w' K' h1 h2 => ?_
    have hq := hQ ex a' w' K' h1 h2
    cases ex with
    | normal =>
      cases e <;> simp only [ExR] at h1
      exact absurd hr (hne s')
    | _ => exact hq
 | .cond c t f, code, s, a, w, K, Q, e, s', hc, hk, hfl, hnd, h, hr, hQ => by
   cases code <;> simp [chkC] at hc
   rename_i c' ct cf
   simp only [AC.cok, Bool.and_eq_true] at hk
   simp only [run] at hr
   split at hr
   ·rename_i hg
    have := getO_rep h.sim hc.1.1 hg
    simp only [Rep, RepD] at this
    exact wpIn_cond_true this (runIn_wp hC hCW h0 kk t ct s a w K Q e s' hc.1.2 hk.1.2 (Bool.and_eq_true_iff.1 hfl).1 (hnd.imp (fun x => x) fun q => (Bool.and_eq_true_iff.1 q).1) h hr hQ)
   ·rename_i hg
    have := getO_rep h.sim hc.1.1 hg
    simp only [Rep, RepD] at this
    exact wpIn_cond_false this (runIn_wp hC hCW h0 kk f cf s a w K Q e s' hc.2 hk.2 (Bool.and_eq_true_iff.1 hfl).2 (hnd.imp (fun x => x) fun q => (Bool.and_eq_true_iff.1 q).2) h hr hQ)
   ·simp at hr
 | .block i b, code, s, a, w, K, Q, e, s', hc, hk, hfl, hnd, h, hr, hQ => by
   cases code <;> simp [chkC] at hc
   rename_i j cb
   obtain ⟨rfl, hc⟩ := hc
   simp only [AC.cok] at hk
   simp only [run] at hr
   refine wpIn_block ?_
   split at hr
   ·rename_i j s1 hr1
    refine runIn_wp hC hCW h0 kk b cb s a w K _ _ s1 hc hk hfl hnd h hr1 fun ex a' w' K' h1 h2 => ?_
    cases ex <;> simp only [ExR] at h1
    subst h1
    simp only [Exit.inBlock]
    split at hr
    ·rename_i hij
     simp only [Option.some.injEq, Prod.mk.injEq] at hr
     obtain ⟨rfl, rfl⟩ := hr
     rw [if_pos hij]
     exact hQ .normal a' w' K' trivial h2
    ·rename_i hij
     simp only [Option.some.injEq, Prod.mk.injEq] at hr
     obtain ⟨rfl, rfl⟩ := hr
     rw [if_neg hij]
     exact hQ (.exit j) a' w' K' rfl h2
   ·rename_i hne
    refine runIn_wp hC hCW h0 kk b cb s a w K _ e s' hc hk hfl hnd h hr fun ex a' w' K' h1 h2 => ?_
    have hq := hQ ex a' w' K' h1 h2
    cases ex with
    | exit j =>
      cases e <;> simp only [ExR] at h1
      subst h1
      exact absurd hr (hne _ s')
    | _ => exact hq
 | .loop keep b, code, s, a, w, K, Q, e, s', hc, hk, hfl, hnd, h, hr, hQ => by
   cases code <;> simp [chkC] at hc
   rename_i cb
   simp only [AC.cok] at hk
   simp only [run] at hr
   have key : ∀ (m : Nat) (n : Nat) (s : St) (a : Act) (w : World) (K : Ctx), E.rf0.length ≤ n → n ≤ s.rf.length → Inv E K s a w N → runLoop (run C kk b) keep n m s = some (e, s') → Code.roundsIn (FW r) nn P cb Q m a w := by
    intro m
    induction m with
    | zero => intro n s a w K _ _ _ hr; simp [runLoop] at hr
    | succ m ih =>
      intro n s a w K hn hn' h hr
      simp only [runLoop] at hr
      rw [roundsIn_succ]
      split at hr
      ·rename_i s1 hr1
       have hlen := (run_wf hCW kk h0 hr1 hk h.wf).2.2
       refine runIn_wp hC hCW h0 kk b cb s a w K _ _ s1 hc hk hfl hnd h hr1 fun ex a' w' K' h1 h2 => ?_
       cases ex <;> simp only [ExR] at h1
       exact ih n (s1.trimLoop keep n) a' w' K' hn (trimLoop_len keep (by omega)) (h2.trimLoop h0 keep hn (by omega)) hr
      ·rename_i hne
       refine runIn_wp hC hCW h0 kk b cb s a w K _ e s' hc hk hfl hnd h hr fun ex a' w' K' h1 h2 => ?_
       have hq := hQ ex a' w' K' h1 h2
       cases ex with
       | normal =>
         cases e <;> simp only [ExR] at h1
         exact absurd hr (hne s')
       | _ => exact hq
   refine wpIn_loop_rounds kk (key kk s.rf.length (s.trimLoop keep s.rf.length) a w K h.wf.le (trimLoop_len keep (Nat.le_refl _)) (h.trimLoop h0 keep h.wf.le (Nat.le_refl _)) hr)
 | .exit i, code, s, a, w, K, Q, e, s', hc, _, hfl, _, h, hr, hQ => by
   cases code <;> simp [chkC] at hc
   subst hc
   simp only [run, Option.some.injEq, Prod.mk.injEq] at hr
   obtain ⟨rfl, rfl⟩ := hr
   exact wpIn_exit (hQ (.exit i) a w K rfl h)
 | .ret, code, s, a, w, K, Q, e, s', hc, _, hfl, _, h, hr, hQ => by
   cases code <;> simp [chkC] at hc
   simp only [run, Option.some.injEq, Prod.mk.injEq] at hr
   obtain ⟨rfl, rfl⟩ := hr
   exact wpIn_ret (hQ .ret a w K trivial h)
 | .hole, code, s, a, w, K, Q, e, s', hc, _, hfl, _, h, hr, hQ => by simp [run] at hr
 | .label, code, s, a, w, K, Q, e, s', hc, _, hfl, _, h, hr, hQ => by simp [AC.flat] at hfl
 | .opsD l ords nk pk tt, code, s, a, w, K, Q, e, s', hc, _, hfl, _, h, hr, hQ => by simp [AC.flat] at hfl
 | .goto l, code, s, a, w, K, Q, e, s', hc, _, hfl, _, h, hr, hQ => by simp [AC.flat] at hfl
 | .scope l b r, code, s, a, w, K, Q, e, s', hc, _, hfl, _, h, hr, hQ => by simp [AC.flat] at hfl
 | .trim keep b, code, s, a, w, K, Q, e, s', hc, hk, hfl, hnd, h, hr, hQ => by
   simp only [chkC] at hc
   simp only [AC.cok] at hk
   simp only [run] at hr
   split at hr
   ·rename_i s1 hr1
    simp only [Option.some.injEq, Prod.mk.injEq] at hr
    obtain ⟨rfl, rfl⟩ := hr
    exact runIn_wp hC hCW h0 kk b code s a w K Q _ s1 hc hk hfl hnd h hr1 fun ex a' w' K' h1 h2 => hQ ex a' w' K' h1 (h2.keep keep)
   ·exact runIn_wp hC hCW h0 kk b code s a w K Q e s' hc hk hfl hnd h hr hQ
end
end Go.Ab
namespace Go.Ab
mutual
theorem mv_id {m : Mv} {n : Nat} (hm : ∀ i, i < n → m.to i = i) : ∀ {v : AV}, v.refB ≤ n → v.mv m = v
 | .d x, _ => rfl
 | .nil, _ => rfl
 | .own es, _ => rfl
 | .ptr r off, h => by simp only [AV.refB] at h; simp only [AV.mv, hm r (by omega)]
 | .ept cs off, _ => rfl
 | .sref r off n, h => by simp only [AV.refB] at h; simp only [AV.mv, hm r (by omega)]
 | .mp r, h => by simp only [AV.refB] at h; simp only [AV.mv, hm r (by omega)]
 | .fn f a b, h => by
   simp only [AV.refB] at h
   simp only [AV.mv]
   rw [mvs_id hm (by omega), mvs_id hm (by omega)]
 | .ifc t v, h => by simp only [AV.refB] at h; simp only [AV.mv]; rw [mv_id hm h]
 | .agg cs, h => by simp only [AV.refB] at h; simp only [AV.mv]; rw [mvs_id hm h]
 | .tup vs, h => by simp only [AV.refB] at h; simp only [AV.mv]; rw [mvs_id hm h]
theorem mvs_id {m : Mv} {n : Nat} (hm : ∀ i, i < n → m.to i = i) : ∀ {l : List AV}, AV.refBs l ≤ n → AV.mvs m l = l
 | [], _ => rfl
 | v :: r, h => by
   simp only [AV.refBs] at h
   simp only [AV.mvs]
   rw [mv_id hm (by omega), mvs_id hm (by omega)]
end
theorem Ev.frame {T : Tb} [hT : TOK T] {f : FuncId} {args : List AV} {rf : Refs} {o : Out} (h : Ev T f args rf o rf) (ha : AV.refBs args ≤ rf.length) (hc : ∀ c, c ∈ rf → AV.refBs c ≤ rf.length) (ho : o.val.refB ≤ rf.length) (X : Refs) :
  Ev T f args (rf ++ X) o (rf ++ X) := by
 let m : Mv := ⟨rf.length, rf.length + X.length, id, fun i j h _ => h, fun i h => by simp only [id]; omega⟩
 have hm : ∀ i, i < rf.length → m.to i = i := fun i hi => by show (if i < rf.length then id i else _) = i; rw [if_pos hi]; rfl
 have hR : Rl m (rf ++ X) rf (rf ++ X) := by
  refine ⟨Nat.le_refl _, by simp only [List.length_append]; show _ = rf.length + X.length + (rf.length - rf.length); omega, fun i hi => ?_, fun _ _ _ => rfl⟩
  rw [hm i hi, List.getElem?_append_left hi, List.getElem?_eq_getElem hi]
  simp only [Option.map_some]
  rw [mvs_id hm (hc _ (List.getElem_mem hi))]
 obtain ⟨RF', h1, h2⟩ := h.big m hR
 rw [hR.uniq h1, mvs_id hm ha] at h2
 have : o.mv m = o := by cases o <;> (simp only [Out.val] at ho; simp only [Out.mv, mv_id hm ho])
 rwa [this] at h2
end Go.Ab
namespace Go.Ab
def trimK (sl : Slots) (rf : Refs) (df : DF) (nb n : Nat) (k : Refs → Prop) : Prop :=
 match Nat.ble (AV.refBs (sl.map (·.2))) n && Nat.ble (refsB ((rf.take n).drop nb)) n && Nat.ble (dfB df) n with
 | true => takeS n rf k
 | false => k rf
theorem trimK_el {sl sl' : Slots} {rf : Refs} {df : DF} {pn : PN} {nb n : Nat} {keep : List Nat} {k : Refs → Prop} (h : trimK (sl'.keep keep) rf df nb n k) (hs : sl'.keep keep = sl) : (St.trimLoop ⟨sl', rf, df, pn, nb⟩ keep n) = ⟨sl, (St.trimLoop ⟨sl', rf, df, pn, nb⟩ keep n).rf, df, pn, nb⟩ ∧ k (St.trimLoop ⟨sl', rf, df, pn, nb⟩ keep n).rf := by
 subst hs
 unfold trimK at h
 unfold St.trimLoop
 simp only
 split at h
 ·rename_i hb
  simp only [Bool.and_eq_true] at hb
  rw [if_pos ⟨Nat.le_of_ble_eq_true hb.1.1, Nat.le_of_ble_eq_true hb.1.2, Nat.le_of_ble_eq_true hb.2⟩]
  exact ⟨rfl, takeS_el h⟩
 ·rename_i hb
  rw [if_neg]
  ·exact ⟨rfl, h⟩
  ·intro ⟨h1, h2, h3⟩
   rw [Nat.ble_eq_true_of_le h1, Nat.ble_eq_true_of_le h2, Nat.ble_eq_true_of_le h3] at hb
   cases hb
def roundK (sl2 : Slots) (rf' : Refs) (df : DF) (nb n : Nat) (k : Refs → Prop) : Prop :=
 lenK rf' 0 fun n1 => match Nat.beq n1 n with
  | true => k rf'
  | false => trimK sl2 rf' df nb n fun rf2 => lenK rf2 0 fun n2 => ifK (Nat.beq n2 n) (k rf2)
theorem loopS {T : Tb} {keep : List Nat} {b : AC} {sl : Slots} {rf : Refs} {df : DF} {pn : PN} {nb : Nat} {X : KX}
  (h : lenK rf 0 fun n => vc T nb b (fun sl' rf' df' pn' => keepK sl' keep fun sl2 => roundK sl2 rf' df' nb n fun rf2 => Unit → LoopE T keep b sl2 rf2 df' pn' nb X) X sl rf df pn) :
  LoopE T keep b sl rf df pn nb X := by
 have h0 := lenK_el h
 rw [Nat.zero_add] at h0
 refine ⟨LP.step ((vc_wp b h0).mono (fun s h1 => ?_) (fun e s h1 => h1))⟩
 obtain ⟨sl', rf', df', pn', nb'⟩ := s
 obtain ⟨e, h2⟩ := h1
 simp only at e h2
 subst e
 have h3 := keepK_el h2
 unfold roundK at h3
 have h3 := lenK_el h3
 rw [Nat.zero_add] at h3
 split at h3
 ·rename_i hb
  have hb := Nat.eq_of_beq_eq_true hb
  rw [trim_eq, trim_same hb]
  obtain ⟨h9⟩ := h3 ()
  rwa [hb] at h9
 ·obtain ⟨h4, h5⟩ := trimK_el (pn := pn') h3 rfl
  obtain ⟨h6, h7⟩ := ifK_el (lenK_el h5)
  rw [Nat.zero_add] at h6
  have h8 := Nat.eq_of_beq_eq_true h6
  rw [h4]
  obtain ⟨h9⟩ := h7 ()
  rwa [h8] at h9
theorem Mv.none_ge (N i : Nat) : (Mv.none N).to i = N + i := by
 rw [Mv.to_ge _ (Nat.zero_le _)]; rfl
theorem Ev.anyG {T : Tb} [hT : TOK T] {f : FuncId} {args : List AV} {o : Out} {rf1 : Refs} (h : Ev T f args [] o rf1) (ha : AV.refBs args = 0) (rf : Refs) :
  Ev T f args rf (o.mv (Mv.none rf.length)) (rf ++ rf1.map (AV.mvs (Mv.none rf.length))) := by
 obtain ⟨RF', h1, h2⟩ := h.big (Mv.none rf.length) (RF := rf) ⟨Nat.zero_le _, by simp [Mv.none], fun i hi => by simp at hi, fun _ _ _ => rfl⟩
 have h3 : RF' = rf ++ rf1.map (AV.mvs (Mv.none rf.length)) := by
  apply List.ext_getElem?
  intro j
  by_cases hj : j < rf.length
  ·rw [List.getElem?_append_left hj]
   exact h1.there j hj (fun i hi => absurd hi (Nat.not_lt_zero _))
  ·rw [List.getElem?_append_right (by omega), List.getElem?_map]
   by_cases hj2 : j - rf.length < rf1.length
   ·have := h1.here (j - rf.length) hj2
    rwa [Mv.none_ge, show rf.length + (j - rf.length) = j by omega] at this
   ·have hl := h1.len
    have e1 : (Mv.none rf.length).N = rf.length := rfl
    have e2 : (Mv.none rf.length).n = 0 := rfl
    rw [e1, e2] at hl
    rw [List.getElem?_eq_none (by omega), List.getElem?_eq_none (by omega)]; rfl
 subst h3
 rwa [mvs_clean _ ha] at h2
theorem callE_anyG {T : Tb} [TOK T] {f : FuncId} {args : List AV} {rf : Refs} {k : Out → Refs → Prop} {o : Out} {rf1 : Refs} (h : Ev T f args [] o rf1) (ha : AV.refBs args = 0) (h' : k (o.mv (Mv.none rf.length)) (rf ++ rf1.map (AV.mvs (Mv.none rf.length)))) : CallE T f args rf k :=
 ⟨_, _, h.anyG ha rf, h'⟩
theorem findB {pk : PK} {x : D} {kvs : List AV} {q : Option (Nat × AV)} {c : Option (Nat × AV) → Prop} (h : findK pk x kvs 0 = some q) (h' : c q) : FindE pk x kvs c := ⟨q, h, h'⟩
theorem mkSb {n : Nat} {c : Nat → Prop} (h : n ≤ 17179869184) (h' : c n) : MkSE (n : Int) c := ⟨n, rfl, h, h'⟩
theorem entB {i : Nat} {kvs : List AV} {c : Nat → Prop} (h : 2 * i + 1 < kvs.length) (h' : c i) : EntE (i : Int) kvs c := ⟨i, rfl, h, h'⟩
end Go.Ab
namespace Go.Ab
variable [Glb]
open Go.RowKit
theorem Sim.below {E : Env} {K : Ctx} {s : St} {tm : Array Value} {w w' : World} (h : Sim E K s tm w) (hb : Below w.heap.size w w') : Sim E K s tm w' := by
 have hk : ∀ b o, w.heap[b]? = some o → w'.heap[b]? = some o := fun b o hh => by rw [hb.block b (heap_lt hh)]; exact hh
 have hcell : ∀ a v, w.cell? a = some v → w'.cell? a = some v := fun a v hh => by
  rw [World.cell?_of_block (hb.block _ (cell_lt hh))]; exact hh
 have hkeep : ∀ b, b < E.w0.heap.size → w'.heap[b]? = w.heap[b]? := fun b hb' => hb.block b (Nat.lt_of_lt_of_le hb' h.size)
 have hbl : ∀ r b, r < s.rf.length → K.ρ r = some b → b < w.heap.size := fun r b hr hb => by
  obtain ⟨cs, hcs⟩ : ∃ cs, s.rf[r]? = some cs := ⟨_, List.getElem?_eq_getElem hr⟩
  obtain ⟨b', o', h1, h2, _⟩ := h.refs r cs hcs
  rw [h1] at hb
  cases hb
  exact heap_lt h2
 have hh : ∀ ℓ es v, holds K s tm w' ℓ (.own es) v → holds K s tm w ℓ (.own es) v := fun ℓ es v h' => by
  cases ℓ with
  | sl t => exact h'
  | rf r i =>
    obtain ⟨cs', β, h1, h2, h3, h4⟩ := h'
    have := hbl r β (List.getElem?_eq_some_iff.1 h1).1 h3
    rw [World.cell?_of_block (hb.block _ this)] at h4
    exact ⟨cs', β, h1, h2, h3, h4⟩
 refine ⟨Nat.le_trans h.size hb.size, hb.os.trans h.os, hb.tape.trans h.tape, hb.output.trans h.output, fun b hlt hT => ?_, h.gle, h.rho, fun b o v hg => hcell _ _ (h.cells b o v hg), fun r cs hr => ?_, h.refG, h.inj, fun b f hf => ?_, h.slots,
  fun ℓ es v h1 => ?_, fun ℓ ℓ' es es' v v' b h1 h2 => h.uniq ℓ ℓ' es es' v v' b (hh _ _ _ h1) (hh _ _ _ h2), fun ℓ es v b h1 => h.tO ℓ es v b (hh _ _ _ h1), h.tR⟩
 ·have := h.keep b hlt hT
  exact ⟨(hkeep b hlt).trans this.1, this.2⟩
 ·obtain ⟨b, o', h1, h2, h3⟩ := h.refs r cs hr
  exact ⟨b, o', h1, hk _ _ h2, h3⟩
 ·obtain ⟨⟨c, el, fz, hc, hz⟩, hg⟩ := h.rows b f hf
  exact ⟨⟨c, el, fz, hk _ _ hc, hz⟩, hg⟩
 ·exact (h.own ℓ es v (hh _ _ _ h1)).mono (Le.refl _) (fun b f hf _ => hf) (fun b _ c el fz hc => ⟨c, hk _ _ hc, rfl⟩)
def D.flat : D → Option Value
 | .int k n => some (.int k n)
 | .bool b => some (.bool b)
 | .str s => some (.string ⟨s.toArray⟩)
 | _ => none
theorem RepD.flat {G : Ghost} {x : D} {v u : Value} (hf : x.flat = some u) (h : RepD G x v) : v = u := by
 cases x <;> simp [D.flat] at hf <;> subst hf <;> simpa [RepD] using h
theorem RepD.of_flat {G : Ghost} {x : D} {u : Value} (hf : x.flat = some u) : RepD G x u := by
 cases x <;> simp [D.flat] at hf <;> subst hf <;> simp [RepD]
theorem calls_of_evG {P : Program} {T : Tb} (hN : FitN P T.tab) (hD : FitD P T.tabD) (hO : OrcOK P T.orc) {f : FuncId} {args : List AV} {x : D} {u : Value} {rf : Refs} (he : Ev T f args [] (.ret (.d x)) rf) (hu : x.flat = some u)
  (hf : ∃ af, T.tab f = some af) (ha : AV.refBs args = 0) (hno : ∀ y ∈ args, ∀ es, y ≠ .own es) {vs : Array Value} (hr : RepL K0 args vs.toList) (W : World) (hg : GlbIn W) :
  Calls P f vs W fun e W' => e = .returned u ∧ Below W.heap.size W W' := by
 obtain ⟨k, hrun⟩ := he
 have hTN : TabOK T.tab := fun f af h => let ⟨_, _, hf, _⟩ := hN f af h; hf.cok
 have hTD : TabOK T.tabD := fun f af h => let ⟨_, _, hf, _⟩ := hD f af h; hf.cok
 have hCW : CallWF (T.C k) := call_wf hTN hTD (fun f args v h => (hO f args v h).1) k
 have hd := call_sound hN hD hO k f args [] _ rf hrun ⟨W, K0, [], fun _ => False⟩ K0 St.blank #[] W vs rfl (sim_start hg) blank_wf (by rw [ha]; exact Nat.le_refl _) (argsOK_of hno) hr
 obtain ⟨af, haf⟩ := hf
 obtain ⟨fn, code, hfit, _⟩ := hN f af haf
 unfold Does at hd
 rw [hfit.call vs W] at hd
 refine hd.mono fun e W' ⟨K', h1, _, h3⟩ => ?_
 cases e with
 | returned v =>
   obtain ⟨av, e1, h4, _⟩ := h3
   cases e1
   simp only [Rep] at h4
   exact ⟨by rw [h4.flat hu], ⟨h1.os, h1.tape, h1.output, h1.size, fun b hb => (h1.keep b hb (fun hf => hf)).1⟩⟩
 | panicked ch => obtain ⟨av, pv, e1, _⟩ := h3; cases e1
 | outgrown => exact h3.elim
theorem orcAt_of_calls {P : Program} {f : FuncId} {o : List AV → Option AV} (hen : ∀ args w, (callFunc f args).run P w = .ok (.enter f args) w)
  (h : ∀ args v, o args = some v → ∃ x u, v = .d x ∧ x.flat = some u ∧ ∀ (K : Ctx) (vs : Array Value), RepL K args vs.toList → ∀ w, Calls P f vs w fun e w' => e = .returned u ∧ Below w.heap.size w w') : OrcAt P f o := by
 intro args v hv
 obtain ⟨x, u, rfl, hu, hc⟩ := h args v hv
 refine ⟨rfl, fun es e => (by cases e), fun E K s tm w vs hs hw hr => ?_⟩
 unfold Does
 rw [hen vs w]
 refine (hc K vs hr w).mono fun e w' ⟨he, hb⟩ => ⟨K, u, hs.below hb, Up.refl _ _, he, ?_⟩
 simp only [Rep]
 exact RepD.of_flat hu
end Go.Ab
namespace Go.Ab
open Go.RowKit
theorem calls_of_ev {P : Program} {T : Tb} (hN : FitN P T.tab) (hD : FitD P T.tabD) (hO : OrcOK P T.orc) {f : FuncId} {args : List AV} {x : D} {u : Value} {rf : Refs} (he : Ev T f args [] (.ret (.d x)) rf) (hu : x.flat = some u)
  (hf : ∃ af, T.tab f = some af) (ha : AV.refBs args = 0) (hno : ∀ y ∈ args, ∀ es, y ≠ .own es) {vs : Array Value} (hr : RepL K0 args vs.toList) (W : World) :
  Calls P f vs W fun e W' => e = .returned u ∧ Below W.heap.size W W' := calls_of_evG hN hD hO he hu hf ha hno hr W fun _ _ _ h => nomatch h
end Go.Ab
namespace Go.Ab
open Go.RowKit
def K1 (b : Nat) : Ctx := ⟨fun _ _ => none, fun _ => none, fun r => if r = 0 then some b else none⟩
theorem sim_one {W : World} {b : Nat} {vs : Array Value} {el : TypeId} {cs : List AV} {sl : Slots} {tm : Array Value} (hb : W.heap[b]? = some (.cells vs el)) (hmp : isMp cs = false) (hr : RepL (K1 b) cs vs.toList) (hno : ∀ x, x ∈ cs → ∀ es, x ≠ .own es)
  (hsl : ∀ t av, sl.get t = some av → t < tm.size ∧ Rep (K1 b) av (tm.getD t undef) ∧ av.refB ≤ 1 ∧ ∀ es, av ≠ .own es) : Sim ⟨W, K1 b, [cs], fun k => k = b⟩ (K1 b) ⟨sl, [cs], [], none, 1⟩ tm W := by
 have hrr : ∀ (r : Nat) k, (K1 b).ρ r = some k → r = 0 ∧ k = b := fun r k h => by
  simp only [K1] at h
  split at h
  ·rename_i h0; cases h; exact ⟨h0, rfl⟩
  ·cases h
 have hn : ∀ ℓ es v, ¬ holds (K1 b) ⟨sl, [cs], [], none, 1⟩ tm W ℓ (.own es) v := fun ℓ es v hh => by
  cases ℓ with
  | sl t => exact (hsl t _ hh.1).2.2.2 es rfl
  | rf r i =>
    obtain ⟨cs', β, h1, h2, h3, _⟩ := hh
    obtain ⟨rfl, _⟩ := hrr r β h3
    simp only [List.getElem?_cons_zero, Option.some.injEq] at h1
    subst h1
    exact hno _ (List.mem_of_getElem? h2) es rfl
 refine ⟨Nat.le_refl _, rfl, rfl, rfl, fun k _ _ => ⟨rfl, rfl, fun _ => rfl⟩, ⟨Le.refl _, fun _ _ _ h => nomatch h⟩, fun r _ => rfl, fun k o v h => by simp [K1] at h, fun r cs' h => ?_, fun r k _ _ => ⟨rfl, fun _ => rfl⟩, fun r r' k _ _ h1 h2 => ?_, fun k f h => by simp [K1] at h,
  fun t av ht => ⟨(hsl t av ht).1, (hsl t av ht).2.1⟩, fun ℓ es v hh => absurd hh (hn _ _ _), fun ℓ _ es _ v _ k hh => absurd hh (hn _ _ _), fun ℓ es v k hh => absurd hh (hn _ _ _), fun r k _ h _ => (hrr r k h).2⟩
 ·cases r with
  | zero =>
    simp only [List.getElem?_cons_zero, Option.some.injEq] at h
    subst h
    exact ⟨b, _, rfl, hb, .cells vs el hmp hr⟩
  | succ r => simp at h
 ·rw [(hrr r k h1).1, (hrr r' k h2).1]
theorem round_of_wp {P : Program} {T : Tb} (hN : FitN P T.tab) (hD : FitD P T.tabD) (hO : OrcOK P T.orc) {c : AC} {code : Code} {N l nn : Nat} {sl : Slots} {cs cs' : List AV} {W : World} {b : Nat} {vs : Array Value} {el : TypeId} {tm : Array Value}
  (hb : W.heap[b]? = some (.cells vs el)) (hmp0 : isMp cs = false) (hmp : isMp cs' = false) (hr : RepL (K1 b) cs vs.toList) (h0 : AV.refBs cs = 0) (hno : ∀ x, x ∈ cs → ∀ es, x ≠ .own es)
  (hsl : ∀ t av, sl.get t = some av → t < tm.size ∧ Rep (K1 b) av (tm.getD t undef) ∧ av.refB ≤ 1 ∧ ∀ es, av ≠ .own es) (hsz : N ≤ tm.size)
  (hchk : chkC P N c code = true) (hcok : c.cok = true) (hflat : c.flat = true) (hnd : c.noDefer = true)
  (hwp : WP T c ⟨sl, [cs], [], none, 1⟩ (fun st => ∃ sl', st = ⟨sl', [cs'], [], none, 1⟩) (fun _ _ => False)) {Q : Exit → Act → World → Prop}
  (hQ : ∀ a' W' K' vs' el', W'.heap[b]? = some (.cells vs' el') → RepL K' cs' vs'.toList → (∀ k, k < W.heap.size → k ≠ b → W'.heap[k]? = W.heap[k]?) → W.heap.size ≤ W'.heap.size → W'.os = W.os → W'.tape = W.tape → W'.output = W.output → Q .normal a' W') :
  code.wpIn (FW (some l)) nn P Q { tmps := tm, defers := [] } W := by
 obtain ⟨k, e, s', hrun, hex⟩ := hwp
 have hTN : TabOK T.tab := fun f af h => let ⟨_, _, hf, _⟩ := hN f af h; hf.cok
 have hTD : TabOK T.tabD := fun f af h => let ⟨_, _, hf, _⟩ := hD f af h; hf.cok
 have hCW : CallWF (T.C k) := call_wf hTN hTD (fun f args v h => (hO f args v h).1) k
 have hC := call_sound hN hD hO k
 have hrb : RB ([cs] : Refs).length [cs] := fun r cs' h => by
  cases r with
  | zero => simp only [List.getElem?_cons_zero, Option.some.injEq] at h; subst h; rw [h0]; exact Nat.zero_le _
  | succ r => simp at h
 have hwf : WF [cs] ⟨sl, [cs], [], none, 1⟩ := ⟨rfl, Nat.le_refl _, fun n v h => (hsl n v h).2.2.1, hrb, fun m _ h => h, fun p h => by simp at h, fun v h => by simp at h⟩
 cases e with
 | nrm =>
   obtain ⟨sl', rfl⟩ := hex
   refine runIn_wp (E := ⟨W, K1 b, [cs], fun k => k = b⟩) hC hCW hrb k c code _ _ W (K1 b) Q .nrm _ hchk hcok hflat (.inr hnd) ⟨sim_one hb hmp0 hr hno hsl, hwf, rfl, hsz⟩ hrun fun ex a' w' K' h1 h2 => ?_
   cases ex <;> simp only [ExR] at h1
   obtain ⟨β, vs', el', h3, h4, h5⟩ := h2.sim.refs_cells (r := 0) (cs := cs') rfl hmp
   have h6 := h2.sim.rho 0 (by simp)
   rw [h3] at h6
   simp only [K1, if_true, Option.some.injEq] at h6
   subst h6
   exact hQ a' w' K' vs' el' h4 h5 (fun k hk hne => (h2.sim.keep k hk hne).1) h2.sim.size h2.sim.os h2.sim.tape h2.sim.output
 | exit i => exact hex.elim
 | goto i => exact hex.elim
 | ret => exact hex.elim
 | pan v => exact hex.elim
end Go.Ab
namespace Go.Ab
open Go.RowKit Go.ChangeShapes Go.WideShapes Go.ChangeAt
theorem post_of_below {H : Type} {enc : TypeId × Value → H} {P : Program} {f : Func} {s : ChangeSpec} {apart fresh handsOn : Bool} {W W' : World} {args : Array Value} {v : Value} {ds gs : List (DataW H)} {before pa pv : List MemPlace}
  (hW : DataW.Whole enc P f.params.toList s.vars apart W args.toList ds gs before)
  (hres : ∀ (b : Nat) (sp : Nat → Bool) (hd : Bool), DataW.TrodAll enc P W' b sp hd f.resultTypes.toList (v.resultList f.resultTypes.size) (s.fn H (ds ++ gs)).results [])
  (hargs : ∀ sp : Nat → Bool, (∀ p ∈ before, sp p.block = true) → DataW.TrodAll enc P W' 0 sp true f.params.toList args.toList (s.fn H (ds ++ gs)).args pa)
  (hvars : ∀ sp : Nat → Bool, (∀ p ∈ before, sp p.block = true) → DataW.TrodVars enc P W' sp s.vars (s.fn H (ds ++ gs)).vars pv)
  (hb : Below W.heap.size W W') : s.post enc P f apart fresh handsOn false W args v W' := by
 have hold : ∀ p ∈ before, (fun b => decide (b < W.heap.size)) p.block = true := fun p hp => by simpa using hW.lt p hp
 exact ⟨ds, gs, before, [], pa, pv, hW, hres _ _ _, hargs _ hold, hvars _ hold, hb.frame _, fun h => by cases h⟩
end Go.Ab
namespace Go.Ab
open Go.RowKit Go.ChangeShapes Go.WideShapes Go.ChangeAt
@[reducible] def glbW (W : World) : Glb := ⟨fun b o => W.cell? ⟨b, o, none⟩⟩
theorem glbW_in (W : World) : @GlbIn (glbW W) W := fun _ _ _ h => h
theorem rep_strs {W : World} {a : Addr} {len cap m : Nat} {Sx : Nat → ByteArray} (hl : len ≤ cap) (hm : len ≤ m) (hc : ∀ i, i < m → W.cell? (a.add i) = some (.string (Sx i))) :
  RepD (glbW W).G0 (.lst ((List.range len).map fun i => [D.str (Sx i).data.toList])) (.slice (some a) len cap) := by
 simp only [RepD]
 have hlen : ((List.range len).map fun i => [D.str (Sx i).data.toList]).length = len := by simp
 refine ⟨some a, cap, by rw [hlen], by rw [hlen]; exact hl, fun hne => ?_⟩
 have hpos : 0 < len := by
  rcases Nat.eq_zero_or_pos len with h | h
  ·subst h; simp at hne
  ·exact h
 have hsp : a.spot = none := by
  have h0 := hc 0 (by omega)
  have : a.add 0 = a := rfl
  rw [this] at h0
  cases hs : a.spot with
  | none => rfl
  | some k =>
    exfalso
    unfold World.cell? at h0
    split at h0
    ·rename_i c el fz hb; simp [hs] at h0
    ·simp at h0
 obtain ⟨b, o, sp⟩ := a
 simp only at hsp
 subst hsp
 refine ⟨b, o, 1, rfl, ?_⟩
 have key : ∀ (n i : Nat), i + n ≤ len → RepRows (glbW W).G0 b 1 (o + i) ((List.range' i n).map fun i => [D.str (Sx i).data.toList]) := fun n => by
  induction n with
  | zero => intro i _; simp [RepRows]
  | succ n ih =>
    intro i hi
    simp only [List.range'_succ, List.map_cons, RepRows]
    refine ⟨rfl, ?_, by have := ih (i + 1) (by omega); rwa [show o + (i + 1) = o + i + 1 by omega] at this⟩
    simp only [RepCells]
    refine ⟨⟨.string (Sx i), ?_, by simp [RepD]⟩, trivial⟩
    have := hc i (by omega)
    rw [add_addr] at this
    exact this
 have := key len 0 (by omega)
 simpa [List.range_eq_range'] using this
theorem below_trodAll {H : Type} {enc : TypeId × Value → H} {P : Program} (hl : laidOutB P = true) {W W' : World} (hb : Below W.heap.size W W') :
  ∀ {ts : List TypeId} {vs : List Value} {ds : List (DataW H)} {ps : List MemPlace}, (ts.all fun t => P.readableRec t && decide (t < P.types.size)) = true → DataW.TrodAll enc P W 0 (fun _ => true) true ts vs ds ps → (∀ x ∈ ps, x.block < W.heap.size) →
   DataW.TrodAll enc P W' 0 (fun b => decide (b < W.heap.size)) true ts vs ds ps
 | [], [], [], ps, _, h, _ => h
 | [], [], _ :: _, ps, _, h, _ => h.elim
 | [], _ :: _, _, ps, _, h, _ => h.elim
 | _ :: _, [], _, ps, _, h, _ => h.elim
 | _ :: _, _ :: _, [], ps, _, h, _ => h.elim
 | t :: ts, v :: vs, d :: ds, ps, hr, h, hlt => by
   obtain ⟨p, q, h1, h2, rfl⟩ := h
   simp only [List.all_cons, Bool.and_eq_true, decide_eq_true_eq] at hr
   exact ⟨p, q, Below.trod hl hr.1.1 hr.1.2 h1 hb (fun x hx => hlt x (by simp [hx])), below_trodAll hl hb hr.2 h2 (fun x hx => hlt x (by simp [hx])), rfl⟩
theorem post_of_below2 {H : Type} {enc : TypeId × Value → H} {P : Program} {f : Func} {s : ChangeSpec} {apart fresh handsOn : Bool} {W W' : World} {args : Array Value} {v : Value} {ds gs : List (DataW H)} {before p pv : List MemPlace}
  (hW : DataW.Whole enc P f.params.toList s.vars apart W args.toList ds gs before) (hl : laidOutB P = true) (hrd : (f.params.toList.all fun t => P.readableRec t && decide (t < P.types.size)) = true)
  (hA : DataW.TrodAll enc P W 0 (fun _ => true) true f.params.toList args.toList ds p) (hp : ∀ x ∈ p, x ∈ before) (hfn : (s.fn H (ds ++ gs)).args = ds)
  (hres : ∀ (b : Nat) (sp : Nat → Bool) (hd : Bool), DataW.TrodAll enc P W' b sp hd f.resultTypes.toList (v.resultList f.resultTypes.size) (s.fn H (ds ++ gs)).results [])
  (hvars : ∀ sp : Nat → Bool, (∀ p ∈ before, sp p.block = true) → DataW.TrodVars enc P W' sp s.vars (s.fn H (ds ++ gs)).vars pv)
  (hb : Below W.heap.size W W') : s.post enc P f apart fresh handsOn false W args v W' := by
 have hold : ∀ p ∈ before, (fun b => decide (b < W.heap.size)) p.block = true := fun p hp => by simpa using hW.lt p hp
 refine ⟨ds, gs, before, [], p, pv, hW, hres _ _ _, ?_, hvars _ hold, hb.frame _, fun h => by cases h⟩
 rw [hfn]
 exact below_trodAll hl hb hrd hA fun x hx => hW.lt x (hp x hx)
end Go.Ab
