/- The table with class.Text as an oracle. -/
import Derived.Test.YtpdfcjgehdlheaaText204
namespace Go.Ab.R04
open Go.RowKit Go.Proofs
set_option linter.all false

def ofW (a b c d : Nat) : Nat := a + b * 2 ^ 64 + c * 2 ^ 128 + d * 2 ^ 192

theorem wd_ofW {a b c d : Nat} (ha : a < 2 ^ 64) (hb : b < 2 ^ 64) (hc : c < 2 ^ 64) (hd : d < 2 ^ 64) : wd (ofW a b c d) 0 = a ∧ wd (ofW a b c d) 1 = b ∧ wd (ofW a b c d) 2 = c ∧ wd (ofW a b c d) 3 = d := by
  unfold wd ofW
  refine ⟨?_, ?_, ?_, ?_⟩ <;> omega

theorem cls_ofW {a b c d : Nat} (ha : a < 2 ^ 64) (hb : b < 2 ^ 64) (hc : c < 2 ^ 64) (hd : d < 2 ^ 64) : cls (ofW a b c d) = .agg [.d (.int .u64 a), .d (.int .u64 b), .d (.int .u64 c), .d (.int .u64 d)] := by
  obtain ⟨h0, h1, h2, h3⟩ := wd_ofW ha hb hc hd
  simp only [cls, clsC, wdv, h0, h1, h2, h3]

def textO : List AV → Option AV
  | [.agg [.d (.int .u64 a), .d (.int .u64 b), .d (.int .u64 c), .d (.int .u64 d)]] =>
    if (0 ≤ a ∧ a < 2 ^ 64) ∧ (0 ≤ b ∧ b < 2 ^ 64) ∧ (0 ≤ c ∧ c < 2 ^ 64) ∧ (0 ≤ d ∧ d < 2 ^ 64) then some (.d (.str (textS (ofW a.toNat b.toNat c.toNat d.toNat)))) else none
  | _ => none

theorem textO_ok : OrcAt Try.prog f_class_Text textO := by
  refine orcAt_of_calls (enters_of Try.func19 (by kernel_rfl) rfl) fun args v hv => ?_
  unfold textO at hv
  split at hv
  · rename_i a b c d
    split at hv
    · rename_i h
      obtain ⟨⟨a0, a1⟩, ⟨b0, b1⟩, ⟨c0, c1⟩, ⟨d0, d1⟩⟩ := h
      obtain ⟨a, rfl⟩ := Int.eq_ofNat_of_zero_le a0
      obtain ⟨b, rfl⟩ := Int.eq_ofNat_of_zero_le b0
      obtain ⟨c, rfl⟩ := Int.eq_ofNat_of_zero_le c0
      obtain ⟨d, rfl⟩ := Int.eq_ofNat_of_zero_le d0
      simp only [Int.toNat_natCast, Option.some.injEq] at hv
      refine ⟨_, _, hv.symm, rfl, fun K vs hr w => ?_⟩
      have h1 : vs = #[.agg #[kv (ofW a b c d) 0, kv (ofW a b c d) 1, kv (ofW a b c d) 2, kv (ofW a b c d) 3]] := by
        obtain ⟨h0, h1, h2, h3⟩ := wd_ofW (a := a) (b := b) (c := c) (d := d) (by omega) (by omega) (by omega) (by omega)
        simp only [RepL, Rep, RepD] at hr
        obtain ⟨u, r, e1, ⟨us, rfl, u0, r0, e2, rfl, u1, r1, rfl, rfl, u2, r2, rfl, rfl, u3, r3, rfl, rfl, rfl⟩, rfl⟩ := hr
        apply Array.toList_inj.1
        rw [e1]
        simp only [kv, h0, h1, h2, h3]
        congr 2
        apply Array.toList_inj.1
        rw [e2]
      rw [h1]
      exact callsIn_wide.1 (text_in (ofW a b c d) w)
    · cases hv
  · cases hv

def orc1 : FuncId → List AV → Option AV := orcOf [(f_bytealg_IndexByteString, idxByte), (f_class_Text, textO)]
def T1 : Tb := ⟨lookupF tabl, lookupF tabD, orc1⟩
instance : Base T1 where
  tab := rfl
  idx := fun args => rfl
  none := fun f args h1 h2 => by
    show orcOf [(f_bytealg_IndexByteString, idxByte), (f_class_Text, textO)] f args = none
    simp only [orcOf]
    rw [if_neg (fun e => h1 e.symm), if_neg (fun e => h2 e.symm)]
theorem orc1OK : OrcOK Try.prog T1.orc := orcOK_of fun p hp => by
  simp only [List.mem_cons, List.not_mem_nil, or_false] at hp
  rcases hp with rfl | rfl
  · exact orcIdx
  · exact textO_ok

end Go.Ab.R04
