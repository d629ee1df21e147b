/- A byte is in a class, or in all others; those of a class and of all others are all; turned twice it is the same. No condition. -/
import Derived.Test.YtpdfcjgehdlheaaRows
import Derived.Test.YtpdfcjgehdlheaaLaw04b04
import Derived.Test.YtpdfcjgehdlheaaA36
import Derived.Test.YtpdfcjgehdlheaaArr
import Derived.WalkKit
import Derived.ProofKit
import Derived.ChangeMaps5
set_option linter.all false
namespace Go.Proofs.Ytpdfcjgehdlheaa.nots
open Go.ChangeShapes Go.WideShapes Go.ChangeAt Go.RowKit Go.ChangeMaps Go.Ab Go.Ab.R04

theorem own : ownKnob Try.prog.godebug = none := by kernel_rfl

theorem nat64 {n : Int} (w : (Lit.int .u64 n).wf = true) : ∃ m : Nat, n = m ∧ m < 2 ^ 64 := by
  have h : 0 ≤ n ∧ n ≤ 18446744073709551615 := by simpa [Lit.wf, IntKind.min, IntKind.max, IntKind.signed, IntKind.bits] using w
  obtain ⟨m, rfl⟩ := Int.eq_ofNat_of_zero_le h.1
  exact ⟨m, rfl, by omega⟩

theorem ofW_lt {a b c d : Nat} (ha : a < 2 ^ 64) (hb : b < 2 ^ 64) (hc : c < 2 ^ 64) (hd : d < 2 ^ 64) : ofW a b c d < 2 ^ 256 := by unfold ofW; omega

theorem walk (k0 k1 k2 k3 l0 l1 l2 l3 c : Int) (wk0 : (Lit.int .u64 k0).wf = true) (wk1 : (Lit.int .u64 k1).wf = true) (wk2 : (Lit.int .u64 k2).wf = true) (wk3 : (Lit.int .u64 k3).wf = true)
    (wl0 : (Lit.int .u64 l0).wf = true) (wl1 : (Lit.int .u64 l1).wf = true) (wl2 : (Lit.int .u64 l2).wf = true) (wl3 : (Lit.int .u64 l3).wf = true) (wc : (Lit.int .u8 c).wf = true) (W : World) :
    Calls Try.prog 5 #[.agg #[.int .u64 k0, .int .u64 k1, .int .u64 k2, .int .u64 k3], .agg #[.int .u64 l0, .int .u64 l1, .int .u64 l2, .int .u64 l3], .int .u8 c] W fun e W' => e = .returned (.bool true) ∧ Below W.heap.size W W' := by
  have hc : 0 ≤ c ∧ c ≤ 255 := by simpa [Lit.wf, IntKind.min, IntKind.max, IntKind.signed, IntKind.bits] using wc
  obtain ⟨c, rfl⟩ := Int.eq_ofNat_of_zero_le hc.1
  obtain ⟨k0, rfl, hk0⟩ := nat64 wk0
  obtain ⟨k1, rfl, hk1⟩ := nat64 wk1
  obtain ⟨k2, rfl, hk2⟩ := nat64 wk2
  obtain ⟨k3, rfl, hk3⟩ := nat64 wk3
  obtain ⟨l0, rfl, hl0⟩ := nat64 wl0
  obtain ⟨l1, rfl, hl1⟩ := nat64 wl1
  obtain ⟨l2, rfl, hl2⟩ := nat64 wl2
  obtain ⟨l3, rfl, hl3⟩ := nat64 wl3
  have h := ClassNot_ev (ofW k0 k1 k2 k3) (ofW l0 l1 l2 l3) c (ofW_lt hk0 hk1 hk2 hk3) (by omega)
  rw [cls_ofW hk0 hk1 hk2 hk3, cls_ofW hl0 hl1 hl2 hl3] at h
  exact calls_of_ev (T := T1) fitN fitD orc1OK h rfl ⟨_, rfl⟩ rfl (by intro y hy es e; subst e; simp at hy) (by simp only [RepL, Rep, RepD]; exact ⟨_, _, rfl, ⟨_, rfl, _, _, rfl, rfl, _, _, rfl, rfl, _, _, rfl, rfl, _, _, rfl, rfl, rfl⟩, _, _, rfl, ⟨_, rfl, _, _, rfl, rfl, _, _, rfl, rfl, _, _, rfl, rfl, _, _, rfl, rfl, rfl⟩, _, _, rfl, rfl, rfl⟩) W

theorem cells28 : Try.prog.cellsOf 28 = 1 := by kernel_rfl
theorem cells30 : Try.prog.cellsOf 30 = 4 := by kernel_rfl

set_option maxRecDepth 100000 in
theorem lifted (os : Os) (started : os.Started) (H : Type) (enc : TypeId × Value → H) :
    ReturnsInHanded {} Try.checked os 5 .any (Rows.classNotSpec.pre6 enc Try.prog Try.f5 Rows.classNotRow.domain false) (Rows.classNotSpec.post enc Try.prog Try.f5 false true false false) := by
  refine returnsInHanded_of_change (C := Try.checked) own started (by kernel_rfl) Try.func5
    (ChangeSpec.witness6 (enc := enc) (C := Try.checked) false ⟨#[], #[.agg #[.int .u64 0, .int .u64 0, .int .u64 0, .int .u64 0], .agg #[.int .u64 0, .int .u64 0, .int .u64 0, .int .u64 0], .int .u8 0], []⟩ 8 (by kernel_rfl) (by kernel_rfl) (by kernel_rfl) (by kernel_rfl)) ?_
  intro W base args ds gs before hval0 hW hcnd _
  have hval : ∀ (j : Nat) t v, Try.f5.params[j]? = some t → args[j]? = some v → Value.okWide Try.prog W .any base t v := hval0
  have hW' := hW
  obtain ⟨p, q, hA0, hV, rfl, hfz, hnd⟩ := hW
  have hA : DataW.TrodAll enc Try.prog W 0 (fun _ => true) true Try.f5.params.toList args.toList ds p := hA0
  rw [Try.params5] at hA hval
  obtain ⟨v0, vs0, d0, ds0, p0, q0, hargs, rfl, rfl, h0, r0⟩ := trodAll_cons hA
  obtain ⟨v1, vs1, d1, ds1, p1, q1, rfl, rfl, rfl, h1, r1⟩ := trodAll_cons r0
  obtain ⟨v2, vs2, d2, ds2, p2, q2, rfl, rfl, rfl, h2, r2⟩ := trodAll_cons r1
  obtain ⟨rfl, rfl, rfl⟩ := trodAll_nil r2
  obtain rfl : args = #[v0, v1, v2] := by cases args; simp_all
  obtain ⟨rfl, rfl⟩ := trodVars_none hV
  obtain ⟨k0, k1, k2, k3, rfl, rfl, rfl, wk0, wk1, wk2, wk3⟩ := open_arr4 Try.underlying30 Try.underlying28 cells28 cells30 (hval 0 30 v0 rfl rfl) h0
  obtain ⟨l0, l1, l2, l3, rfl, rfl, rfl, wl0, wl1, wl2, wl3⟩ := open_arr4 Try.underlying30 Try.underlying28 cells28 cells30 (hval 1 30 v1 rfl rfl) h1
  obtain ⟨c, rfl, rfl, rfl, wc⟩ := open_int Try.underlying5 (hval 2 5 v2 rfl rfl) h2
  clear hA0 hval0
  simp only [List.append_nil] at hW'
  refine (walk k0 k1 k2 k3 l0 l1 l2 l3 c wk0 wk1 wk2 wk3 wl0 wl1 wl2 wl3 wc W).mono fun e W' ⟨he, hb⟩ => ?_
  subst he
  exact ⟨_, rfl, post_of_below (pa := []) (pv := []) hW' (fun _ _ _ => (trodAll_cons_mk (shut_bool Try.underlying4 _) trodAll_mk0)) (fun sp _ => (trodAll_cons_mk (shut_arr4 Try.underlying30 Try.underlying28 cells28 cells30 wk0 wk1 wk2 wk3) (trodAll_cons_mk (shut_arr4 Try.underlying30 Try.underlying28 cells28 cells30 wl0 wl1 wl2 wl3) (trodAll_cons_mk (shut_int Try.underlying5 wc) trodAll_mk0)))) (fun _ _ => rfl) hb⟩

theorem holds : Rows.ClassNotSaid :=
  OpenClaim.holds_of_wide 5 Try.f5 rfl rfl rfl rfl rfl rfl rfl ⟨rfl, rfl, rfl, rfl, rfl⟩ rfl rfl rfl rfl rfl (by kernel_rfl) Try.func5 (by kernel_rfl)
    (of_decide_eq_true (by kernel_rfl)) (by unfold Func.isWrapper; first | (rw [if_pos (by decide +kernel)]; kernel_rfl) | (rw [if_neg (by decide +kernel)]; exact ⟨rfl, rfl⟩))
    (fun os started H enc _ => lifted os started H enc)

end Go.Proofs.Ytpdfcjgehdlheaa.nots
