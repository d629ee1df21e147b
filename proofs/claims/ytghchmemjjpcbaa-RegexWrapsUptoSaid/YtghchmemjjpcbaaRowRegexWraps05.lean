/- A text in brackets has the same tree, if it isn't too deep; two texts with a bar between have both trees, joined. What comes in is of bulk at most 1,048,576. -/
import Derived.Test.YtghchmemjjpcbaaRows
import Derived.Test.YtghchmemjjpcbaaC12
import Derived.Test.YtghchmemjjpcbaaL3
import Derived.WalkKit
import Derived.ProofKit
import Derived.ChangeMaps5
import Derived.OpenShut
import Derived.JoinedCond
set_option linter.all false
namespace Go.Proofs.Ytghchmemjjpcbaa.regexWraps
open Go.ChangeShapes Go.WideShapes Go.ChangeAt Go.RowKit Go.ChangeMaps Go.Ab Go.Ab.R05

theorem own : ownKnob Try.prog.godebug = none := by kernel_rfl
theorem short {H : Type} {ds : List (DataW H)} {s : ByteArray} (hk : Rows.uptoSmall H ds = true) (hs : s.data.toList.length ≤ Rows.uptoBulkAll ds) : s.data.toList.length ≤ 2 ^ 47 := by
  have h : Rows.uptoBulkAll ds ≤ 1048576 := of_decide_eq_true hk
  omega

theorem walk (s0 : ByteArray) (h0 : s0.data.toList.length ≤ 2 ^ 47) (s1 : ByteArray) (h1 : s1.data.toList.length ≤ 2 ^ 47) (W : World) : Calls Try.prog 5 #[.string s0, .string s1] W fun e W' => e = .returned (.bool true) ∧ Below W.heap.size W W' := by
  exact calls_of_ev (T := T1) fitN fitD orc1OK (RegexWraps_ev s0.data.toList h0 s1.data.toList h1) rfl ⟨_, rfl⟩ rfl (by intro y hy es e; subst e; simp at hy) (by simp [RepL, Rep, RepD]) W

set_option maxRecDepth 100000 in
theorem lifted (os : Os) (started : os.Started) (H : Type) (enc : TypeId × Value → H) (F : Stop.Interp) :
    ReturnsInHanded {} Try.checked os 5 .any ((Rows.OpenSpec.upto Rows.regexWrapsSpec).pre6 enc Try.prog Try.f5 Rows.regexWrapsUptoRow.domain false) (((Rows.OpenSpec.upto Rows.regexWrapsSpec).at F).post enc Try.prog Try.f5 false true false false) := by
  refine returnsInHanded_of_cond (C := Try.checked) (s := Rows.OpenSpec.upto Rows.regexWrapsSpec) (k := Rows.uptoSmall) rfl own started (by kernel_rfl) Try.func5
    (OpenSpec.witness (enc := enc) (C := Try.checked) (s := Rows.OpenSpec.upto Rows.regexWrapsSpec) (k := Rows.uptoSmall) rfl false ⟨#[], #[.string ⟨#[]⟩, .string ⟨#[]⟩], []⟩ 8 (by kernel_rfl) (by kernel_rfl) (by kernel_rfl)
      (x := ([.lit (.string []), .lit (.string [])], [], [])) (by kernel_rfl) rfl (by kernel_rfl)) ?_
  intro W base args ds gs before hval0 hW hcnd hk _
  have hval : ∀ (j : Nat) t v, Try.f5.params[j]? = some t → args[j]? = some v → Value.okWide Try.prog W .any base t v := hval0
  have hW' := hW
  obtain ⟨p, q, hA0, hV, rfl, hfz, hnd⟩ := hW
  have hA : DataW.TrodAll enc Try.prog W 0 (fun _ => true) true Try.f5.params.toList args.toList ds p := hA0
  rw [Try.params5] at hA hval
  obtain ⟨v0, vs0, d0, ds0, p0, q0, hargs, rfl, rfl, h0, r0⟩ := trodAll_cons hA
  obtain ⟨v1, vs1, d1, ds1, p1, q1, rfl, rfl, rfl, h1, r1⟩ := trodAll_cons r0
  obtain ⟨rfl, rfl, rfl⟩ := trodAll_nil r1
  obtain rfl : args = #[v0, v1] := by cases args; simp_all
  obtain ⟨rfl, rfl⟩ := trodVars_none hV
  obtain ⟨s0, rfl, rfl, rfl, ws0⟩ := open_string Try.underlying9 (hval 0 9 v0 rfl rfl) h0
  obtain ⟨s1, rfl, rfl, rfl, ws1⟩ := open_string Try.underlying9 (hval 1 9 v1 rfl rfl) h1
  clear hA0 hval0
  simp only [List.append_nil] at hW' hk
  have k0 : s0.data.toList.length ≤ 2 ^ 47 := short hk (by simp only [Rows.uptoBulkAll, Rows.uptoBulk]; omega)
  have k1 : s1.data.toList.length ≤ 2 ^ 47 := short hk (by simp only [Rows.uptoBulkAll, Rows.uptoBulk]; omega)
  refine (walk s0 k0 s1 k1 W).mono fun e W' ⟨he, hb⟩ => ?_
  subst he
  exact ⟨_, rfl, post_of_below (pa := []) (pv := []) hW' (fun _ _ _ => (trodAll_cons_mk (shut_bool Try.underlying4 _) trodAll_mk0)) (fun sp _ => (trodAll_cons_mk (shut_string Try.underlying9 ws0) (trodAll_cons_mk (shut_string Try.underlying9 ws1) trodAll_mk0))) (fun _ _ => rfl) hb⟩

theorem holds : Rows.RegexWrapsUptoSaid :=
  OpenClaim.holds_of_cond 5 Try.f5 rfl rfl rfl rfl rfl rfl rfl ⟨rfl, rfl, rfl, rfl, rfl⟩ rfl rfl rfl rfl rfl (by kernel_rfl) Try.func5 (by kernel_rfl)
    (of_decide_eq_true (by kernel_rfl)) (by unfold Func.isWrapper; first | (rw [if_pos (by decide +kernel)]; kernel_rfl) | (rw [if_neg (by decide +kernel)]; exact ⟨rfl, rfl⟩))
    (fun os started H enc _ F => lifted os started H enc F)

end Go.Proofs.Ytghchmemjjpcbaa.regexWraps
