/- Two right trees, joined, are a right one, of all their nodes and one more; a text's own tree is right, and told it has no operator. No condition. -/
import Derived.Test.YtghchmemjjpcbaaRows
import Derived.Test.YtghchmemjjpcbaaC8
import Derived.Test.YtghchmemjjpcbaaC9
import Derived.Test.YtghchmemjjpcbaaL3
import Derived.WalkKit
import Derived.ProofKit
import Derived.ChangeMaps5
set_option linter.all false
namespace Go.Proofs.Ytghchmemjjpcbaa.regexJoins
open Go.ChangeShapes Go.WideShapes Go.ChangeAt Go.RowKit Go.ChangeMaps Go.Ab Go.Ab.R05j
theorem own : ownKnob Try.prog.godebug = none := by kernel_rfl
set_option maxRecDepth 100000 in
theorem lifted (os : Os) (started : os.Started) (H : Type) (enc : TypeId × Value → H) :
  ReturnsInHanded {} Try.checked os 7 .any (Rows.regexJoinsSpec.pre6 enc Try.prog Try.f7 Rows.regexJoinsRow.domain false) (Rows.regexJoinsSpec.post enc Try.prog Try.f7 false true false false) := by
 refine returnsInHanded_of_change (C := Try.checked) own started (by kernel_rfl) Try.func7
  (ChangeSpec.witness6 (enc := enc) (C := Try.checked) false ⟨#[], #[.slice none 0 0, .slice none 0 0, .string ⟨#[]⟩], []⟩ 8 (by kernel_rfl) (by kernel_rfl) (by kernel_rfl) (by kernel_rfl)) ?_
 intro W base args ds gs before hval0 hW hcnd _
 have hval : ∀ (j : Nat) t v, Try.f7.params[j]? = some t → args[j]? = some v → Value.okWide Try.prog W .any base t v := hval0
 have hW' := hW
 obtain ⟨p, q, hA0, hV, rfl, hfz, hnd⟩ := hW
 have hA' : DataW.TrodAll enc Try.prog W 0 (fun _ => true) true Try.f7.params.toList args.toList ds p := hA0
 have hA := hA'
 rw [Try.params7] at hA hval
 obtain ⟨v0, vs0, d0, ds0, p0, q0, hargs, rfl, rfl, h0, r0⟩ := trodAll_cons hA
 obtain ⟨v1, vs1, d1, ds1, p1, q1, rfl, rfl, rfl, h1, r1⟩ := trodAll_cons r0
 obtain ⟨v2, vs2, d2, ds2, p2, q2, rfl, rfl, rfl, h2, r2⟩ := trodAll_cons r1
 obtain ⟨rfl, rfl, rfl⟩ := trodAll_nil r2
 obtain rfl : args = #[v0, v1, v2] := by cases args; simp_all
 obtain ⟨rfl, rfl⟩ := trodVars_none hV
 obtain ⟨s, rfl, rfl, _, ws⟩ := open_string Try.underlying9 (hval 2 9 v2 rfl rfl) h2
 obtain ⟨fl0, hf0⟩ := h0
 obtain ⟨fl1, hf1⟩ := h1
 obtain ⟨t, ht, rt⟩ := open_res hf0 (okWide_slice Try.underlying23 (hval 0 23 v0 rfl rfl))
 obtain ⟨u, hu, ru⟩ := open_res hf1 (okWide_slice Try.underlying23 (hval 1 23 v1 rfl rfl))
 refine (@calls_of_evG (glbW W) Try.prog T1 fitN fitD (@orc1OK (glbW W)) _ _ (.bool true) (.bool true) [] (RegexJoins_ev t u s.data.toList ht hu) rfl ⟨_, rfl⟩ rfl (by intro y hy es e; subst e; simp at hy) #[v0, v1, .string s]
  (by simp only [RepL, Rep]; exact ⟨_, _, rfl, rt, _, _, rfl, ru, _, _, rfl, by simp [RepD], rfl⟩) W (glbW_in W)).mono fun e W' ⟨he, hb⟩ => ?_
 subst he
 exact ⟨_, rfl, post_of_below2 (pv := []) hW' (by kernel_rfl) (by kernel_rfl) hA' (fun x hx => by simpa using hx) (by simp only [List.append_nil]; rfl) (fun _ _ _ => (trodAll_cons_mk (shut_bool Try.underlying4 _) trodAll_mk0)) (fun _ _ => rfl) hb⟩
theorem holds : Rows.RegexJoinsSaid :=
 OpenClaim.holds_of_wide 7 Try.f7 rfl rfl rfl rfl rfl rfl rfl ⟨rfl, rfl, rfl, rfl, rfl⟩ rfl rfl rfl rfl rfl (by kernel_rfl) Try.func7 (by kernel_rfl)
  (of_decide_eq_true (by kernel_rfl)) (by unfold Func.isWrapper; first | (rw [if_pos (by decide +kernel)]; kernel_rfl) | (rw [if_neg (by decide +kernel)]; exact ⟨rfl, rfl⟩))
  (fun os started H enc _ => lifted os started H enc)
end Go.Proofs.Ytghchmemjjpcbaa.regexJoins
