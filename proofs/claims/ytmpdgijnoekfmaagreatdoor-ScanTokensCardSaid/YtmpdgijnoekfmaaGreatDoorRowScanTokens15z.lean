/- dragomanlaw15.ScanTokens: the tokens of any text, or what is wrong, and where, are as the document says; so are the language's words and marks. No condition. -/
import Derived.Test.YtmpdgijnoekfmaaGreatDoorCards
import Derived.Test.YtmpdgijnoekfmaaGreatDoorTie
import Derived.Test.YtmpdgijnoekfmaaGreatDoorC10
import Derived.Test.YtmpdgijnoekfmaaGreatDoorC12
import Derived.Test.YtmpdgijnoekfmaaGreatDoorL3
import Derived.WalkKit
import Derived.ProofKit
import Derived.OpenShut
import Derived.LaidMore
import Derived.SizedLaws
import Derived.Lay
import Derived.SevenTiedAt
import Derived.Deep.DeepHandedRow
set_option linter.all false
namespace Go.Proofs.YtmpdgijnoekfmaaGreatDoor.scanTokens
open Go.ChangeShapes Go.WideShapes Go.ChangeAt Go.RowKit Go.ChangeMaps Go.Ab Go.Ab.R15z
theorem own : ownKnob Tryz.prog.godebug = none := by kernel_rfl
theorem walk (s0 : ByteArray) (h0 : s0.data.toList.length ≤ 2 ^ 47) (W : World) (hsh : W.ShapedOpen Tryz.prog) : Calls Tryz.prog 3 #[.string s0] W fun e W' => e = .returned (.bool true) ∧ Below W.heap.size W W' := by
 exact law_calls (ScanTokens_ev s0.data.toList h0) ⟨_, rfl⟩ rfl (by intro y hy es e; subst e; simp at hy) (by simp [RepL, Rep, RepD]) W hsh
theorem laid_met (os : Os) : laidMetH Tryz.prog Rows.scanTokensRow.laid ((World.laidAll Tryz.prog os Rows.scanTokensRow.laid).forCall (fun _ _ => 0) ⟨#[], #[.string ⟨#[]⟩], []⟩).memory := by
 rw [MakeChecks.laidMetH_plain _ _ _ (by kernel_rfl)]
 exact laidMet_laidAll _ (by kernel_rfl) (by kernel_rfl)
theorem reads (os : Os) {H : Type} (enc : TypeId × Value → H) : ∃ places, DataW.whole enc Tryz.prog ((World.laidAll Tryz.prog os Rows.scanTokensRow.laid).forCall (fun _ _ => 0) ⟨#[], #[.string ⟨#[]⟩], []⟩).memory Tryz.f3.params.toList Rows.scanTokensSpec.vars false (#[.string ⟨#[]⟩] : Array Value).toList 8 = some ([.lit (.string [])], [], places) :=
 ⟨[], by kernel_rfl⟩
set_option maxRecDepth 100000 in
theorem lifted (os : Os) (started : os.Started) (H : Type) (enc : TypeId × Value → H) (F : Stop.Interp) :
  ReturnsInHanded {} Tryz.checked os 3 .any ((OpenSpec.ofChange Rows.scanTokensSpec).preRow enc Tryz.prog Tryz.f3 Rows.scanTokensRow.domain false Rows.scanTokensRow.laid) (((OpenSpec.ofChange Rows.scanTokensSpec).at F).post enc Tryz.prog Tryz.f3 false true false false) := by
 obtain ⟨places, hx⟩ := reads os enc
 refine returnsInHanded_of_row (C := Tryz.checked) (s := OpenSpec.ofChange Rows.scanTokensSpec) own started (by kernel_rfl) Tryz.func3
  (witness_row_at (enc := enc) (C := Tryz.checked) false (World.laidAll Tryz.prog os Rows.scanTokensRow.laid) #[.string ⟨#[]⟩] (World.laidAll_os _ _ _) (by kernel_rfl) (by kernel_rfl) (by kernel_rfl)
   (OpenSpec.preRow_of_cond 8 hx (by kernel_rfl) (fun k hk => by cases hk) (by kernel_rfl) (laid_met os))) ?_
 intro W base args ds gs before hval0 hW _ _ hsz _ hsh _
 have hval : ∀ (j : Nat) t v, Tryz.f3.params[j]? = some t → args[j]? = some v → Value.okWide Tryz.prog W .any base t v := hval0
 have hW' := hW
 obtain ⟨p, q, hA0, hV, rfl, hfz, hnd⟩ := hW
 have hA : DataW.TrodAll enc Tryz.prog W 0 (fun _ => true) true Tryz.f3.params.toList args.toList ds p := hA0
 rw [Tryz.params3] at hA hval
 obtain ⟨v0, vs0, d0, ds0, p0, q0, hargs, rfl, rfl, h0, r0⟩ := trodAll_cons hA
 obtain ⟨rfl, rfl, rfl⟩ := trodAll_nil r0
 obtain rfl : args = #[v0] := by cases args; simp_all
 obtain ⟨rfl, rfl⟩ := trodVars_none hV
 obtain ⟨s0, rfl, rfl, rfl, ws0⟩ := open_string Tryz.underlying9 (hval 0 9 v0 rfl rfl) h0
 have k0 : s0.data.toList.length ≤ 2 ^ 47 := Nat.le_trans (sized_string hsz (j := 0) (t := 9) rfl rfl) (Nat.le_of_lt reachBytes_lt)
 clear hA0 hval0
 simp only [List.append_nil] at hW'
 refine (walk s0 k0 W hsh).mono fun e W' ⟨he, hb⟩ => ?_
 subst he
 exact ⟨_, rfl, post_of_below (pa := []) (pv := []) hW' (fun _ _ _ => (trodAll_cons_mk (shut_bool Tryz.underlying4 _) trodAll_mk0)) (fun sp _ => (trodAll_cons_mk (shut_string Tryz.underlying9 ws0) trodAll_mk0)) (fun _ _ => rfl) hb⟩
theorem said : Rows.ScanTokensSaid :=
 OpenClaim.holds_of_cond 3 Tryz.f3 rfl rfl rfl rfl rfl rfl rfl ⟨rfl, rfl, rfl, rfl, rfl⟩ rfl rfl rfl rfl rfl (by kernel_rfl) Tryz.func3 (by kernel_rfl)
  (of_decide_eq_true (by kernel_rfl)) (by unfold Func.isWrapper; first | (rw [if_pos (by decide +kernel)]; kernel_rfl) | (rw [if_neg (by decide +kernel)]; exact ⟨rfl, rfl⟩))
  (fun os started H enc _ F => by rw [OpenClaim.pre_eq_preRow]; exact lifted os started H enc F)
theorem plain (f : FuncId) (fn : Func) (hf : Tryz.pinned.checked.prog.funcNamed "dragoman/dragomanlaw15.ScanTokens" = some f) (hfn : Tryz.pinned.checked.prog.funcs[f]? = some fn) :
  true = Tryz.pinned.checked.prog.looks [] ∧ ∀ (j : Nat) t, fn.params[j]? = some t → Tryz.pinned.checked.prog.wantsStandIn t = false := by
 obtain rfl : f = 3 := Option.some.inj ((show Tryz.prog.funcNamed "dragoman/dragomanlaw15.ScanTokens" = some 3 by kernel_rfl).symm.trans hf) |>.symm
 obtain rfl : fn = Tryz.f3 := (Option.some.inj (Tryz.func3.symm.trans hfn)).symm
 refine ⟨by kernel_rfl, fun j t ht => ?_⟩
 rw [Tryz.params3] at ht
 have hm := Array.mem_of_getElem? ht
 simp only [List.mem_toArray, List.mem_cons, List.not_mem_nil, or_false] at hm
 rcases hm with rfl
 all_goals exact (show Tryz.prog.wantsStandIn _ = false by kernel_rfl)
theorem card : Rows.ScanTokensCardSaid :=
 Claim7.holds_tied_plain_at .later [] _ _ _ _ said (fun _ h => by cases h) (by kernel_rfl) (fun _ h => by cases h) scanTokens_row_tie rfl ⟨rfl, rfl⟩ (by kernel_rfl) rfl plain (by kernel_rfl)
end Go.Proofs.YtmpdgijnoekfmaaGreatDoor.scanTokens
