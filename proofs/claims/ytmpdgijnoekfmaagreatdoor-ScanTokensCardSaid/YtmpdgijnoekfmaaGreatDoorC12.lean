/- A part of the proof: tools. No condition. -/
import Derived.Test.YtmpdgijnoekfmaaGreatDoorC10
import Derived.Test.YtmpdgijnoekfmaaGreatDoorC11
set_option linter.all false
namespace Go.Ab.R15z
open Go.RowKit Go.Proofs
set_option linter.all false
theorem orcSplit (m : Int) : @OrcAt (glbInt 0 m) Tryz.prog f_strings_Split splitO :=
 @splitO_ok (glbInt 0 m) Tryz.prog f_strings_Split 0 9 m (enters_of Tryz.func19 (by kernel_rfl) rfl)
  (fun s sep m w hs hm h1 => Any.strings_Split { Tryz.laysM146 with } Tryz.laysM146.i9 s sep m w hs hm h1) (glbInt_at 0 m)
theorem orcMul [Glb] : OrcAt Tryz.prog f_bits_Mul64 mul64O := mul64O_ok (enters_of Tryz.func53 (by kernel_rfl) rfl) (fun x y hx hy w => Tryz.bits_Mul64 x y hx hy w)
theorem orcOK (m : Int) : @OrcOK (glbInt 0 m) Tryz.prog T2.orc := @orcOK_of (glbInt 0 m) _ _ fun p hp => by
 simp only [orcL, List.mem_cons, List.not_mem_nil, or_false] at hp
 rcases hp with rfl | rfl | rfl | rfl
 ·exact @orcIdx (glbInt 0 m)
 ·exact orcSplit m
 ·exact @orcMul (glbInt 0 m)
 ·exact @orcAdd (glbInt 0 m)
theorem law_calls {f : FuncId} {args : List AV} (he : Ev T2 f args [] (.ret (bl true)) []) (hf : ∃ af, lookupF tabl f = some af) (ha : AV.refBs args = 0) (hno : ∀ y ∈ args, ∀ es, y ≠ .own es) {vs : Array Value} (hr : RepL (@K0 Glb.none) args vs.toList) (W : World) (hsh : W.ShapedOpen Tryz.prog) :
  Calls Tryz.prog f vs W fun e W' => e = .returned (.bool true) ∧ Below W.heap.size W W' := by
 obtain ⟨m, hm⟩ := Tryz.laysM146.s1_3 W hsh
 refine @calls_of_evG (glbInt 0 m) Tryz.prog T2 fitN fitD (orcOK m) f args (.bool true) (.bool true) [] he rfl hf ha hno vs ?_ W (glbInt_in hm)
 exact RepL.mono (K := @K0 Glb.none) (K' := @K0 (glbInt 0 m)) (n := AV.refBs args) (fun _ _ _ h => nomatch h) (fun _ _ => rfl) _ _ (Nat.le_refl _) hr
end Go.Ab.R15z
