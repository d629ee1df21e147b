/- A part of the proof: tools. No condition. -/
import Derived.Test.YtomglfpnfioplaaGreatDoorC5
import Derived.Test.YtomglfpnfioplaaGreatDoorC6
import Derived.Test.YtomglfpnfioplaaGreatDoorL3
set_option linter.all false
namespace Go.Ab.R09
open Go.RowKit Go.Proofs
set_option linter.all false
theorem orcIdx [Glb] : OrcAt Tryz.prog f_bytealg_IndexByteString idxByte := idxByte_ok (fn := Tryz.f131) Tryz.func131 (by decide +kernel) (by decide +kernel) (by rfl) (by rfl)
theorem orcSplit (W : World) (m : Int) (hm : W.cell? ⟨0, 0, none⟩ = some (.int .i64 m)) : @OrcAt (glbW W) Tryz.prog f_strings_Split splitO :=
 @splitO_ok (glbW W) Tryz.prog f_strings_Split 0 9 m (enters_of Tryz.func25 (by kernel_rfl) rfl)
  (fun s sep m w hs hm h1 => Any.strings_Split { Tryz.laysM146 with } Tryz.laysM146.i9 s sep m w hs hm h1) hm
theorem orcOK (W : World) (m : Int) (hm : W.cell? ⟨0, 0, none⟩ = some (.int .i64 m)) : @OrcOK (glbW W) Tryz.prog T2.orc := @orcOK_of (glbW W) _ _ fun p hp => by
 simp only [orcL, List.mem_cons, List.not_mem_nil, or_false] at hp
 rcases hp with rfl | rfl
 ·exact @orcIdx (glbW W)
 ·exact orcSplit W m hm
theorem law_calls {f : FuncId} {args : List AV} (he : Ev T2 f args [] (.ret (bl true)) []) (hf : ∃ af, lookupF tabl f = some af) (ha : AV.refBs args = 0) (hno : ∀ y ∈ args, ∀ es, y ≠ .own es) {vs : Array Value} (W : World) (hr : RepL (@K0 (glbW W)) args vs.toList) (hsh : W.ShapedOpen Tryz.prog) :
  Calls Tryz.prog f vs W fun e W' => e = .returned (.bool true) ∧ Below W.heap.size W W' := by
 obtain ⟨m, hm⟩ := Tryz.laysM146.s1_3 W hsh
 exact @calls_of_evG (glbW W) Tryz.prog T2 fitN fitD (orcOK W m hm) f args (.bool true) (.bool true) [] he rfl hf ha hno vs hr W (glbW_in W)
end Go.Ab.R09
