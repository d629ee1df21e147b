/- Oracles: the library's functions that have no body here. -/
import Derived.Test.YtpdfcjgehdlheaaA25
import Derived.Lib.Bytealg
set_option linter.all false
namespace Go.Ab

/-- what one oracle says is so -/
def OrcAt (P : Program) (f : FuncId) (o : List AV → Option AV) : Prop := ∀ args v, o args = some v → v.refB = 0 ∧ (∀ es, v ≠ .own es) ∧
  ∀ (E : Env) (K : Ctx) (s : St) (tm : Array Value) (w : World) (vs : Array Value), Sim E K s tm w → WF E.rf0 s → RepL K args vs.toList →
    Does P f vs w fun e w' => ∃ K' pv, Sim E K' s tm w' ∧ Up s.rf.length K K' ∧ e = .returned pv ∧ Rep K' v pv

def orcOf : List (Nat × (List AV → Option AV)) → FuncId → List AV → Option AV
  | [], _, _ => none
  | (k, o) :: r, f, args => if k = f then o args else orcOf r f args

theorem orcOK_of {P : Program} : ∀ {l : List (Nat × (List AV → Option AV))}, (∀ p, p ∈ l → OrcAt P p.1 p.2) → OrcOK P (orcOf l)
  | [], _ => fun f args v h => by simp [orcOf] at h
  | (k, o) :: r, hl => fun f args v h => by
    simp only [orcOf] at h
    split at h
    · rename_i hk
      subst hk
      exact hl (k, o) (by simp) args v h
    · exact orcOK_of (fun p hp => hl p (by simp [hp])) f args v h

theorem callFunc_extern {P : Program} {f : FuncId} {fn : Func} {e : Array Value → Sem Value} (hf : P.funcs[f]? = some fn) (hname : (fn.name == "runtime.NumGoroutine") = false) (hb : fn.body.isNone = true)
    (hn : Extern.findNext fn = none) (he : Extern.find fn = some e) {args : Array Value} {v : Value} {w : World} (hr : (e args).run P w = .ok v w) : (callFunc f args).run P w = .ok (.value v) w := by
  have hname' : fn.name ≠ "runtime.NumGoroutine" := by simpa using hname
  have hb' : fn.body = none := by simpa using hb
  simp [callFunc, hf, hname', hb', hn, he, hr]

def idxByte : List AV → Option AV
  | [.d (.str s), .d (.int .u8 c)] => some (.d (.int .i64 (Lib.indexByte s c.toNat.toUInt8)))
  | _ => none

theorem idxByte_ok {P : Program} {f : FuncId} {fn : Func} (hf : P.funcs[f]? = some fn) (hname : (fn.name == "runtime.NumGoroutine") = false) (hb : fn.body.isNone = true)
    (hn : Extern.findNext fn = none) (he : Extern.find fn = some Extern.BytealgIndexByte.indexByte) : OrcAt P f idxByte := by
  intro args v h
  unfold idxByte at h
  split at h
  · rename_i s c
    simp only [Option.some.injEq] at h
    subst h
    refine ⟨rfl, fun es e => (by cases e), fun E K st tm w vs hs _ hr => ?_⟩
    simp only [RepL, Rep, RepD] at hr
    obtain ⟨v1, r1, e1, rfl, v2, r2, rfl, rfl, rfl⟩ := hr
    have hvs : vs = #[.string ⟨s.toArray⟩, .int .u8 c] := by
      apply Array.toList_inj.1
      rw [e1]
    subst hvs
    unfold Does
    rw [callFunc_extern hf hname hb hn he (Lib.run_indexByteString _ _ w)]
    simp only
    exact ⟨K, _, hs, Up.refl _ _, rfl, by simp [Rep, RepD]⟩
  · cases h

end Go.Ab
