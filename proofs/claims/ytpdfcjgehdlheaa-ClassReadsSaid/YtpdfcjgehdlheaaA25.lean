/- The check of a table against a program. -/
import Derived.Test.YtpdfcjgehdlheaaA24
set_option linter.all false
namespace Go.Ab

def lookupF : List (Nat × AFn) → Nat → Option AFn
  | [], _ => none
  | (k, v) :: r, n => if k = n then some v else lookupF r n

def chkFn (P : Program) (dfr : Bool) (f : Nat) (af : AFn) : Bool :=
  match P.funcs[f]? with
  | none => false
  | some fn => match fn.body with
    | none => false
    | some code => af.body.cok && (fn.name != "runtime.NumGoroutine") &&
      (if dfr then chkS P fn.ntmps af.body code && fn.results.size == 0 else chkC P fn.ntmps af.body code && chkRes P af.res fn.results.toList && !af.keep)

def chkTab (P : Program) (dfr : Bool) : List (Nat × AFn) → Bool
  | [] => true
  | (f, af) :: r => chkFn P dfr f af && chkTab P dfr r

theorem chkTab_get {P : Program} {dfr : Bool} : ∀ {l : List (Nat × AFn)} {f : Nat} {af : AFn}, chkTab P dfr l = true → lookupF l f = some af → chkFn P dfr f af = true
  | [], f, af, _, h => by simp [lookupF] at h
  | (k, v) :: r, f, af, hc, h => by
    simp only [chkTab, Bool.and_eq_true] at hc
    simp only [lookupF] at h
    split at h
    · rename_i hk
      subst hk
      simp only [Option.some.injEq] at h
      subst h
      exact hc.1
    · exact chkTab_get hc.2 h

theorem fitN_of {P : Program} {l : List (Nat × AFn)} (h : chkTab P false l = true) : FitN P (lookupF l) := fun f af haf => by
  have := chkTab_get h haf
  unfold chkFn at this
  split at this
  · cases this
  · rename_i fn hfn
    split at this
    · cases this
    · rename_i code hcode
      simp only [Bool.and_eq_true, bne_iff_ne, ne_eq, Bool.not_eq_true', Bool.false_eq_true, if_false] at this
      exact ⟨fn, code, ⟨hfn, hcode, this.1.1, this.1.2⟩, this.2.1.1, this.2.1.2, this.2.2⟩

theorem fitD_of {P : Program} {l : List (Nat × AFn)} (h : chkTab P true l = true) : FitD P (lookupF l) := fun f af haf => by
  have := chkTab_get h haf
  unfold chkFn at this
  split at this
  · cases this
  · rename_i fn hfn
    split at this
    · cases this
    · rename_i code hcode
      simp only [Bool.and_eq_true, bne_iff_ne, ne_eq, if_true, beq_iff_eq] at this
      exact ⟨fn, code, ⟨hfn, hcode, this.1.1, this.1.2⟩, this.2.1, Array.eq_empty_of_size_eq_zero this.2.2⟩

end Go.Ab
