/- A part of the proof: tools. No condition. -/
import Derived.Test.YtdgjlmpnackfaaaDoorL3
set_option linter.all false
namespace Go.Ab.R12
set_option linter.all false
open Go
def escA (new : List UInt8) : List UInt8 → List UInt8
 | [] => []
 | c :: s => (if c = 39 then new else [c]) ++ escA new s
theorem replaceK_esc (new : List UInt8) : ∀ s : List UInt8, Lib.replaceK [39] new (s.count 39) s = escA new s
 | [] => rfl
 | c :: s => by
   have ih := replaceK_esc new s
   by_cases hc : c = 39
   ·subst hc
    rw [List.count_cons_self, Lib.replaceK_hit [39] new _ _ 0 (by rw [Lib.index_one]; simp [Lib.indexByte])]
    simp [escA, ih]
   ·rw [List.count_cons_of_ne (by simpa using hc)]
    simp only [escA, if_neg hc, List.singleton_append]
    cases hk : s.count 39 with
    | zero => rw [hk] at ih; simp only [Lib.replaceK] at ih ⊢; rw [← ih]
    | succ k =>
      obtain ⟨i, hi⟩ := Lib.index_of_count (s := s) (old := [39]) (by rw [Lib.count_one, hk]; omega)
      rw [hk, Lib.replaceK_hit [39] new k s i hi] at ih
      rw [Lib.replaceK_hit [39] new k (c :: s) (i + 1) (by rw [Lib.index_one] at hi ⊢; simp only [Lib.indexByte] at hi ⊢; first | (simp [hc, hi]; done) | (simp [hc, hi]; omega) )]
      simpa using ih
theorem replaceAll_esc {new : List UInt8} (hn : new ≠ [39]) (s : List UInt8) : Lib.replaceAll s [39] new = escA new s := by
 unfold Lib.replaceAll Lib.replace
 rw [if_neg (by simpa using fun h => hn h.symm)]
 simp only [Lib.replaceNum]
 rw [if_pos (by simp), Lib.count_one, replaceK_esc]
theorem escA_length (new s : List UInt8) : (escA new s).length + s.count 39 = s.length + new.length * s.count 39 := by
 induction s with
 | nil => simp [escA]
 | cons c s ih =>
   by_cases hc : c = 39
   ·subst hc; simp only [escA, if_true, List.length_append, List.length_cons, List.count_cons_self, Nat.mul_add]; omega
   ·rw [List.count_cons_of_ne (by simpa using hc)]; simp only [escA, if_neg hc, List.length_append, List.length_cons, List.length_nil]; omega
def q4 : List UInt8 := [39, 92, 39, 39]
theorem escA_inj : ∀ s t : List UInt8, escA q4 s ++ [39] = escA q4 t ++ [39] → s = t
 | [], [], _ => rfl
 | [], c :: t, h => by
   exfalso
   by_cases hc : c = 39
   ·subst hc; simp [escA, q4] at h
   ·simp [escA, hc, q4] at h
 | c :: s, [], h => by
   exfalso
   by_cases hc : c = 39
   ·subst hc; simp [escA, q4] at h
   ·simp [escA, hc, q4] at h
 | c :: s, d :: t, h => by
   by_cases hc : c = 39 <;> by_cases hd : d = 39
   ·subst hc hd
    simp only [escA, if_true, List.append_assoc] at h
    rw [escA_inj s t (List.append_cancel_left h)]
   ·subst hc; simp [escA, hd, q4] at h; try exact absurd h.1.symm hd
   ·subst hd; simp [escA, hc, q4] at h; try exact absurd h.1 hc
   ·simp only [escA, if_neg hc, if_neg hd, List.singleton_append, List.cons_append, List.cons.injEq] at h
    rw [h.1, escA_inj s t h.2]
end Go.Ab.R12
