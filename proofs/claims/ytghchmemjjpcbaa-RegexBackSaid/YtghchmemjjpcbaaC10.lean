/- A part of the proof: tools. No condition. -/
import Derived.Test.YtghchmemjjpcbaaC8
import Derived.Test.YtghchmemjjpcbaaC9
import Derived.KernelRfl
set_option linter.all false
namespace Go.Ab.R05
set_option maxRecDepth 100000
set_option linter.all false
set_option maxHeartbeats 4000000
section
variable {T : Tb} [hT : Base T]
def reK : List PK := [.int .i64, .int .u64, .int .u64, .int .u64, .int .u64, .int .i64, .int .i64]
def Re.eqB (r q : Re) : Bool := (eqCells reK (reC r) (reC q)).getD false
theorem eqB_cells (r q : Re) : eqCells reK (reC r) (reC q) = some (r.eqB q) := by
 simp [Re.eqB, eqCells, reK, reC, wdv, AV.nat, D.kind?]
theorem eqB_iff {r q : Re} : r.eqB q = true ↔ reD r = reD q := by
 simp [Re.eqB, eqCells, reK, reC, reD, wdv, AV.nat, D.kind?, D.eqP]
def sameT : List Re → List Re → Bool
 | [], [] => true
 | a :: t, b :: u => a.eqB b && sameT t u
 | _, _ => false
theorem sameT_iff : ∀ {t u : List Re}, sameT t u = true ↔ t.map reD = u.map reD
 | [], [] => by simp [sameT]
 | [], b :: u => by simp [sameT]
 | a :: t, [] => by simp [sameT]
 | a :: t, b :: u => by simp [sameT, eqB_iff, sameT_iff (t := t) (u := u)]
theorem sameT_len {t u : List Re} (h : t.length ≠ u.length) : sameT t u = false := by
 cases hs : sameT t u
 ·rfl
 ·exact absurd (by simpa using congrArg List.length (sameT_iff.1 hs)) h
theorem sameT_self (t : List Re) : sameT t t = true := sameT_iff.2 rfl
theorem getRe {t : List Re} {m : Nat} (h : m < t.length) : ∃ y, t[m]? = some y := ⟨_, List.getElem?_eq_getElem h⟩
theorem idxRe {t : List Re} {i : Nat} {r : Re} {c : List D → Prop} (h : t[i]? = some r) (h' : c (reD r)) : IdxL 7 (t.map reD) (i : Int) c := idxLb (by rw [List.getElem?_map, h]; rfl) rfl h'
theorem eqRe {r q : Re} {c : Bool → Prop} (h : c (r.eqB q)) : EqcE reK (reC r) (reC q) c := eqcB (eqB_cells r q) h
theorem Same_ev (t u : List Re) (rf : Refs) (ht : t.length ≤ 2 ^ 40) : Ev T f_ref05_Same [lst (t.map reD), lst (u.map reD)] rf (.ret (bl (sameT t u))) rf := by
 refine Ev.any ?_ rfl rf
 have l1 : (t.map reD).length = t.length := by simp
 have l2 : (u.map reD).length = u.length := by simp
 refine ev_fn rfl rfl ?_
 (repeat' (first| (intro (u_ : Unit); clear u_)| refine condT ?_| refine condF ?_| refine condp (by assumption) ?_| refine condn (by assumption) ?_| refine condN ?_| refine idxSb (by assumption) ?_| (refine condD ?_ ?_ <;> intro hq_ <;> first | (exfalso; omega) | skip)| (refine idxS (by omega) ?_; intro b_ hb_; have hl_ := b_.toNat_lt)| refine wrA (by omega) ?_| refine wrS (by omega) (by omega) ?_| refine wrI (by omega) (by omega) ?_| refine wrBA (by omega) ?_| refine wrB (by omega) (by omega) ?_| refine strC (by omega) ?_| refine nilB rfl ?_))
 ·rw [sameT_len (by omega)]; exact ⟨rfl, rfl⟩
 ·refine loopR (fun i : Nat => [(5, i64 i)]) (fun _ => []) (fun i => t.length - i) (fun i => i ≤ t.length ∧ sameT t u = sameT (t.drop i) (u.drop i)) 0 ⟨by omega, by simp⟩ (by rfl) (by rfl) ?_
  rintro i ⟨hi, hP⟩
  by_cases hlt : i < t.length
  ·obtain ⟨r, hr⟩ := getRe hlt
   obtain ⟨q, hq⟩ := getRe (t := u) (m := i) (by omega)
   have h1 : t.drop i = r :: t.drop (i + 1) := by rw [← List.getElem_cons_drop (h := hlt)]; congr 1; exact (List.getElem?_eq_some_iff.1 hr).2
   have h2 : u.drop i = q :: u.drop (i + 1) := by rw [← List.getElem_cons_drop (h := by omega)]; congr 1; exact (List.getElem?_eq_some_iff.1 hq).2
   rw [h1, h2] at hP
   (repeat' (first| (intro (u_ : Unit); clear u_)| refine condT ?_| refine condF ?_| refine condp (by assumption) ?_| refine condn (by assumption) ?_| refine condN ?_| refine idxSb (by assumption) ?_| refine idxRe hr ?_| refine idxRe hq ?_| (refine eqRe ?_; cases he_ : r.eqB q)| refine condX ?_| (refine condD ?_ ?_ <;> intro hq_ <;> first | (exfalso; omega) | skip)| (refine idxS (by omega) ?_; intro b_ hb_; have hl_ := b_.toNat_lt)| refine wrA (by omega) ?_| refine wrS (by omega) (by omega) ?_| refine wrI (by omega) (by omega) ?_| refine wrBA (by omega) ?_| refine wrB (by omega) (by omega) ?_| refine strC (by omega) ?_| refine nilB rfl ?_))
   ·rw [hP]; simp only [sameT, he_]; exact ⟨rfl, rfl⟩
   ·exact ⟨i + 1, ⟨by omega, by rw [hP]; simp [sameT, he_]⟩, by omega, rfl, rfl, rfl, rfl⟩
  ·(repeat' (first
    | (intro (u_ : Unit); clear u_)
    | refine condT ?_
    | refine condF ?_
    | refine condp (by assumption) ?_
    | refine condn (by assumption) ?_
    | refine condN ?_
    | refine idxSb (by assumption) ?_
    | (refine condD ?_ ?_ <;> intro hq_ <;> first | (exfalso; omega) | skip)
    | (refine idxS (by omega) ?_; intro b_ hb_; have hl_ := b_.toNat_lt)
    | refine wrA (by omega) ?_
    | refine wrS (by omega) (by omega) ?_
    | refine wrI (by omega) (by omega) ?_
    | refine wrBA (by omega) ?_
    | refine wrB (by omega) (by omega) ?_
    | refine strC (by omega) ?_
    | refine nilB rfl ?_))
   rw [hP, List.drop_eq_nil_of_le (by omega), List.drop_eq_nil_of_le (by omega)]
   exact ⟨rfl, rfl⟩
end
theorem shown_ev : Ev T1 f_law05_shown [] [] (.ret (bl true)) [] := ⟨60, by kernel_rfl⟩
theorem RegexReads_ev (s : List UInt8) : Ev T1 f_law05_RegexReads [str s] [] (.ret (bl true)) [] := by
 by_cases hs : s.length ≤ 3000
 ·have h1 := rRd_ev (T := T1) s (by omega) []
  have h2 := pRd_ev (T := T1) s (by omega) []
  have hl : ∀ t, parse s = .ok t → t.length ≤ 2000 := fun t h => by
   unfold parse at h
   cases hr : allM s 31 0 0 [] with
   | err e => rw [hr] at h; cases h
   | ok a i d u =>
     rw [hr] at h
     simp only at h
     split at h
     ·cases h
     ·cases h; exact (adv_allM 31 (Nat.zero_le _) (by simp) _ _ _ _ hr).2.2.2
  cases hp : parse s with
  | error e =>
    rw [hp] at h1 h2
    have hS := Same_ev (T := T1) [] [] [] (by simp)
    refine ev_fn rfl rfl ?_
    (repeat' (first| (intro (u_ : Unit); clear u_)| refine condT ?_| refine condF ?_| refine condp (by assumption) ?_| refine condn (by assumption) ?_| refine condN ?_| refine idxSb (by assumption) ?_| refine callE_ev shown_ev ?_| refine callE_ev h1 ?_| refine callE_ev h2 ?_| refine callE_ev hS ?_| (refine condD ?_ ?_ <;> intro hq_ <;> first | (exfalso; omega) | skip)| (refine idxS (by omega) ?_; intro b_ hb_; have hl_ := b_.toNat_lt)| refine wrA (by omega) ?_| refine wrS (by omega) (by omega) ?_| refine wrI (by omega) (by omega) ?_| refine wrBA (by omega) ?_| refine wrB (by omega) (by omega) ?_| refine strC (by omega) ?_| refine nilB rfl ?_))
    all_goals exact ⟨by simp, rfl⟩
  | ok t =>
    rw [hp] at h1 h2
    have hS := Same_ev (T := T1) t t [] (by have := hl t hp; omega)
    rw [sameT_self] at hS
    refine ev_fn rfl rfl ?_
    (repeat' (first| (intro (u_ : Unit); clear u_)| refine condT ?_| refine condF ?_| refine condp (by assumption) ?_| refine condn (by assumption) ?_| refine condN ?_| refine idxSb (by assumption) ?_| refine callE_ev shown_ev ?_| refine callE_ev h1 ?_| refine callE_ev h2 ?_| refine callE_ev hS ?_| (refine condD ?_ ?_ <;> intro hq_ <;> first | (exfalso; omega) | skip)| (refine idxS (by omega) ?_; intro b_ hb_; have hl_ := b_.toNat_lt)| refine wrA (by omega) ?_| refine wrS (by omega) (by omega) ?_| refine wrI (by omega) (by omega) ?_| refine wrBA (by omega) ?_| refine wrB (by omega) (by omega) ?_| refine strC (by omega) ?_| refine nilB rfl ?_))
    all_goals exact ⟨rfl, rfl⟩
 ·refine ev_fn rfl rfl ?_
  (repeat' (first| (intro (u_ : Unit); clear u_)| refine condT ?_| refine condF ?_| refine condp (by assumption) ?_| refine condn (by assumption) ?_| refine condN ?_| refine idxSb (by assumption) ?_| refine callE_ev shown_ev ?_| (refine condD ?_ ?_ <;> intro hq_ <;> first | (exfalso; omega) | skip)| (refine idxS (by omega) ?_; intro b_ hb_; have hl_ := b_.toNat_lt)| refine wrA (by omega) ?_| refine wrS (by omega) (by omega) ?_| refine wrI (by omega) (by omega) ?_| refine wrBA (by omega) ?_| refine wrB (by omega) (by omega) ?_| refine strC (by omega) ?_| refine nilB rfl ?_))
  exact ⟨rfl, rfl⟩
end Go.Ab.R05
