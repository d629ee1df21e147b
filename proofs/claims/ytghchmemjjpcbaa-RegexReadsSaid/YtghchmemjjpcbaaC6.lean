/- A part of the proof: tools. No condition. -/
import Derived.Test.YtghchmemjjpcbaaC5
import Derived.RangeFuncNested
import Derived.RangeFuncBound
import Derived.RangeFuncCalls
import Derived.RangeFuncLeaves
import Derived.Shelf.Abstract
import Derived.Shelf.RegionOpen
import Derived.WalkKit
import Derived.OwnWalkIn
import Derived.TacticsInMore
import Derived.LoopNIn
import Derived.LoopIn
import Derived.Test.YtghchmemjjpcbaaProg
import Derived.Test.YtghchmemjjpcbaaL3
import Derived.KernelRfl
set_option linter.all false
namespace Go.Ab.R05
set_option maxRecDepth 100000
set_option linter.all false
set_option maxHeartbeats 4000000
variable {T : Tb} [hT : Base T]

/-- what is read goes on by so much, stays within the text, comes back to where it was -/
def Adv (s : List UInt8) (m i d : Nat) (r : R) : Prop := ∀ a i' d' t', r = .ok a i' d' t' → i + m ≤ i' ∧ i' ≤ s.length ∧ d' = d ∧ t'.length ≤ 2000

theorem Adv.bind {s : List UInt8} {m n i d : Nat} {r : R} {f : Nat → Nat → Nat → List Re → R} (h : Adv s m i d r) (hf : ∀ a i' t', i + m ≤ i' → i' ≤ s.length → t'.length ≤ 2000 → Adv s n i' d (f a i' d t')) : Adv s (m + n) i d (r.bind f) := by
  intro a i' d' t' e
  cases r with
  | err x => cases e
  | ok b j e' u =>
    obtain ⟨h1, h2, h3, h4⟩ := h _ _ _ _ rfl
    subst h3
    have := hf b j u h1 h2 h4 a i' d' t' e
    omega
theorem Adv.at {s : List UInt8} {m n i j d : Nat} {r : R} (h : Adv s m j d r) (hm : i + n ≤ j + m) : Adv s n i d r := fun a i' d' t' e => by
  have := h a i' d' t' e; omega
theorem adv_ok {s : List UInt8} {a i d : Nat} {t : List Re} (hi : i ≤ s.length) (ht : t.length ≤ 2000) : Adv s 0 i d (.ok a i d t) := by
  intro a' i' d' t' e; cases e; exact ⟨Nat.le_refl _, hi, rfl, ht⟩
theorem adv_err {s : List UInt8} {m i d e : Nat} : Adv s m i d (.err e) := by intro a' i' d' t' h; cases h

theorem putM_ok {r : Re} {a i d i' d' : Nat} {t t' : List Re} (h : putM r i d t = .ok a i' d' t') : a = t.length ∧ i' = i ∧ d' = d ∧ t' = t ++ [r] ∧ t.length < 2000 := by
  unfold putM at h
  split at h
  · cases h
  · cases h; exact ⟨rfl, rfl, rfl, rfl, by omega⟩
theorem adv_put {s : List UInt8} {r : Re} {i d : Nat} {t : List Re} (hi : i ≤ s.length) : Adv s 0 i d (putM r i d t) := by
  intro a i' d' t' h
  obtain ⟨rfl, rfl, rfl, rfl, h5⟩ := putM_ok h
  exact ⟨Nat.le_refl _, hi, rfl, by simp; omega⟩

def AdvG (s : List UInt8) (G : Nat → Nat → List Re → R) : Prop := ∀ i d t, i < s.length → t.length ≤ 2000 → Adv s 1 i d (G i d t)

theorem adv_atom {s : List UInt8} {G : Nat → Nat → List Re → R} (hG : AdvG s G) {i d : Nat} {t : List Re} (hi : i < s.length) (ht : t.length ≤ 2000) : Adv s 1 i d (atomM s G i d t) := by
  unfold atomM
  repeat' split
  all_goals first
    | exact adv_err
    | exact hG i d t hi ht
    | exact (adv_put (by omega)).at (by omega)
    | (rename_i h; have := readS_len h; rw [List.length_drop] at this; exact (adv_put (by omega)).at (by omega))
    | (rename_i h; have := sign_drop h; exact (adv_put (by omega)).at (by omega))

theorem adv_post {s : List UInt8} {d : Nat} : ∀ {f a i : Nat} {t : List Re}, i ≤ s.length → t.length ≤ 2000 → Adv s 0 i d (postL s f a i d t)
  | 0, a, i, t, hi, ht => adv_ok hi ht
  | f + 1, a, i, t, hi, ht => by
    unfold postL
    repeat' split
    all_goals first
      | exact adv_ok hi ht
      | (rename_i h; have := hit_lt h; exact (((adv_put (by omega)).bind (n := 0) fun a i' t' h1 h2 h3 => adv_post h2 h3)).at (by omega))

theorem adv_piece {s : List UInt8} {G : Nat → Nat → List Re → R} (hG : AdvG s G) {i d : Nat} {t : List Re} (hi : i < s.length) (ht : t.length ≤ 2000) : Adv s 1 i d (pieceM s G i d t) :=
  (adv_atom hG hi ht).bind fun a i' t' h1 h2 h3 => adv_post h2 h3

theorem stop_lt {s : List UInt8} {i : Nat} (h : ¬ stop s i = true) : i < s.length := by
  unfold stop at h; simp at h; omega

theorem adv_cat {s : List UInt8} {G : Nat → Nat → List Re → R} (hG : AdvG s G) {d : Nat} : ∀ {f a i : Nat} {t : List Re}, i ≤ s.length → t.length ≤ 2000 → Adv s 0 i d (catL s G f a i d t)
  | 0, a, i, t, hi, ht => adv_ok hi ht
  | f + 1, a, i, t, hi, ht => by
    unfold catL
    split
    · exact adv_ok hi ht
    · rename_i h
      exact ((adv_piece hG (stop_lt h) ht).bind (n := 0) fun b i' t' h1 h2 h3 => ((adv_put h2).bind (n := 0) fun a i'' t'' h4 h5 h6 => adv_cat hG h5 h6)).at (by omega)

theorem adv_catM {s : List UInt8} {G : Nat → Nat → List Re → R} (hG : AdvG s G) {i d : Nat} {t : List Re} (hi : i ≤ s.length) (ht : t.length ≤ 2000) : Adv s 0 i d (catM s G i d t) := by
  unfold catM
  split
  · exact adv_put hi
  · rename_i h
    exact ((adv_piece hG (stop_lt h) ht).bind (n := 0) fun b i' t' h1 h2 h3 => adv_cat hG h2 h3).at (by omega)

theorem adv_alt {s : List UInt8} {G : Nat → Nat → List Re → R} (hG : AdvG s G) {d : Nat} : ∀ {f a i : Nat} {t : List Re}, i ≤ s.length → t.length ≤ 2000 → Adv s 0 i d (altL s G f a i d t)
  | 0, a, i, t, hi, ht => adv_ok hi ht
  | f + 1, a, i, t, hi, ht => by
    unfold altL
    split
    · rename_i h
      have := hit_lt h
      exact ((adv_catM hG (by omega) ht).bind (n := 0) fun b i' t' h1 h2 h3 => ((adv_put h2).bind (n := 0) fun a i'' t'' h4 h5 h6 => adv_alt hG h5 h6)).at (by omega)
    · exact adv_ok hi ht

theorem adv_all {s : List UInt8} {G : Nat → Nat → List Re → R} (hG : AdvG s G) {i d : Nat} {t : List Re} (hi : i ≤ s.length) (ht : t.length ≤ 2000) : Adv s 0 i d (allB s G i d t) :=
  (adv_catM hG hi ht).bind fun a i' t' h1 h2 h3 => adv_alt hG h2 h3

theorem adv_grp {s : List UInt8} {A : Nat → Nat → List Re → R} (hA : ∀ i d t, i ≤ s.length → t.length ≤ 2000 → Adv s 0 i d (A i d t)) : AdvG s (grpM s A) := by
  intro i d t hi ht
  unfold grpM
  split
  · exact adv_err
  · have h := hA (i + 1) (d + 1) t (by omega) ht
    intro a i' d' t' e
    cases hr : A (i + 1) (d + 1) t with
    | err x => rw [hr] at e; cases e
    | ok b j e' u =>
      rw [hr] at e
      obtain ⟨h1, h2, h3, h4⟩ := h _ _ _ _ hr
      simp only [R.bind] at e
      split at e
      · rename_i hh
        have := hit_lt hh
        cases e; omega
      · cases e

theorem adv_allM {s : List UInt8} : ∀ (n : Nat) {i d : Nat} {t : List Re}, i ≤ s.length → t.length ≤ 2000 → Adv s 0 i d (allM s n i d t)
  | 0, i, d, t, _, _ => adv_err
  | n + 1, i, d, t, hi, ht => adv_all (adv_grp fun i d t hi ht => adv_allM n hi ht) hi ht

theorem postE {c : UInt8} {rf : Refs} {k : Out → Refs → Prop} (h0 : c.toNat = 42 → k (.ret (i64 (0 : Nat))) rf) (h1 : c.toNat = 43 → k (.ret (i64 (1 : Nat))) rf) (h2 : c.toNat = 63 → k (.ret (i64 (2 : Nat))) rf)
    (hn : c.toNat ≠ 42 → c.toNat ≠ 43 → c.toNat ≠ 63 → k (.ret (i64 (-1))) rf) : CallE T f_strings_IndexByte [str [42, 43, 63], u8 c.toNat] rf k := by
  have := IndexByte_ev (T := T) [42, 43, 63] c.toNat rf
  rw [show c.toNat.toUInt8 = c from UInt8.ofNat_toNat] at this
  refine callE_ev this ?_
  by_cases e0 : c.toNat = 42
  · have : c = 42 := UInt8.toNat_inj.1 e0
    subst this; exact h0 rfl
  by_cases e1 : c.toNat = 43
  · have : c = 43 := UInt8.toNat_inj.1 e1
    subst this; exact h1 rfl
  by_cases e2 : c.toNat = 63
  · have : c = 63 := UInt8.toNat_inj.1 e2
    subst this; exact h2 rfl
  have : Lib.indexByte [42, 43, 63] c = -1 := by
    have hne : ¬ (42 : UInt8) = c ∧ ¬ (43 : UInt8) = c ∧ ¬ (63 : UInt8) = c := ⟨fun h => e0 (by rw [← h]; rfl), fun h => e1 (by rw [← h]; rfl), fun h => e2 (by rw [← h]; rfl)⟩
    simp [Lib.indexByte, hne]
  rw [this]
  exact hn e0 e1 e2

theorem bind_ok {r : R} {f : Nat → Nat → Nat → List Re → R} {a i d : Nat} {t : List Re} (h : r = .ok a i d t) : r.bind f = f a i d t := by rw [h]; rfl
theorem bind_err {r : R} {f : Nat → Nat → Nat → List Re → R} {e : Nat} (h : r = .err e) : r.bind f = .err e := by rw [h]; rfl

section
variable {s : List UInt8} {f a i d : Nat} {t : List Re}
theorem post_42 (h : hit s i 42 = true) : postL s (f + 1) a i d t = (putM ⟨4, 0, a, 0⟩ (i + 1) d t).bind (postL s f) := by simp [postL, h]
theorem post_43 (h0 : hit s i 42 = false) (h : hit s i 43 = true) : postL s (f + 1) a i d t = (putM ⟨5, 0, a, 0⟩ (i + 1) d t).bind (postL s f) := by simp [postL, h0, h]
theorem post_63 (h0 : hit s i 42 = false) (h1 : hit s i 43 = false) (h : hit s i 63 = true) : postL s (f + 1) a i d t = (putM ⟨6, 0, a, 0⟩ (i + 1) d t).bind (postL s f) := by simp [postL, h0, h1, h]
theorem post_no (h0 : hit s i 42 = false) (h1 : hit s i 43 = false) (h2 : hit s i 63 = false) : postL s (f + 1) a i d t = .ok a i d t := by simp [postL, h0, h1, h2]
end

theorem piece_ev (G : Nat → Nat → List Re → R) (s : List UInt8) (hs : s.length ≤ 2 ^ 30) (i d : Nat) (t : List Re) (hi : i < s.length) (ht : t.length ≤ 2000) (hA : AdvG s G) (hG : Fits T f_regex_reader_group [] s i d t (G i d t)) : Fits T f_regex_reader_piece [] s i d t (pieceM s G i d t) := by
  have hat := atom_ev G s hs i d t hi ht hG
  have had := adv_atom hA (d := d) hi ht
  refine call_fn rfl rfl ?_
  (repeat' (first
    | (intro (u_ : Unit); clear u_)
    | refine condT ?_
    | refine condF ?_
    | refine condp (by assumption) ?_
    | refine condn (by assumption) ?_
    | refine condN ?_
    | refine idxSb (by assumption) ?_
    | refine fitE hat rfl (fun a_ i_ d_ t_ hr_ => ?_) (fun e_ i_ d_ t_ hr_ => ?_)
    | (refine condD ?_ ?_ <;> intro hq_ <;> first | (exfalso; omega) | skip)
    | (refine idxS (by omega) ?_; intro b_ hb_; have hl_ := b_.toNat_lt)
    | refine wrA (by omega) ?_
    | refine wrS (by omega) (by omega) ?_
    | refine wrI (by omega) (by omega) ?_
    | refine wrBA (by omega) ?_
    | refine wrB (by omega) (by omega) ?_
    | refine catL (by omega) ?_
    | refine nilB rfl ?_))
  · obtain ⟨h1, h2, rfl, h4⟩ := had _ _ _ _ hr_
    refine loopR4 (fun (_ a _ : Nat) (_ : List Re) => [(3, i64 a)]) (fun (_ a i : Nat) t => [(0, rd s i d_ t)]) (fun f _ _ _ => f) (fun f a i' t' => s.length < i' + f ∧ i' ≤ s.length ∧ t'.length ≤ 2000 ∧ pieceM s G i d_ t = postL s f a i' d_ t') (s.length + 1) _ _ _ ⟨by omega, h2, h4, bind_ok hr_⟩ (by rfl) (by rfl) ?_
    rintro f a i' t' ⟨hf, hi', ht', hP⟩
    obtain ⟨f, rfl⟩ : ∃ g, f = g + 1 := ⟨f - 1, by omega⟩
    (repeat' (first
      | (intro (u_ : Unit); clear u_)
      | refine condT ?_
      | refine condF ?_
      | refine condp (by assumption) ?_
      | refine condn (by assumption) ?_
      | refine condN ?_
      | refine idxSb (by assumption) ?_
      | refine postE (fun hc_ => ?_) (fun hc_ => ?_) (fun hc_ => ?_) (fun hc1_ hc2_ hc3_ => ?_)
      | refine putE (st := 0) (by assumption) (fun a_ i_ d_ t_ hr2_ => ?_) (fun e_ i_ d_ t_ hr2_ => ?_)
      | (refine condD ?_ ?_ <;> intro hq_ <;> first | (exfalso; omega) | skip)
      | (refine idxS (by omega) ?_; intro b_ hb_; have hl_ := b_.toNat_lt)
      | refine wrA (by omega) ?_
      | refine wrS (by omega) (by omega) ?_
      | refine wrI (by omega) (by omega) ?_
      | refine wrBA (by omega) ?_
      | refine wrB (by omega) (by omega) ?_
      | refine catL (by omega) ?_
      | refine nilB rfl ?_))
    all_goals first
      | (obtain ⟨rfl, rfl, rfl, rfl, hl2⟩ := putM_ok hr2_
         first
         | exact ⟨f, _, _, _, ⟨by omega, by omega, by simp; omega, hP.trans ((post_42 (hitT hb_ (by omega))).trans (bind_ok hr2_))⟩, by omega, rfl, rfl, rfl, rfl⟩
         | exact ⟨f, _, _, _, ⟨by omega, by omega, by simp; omega, hP.trans ((post_43 (hitF hb_ (by omega)) (hitT hb_ (by omega))).trans (bind_ok hr2_))⟩, by omega, rfl, rfl, rfl, rfl⟩
         | exact ⟨f, _, _, _, ⟨by omega, by omega, by simp; omega, hP.trans ((post_63 (hitF hb_ (by omega)) (hitF hb_ (by omega)) (hitT hb_ (by omega))).trans (bind_ok hr2_))⟩, by omega, rfl, rfl, rfl, rfl⟩)
      | exact post_err (hP.trans ((post_42 (hitT hb_ (by omega))).trans (bind_err hr2_)))
      | exact post_err (hP.trans ((post_43 (hitF hb_ (by omega)) (hitT hb_ (by omega))).trans (bind_err hr2_)))
      | exact post_err (hP.trans ((post_63 (hitF hb_ (by omega)) (hitF hb_ (by omega)) (hitT hb_ (by omega))).trans (bind_err hr2_)))
      | exact post_ok (hP.trans (post_no (hitF hb_ (by omega)) (hitF hb_ (by omega)) (hitF hb_ (by omega))))
      | exact post_ok (hP.trans (post_no (hitN (by omega)) (hitN (by omega)) (hitN (by omega))))
  · exact post_err (bind_err hr_)

section
variable {s : List UInt8} {G : Nat → Nat → List Re → R} {f a i d : Nat} {t : List Re}
theorem stopT (h : hit s i 124 = true ∨ hit s i 41 = true ∨ s.length ≤ i) : stop s i = true := by
  unfold stop; rcases h with h | h | h <;> simp [h]
theorem stopF (h0 : i < s.length) (h1 : hit s i 124 = false) (h2 : hit s i 41 = false) : stop s i = false := by
  unfold stop; simp [h1, h2]; omega
theorem catM_stop (h : stop s i = true) : catM s G i d t = putM ⟨0, 0, 0, 0⟩ i d t := if_pos h
theorem catM_go (h : stop s i = false) : catM s G i d t = (pieceM s G i d t).bind (catL s G (s.length + 1)) := if_neg (by simp [h])
theorem catL_stop (h : stop s i = true) : catL s G (f + 1) a i d t = .ok a i d t := if_pos h
theorem catL_go (h : stop s i = false) : catL s G (f + 1) a i d t = (pieceM s G i d t).bind fun b i d t => (putM ⟨2, 0, a, b⟩ i d t).bind (catL s G f) := if_neg (by simp [h])
theorem altL_stop (h : hit s i 124 = false) : altL s G (f + 1) a i d t = .ok a i d t := if_neg (by simp [h])
theorem altL_go (h : hit s i 124 = true) : altL s G (f + 1) a i d t = (catM s G (i + 1) d t).bind fun b i d t => (putM ⟨3, 0, a, b⟩ i d t).bind (altL s G f) := if_pos h
end

theorem cat_ev (G : Nat → Nat → List Re → R) (s : List UInt8) (hs : s.length ≤ 2 ^ 30) (i d : Nat) (t : List Re) (hi : i ≤ s.length) (ht : t.length ≤ 2000) (hA : AdvG s G) (hG : ∀ i t, i < s.length → t.length ≤ 2000 → Fits T f_regex_reader_group [] s i d t (G i d t)) : Fits T f_regex_reader_cat [] s i d t (catM s G i d t) := by
  refine call_fn rfl rfl ?_
  (repeat' (first
    | (intro (u_ : Unit); clear u_)
    | refine condT ?_
    | refine condF ?_
    | refine condp (by assumption) ?_
    | refine condn (by assumption) ?_
    | refine condN ?_
    | refine idxSb (by assumption) ?_
    | (refine condD ?_ ?_ <;> intro hq_ <;> first | (exfalso; omega) | skip)
    | (refine idxS (by omega) ?_; intro b_ hb_; have hl_ := b_.toNat_lt)
    | refine wrA (by omega) ?_
    | refine wrS (by omega) (by omega) ?_
    | refine wrI (by omega) (by omega) ?_
    | refine wrBA (by omega) ?_
    | refine wrB (by omega) (by omega) ?_
    | refine catL (by omega) ?_
    | refine nilB rfl ?_))
  refine loopR4 (fun (_ : Nat) (o : Option Nat) (_ : Nat) (_ : List Re) => [(3, i64 (match o with | none => -1 | some a => a))]) (fun _ _ i t => [(0, rd s i d t)]) (fun f _ _ _ => f) (fun f o i' t' => s.length < i' + f ∧ i' ≤ s.length ∧ t'.length ≤ 2000 ∧ (o = none → i' = i ∧ t' = t ∧ f = s.length + 2) ∧ ∀ a, o = some a → catM s G i d t = catL s G f a i' d t') (s.length + 2) none _ _ ⟨by omega, hi, ht, fun _ => ⟨rfl, rfl, rfl⟩, fun a h => by cases h⟩ (by rfl) (by rfl) ?_
  rintro f o i' t' ⟨hf, hi', ht', hN, hP⟩
  obtain ⟨f, rfl⟩ : ∃ g, f = g + 1 := ⟨f - 1, by omega⟩
  cases o with
  | none =>
    obtain ⟨rfl, rfl, hf2⟩ := hN rfl
    (repeat' (first
      | (intro (u_ : Unit); clear u_)
      | refine condT ?_
      | refine condF ?_
      | refine condp (by assumption) ?_
      | refine condn (by assumption) ?_
      | refine condN ?_
      | refine idxSb (by assumption) ?_
      | refine seesE (fun hh_ hl_ => ?_) (fun hh_ => ?_)
      | refine fitE (piece_ev G s hs _ _ _ (by omega) (by assumption) hA (hG _ _ (by omega) (by assumption))) rfl (fun a_ i_ d_ t_ hr_ => ?_) (fun e_ i_ d_ t_ hr_ => ?_)
      | refine putE (st := 0) (by assumption) (fun a_ i_ d_ t_ hr2_ => ?_) (fun e_ i_ d_ t_ hr2_ => ?_)
      | (refine condD ?_ ?_ <;> intro hq_ <;> first | (exfalso; omega) | skip)
      | (refine idxS (by omega) ?_; intro b_ hb_; have hl_ := b_.toNat_lt)
      | refine wrA (by omega) ?_
      | refine wrS (by omega) (by omega) ?_
      | refine wrI (by omega) (by omega) ?_
      | refine wrBA (by omega) ?_
      | refine wrB (by omega) (by omega) ?_
      | refine catL (by omega) ?_
      | refine nilB rfl ?_))
    all_goals first
      | exact post_ok ((catM_stop (stopT (by first | exact .inl (by assumption) | exact .inr (.inl (by assumption)) | exact .inr (.inr (by omega))))).trans hr2_)
      | exact post_err ((catM_stop (stopT (by first | exact .inl (by assumption) | exact .inr (.inl (by assumption)) | exact .inr (.inr (by omega))))).trans hr2_)
      | exact post_err ((catM_go (stopF (by omega) (by assumption) (by assumption))).trans (bind_err hr_))
      | (obtain ⟨h1, h2, rfl, h4⟩ := adv_piece hA (by omega) (by assumption) _ _ _ _ hr_
         exact ⟨s.length + 1, some a_, _, _, ⟨by omega, h2, h4, (fun h => by cases h), fun a h => by cases h; exact (catM_go (stopF (by omega) (by assumption) (by assumption))).trans (bind_ok hr_)⟩, by omega, rfl, rfl, rfl, rfl⟩)
  | some a =>
    have hP := hP a rfl
    (repeat' (first
      | (intro (u_ : Unit); clear u_)
      | refine condT ?_
      | refine condF ?_
      | refine condp (by assumption) ?_
      | refine condn (by assumption) ?_
      | refine condN ?_
      | refine idxSb (by assumption) ?_
      | refine seesE (fun hh_ hl_ => ?_) (fun hh_ => ?_)
      | refine fitE (piece_ev G s hs _ _ _ (by omega) (by assumption) hA (hG _ _ (by omega) (by assumption))) rfl (fun a_ i_ d_ t_ hr_ => ?_) (fun e_ i_ d_ t_ hr_ => ?_)
      | refine putE (st := 0) (adv_piece hA (by omega) (by assumption) _ _ _ _ hr_).2.2.2 (fun a_ i_ d_ t_ hr2_ => ?_) (fun e_ i_ d_ t_ hr2_ => ?_)
      | (refine condD ?_ ?_ <;> intro hq_ <;> first | (exfalso; omega) | skip)
      | (refine idxS (by omega) ?_; intro b_ hb_; have hl_ := b_.toNat_lt)
      | refine wrA (by omega) ?_
      | refine wrS (by omega) (by omega) ?_
      | refine wrI (by omega) (by omega) ?_
      | refine wrBA (by omega) ?_
      | refine wrB (by omega) (by omega) ?_
      | refine catL (by omega) ?_
      | refine nilB rfl ?_))
    all_goals first
      | exact post_ok (hP.trans (catL_stop (stopT (by first | exact .inl (by assumption) | exact .inr (.inl (by assumption)) | exact .inr (.inr (by omega))))))
      | exact post_err (hP.trans ((catL_go (stopF (by omega) (by assumption) (by assumption))).trans (bind_err hr_)))
      | exact post_err (hP.trans ((catL_go (stopF (by omega) (by assumption) (by assumption))).trans ((bind_ok hr_).trans (bind_err hr2_))))
      | (obtain ⟨h1, h2, rfl, h4⟩ := adv_piece hA (by omega) (by assumption) _ _ _ _ hr_
         obtain ⟨rfl, rfl, rfl, rfl, hl2⟩ := putM_ok hr2_
         exact ⟨f, some _, _, _, ⟨by omega, h2, by simp; omega, (fun h => by cases h), fun a h => by cases h; exact hP.trans ((catL_go (stopF (by omega) (by assumption) (by assumption))).trans ((bind_ok hr_).trans (bind_ok hr2_)))⟩, by omega, rfl, rfl, rfl, rfl⟩)

theorem all_ev (G : Nat → Nat → List Re → R) (s : List UInt8) (hs : s.length ≤ 2 ^ 30) (i d : Nat) (t : List Re) (hi : i ≤ s.length) (ht : t.length ≤ 2000) (hA : AdvG s G) (hG : ∀ i t, i < s.length → t.length ≤ 2000 → Fits T f_regex_reader_group [] s i d t (G i d t)) : Fits T f_regex_reader_all [] s i d t (allB s G i d t) := by
  refine call_fn rfl rfl ?_
  (repeat' (first
    | (intro (u_ : Unit); clear u_)
    | refine condT ?_
    | refine condF ?_
    | refine condp (by assumption) ?_
    | refine condn (by assumption) ?_
    | refine condN ?_
    | refine idxSb (by assumption) ?_
    | refine fitE (cat_ev G s hs _ _ _ hi ht hA hG) rfl (fun a_ i_ d_ t_ hr_ => ?_) (fun e_ i_ d_ t_ hr_ => ?_)
    | (refine condD ?_ ?_ <;> intro hq_ <;> first | (exfalso; omega) | skip)
    | (refine idxS (by omega) ?_; intro b_ hb_; have hl_ := b_.toNat_lt)
    | refine wrA (by omega) ?_
    | refine wrS (by omega) (by omega) ?_
    | refine wrI (by omega) (by omega) ?_
    | refine wrBA (by omega) ?_
    | refine wrB (by omega) (by omega) ?_
    | refine catL (by omega) ?_
    | refine nilB rfl ?_))
  · obtain ⟨h1, h2, rfl, h4⟩ := adv_catM hA hi ht _ _ _ _ hr_
    refine loopR4 (fun (_ a _ : Nat) (_ : List Re) => [(3, i64 a)]) (fun _ _ i t => [(0, rd s i d_ t)]) (fun f _ _ _ => f) (fun f a i' t' => s.length < i' + f ∧ i' ≤ s.length ∧ t'.length ≤ 2000 ∧ allB s G i d_ t = altL s G f a i' d_ t') (s.length + 1) _ _ _ ⟨by omega, h2, h4, bind_ok hr_⟩ (by rfl) (by rfl) ?_
    rintro f a i' t' ⟨hf, hi', ht', hP⟩
    obtain ⟨f, rfl⟩ : ∃ g, f = g + 1 := ⟨f - 1, by omega⟩
    clear hr_
    (repeat' (first
      | (intro (u_ : Unit); clear u_)
      | refine condT ?_
      | refine condF ?_
      | refine condp (by assumption) ?_
      | refine condn (by assumption) ?_
      | refine condN ?_
      | refine idxSb (by assumption) ?_
      | refine seesE (fun hh_ hl_ => ?_) (fun hh_ => ?_)
      | refine fitE (cat_ev G s hs _ _ _ (by omega) (by assumption) hA hG) rfl (fun a_ i_ d_ t_ hr_ => ?_) (fun e_ i_ d_ t_ hr_ => ?_)
      | refine putE (st := 0) (adv_catM hA (by omega) (by assumption) _ _ _ _ hr_).2.2.2 (fun a_ i_ d_ t_ hr2_ => ?_) (fun e_ i_ d_ t_ hr2_ => ?_)
      | (refine condD ?_ ?_ <;> intro hq_ <;> first | (exfalso; omega) | skip)
      | (refine idxS (by omega) ?_; intro b_ hb_; have hl_ := b_.toNat_lt)
      | refine wrA (by omega) ?_
      | refine wrS (by omega) (by omega) ?_
      | refine wrI (by omega) (by omega) ?_
      | refine wrBA (by omega) ?_
      | refine wrB (by omega) (by omega) ?_
      | refine catL (by omega) ?_
      | refine nilB rfl ?_))
    all_goals first
      | exact post_ok (hP.trans (altL_stop (by assumption)))
      | exact post_err (hP.trans ((altL_go (by assumption)).trans (bind_err hr_)))
      | exact post_err (hP.trans ((altL_go (by assumption)).trans ((bind_ok hr_).trans (bind_err hr2_))))
      | (obtain ⟨h5, h6, rfl, h8⟩ := adv_catM hA (by omega) (by assumption) _ _ _ _ hr_
         obtain ⟨rfl, rfl, rfl, rfl, hl2⟩ := putM_ok hr2_
         exact ⟨f, _, _, _, ⟨by omega, h6, by simp; omega, hP.trans ((altL_go (by assumption)).trans ((bind_ok hr_).trans (bind_ok hr2_)))⟩, by omega, rfl, rfl, rfl, rfl⟩)
  · exact post_err (bind_err hr_)

theorem group_ev (A : Nat → Nat → List Re → R) (s : List UInt8) (hs : s.length ≤ 2 ^ 30) (i d : Nat) (t : List Re) (hi : i < s.length) (ht : t.length ≤ 2000) (hd : d ≤ 30) (hA : ∀ i d t, i ≤ s.length → t.length ≤ 2000 → Adv s 0 i d (A i d t))
    (hG : d < 30 → Fits T f_regex_reader_all [] s (i + 1) (d + 1) t (A (i + 1) (d + 1) t)) : Fits T f_regex_reader_group [] s i d t (grpM s A i d t) := by
  refine call_fn rfl rfl ?_
  (repeat' (first
    | (intro (u_ : Unit); clear u_)
    | refine condT ?_
    | refine condF ?_
    | refine condp (by assumption) ?_
    | refine condn (by assumption) ?_
    | refine condN ?_
    | refine idxSb (by assumption) ?_
    | refine fitE (hG (by omega)) rfl (fun a_ i_ d_ t_ hr_ => ?_) (fun e_ i_ d_ t_ hr_ => ?_)
    | refine seesE (fun hh_ hl_ => ?_) (fun hh_ => ?_)
    | (obtain ⟨h1_, h2_, rfl, h4_⟩ := hA _ _ _ (by omega) ht _ _ _ _ hr_; refine wrS (b := 1) (by omega) (by omega) ?_)
    | (refine condD ?_ ?_ <;> intro hq_ <;> first | (exfalso; omega) | skip)
    | (refine idxS (by omega) ?_; intro b_ hb_; have hl_ := b_.toNat_lt)
    | refine wrA (by omega) ?_
    | refine wrS (by omega) (by omega) ?_
    | refine wrI (by omega) (by omega) ?_
    | refine wrBA (by omega) ?_
    | refine wrB (by omega) (by omega) ?_
    | refine catL (by omega) ?_
    | refine nilB rfl ?_))
  all_goals first
    | exact post_err (if_pos (by omega))
    | exact post_ok ((if_neg (by omega)).trans ((bind_ok hr_).trans (if_pos hh_)))
    | exact post_err ((if_neg (by omega)).trans ((bind_ok hr_).trans (if_neg (by simp [hh_]))))
    | exact post_err ((if_neg (by omega)).trans (bind_err hr_))

theorem allM_ev (s : List UInt8) (hs : s.length ≤ 2 ^ 30) : ∀ (n i d : Nat) (t : List Re), d + n = 30 → i ≤ s.length → t.length ≤ 2000 → Fits T f_regex_reader_all [] s i d t (allM s (n + 1) i d t)
  | 0, i, d, t, hd, hi, ht => all_ev _ s hs i d t hi ht (adv_grp fun i d t hi ht => adv_allM 0 hi ht) fun i t hi ht => group_ev _ s hs i d t hi ht (by omega) (fun i d t hi ht => adv_allM 0 hi ht) (fun h => by omega)
  | n + 1, i, d, t, hd, hi, ht => all_ev _ s hs i d t hi ht (adv_grp fun i d t hi ht => adv_allM (n + 1) hi ht) fun i t hi ht => group_ev _ s hs i d t hi ht (by omega) (fun i d t hi ht => adv_allM (n + 1) hi ht) (fun h => allM_ev s hs n (i + 1) (d + 1) t (by omega) (by omega) ht)

def resT : Except Nat (List Re) → AV
  | .ok t => .tup [lst (t.map reD), i64 (0 : Nat)]
  | .error e => .tup [lst [], i64 e]

theorem tc_bare (t : List Re) : (tc t).bare = lst (t.map reD) := by cases t <;> rfl

theorem rec_ev (e : Nat) (X Y : AV) (A : List AV) (hX : X.one = true) (hX2 : X.refB = 0) : EvD T f_regex_Read_1 [.ptr 0 0, .ptr 1 0] (some (fault e)) [[X], [Y], A] (.ret (.tup [])) none [[.nil], [i64 e], A] := by
  refine evd_vc (by rw [hT.td]; rfl) ?_
  (repeat' (first
    | (intro (u_ : Unit); clear u_)
    | refine condT ?_
    | refine condF ?_
    | refine condp (by assumption) ?_
    | refine condn (by assumption) ?_
    | refine condN ?_
    | refine idxSb (by assumption) ?_
    | (refine condD ?_ ?_ <;> intro hq_ <;> first | (exfalso; omega) | skip)
    | (refine idxS (by omega) ?_; intro b_ hb_; have hl_ := b_.toNat_lt)
    | refine wrA (by omega) ?_
    | refine wrS (by omega) (by omega) ?_
    | refine wrI (by omega) (by omega) ?_
    | refine wrBA (by omega) ?_
    | refine wrB (by omega) (by omega) ?_
    | refine catL (by omega) ?_
    | refine nilB rfl ?_))
  all_goals exact ⟨rfl, rfl, rfl, rfl⟩

theorem norec_ev (X Y : AV) (A : List AV) : EvD T f_regex_Read_1 [.ptr 0 0, .ptr 1 0] none [[X], [Y], A] (.ret (.tup [])) none [[X], [Y], A] := by
  refine evd_vc (by rw [hT.td]; rfl) ?_
  (repeat' (first
    | (intro (u_ : Unit); clear u_)
    | refine condT ?_
    | refine condF ?_
    | refine condp (by assumption) ?_
    | refine condn (by assumption) ?_
    | refine condN ?_
    | refine idxSb (by assumption) ?_
    | (refine condD ?_ ?_ <;> intro hq_ <;> first | (exfalso; omega) | skip)
    | (refine idxS (by omega) ?_; intro b_ hb_; have hl_ := b_.toNat_lt)
    | refine wrA (by omega) ?_
    | refine wrS (by omega) (by omega) ?_
    | refine wrI (by omega) (by omega) ?_
    | refine wrBA (by omega) ?_
    | refine wrB (by omega) (by omega) ?_
    | refine catL (by omega) ?_
    | refine nilB rfl ?_))
  all_goals exact ⟨rfl, rfl, rfl, rfl⟩

theorem at2 {f : FuncId} {c c' X Y : List AV} {o : Out} (hc : AV.refBs c = 0) (hc' : AV.refBs c' = 0) (ho : o.val.refB = 0) (h : Ev T f [.ptr 0 0] [c] o [c']) : Ev T f [.ptr 2 0] [X, Y, c] o [X, Y, c'] := by
  have hl : okL [2] [X, Y, c].length = true := rfl
  have h1 := h.at [2] (RF := [X, Y, c]) hl rfl rfl (by simp only [List.map_cons, List.map_nil, mvs_clean _ hc]; rfl)
  rw [Out.mv_clean ho] at h1
  simp only [List.map_cons, List.map_nil, mvs_clean _ hc', scat] at h1
  exact h1

theorem fit2 {f : FuncId} {s : List UInt8} {i d : Nat} {t : List Re} {r : R} {X Y : List AV} {k : Out → Refs → Prop} (h : Fits T f [] s i d t r) (hok : ∀ a i d t, r = .ok a i d t → k (.ret (i64 a)) [X, Y, rd s i d t]) (herr : ∀ e i d t, r = .err e → k (.pan (fault e)) [X, Y, rd s i d t]) :
    CallE T f [.ptr 2 0] [X, Y, rd s i d t] k := by
  obtain ⟨o, rf', he, hp⟩ := h
  cases r with
  | ok a i' d' t' =>
    obtain ⟨rfl, rfl⟩ := hp
    exact ⟨_, _, at2 (rd_b _ _ _ _) (rd_b _ _ _ _) rfl he, hok _ _ _ _ rfl⟩
  | err e =>
    obtain ⟨i', d', t', rfl, rfl⟩ := hp
    exact ⟨_, _, at2 (rd_b _ _ _ _) (rd_b _ _ _ _) rfl he, herr _ _ _ _ rfl⟩

theorem defE {f : FuncId} {args : List AV} {m : Option AV} {rf : Refs} {o : Out} {m' : Option AV} {rf' : Refs} {k : Out → Option AV → Refs → Prop} (h : EvD T f args m rf o m' rf') (h' : k o m' rf') : DefE T f args m rf k := ⟨o, m', rf', h, h'⟩

theorem parse_err {s : List UInt8} {e : Nat} (h : allM s 31 0 0 [] = .err e) : parse s = .error e := by unfold parse; rw [h]
theorem parse_9 {s : List UInt8} {a i d : Nat} {t : List Re} (h : allM s 31 0 0 [] = .ok a i d t) (hi : i < s.length) : parse s = .error 9 := by unfold parse; rw [h]; exact if_pos hi
theorem parse_ok {s : List UInt8} {a i d : Nat} {t : List Re} (h : allM s 31 0 0 [] = .ok a i d t) (hi : ¬ i < s.length) : parse s = .ok t := by unfold parse; rw [h]; exact if_neg hi

theorem rRd_ev (s : List UInt8) (hs : s.length ≤ 2 ^ 30) (rf : Refs) : Ev T f_regex_Read [str s] rf (.ret (resT (parse s))) rf := by
  have hall := allM_ev (T := T) s hs 30 0 0 [] rfl (Nat.zero_le _) (by simp)
  have key : ∀ (a i d : Nat) (t : List Re), allM s 31 0 0 [] = .ok a i d t → Ev T f_regex_Read [str s] [] (.ret (resT (parse s))) [] := fun a i d t hr => by
    by_cases hi : i < s.length
    · rw [parse_9 hr hi]
      cases t <;>
      (refine ev_fn rfl rfl ?_
       (repeat' (first
         | (intro (u_ : Unit); clear u_)
         | refine condT ?_
         | refine condF ?_
         | refine condp (by assumption) ?_
         | refine condn (by assumption) ?_
         | refine condN ?_
         | refine idxSb (by assumption) ?_
         | refine fit2 hall (fun a_ i_ d_ t_ hr_ => ?_) (fun e_ i_ d_ t_ hr_ => absurd (hr.symm.trans hr_) (fun h => by cases h))
         | (have he_ := hr.symm.trans hr_; clear hr_; cases he_)
         | refine defE (rec_ev _ _ _ _ rfl rfl) ?_
         | refine defE (norec_ev _ _ _) ?_
         | (refine condD ?_ ?_ <;> intro hq_ <;> first | (exfalso; omega) | skip)
         | (refine idxS (by omega) ?_; intro b_ hb_; have hl_ := b_.toNat_lt)
         | refine wrA (by omega) ?_
         | refine wrS (by omega) (by omega) ?_
         | refine wrI (by omega) (by omega) ?_
         | refine wrBA (by omega) ?_
         | refine wrB (by omega) (by omega) ?_
         | refine catL (by omega) ?_
         | refine nilB rfl ?_))
       exact ⟨rfl, rfl⟩)
    · rw [parse_ok hr hi]
      cases t <;>
      (refine ev_fn rfl rfl ?_
       (repeat' (first
         | (intro (u_ : Unit); clear u_)
         | refine condT ?_
         | refine condF ?_
         | refine condp (by assumption) ?_
         | refine condn (by assumption) ?_
         | refine condN ?_
         | refine idxSb (by assumption) ?_
         | refine fit2 hall (fun a_ i_ d_ t_ hr_ => ?_) (fun e_ i_ d_ t_ hr_ => absurd (hr.symm.trans hr_) (fun h => by cases h))
         | (have he_ := hr.symm.trans hr_; clear hr_; cases he_)
         | refine defE (rec_ev _ _ _ _ rfl rfl) ?_
         | refine defE (norec_ev _ _ _) ?_
         | (refine condD ?_ ?_ <;> intro hq_ <;> first | (exfalso; omega) | skip)
         | (refine idxS (by omega) ?_; intro b_ hb_; have hl_ := b_.toNat_lt)
         | refine wrA (by omega) ?_
         | refine wrS (by omega) (by omega) ?_
         | refine wrI (by omega) (by omega) ?_
         | refine wrBA (by omega) ?_
         | refine wrB (by omega) (by omega) ?_
         | refine catL (by omega) ?_
         | refine nilB rfl ?_))
       exact ⟨rfl, rfl⟩)
  refine Ev.any ?_ rfl rf
  cases hr : allM s 31 0 0 [] with
  | err e =>
    rw [parse_err hr]
    refine ev_fn rfl rfl ?_
    (repeat' (first
      | (intro (u_ : Unit); clear u_)
      | refine condT ?_
      | refine condF ?_
      | refine condp (by assumption) ?_
      | refine condn (by assumption) ?_
      | refine condN ?_
      | refine idxSb (by assumption) ?_
      | refine fit2 hall (fun a_ i_ d_ t_ hr_ => absurd (hr.symm.trans hr_) (fun h => by cases h)) (fun e_ i_ d_ t_ hr_ => ?_)
      | refine defE (rec_ev _ _ _ _ rfl rfl) ?_
      | refine defE (norec_ev _ _ _) ?_
      | (refine condD ?_ ?_ <;> intro hq_ <;> first | (exfalso; omega) | skip)
      | (refine idxS (by omega) ?_; intro b_ hb_; have hl_ := b_.toNat_lt)
      | refine wrA (by omega) ?_
      | refine wrS (by omega) (by omega) ?_
      | refine wrI (by omega) (by omega) ?_
      | refine wrBA (by omega) ?_
      | refine wrB (by omega) (by omega) ?_
      | refine catL (by omega) ?_
      | refine nilB rfl ?_))
    cases hr.symm.trans hr_
    exact ⟨rfl, rfl⟩
  | ok a i d t => exact key a i d t hr
end Go.Ab.R05

namespace Go.Ab.R05
set_option maxRecDepth 100000
set_option linter.all false
set_option maxHeartbeats 4000000
variable {T : Tb} [hT : Base T]

def pr (s : List UInt8) (i d : Nat) (t : List Re) (b : Nat) : List AV := [str s, i64 i, i64 d, tc t, i64 b]
theorem pr_b (s : List UInt8) (i d : Nat) (t : List Re) (b : Nat) : AV.refBs (pr s i d t b) = 0 := by
  simp [pr, AV.refBs, AV.refB, tc_b]

def PostR (s : List UInt8) (d : Nat) : R → Out → Refs → Prop
  | .ok a i d' t, o, rf => o = .ret (i64 a) ∧ rf = [pr s i d' t 0]
  | .err e, o, rf => ∃ (v : Int) (i : Nat) (t : List Re), o = .ret (i64 v) ∧ rf = [pr s i d t e] ∧ e ≠ 0 ∧ i + d ≤ s.length + 31 ∧ t.length ≤ 2000

def FitR (T : Tb) (f : FuncId) (more : List AV) (s : List UInt8) (i d : Nat) (t : List Re) (r : R) : Prop := CallE T f (.ptr 0 0 :: more) [pr s i d t 0] (PostR s d r)

section
variable {f : FuncId} {more : List AV} {s : List UInt8} {i d : Nat} {t : List Re} {r : R} {X : Refs} {k : Out → Refs → Prop}
theorem fitR (h : FitR T f more s i d t r) (hm : AV.refBs more = 0) (hok : ∀ a i d t, r = .ok a i d t → k (.ret (i64 a)) (pr s i d t 0 :: X)) (herr : ∀ e v i t, r = .err e → e ≠ 0 → i + d ≤ s.length + 31 → t.length ≤ 2000 → k (.ret (i64 v)) (pr s i d t e :: X)) :
    CallE T f (.ptr 0 0 :: more) (pr s i d t 0 :: X) k := by
  obtain ⟨o, rf', he, hp⟩ := h
  cases r with
  | ok a i' d' t' =>
    obtain ⟨rfl, rfl⟩ := hp
    exact ⟨_, _, at0 hm (pr_b _ _ _ _ _) (pr_b _ _ _ _ _) rfl he, hok _ _ _ _ rfl⟩
  | err e =>
    obtain ⟨v, i', t', rfl, rfl, h1, h2, h3⟩ := hp
    exact ⟨_, _, at0 hm (pr_b _ _ _ _ _) (pr_b _ _ _ _ _) rfl he, herr _ _ _ _ rfl h1 h2 h3⟩
end

theorem fitRA {f : FuncId} {more : List AV} {s : List UInt8} {m i d : Nat} {t : List Re} {r : R} {X : Refs} {k : Out → Refs → Prop} (h : FitR T f more s i d t r) (hA : Adv s m i d r) (hm : AV.refBs more = 0)
    (hok : ∀ a i' t', r = .ok a i' d t' → i + m ≤ i' → i' ≤ s.length → t'.length ≤ 2000 → k (.ret (i64 a)) (pr s i' d t' 0 :: X)) (herr : ∀ e v i t, r = .err e → e ≠ 0 → i + d ≤ s.length + 31 → t.length ≤ 2000 → k (.ret (i64 v)) (pr s i d t e :: X)) :
    CallE T f (.ptr 0 0 :: more) (pr s i d t 0 :: X) k :=
  fitR h hm (fun a i' d' t' e => by obtain ⟨h1, h2, rfl, h4⟩ := hA _ _ _ _ e; exact hok a i' t' e h1 h2 h4) herr
theorem hcT {s : List UInt8} {i x : Nat} {c : UInt8} (h : s[i]? = some c) (hh : hit s i x = true) : c.toNat = x := by rw [hit_some h] at hh; exact of_decide_eq_true hh
theorem hcF {s : List UInt8} {i x : Nat} {c : UInt8} (h : s[i]? = some c) (hh : hit s i x = false) : c.toNat ≠ x := by rw [hit_some h] at hh; exact of_decide_eq_false hh

theorem fail0_ev (s : List UInt8) (i d e : Nat) (t : List Re) : Ev T f_ref05_parser_fail [.ptr 0 0, i64 e] [pr s i d t 0] (.ret (.tup [])) [pr s i d t e] := by
  refine ev_fn rfl rfl ?_
  (repeat' (first
    | (intro (u_ : Unit); clear u_)
    | refine condT ?_
    | refine condF ?_
    | refine condp (by assumption) ?_
    | refine condn (by assumption) ?_
    | refine condN ?_
    | refine idxSb (by assumption) ?_
    | (refine condD ?_ ?_ <;> intro hq_ <;> first | (exfalso; omega) | skip)
    | (refine idxS (by omega) ?_; intro b_ hb_; have hl_ := b_.toNat_lt)
    | refine wrA (by omega) ?_
    | refine wrS (by omega) (by omega) ?_
    | refine wrI (by omega) (by omega) ?_
    | refine wrBA (by omega) ?_
    | refine wrB (by omega) (by omega) ?_
    | refine catL (by omega) ?_
    | refine nilB rfl ?_))
  exact ⟨rfl, rfl⟩
theorem fail1_ev (s : List UInt8) (i d e b : Nat) (t : List Re) (hb : b ≠ 0) : Ev T f_ref05_parser_fail [.ptr 0 0, i64 e] [pr s i d t b] (.ret (.tup [])) [pr s i d t b] := by
  refine ev_fn rfl rfl ?_
  (repeat' (first
    | (intro (u_ : Unit); clear u_)
    | refine condT ?_
    | refine condF ?_
    | refine condp (by assumption) ?_
    | refine condn (by assumption) ?_
    | refine condN ?_
    | refine idxSb (by assumption) ?_
    | (refine condD ?_ ?_ <;> intro hq_ <;> first | (exfalso; omega) | skip)
    | (refine idxS (by omega) ?_; intro b_ hb_; have hl_ := b_.toNat_lt)
    | refine wrA (by omega) ?_
    | refine wrS (by omega) (by omega) ?_
    | refine wrI (by omega) (by omega) ?_
    | refine wrBA (by omega) ?_
    | refine wrB (by omega) (by omega) ?_
    | refine catL (by omega) ?_
    | refine nilB rfl ?_))
  exact ⟨rfl, rfl⟩
theorem is0_ev (s : List UInt8) (i d c : Nat) (t : List Re) : Ev T f_ref05_parser_is [.ptr 0 0, u8 c] [pr s i d t 0] (.ret (bl (hit s i c))) [pr s i d t 0] := by
  refine ev_fn rfl rfl ?_
  (repeat' (first
    | (intro (u_ : Unit); clear u_)
    | refine condT ?_
    | refine condF ?_
    | refine condp (by assumption) ?_
    | refine condn (by assumption) ?_
    | refine condN ?_
    | refine idxSb (by assumption) ?_
    | (refine condD ?_ ?_ <;> intro hq_ <;> first | (exfalso; omega) | skip)
    | (refine idxS (by omega) ?_; intro b_ hb_; have hl_ := b_.toNat_lt)
    | refine wrA (by omega) ?_
    | refine wrS (by omega) (by omega) ?_
    | refine wrI (by omega) (by omega) ?_
    | refine wrBA (by omega) ?_
    | refine wrB (by omega) (by omega) ?_
    | refine catL (by omega) ?_
    | refine nilB rfl ?_))
  · rw [hit_some hb_, show decide ((b_.toNat : Int) = (c : Int)) = decide (b_.toNat = c) from by rw [Bool.eq_iff_iff]; simp; omega]; exact ⟨rfl, rfl⟩
  · rw [hitN hq_]; exact ⟨rfl, rfl⟩
theorem is1_ev (s : List UInt8) (i d c b : Nat) (t : List Re) (hb : b ≠ 0) : Ev T f_ref05_parser_is [.ptr 0 0, u8 c] [pr s i d t b] (.ret (bl false)) [pr s i d t b] := by
  refine ev_fn rfl rfl ?_
  (repeat' (first
    | (intro (u_ : Unit); clear u_)
    | refine condT ?_
    | refine condF ?_
    | refine condp (by assumption) ?_
    | refine condn (by assumption) ?_
    | refine condN ?_
    | refine idxSb (by assumption) ?_
    | (refine condD ?_ ?_ <;> intro hq_ <;> first | (exfalso; omega) | skip)
    | (refine idxS (by omega) ?_; intro b_ hb_; have hl_ := b_.toNat_lt)
    | refine wrA (by omega) ?_
    | refine wrS (by omega) (by omega) ?_
    | refine wrI (by omega) (by omega) ?_
    | refine wrBA (by omega) ?_
    | refine wrB (by omega) (by omega) ?_
    | refine catL (by omega) ?_
    | refine nilB rfl ?_))
  exact ⟨rfl, rfl⟩

section
variable {s : List UInt8} {i d c b e : Nat} {t : List Re} {X : Refs} {k : Out → Refs → Prop}
theorem failE0 (h : k (.ret (.tup [])) (pr s i d t e :: X)) : CallE T f_ref05_parser_fail [.ptr 0 0, i64 e] (pr s i d t 0 :: X) k := ⟨_, _, at0 rfl (pr_b _ _ _ _ _) (pr_b _ _ _ _ _) rfl (fail0_ev s i d e t), h⟩
theorem failE1 (hb : b ≠ 0) (h : k (.ret (.tup [])) (pr s i d t b :: X)) : CallE T f_ref05_parser_fail [.ptr 0 0, i64 e] (pr s i d t b :: X) k := ⟨_, _, at0 rfl (pr_b _ _ _ _ _) (pr_b _ _ _ _ _) rfl (fail1_ev s i d e b t hb), h⟩
theorem isE0 (h1 : hit s i c = true → i < s.length → k (.ret (bl true)) (pr s i d t 0 :: X)) (h2 : hit s i c = false → k (.ret (bl false)) (pr s i d t 0 :: X)) : CallE T f_ref05_parser_is [.ptr 0 0, u8 c] (pr s i d t 0 :: X) k := by
  refine ⟨_, _, at0 rfl (pr_b _ _ _ _ _) (pr_b _ _ _ _ _) rfl (is0_ev s i d c t), ?_⟩
  cases h : hit s i c
  · exact h2 h
  · exact h1 h (hit_lt h)
theorem isE1 (hb : b ≠ 0) (h : k (.ret (bl false)) (pr s i d t b :: X)) : CallE T f_ref05_parser_is [.ptr 0 0, u8 c] (pr s i d t b :: X) k := ⟨_, _, at0 rfl (pr_b _ _ _ _ _) (pr_b _ _ _ _ _) rfl (is1_ev s i d c b t hb), h⟩
end

theorem lay0_ev (kd : Int) (n : Nat) (a b : Int) (s : List UInt8) (i d : Nat) (t : List Re) (ht : t.length ≤ 2000) (hi : i ≤ s.length) (hd : d ≤ 30) : FitR T f_ref05_parser_lay [i64 kd, .agg [wdv n 0, wdv n 1, wdv n 2, wdv n 3], i64 a, i64 b] s i d t (putM ⟨kd, n, a, b⟩ i d t) := by
  cases t with
  | nil =>
    refine call_fn rfl rfl ?_
    (repeat' (first
      | (intro (u_ : Unit); clear u_)
      | refine condT ?_
      | refine condF ?_
      | refine condp (by assumption) ?_
      | refine condn (by assumption) ?_
      | refine condN ?_
      | refine idxSb (by assumption) ?_
      | refine failE0 ?_
      | refine appN1 (by simp) rfl ?_
      | refine wrS (b := 1) (by simp) (by simp) ?_
      | (refine condD ?_ ?_ <;> intro hq_ <;> first | (exfalso; omega) | skip)
      | (refine idxS (by omega) ?_; intro b_ hb_; have hl_ := b_.toNat_lt)
      | refine wrA (by omega) ?_
      | refine wrS (by omega) (by omega) ?_
      | refine wrI (by omega) (by omega) ?_
      | refine wrBA (by omega) ?_
      | refine wrB (by omega) (by omega) ?_
      | refine catL (by omega) ?_
      | refine nilB rfl ?_))
    all_goals exact ⟨rfl, rfl⟩
  | cons r0 l =>
    simp only [List.length_cons] at ht
    have hl : (List.map reD (r0 :: l)).length = l.length + 1 := by simp
    refine call_fn rfl rfl ?_
    (repeat' (first
      | (intro (u_ : Unit); clear u_)
      | refine condT ?_
      | refine condF ?_
      | refine condp (by assumption) ?_
      | refine condn (by assumption) ?_
      | refine condN ?_
      | refine idxSb (by assumption) ?_
      | refine failE0 ?_
      | refine appL (by simp; omega) rfl rfl ?_
      | refine wrS (b := 1) (by simp) (by simp; omega) ?_
      | (refine condD ?_ ?_ <;> intro hq_ <;> first | (exfalso; omega) | skip)
      | (refine idxS (by omega) ?_; intro b_ hb_; have hl_ := b_.toNat_lt)
      | refine wrA (by omega) ?_
      | refine wrS (by omega) (by omega) ?_
      | refine wrI (by omega) (by omega) ?_
      | refine wrBA (by omega) ?_
      | refine wrB (by omega) (by omega) ?_
      | refine catL (by omega) ?_
      | refine nilB rfl ?_))
    · rw [hl] at hq_ ⊢
      unfold putM; rw [if_pos (by simp; omega)]
      exact ⟨_, _, _, rfl, rfl, by decide, by omega, by simp; omega⟩
    · rw [hl] at hq_
      unfold putM; rw [if_neg (by simp; omega)]
      refine ⟨by simp, ?_⟩
      show [[_, _, _, _, _]] = [[_, _, _, AV.own _, _]]
      simp [reD, List.map_append]

theorem lay1_ev (kd : Int) (n : Nat) (a b : Int) (s : List UInt8) (i d e : Nat) (t : List Re) (ht : t.length ≤ 2 ^ 40) (he : e ≠ 0) : CallE T f_ref05_parser_lay [.ptr 0 0, i64 kd, .agg [wdv n 0, wdv n 1, wdv n 2, wdv n 3], i64 a, i64 b] [pr s i d t e] (fun o rf => ∃ v : Int, o = .ret (i64 v) ∧ rf = [pr s i d t e]) := by
  cases t with
  | nil =>
    refine call_fn rfl rfl ?_
    (repeat' (first
      | (intro (u_ : Unit); clear u_)
      | refine condT ?_
      | refine condF ?_
      | refine condp (by assumption) ?_
      | refine condn (by assumption) ?_
      | refine condN ?_
      | refine idxSb (by assumption) ?_
      | (refine condD ?_ ?_ <;> intro hq_ <;> first | (exfalso; omega) | skip)
      | (refine idxS (by omega) ?_; intro b_ hb_; have hl_ := b_.toNat_lt)
      | refine wrA (by omega) ?_
      | refine wrS (by omega) (by omega) ?_
      | refine wrI (by omega) (by omega) ?_
      | refine wrBA (by omega) ?_
      | refine wrB (by omega) (by omega) ?_
      | refine catL (by omega) ?_
      | refine nilB rfl ?_))
    all_goals exact ⟨_, rfl, rfl⟩
  | cons r0 l =>
    have hl : (List.map reD (r0 :: l)).length = l.length + 1 := by simp
    simp only [List.length_cons] at ht
    refine call_fn rfl rfl ?_
    (repeat' (first
      | (intro (u_ : Unit); clear u_)
      | refine condT ?_
      | refine condF ?_
      | refine condp (by assumption) ?_
      | refine condn (by assumption) ?_
      | refine condN ?_
      | refine idxSb (by assumption) ?_
      | refine wrS (b := 1) (by simp) (by simp; omega) ?_
      | (refine condD ?_ ?_ <;> intro hq_ <;> first | (exfalso; omega) | skip)
      | (refine idxS (by omega) ?_; intro b_ hb_; have hl_ := b_.toNat_lt)
      | refine wrA (by omega) ?_
      | refine wrS (by omega) (by omega) ?_
      | refine wrI (by omega) (by omega) ?_
      | refine wrBA (by omega) ?_
      | refine wrB (by omega) (by omega) ?_
      | refine catL (by omega) ?_
      | refine nilB rfl ?_))
    all_goals exact ⟨_, rfl, rfl⟩

section
variable {s : List UInt8} {i d : Nat} {t : List Re} {X : Refs} {k : Out → Refs → Prop}
theorem layE0 {kd : Int} {n : Nat} {a b : Int} (ht : t.length ≤ 2000) (hi : i ≤ s.length) (hd : d ≤ 30) (hok : ∀ a1 i' d' t', putM ⟨kd, n, a, b⟩ i d t = .ok a1 i' d' t' → k (.ret (i64 a1)) (pr s i' d' t' 0 :: X)) (herr : ∀ e v i' t', putM ⟨kd, n, a, b⟩ i d t = .err e → e ≠ 0 → i' + d ≤ s.length + 31 → t'.length ≤ 2000 → k (.ret (i64 v)) (pr s i' d t' e :: X)) :
    CallE T f_ref05_parser_lay [.ptr 0 0, i64 kd, .agg [wdv n 0, wdv n 1, wdv n 2, wdv n 3], i64 a, i64 b] (pr s i d t 0 :: X) k :=
  fitR (lay0_ev kd n a b s i d t ht hi hd) rfl hok herr
theorem layE1 {kd : Int} {n e : Nat} {a b : Int} (ht : t.length ≤ 2 ^ 40) (he : e ≠ 0) (h : ∀ v : Int, k (.ret (i64 v)) (pr s i d t e :: X)) :
    CallE T f_ref05_parser_lay [.ptr 0 0, i64 kd, .agg [wdv n 0, wdv n 1, wdv n 2, wdv n 3], i64 a, i64 b] (pr s i d t e :: X) k := by
  obtain ⟨o, rf', h1, v, rfl, rfl⟩ := lay1_ev (T := T) kd n a b s i d e t ht he
  exact ⟨_, _, at0 rfl (pr_b _ _ _ _ _) (pr_b _ _ _ _ _) rfl h1, h v⟩
end

theorem rOne_ev (c : Nat) (hc : c < 256) (rf : Refs) : Ev T f_ref04_One [u8 c] rf (.ret (cls (spanN c 1))) rf := by
  refine Ev.any ?_ rfl rf
  have h := fun rf => with_ev (T := T) 0 c hc rf
  rw [Nat.zero_or, ← spanN_1] at h
  refine ev_fn rfl rfl ?_
  (repeat' (first
    | (intro (u_ : Unit); clear u_)
    | refine condT ?_
    | refine condF ?_
    | refine condp (by assumption) ?_
    | refine condn (by assumption) ?_
    | refine condN ?_
    | refine idxSb (by assumption) ?_
    | refine callE_ev (h _) ?_
    | (refine condD ?_ ?_ <;> intro hq_ <;> first | (exfalso; omega) | skip)
    | (refine idxS (by omega) ?_; intro b_ hb_; have hl_ := b_.toNat_lt)
    | refine wrA (by omega) ?_
    | refine wrS (by omega) (by omega) ?_
    | refine wrI (by omega) (by omega) ?_
    | refine wrBA (by omega) ?_
    | refine wrB (by omega) (by omega) ?_
    | refine catL (by omega) ?_
    | refine nilB rfl ?_))
  exact ⟨rfl, rfl⟩
theorem rDot_ev (rf : Refs) : Ev T f_ref05_Dot [] rf (.ret (cls dotN)) rf := by
  refine Ev.any ?_ rfl rf
  refine ev_fn rfl rfl ?_
  (repeat' (first
    | (intro (u_ : Unit); clear u_)
    | refine condT ?_
    | refine condF ?_
    | refine condp (by assumption) ?_
    | refine condn (by assumption) ?_
    | refine condN ?_
    | refine idxSb (by assumption) ?_
    | refine callE_ev (rOne_ev 10 (by omega) _) ?_
    | refine callE_ev (rNot_ev _ _) ?_
    | (refine condD ?_ ?_ <;> intro hq_ <;> first | (exfalso; omega) | skip)
    | (refine idxS (by omega) ?_; intro b_ hb_; have hl_ := b_.toNat_lt)
    | refine wrA (by omega) ?_
    | refine wrS (by omega) (by omega) ?_
    | refine wrI (by omega) (by omega) ?_
    | refine wrBA (by omega) ?_
    | refine wrB (by omega) (by omega) ?_
    | refine catL (by omega) ?_
    | refine nilB rfl ?_))
  exact ⟨rfl, rfl⟩

theorem postR_ok {s : List UInt8} {r : R} {a i d d' : Nat} {t : List Re} (h : r = .ok a i d' t) : PostR s d r (.ret (i64 a)) [pr s i d' t 0] := by subst h; exact ⟨rfl, rfl⟩
theorem postR_err {s : List UInt8} {r : R} {e i d : Nat} {v : Int} {t : List Re} (h : r = .err e) (he : e ≠ 0) (hi : i + d ≤ s.length + 31) (ht : t.length ≤ 2000) : PostR s d r (.ret (i64 v)) [pr s i d t e] := by subst h; exact ⟨_, _, _, rfl, rfl, he, hi, ht⟩

theorem mem_badP (c : UInt8) : c ∈ badP ↔ (c.toNat = 42 ∨ c.toNat = 43 ∨ c.toNat = 63 ∨ c.toNat = 41 ∨ c.toNat = 124 ∨ c.toNat = 123 ∨ c.toNat = 125 ∨ c.toNat = 47) := by
  simp only [badP, List.mem_cons, List.not_mem_nil, or_false, ← UInt8.toNat_inj]
  rfl

theorem ratom_ev (A : Nat → Nat → List Re → R) (s : List UInt8) (hs : s.length ≤ 2 ^ 30) (i d : Nat) (t : List Re) (hi : i < s.length) (ht : t.length ≤ 2000) (hd : d ≤ 30) (hA : ∀ i d t, i ≤ s.length → t.length ≤ 2000 → Adv s 0 i d (A i d t))
    (hG : d < 30 → FitR T f_ref05_parser_whole [] s (i + 1) (d + 1) t (A (i + 1) (d + 1) t)) : FitR T f_ref05_parser_atom [] s i d t (atomM s (grpM s A) i d t) := by
  obtain ⟨c, hc⟩ := getS hi
  have hcl := c.toNat_lt
  refine call_fn rfl rfl ?_
  (repeat' (first
    | (intro (u_ : Unit); clear u_)
    | refine condT ?_
    | refine condF ?_
    | refine condp (by assumption) ?_
    | refine condn (by assumption) ?_
    | refine condN ?_
    | refine idxSb (by assumption) ?_
    | refine isE0 (fun hh_ hl_ => ?_) (fun hh_ => ?_)
    | refine isE1 (by assumption) ?_
    | refine failE0 ?_
    | refine failE1 (by assumption) ?_
    | refine fitRA (hG (by omega)) (hA _ _ _ (by omega) ht) rfl (fun a_ i_ t_ hr_ h1_ h2_ h3_ => ?_) (fun e_ v_ i_ t_ hr_ he_ hb_ hu_ => ?_)
    | refine layE0 ht (by omega) hd (fun a_ i_ d_ t_ hr2_ => ?_) (fun e_ v_ i_ t_ hr2_ he_ hb_ hu_ => ?_)
    | refine layE0 (n := 0) ht (by omega) hd (fun a_ i_ d_ t_ hr2_ => ?_) (fun e_ v_ i_ t_ hr2_ he_ hb_ hu_ => ?_)
    | refine layE1 (by omega) (by first | assumption | decide) (fun v_ => ?_)
    | refine layE1 (n := 0) (by omega) (by first | assumption | decide) (fun v_ => ?_)
    | refine callE_ev (rDot_ev _) ?_
    | refine callE_ev (rOne_ev _ (by omega) _) ?_
    | refine subLo (by omega) ?_
    | (refine rsignE (fun hs_ => ?_) (fun a_ n_ hs_ ha_ hn1_ hn2_ => ?_) <;> try rw [List.length_drop] at hn2_)
    | (refine rreadE (by rw [List.length_drop]; omega) (fun hs_ => ?_) (fun a_ n_ hs_ hn1_ hn2_ => ?_) <;> try rw [List.length_drop] at hn2_)
    | refine wrS (b := 1) (by omega) (by omega) ?_
    | (refine condD ?_ ?_ <;> intro hq_ <;> first | (exfalso; omega) | skip)
    | (refine idxS (by omega) ?_; intro b_ hb_; have hl_ := b_.toNat_lt)
    | refine wrA (by omega) ?_
    | refine wrS (by omega) (by omega) ?_
    | refine wrI (by omega) (by omega) ?_
    | refine wrBA (by omega) ?_
    | refine wrB (by omega) (by omega) ?_
    | refine catL (by omega) ?_
    | refine nilB rfl ?_))
  all_goals first
    | exact postR_err ((atom_g hc (hcT hc (by assumption))).trans (if_pos (by omega))) (by decide) (by omega) (by assumption)
    | exact postR_ok ((atom_g hc (hcT hc (by assumption))).trans ((if_neg (by omega)).trans ((bind_ok hr_).trans (if_pos hh_))))
    | exact postR_err ((atom_g hc (hcT hc (by assumption))).trans ((if_neg (by omega)).trans ((bind_ok hr_).trans (if_neg (by simp [hh_]))))) (by decide) (by omega) (by assumption)
    | exact postR_err ((atom_g hc (hcT hc (by assumption))).trans ((if_neg (by omega)).trans (bind_err hr_))) he_ (by omega) (by assumption)
    | exact postR_ok ((atom_d hc (hcT hc (by assumption))).trans hr2_)
    | exact postR_err ((atom_d hc (hcT hc (by assumption))).trans hr2_) he_ (by omega) (by assumption)
    | exact postR_ok ((atom_b hc (hcT hc (by assumption))).trans hr2_)
    | exact postR_err ((atom_b hc (hcT hc (by assumption))).trans hr2_) he_ (by omega) (by assumption)
    | exact postR_ok ((atom_e hc (hcT hc (by assumption))).trans hr2_)
    | exact postR_err ((atom_e hc (hcT hc (by assumption))).trans hr2_) he_ (by omega) (by assumption)
    | exact postR_err (atom_k0 hc (hcT hc (by assumption)) hs_) (by decide) (by omega) (by assumption)
    | exact postR_ok ((atom_k hc (hcT hc (by assumption)) hs_).trans hr2_)
    | exact postR_err ((atom_k hc (hcT hc (by assumption)) hs_).trans hr2_) he_ (by omega) (by assumption)
    | (have n1 := hcF hc (x := 40) (by assumption)
       have n2 := hcF hc (x := 46) (by assumption)
       have n3 := hcF hc (x := 94) (by assumption)
       have n4 := hcF hc (x := 36) (by assumption)
       have n5 := hcF hc (x := 91) (by assumption)
       first
       | exact postR_err (atom_bad hc n1 n2 n3 n4 n5 ((mem_badP c).2 (by omega))) (by decide) (by omega) (by assumption)
       | exact postR_err (atom_s0 hc n1 n2 n3 n4 n5 (fun h => by have := (mem_badP c).1 h; omega) hs_) (by decide) (by omega) (by assumption)
       | exact postR_ok ((atom_s hc n1 n2 n3 n4 n5 (fun h => by have := (mem_badP c).1 h; omega) hs_).trans hr2_)
       | exact postR_err ((atom_s hc n1 n2 n3 n4 n5 (fun h => by have := (mem_badP c).1 h; omega) hs_).trans hr2_) he_ (by omega) (by assumption))

theorem hit_two {s : List UInt8} {i x y : Nat} (h : hit s i x = true) (h' : hit s i y = true) : x = y := by
  obtain ⟨c, hc⟩ := getS (hit_lt h)
  rw [← hcT hc h, ← hcT hc h']

inductive PM where
  | go (f a i : Nat) (t : List Re)
  | bad (e : Nat) (a : Int) (i : Nat) (t : List Re)
  | fin (a i : Nat) (t : List Re)
  | bfin (e : Nat) (a : Int) (i : Nat) (t : List Re)
def PM.ch : PM → Slots
  | .go _ a _ _ => [(3, i64 a), (4, bl true)]
  | .bad _ a _ _ => [(3, i64 a), (4, bl true)]
  | .fin a _ _ => [(3, i64 a), (4, bl false)]
  | .bfin _ a _ _ => [(3, i64 a), (4, bl false)]
def PM.hc (s : List UInt8) (d : Nat) : PM → List (Nat × List AV)
  | .go _ _ i t => [(0, pr s i d t 0)]
  | .bad e _ i t => [(0, pr s i d t e)]
  | .fin _ i t => [(0, pr s i d t 0)]
  | .bfin e _ i t => [(0, pr s i d t e)]
def PM.m : PM → Nat
  | .go f _ _ _ => f + 4
  | .bad _ _ _ _ => 3
  | .fin _ _ _ => 1
  | .bfin _ _ _ _ => 1
/-- what is said at a loop's head -/
def PM.P (s : List UInt8) (d : Nat) (L : Nat → Nat → Nat → Nat → List Re → R) (r : R) : PM → Prop
  | .go f a i t => s.length < i + f ∧ i ≤ s.length ∧ t.length ≤ 2000 ∧ r = L f a i d t
  | .bad e _ i t => r = .err e ∧ e ≠ 0 ∧ i + d ≤ s.length + 31 ∧ t.length ≤ 2000
  | .fin a i t => r = .ok a i d t
  | .bfin e _ i t => r = .err e ∧ e ≠ 0 ∧ i + d ≤ s.length + 31 ∧ t.length ≤ 2000

theorem rpiece_ev (G : Nat → Nat → List Re → R) (s : List UInt8) (hs : s.length ≤ 2 ^ 30) (i d : Nat) (t : List Re) (hi : i < s.length) (ht : t.length ≤ 2000) (hd : d ≤ 30) (hA : AdvG s G) (hat : FitR T f_ref05_parser_atom [] s i d t (atomM s G i d t)) : FitR T f_ref05_parser_piece [] s i d t (pieceM s G i d t) := by
  refine call_fn rfl rfl ?_
  (repeat' (first
    | (intro (u_ : Unit); clear u_)
    | refine condT ?_
    | refine condF ?_
    | refine condp (by assumption) ?_
    | refine condn (by assumption) ?_
    | refine condN ?_
    | refine idxSb (by assumption) ?_
    | refine fitRA hat (adv_atom hA hi ht) rfl (fun a_ i_ t_ hr_ h1_ h2_ h3_ => ?_) (fun e_ v_ i_ t_ hr_ he_ hb_ hu_ => ?_)
    | (refine condD ?_ ?_ <;> intro hq_ <;> first | (exfalso; omega) | skip)
    | (refine idxS (by omega) ?_; intro b_ hb_; have hl_ := b_.toNat_lt)
    | refine wrA (by omega) ?_
    | refine wrS (by omega) (by omega) ?_
    | refine wrI (by omega) (by omega) ?_
    | refine wrBA (by omega) ?_
    | refine wrB (by omega) (by omega) ?_
    | refine catL (by omega) ?_
    | refine nilB rfl ?_))
  all_goals
    first
    | refine loopR PM.ch (PM.hc s d) PM.m (PM.P s d (postL s) (pieceM s G i d t)) (.go (s.length + 1) _ _ _) ⟨by omega, h2_, h3_, bind_ok hr_⟩ (by rfl) (by rfl) ?_
    | refine loopR PM.ch (PM.hc s d) PM.m (PM.P s d (postL s) (pieceM s G i d t)) (.bad _ _ _ _) ⟨bind_err hr_, he_, hb_, hu_⟩ (by rfl) (by rfl) ?_
    clear hr_
    rintro (⟨f, a, j, u⟩ | ⟨e, a, j, u⟩ | ⟨a, j, u⟩ | ⟨e, a, j, u⟩) hP
    · obtain ⟨hf, hj, hu, hP⟩ := hP
      obtain ⟨f, rfl⟩ : ∃ g, f = g + 1 := ⟨f - 1, by omega⟩
      (repeat' (first
        | (intro (u_ : Unit); clear u_)
        | refine condT ?_
        | refine condF ?_
        | refine condp (by assumption) ?_
        | refine condn (by assumption) ?_
        | refine condN ?_
        | refine idxSb (by assumption) ?_
        | refine isE0 (fun hh_ hl_ => ?_) (fun hh_ => ?_)
        | refine layE0 (n := 0) hu (by omega) hd (fun a_ i_ d_ t_ hr2_ => ?_) (fun e_ v_ i_ t_ hr2_ he_ hb_ hu_ => ?_)
        | (refine condD ?_ ?_ <;> intro hq_ <;> first | (exfalso; omega) | skip)
        | (refine idxS (by omega) ?_; intro b_ hb_; have hl_ := b_.toNat_lt)
        | refine wrA (by omega) ?_
        | refine wrS (by omega) (by omega) ?_
        | refine wrI (by omega) (by omega) ?_
        | refine wrBA (by omega) ?_
        | refine wrB (by omega) (by omega) ?_
        | refine catL (by omega) ?_
        | refine nilB rfl ?_))
      all_goals first
        | exact absurd (hit_two (x := 42) (y := 43) (by assumption) (by assumption)) (by decide)
        | exact absurd (hit_two (x := 42) (y := 63) (by assumption) (by assumption)) (by decide)
        | exact absurd (hit_two (x := 43) (y := 63) (by assumption) (by assumption)) (by decide)
        | exact ⟨.fin a j u, hP.trans (post_no (by assumption) (by assumption) (by assumption)), (by show 1 < f + 1 + 4; omega), rfl, rfl, rfl, rfl⟩
        | (have hq := hP.trans (post_42 (by assumption))
           first
           | exact ⟨.bad e_ v_ i_ t_, ⟨hq.trans (bind_err hr2_), he_, hb_, hu_⟩, (by show 3 < f + 1 + 4; omega), rfl, rfl, rfl, rfl⟩
           | (obtain ⟨rfl, rfl, rfl, rfl, hl2⟩ := putM_ok hr2_
              exact ⟨.go f _ _ _, ⟨by omega, by omega, by simp; omega, hq.trans (bind_ok hr2_)⟩, (by show f + 4 < f + 1 + 4; omega), rfl, rfl, rfl, rfl⟩))
        | (have hq := hP.trans (post_43 (by assumption) (by assumption))
           first
           | exact ⟨.bad e_ v_ i_ t_, ⟨hq.trans (bind_err hr2_), he_, hb_, hu_⟩, (by show 3 < f + 1 + 4; omega), rfl, rfl, rfl, rfl⟩
           | (obtain ⟨rfl, rfl, rfl, rfl, hl2⟩ := putM_ok hr2_
              exact ⟨.go f _ _ _, ⟨by omega, by omega, by simp; omega, hq.trans (bind_ok hr2_)⟩, (by show f + 4 < f + 1 + 4; omega), rfl, rfl, rfl, rfl⟩))
        | (have hq := hP.trans (post_63 (by assumption) (by assumption) (by assumption))
           first
           | exact ⟨.bad e_ v_ i_ t_, ⟨hq.trans (bind_err hr2_), he_, hb_, hu_⟩, (by show 3 < f + 1 + 4; omega), rfl, rfl, rfl, rfl⟩
           | (obtain ⟨rfl, rfl, rfl, rfl, hl2⟩ := putM_ok hr2_
              exact ⟨.go f _ _ _, ⟨by omega, by omega, by simp; omega, hq.trans (bind_ok hr2_)⟩, (by show f + 4 < f + 1 + 4; omega), rfl, rfl, rfl, rfl⟩))
    · obtain ⟨hP, he, hb, hu⟩ := hP
      (repeat' (first
        | (intro (u_ : Unit); clear u_)
        | refine condT ?_
        | refine condF ?_
        | refine condp (by assumption) ?_
        | refine condn (by assumption) ?_
        | refine condN ?_
        | refine idxSb (by assumption) ?_
        | refine isE1 he ?_
        | (refine condD ?_ ?_ <;> intro hq_ <;> first | (exfalso; omega) | skip)
        | (refine idxS (by omega) ?_; intro b_ hb_; have hl_ := b_.toNat_lt)
        | refine wrA (by omega) ?_
        | refine wrS (by omega) (by omega) ?_
        | refine wrI (by omega) (by omega) ?_
        | refine wrBA (by omega) ?_
        | refine wrB (by omega) (by omega) ?_
        | refine catL (by omega) ?_
        | refine nilB rfl ?_))
      exact ⟨.bfin e a j u, ⟨hP, he, hb, hu⟩, (by show 1 < 3; decide), rfl, rfl, rfl, rfl⟩
    · (repeat' (first
        | (intro (u_ : Unit); clear u_)
        | refine condT ?_
        | refine condF ?_
        | refine condp (by assumption) ?_
        | refine condn (by assumption) ?_
        | refine condN ?_
        | refine idxSb (by assumption) ?_
        | (refine condD ?_ ?_ <;> intro hq_ <;> first | (exfalso; omega) | skip)
        | (refine idxS (by omega) ?_; intro b_ hb_; have hl_ := b_.toNat_lt)
        | refine wrA (by omega) ?_
        | refine wrS (by omega) (by omega) ?_
        | refine wrI (by omega) (by omega) ?_
        | refine wrBA (by omega) ?_
        | refine wrB (by omega) (by omega) ?_
        | refine catL (by omega) ?_
        | refine nilB rfl ?_))
      exact postR_ok hP
    · obtain ⟨hP, he, hb, hu⟩ := hP
      (repeat' (first
        | (intro (u_ : Unit); clear u_)
        | refine condT ?_
        | refine condF ?_
        | refine condp (by assumption) ?_
        | refine condn (by assumption) ?_
        | refine condN ?_
        | refine idxSb (by assumption) ?_
        | (refine condD ?_ ?_ <;> intro hq_ <;> first | (exfalso; omega) | skip)
        | (refine idxS (by omega) ?_; intro b_ hb_; have hl_ := b_.toNat_lt)
        | refine wrA (by omega) ?_
        | refine wrS (by omega) (by omega) ?_
        | refine wrI (by omega) (by omega) ?_
        | refine wrBA (by omega) ?_
        | refine wrB (by omega) (by omega) ?_
        | refine catL (by omega) ?_
        | refine nilB rfl ?_))
      exact postR_err hP he hb hu
end Go.Ab.R05

namespace Go.Ab.R05
set_option maxRecDepth 100000
set_option linter.all false
set_option maxHeartbeats 4000000
variable {T : Tb} [hT : Base T]

inductive QM where
  | go (f a i : Nat) (t : List Re)
  | bad (e : Nat) (a : Int) (i : Nat) (t : List Re)
def QM.ch : QM → Slots
  | .go _ a _ _ => [(3, i64 a)]
  | .bad _ a _ _ => [(3, i64 a)]
def QM.hc (s : List UInt8) (d : Nat) : QM → List (Nat × List AV)
  | .go _ _ i t => [(0, pr s i d t 0)]
  | .bad e _ i t => [(0, pr s i d t e)]
def QM.m : QM → Nat
  | .go f _ _ _ => f + 1
  | .bad _ _ _ _ => 0
def QM.P (s : List UInt8) (d : Nat) (L : Nat → Nat → Nat → Nat → List Re → R) (r : R) : QM → Prop
  | .go f a i t => s.length < i + f ∧ i ≤ s.length ∧ t.length ≤ 2000 ∧ r = L f a i d t
  | .bad e _ i t => r = .err e ∧ e ≠ 0 ∧ i + d ≤ s.length + 31 ∧ t.length ≤ 2000

theorem rrow_ev (G : Nat → Nat → List Re → R) (s : List UInt8) (hs : s.length ≤ 2 ^ 30) (i d : Nat) (t : List Re) (hi : i ≤ s.length) (ht : t.length ≤ 2000) (hd : d ≤ 30) (hA : AdvG s G) (hat : ∀ i t, i < s.length → t.length ≤ 2000 → FitR T f_ref05_parser_atom [] s i d t (atomM s G i d t)) : FitR T f_ref05_parser_row [] s i d t (catM s G i d t) := by
  refine call_fn rfl rfl ?_
  (repeat' (first
    | (intro (u_ : Unit); clear u_)
    | refine condT ?_
    | refine condF ?_
    | refine condp (by assumption) ?_
    | refine condn (by assumption) ?_
    | refine condN ?_
    | refine idxSb (by assumption) ?_
    | refine isE0 (fun hh_ hl_ => ?_) (fun hh_ => ?_)
    | refine layE0 (n := 0) ht hi hd (fun a_ i_ d_ t_ hr2_ => ?_) (fun e_ v_ i_ t_ hr2_ he_ hb_ hu_ => ?_)
    | refine fitRA (rpiece_ev G s hs _ _ _ (by omega) ht hd hA (hat _ _ (by omega) ht)) (adv_piece hA (by omega) ht) rfl (fun a_ i_ t_ hr_ h1_ h2_ h3_ => ?_) (fun e_ v_ i_ t_ hr_ he_ hb_ hu_ => ?_)
    | (refine condD ?_ ?_ <;> intro hq_ <;> first | (exfalso; omega) | skip)
    | (refine idxS (by omega) ?_; intro b_ hb_; have hl_ := b_.toNat_lt)
    | refine wrA (by omega) ?_
    | refine wrS (by omega) (by omega) ?_
    | refine wrI (by omega) (by omega) ?_
    | refine wrBA (by omega) ?_
    | refine wrB (by omega) (by omega) ?_
    | refine catL (by omega) ?_
    | refine nilB rfl ?_))
  all_goals first
    | exact postR_ok ((catM_stop (stopT (by first | exact .inl (by assumption) | exact .inr (.inl (by assumption)) | exact .inr (.inr (by omega))))).trans hr2_)
    | exact postR_err ((catM_stop (stopT (by first | exact .inl (by assumption) | exact .inr (.inl (by assumption)) | exact .inr (.inr (by omega))))).trans hr2_) he_ hb_ hu_
    | skip
  all_goals
    have hgo := catM_go (G := G) (d := d) (t := t) (stopF (show i < s.length by omega) (by assumption) (by assumption))
    first
    | refine loopR QM.ch (QM.hc s d) QM.m (QM.P s d (catL s G) (catM s G i d t)) (.go (s.length + 1) _ _ _) ⟨by omega, h2_, h3_, hgo.trans (bind_ok hr_)⟩ (by rfl) (by rfl) ?_
    | refine loopR QM.ch (QM.hc s d) QM.m (QM.P s d (catL s G) (catM s G i d t)) (.bad _ _ _ _) ⟨hgo.trans (bind_err hr_), he_, hb_, hu_⟩ (by rfl) (by rfl) ?_
    clear hr_ hgo
    rintro (⟨f, a, j, u⟩ | ⟨e, a, j, u⟩) hP
    · obtain ⟨hf, hj, hu, hP⟩ := hP
      obtain ⟨f, rfl⟩ : ∃ g, f = g + 1 := ⟨f - 1, by omega⟩
      (repeat' (first
        | (intro (u_ : Unit); clear u_)
        | refine condT ?_
        | refine condF ?_
        | refine condp (by assumption) ?_
        | refine condn (by assumption) ?_
        | refine condN ?_
        | refine idxSb (by assumption) ?_
        | refine fitRA (rpiece_ev G s hs _ _ _ (by omega) hu hd hA (hat _ _ (by omega) hu)) (adv_piece hA (by omega) hu) rfl (fun a_ i_ t_ hr_ h1_ h2_ h3_ => ?_) (fun e_ v_ i_ t_ hr_ he_ hb_ hu_ => ?_)
        | refine layE0 (n := 0) h3_ h2_ hd (fun a_ i_ d_ t_ hr2_ => ?_) (fun e_ v_ i_ t_ hr2_ he_ hb_ hu_ => ?_)
        | refine layE1 (n := 0) (by omega) he_ (fun v_ => ?_)
        | (refine condD ?_ ?_ <;> intro hq_ <;> first | (exfalso; omega) | skip)
        | (refine idxS (by omega) ?_; intro b_ hb_; have hl_ := b_.toNat_lt)
        | refine wrA (by omega) ?_
        | refine wrS (by omega) (by omega) ?_
        | refine wrI (by omega) (by omega) ?_
        | refine wrBA (by omega) ?_
        | refine wrB (by omega) (by omega) ?_
        | refine catL (by omega) ?_
        | refine nilB rfl ?_))
      all_goals first
        | exact postR_ok (hP.trans (catL_stop (stopT (by first | exact .inr (.inr (by omega)) | exact .inl (hitT (by assumption) (by omega)) | exact .inr (.inl (hitT (by assumption) (by omega)))))))
        | (have hq := hP.trans (catL_go (stopF (show j < s.length by omega) (hitF (by assumption) (by omega)) (hitF (by assumption) (by omega))))
           first
           | exact ⟨.bad e_ _ i_ t_, ⟨hq.trans (bind_err hr_), he_, hb_, hu_⟩, (by show 0 < f + 1 + 1; omega), rfl, rfl, rfl, rfl⟩
           | exact ⟨.bad e_ _ i_ t_, ⟨hq.trans ((bind_ok hr_).trans (bind_err hr2_)), he_, hb_, hu_⟩, (by show 0 < f + 1 + 1; omega), rfl, rfl, rfl, rfl⟩
           | (obtain ⟨rfl, rfl, rfl, rfl, hl2⟩ := putM_ok hr2_
              exact ⟨.go f _ _ _, ⟨by omega, h2_, by simp; omega, hq.trans ((bind_ok hr_).trans (bind_ok hr2_))⟩, (by show f + 1 < f + 1 + 1; omega), rfl, rfl, rfl, rfl⟩))
    · obtain ⟨hP, he, hb, hu⟩ := hP
      (repeat' (first
        | (intro (u_ : Unit); clear u_)
        | refine condT ?_
        | refine condF ?_
        | refine condp (by assumption) ?_
        | refine condn (by assumption) ?_
        | refine condN ?_
        | refine idxSb (by assumption) ?_
        | (refine condD ?_ ?_ <;> intro hq_ <;> first | (exfalso; omega) | skip)
        | (refine idxS (by omega) ?_; intro b_ hb_; have hl_ := b_.toNat_lt)
        | refine wrA (by omega) ?_
        | refine wrS (by omega) (by omega) ?_
        | refine wrI (by omega) (by omega) ?_
        | refine wrBA (by omega) ?_
        | refine wrB (by omega) (by omega) ?_
        | refine catL (by omega) ?_
        | refine nilB rfl ?_))
      exact postR_err hP he hb hu

theorem rwhole_ev (G : Nat → Nat → List Re → R) (s : List UInt8) (hs : s.length ≤ 2 ^ 30) (i d : Nat) (t : List Re) (hi : i ≤ s.length) (ht : t.length ≤ 2000) (hd : d ≤ 30) (hA : AdvG s G) (hat : ∀ i t, i < s.length → t.length ≤ 2000 → FitR T f_ref05_parser_atom [] s i d t (atomM s G i d t)) : FitR T f_ref05_parser_whole [] s i d t (allB s G i d t) := by
  refine call_fn rfl rfl ?_
  (repeat' (first
    | (intro (u_ : Unit); clear u_)
    | refine condT ?_
    | refine condF ?_
    | refine condp (by assumption) ?_
    | refine condn (by assumption) ?_
    | refine condN ?_
    | refine idxSb (by assumption) ?_
    | refine fitRA (rrow_ev G s hs _ _ _ hi ht hd hA hat) (adv_catM hA hi ht) rfl (fun a_ i_ t_ hr_ h1_ h2_ h3_ => ?_) (fun e_ v_ i_ t_ hr_ he_ hb_ hu_ => ?_)
    | (refine condD ?_ ?_ <;> intro hq_ <;> first | (exfalso; omega) | skip)
    | (refine idxS (by omega) ?_; intro b_ hb_; have hl_ := b_.toNat_lt)
    | refine wrA (by omega) ?_
    | refine wrS (by omega) (by omega) ?_
    | refine wrI (by omega) (by omega) ?_
    | refine wrBA (by omega) ?_
    | refine wrB (by omega) (by omega) ?_
    | refine catL (by omega) ?_
    | refine nilB rfl ?_))
  all_goals
    first
    | refine loopR QM.ch (QM.hc s d) QM.m (QM.P s d (altL s G) (allB s G i d t)) (.go (s.length + 1) _ _ _) ⟨by omega, h2_, h3_, bind_ok hr_⟩ (by rfl) (by rfl) ?_
    | refine loopR QM.ch (QM.hc s d) QM.m (QM.P s d (altL s G) (allB s G i d t)) (.bad _ _ _ _) ⟨bind_err hr_, he_, hb_, hu_⟩ (by rfl) (by rfl) ?_
    clear hr_
    rintro (⟨f, a, j, u⟩ | ⟨e, a, j, u⟩) hP
    · obtain ⟨hf, hj, hu, hP⟩ := hP
      obtain ⟨f, rfl⟩ : ∃ g, f = g + 1 := ⟨f - 1, by omega⟩
      (repeat' (first
        | (intro (u_ : Unit); clear u_)
        | refine condT ?_
        | refine condF ?_
        | refine condp (by assumption) ?_
        | refine condn (by assumption) ?_
        | refine condN ?_
        | refine idxSb (by assumption) ?_
        | refine isE0 (fun hh_ hl_ => ?_) (fun hh_ => ?_)
        | refine fitRA (rrow_ev G s hs _ _ _ (by omega) hu hd hA hat) (adv_catM hA (by omega) hu) rfl (fun a_ i_ t_ hr_ h1_ h2_ h3_ => ?_) (fun e_ v_ i_ t_ hr_ he_ hb_ hu_ => ?_)
        | refine layE0 (n := 0) h3_ h2_ hd (fun a_ i_ d_ t_ hr2_ => ?_) (fun e_ v_ i_ t_ hr2_ he_ hb_ hu_ => ?_)
        | refine layE1 (n := 0) (by omega) he_ (fun v_ => ?_)
        | (refine condD ?_ ?_ <;> intro hq_ <;> first | (exfalso; omega) | skip)
        | (refine idxS (by omega) ?_; intro b_ hb_; have hl_ := b_.toNat_lt)
        | refine wrA (by omega) ?_
        | refine wrS (by omega) (by omega) ?_
        | refine wrI (by omega) (by omega) ?_
        | refine wrBA (by omega) ?_
        | refine wrB (by omega) (by omega) ?_
        | refine catL (by omega) ?_
        | refine nilB rfl ?_))
      all_goals first
        | exact postR_ok (hP.trans (altL_stop (by assumption)))
        | (have hq := hP.trans (altL_go (by assumption))
           first
           | exact ⟨.bad e_ _ i_ t_, ⟨hq.trans (bind_err hr_), he_, hb_, hu_⟩, (by show 0 < f + 1 + 1; omega), rfl, rfl, rfl, rfl⟩
           | exact ⟨.bad e_ _ i_ t_, ⟨hq.trans ((bind_ok hr_).trans (bind_err hr2_)), he_, hb_, hu_⟩, (by show 0 < f + 1 + 1; omega), rfl, rfl, rfl, rfl⟩
           | (obtain ⟨rfl, rfl, rfl, rfl, hl2⟩ := putM_ok hr2_
              exact ⟨.go f _ _ _, ⟨by omega, h2_, by simp; omega, hq.trans ((bind_ok hr_).trans (bind_ok hr2_))⟩, (by show f + 1 < f + 1 + 1; omega), rfl, rfl, rfl, rfl⟩))
    · obtain ⟨hP, he, hb, hu⟩ := hP
      (repeat' (first
        | (intro (u_ : Unit); clear u_)
        | refine condT ?_
        | refine condF ?_
        | refine condp (by assumption) ?_
        | refine condn (by assumption) ?_
        | refine condN ?_
        | refine idxSb (by assumption) ?_
        | refine isE1 he ?_
        | (refine condD ?_ ?_ <;> intro hq_ <;> first | (exfalso; omega) | skip)
        | (refine idxS (by omega) ?_; intro b_ hb_; have hl_ := b_.toNat_lt)
        | refine wrA (by omega) ?_
        | refine wrS (by omega) (by omega) ?_
        | refine wrI (by omega) (by omega) ?_
        | refine wrBA (by omega) ?_
        | refine wrB (by omega) (by omega) ?_
        | refine catL (by omega) ?_
        | refine nilB rfl ?_))
      exact postR_err hP he hb hu

theorem rallM_ev (s : List UInt8) (hs : s.length ≤ 2 ^ 30) : ∀ (n i d : Nat) (t : List Re), d + n = 30 → i ≤ s.length → t.length ≤ 2000 → FitR T f_ref05_parser_whole [] s i d t (allM s (n + 1) i d t)
  | 0, i, d, t, hd, hi, ht => rwhole_ev _ s hs i d t hi ht (by omega) (adv_grp fun i d t hi ht => adv_allM 0 hi ht) fun i t hi ht => ratom_ev _ s hs i d t hi ht (by omega) (fun i d t hi ht => adv_allM 0 hi ht) (fun h => by omega)
  | n + 1, i, d, t, hd, hi, ht => rwhole_ev _ s hs i d t hi ht (by omega) (adv_grp fun i d t hi ht => adv_allM (n + 1) hi ht) fun i t hi ht => ratom_ev _ s hs i d t hi ht (by omega) (fun i d t hi ht => adv_allM (n + 1) hi ht) (fun h => rallM_ev s hs n (i + 1) (d + 1) t (by omega) (by omega) ht)

theorem pRd_ev (s : List UInt8) (hs : s.length ≤ 2 ^ 30) (rf : Refs) : Ev T f_ref05_Read [str s] rf (.ret (resT (parse s))) rf := by
  have hall := rallM_ev (T := T) s hs 30 0 0 [] rfl (Nat.zero_le _) (by simp)
  refine Ev.any ?_ rfl rf
  cases hr : allM s 31 0 0 [] with
  | err e =>
    rw [parse_err hr]
    refine ev_fn rfl rfl ?_
    (repeat' (first
      | (intro (u_ : Unit); clear u_)
      | refine condT ?_
      | refine condF ?_
      | refine condp (by assumption) ?_
      | refine condn (by assumption) ?_
      | refine condN ?_
      | refine idxSb (by assumption) ?_
      | refine fitR hall rfl (fun a_ i_ d_ t_ hr_ => absurd (hr.symm.trans hr_) (fun h => by cases h)) (fun e_ v_ i_ t_ hr_ he_ hb_ hu_ => ?_)
      | (refine condD ?_ ?_ <;> intro hq_ <;> first | (exfalso; omega) | skip)
      | (refine idxS (by omega) ?_; intro b_ hb_; have hl_ := b_.toNat_lt)
      | refine wrA (by omega) ?_
      | refine wrS (by omega) (by omega) ?_
      | refine wrI (by omega) (by omega) ?_
      | refine wrBA (by omega) ?_
      | refine wrB (by omega) (by omega) ?_
      | refine catL (by omega) ?_
      | refine nilB rfl ?_))
    cases hr.symm.trans hr_
    exact ⟨rfl, rfl⟩
  | ok a i d t =>
    by_cases hi : i < s.length
    · rw [parse_9 hr hi]
      refine ev_fn rfl rfl ?_
      (repeat' (first
        | (intro (u_ : Unit); clear u_)
        | refine condT ?_
        | refine condF ?_
        | refine condp (by assumption) ?_
        | refine condn (by assumption) ?_
        | refine condN ?_
        | refine idxSb (by assumption) ?_
        | refine fitR hall rfl (fun a_ i_ d_ t_ hr_ => ?_) (fun e_ v_ i_ t_ hr_ he_ hb_ hu_ => absurd (hr.symm.trans hr_) (fun h => by cases h))
        | (have he_ := hr.symm.trans hr_; clear hr_; cases he_)
        | refine failE0 ?_
        | (refine condD ?_ ?_ <;> intro hq_ <;> first | (exfalso; omega) | skip)
        | (refine idxS (by omega) ?_; intro b_ hb_; have hl_ := b_.toNat_lt)
        | refine wrA (by omega) ?_
        | refine wrS (by omega) (by omega) ?_
        | refine wrI (by omega) (by omega) ?_
        | refine wrBA (by omega) ?_
        | refine wrB (by omega) (by omega) ?_
        | refine catL (by omega) ?_
        | refine nilB rfl ?_))
      exact ⟨rfl, rfl⟩
    · rw [parse_ok hr hi]
      cases t <;>
      (refine ev_fn rfl rfl ?_
       (repeat' (first
         | (intro (u_ : Unit); clear u_)
         | refine condT ?_
         | refine condF ?_
         | refine condp (by assumption) ?_
         | refine condn (by assumption) ?_
         | refine condN ?_
         | refine idxSb (by assumption) ?_
         | refine fitR hall rfl (fun a_ i_ d_ t_ hr_ => ?_) (fun e_ v_ i_ t_ hr_ he_ hb_ hu_ => absurd (hr.symm.trans hr_) (fun h => by cases h))
         | (have he_ := hr.symm.trans hr_; clear hr_; cases he_)
         | (refine condD ?_ ?_ <;> intro hq_ <;> first | (exfalso; omega) | skip)
         | (refine idxS (by omega) ?_; intro b_ hb_; have hl_ := b_.toNat_lt)
         | refine wrA (by omega) ?_
         | refine wrS (by omega) (by omega) ?_
         | refine wrI (by omega) (by omega) ?_
         | refine wrBA (by omega) ?_
         | refine wrB (by omega) (by omega) ?_
         | refine catL (by omega) ?_
         | refine nilB rfl ?_))
       exact ⟨rfl, rfl⟩)
end Go.Ab.R05

namespace Go.Ab.R05
set_option maxRecDepth 100000
set_option linter.all false
set_option maxHeartbeats 4000000
variable {T : Tb} [hT : Base T]

def pieceS (p : UInt8 × UInt8) : List UInt8 :=
  plainS p.1.toNat ++ (if p.2.toNat > p.1.toNat + 1 then 45 :: plainS p.2.toNat else if p.2.toNat > p.1.toNat then plainS p.2.toNat else [])

theorem plainS_length (c : Nat) : (plainS c).length ≤ 4 := by unfold plainS; split <;> simp

theorem textBody_wp (a b : UInt8) (s : List UInt8) (hs : s.length ≤ 2 ^ 30) : WP T r_class_Text_0 ⟨[(3, .ptr 0 0), (4, u8 a.toNat), (5, u8 b.toNat)], [[str s]], [], none, 1⟩
    (fun st => ∃ sl, st = ⟨sl, [[str (s ++ pieceS (a, b))]], [], none, 1⟩) (fun _ _ => False) := by
  have ha := a.toNat_lt
  have hb := b.toNat_lt
  have hpa := plainS_length a.toNat
  have hpb := plainS_length b.toNat
  refine (vc_wp (nb := 1) (N := fun _ rf df pn => rf = [[str (s ++ pieceS (a, b))]] ∧ df = [] ∧ pn = none) (X := fun _ _ _ _ _ => False) _ ?_).mono ?_ ?_
  · (repeat' (first
      | (intro (u_ : Unit); clear u_)
      | refine condT ?_
      | refine condF ?_
      | refine condp (by assumption) ?_
      | refine condn (by assumption) ?_
      | refine condN ?_
      | refine idxSb (by assumption) ?_
      | refine callE_ev (Plain_ev _ (by omega) _) ?_
      | refine catL (by simp; omega) ?_
      | (refine condD ?_ ?_ <;> intro hq_ <;> first | (exfalso; omega) | skip)
      | (refine idxS (by omega) ?_; intro b_ hb_; have hl_ := b_.toNat_lt)
      | refine wrA (by omega) ?_
      | refine wrS (by omega) (by omega) ?_
      | refine wrI (by omega) (by omega) ?_
      | refine wrBA (by omega) ?_
      | refine wrB (by omega) (by omega) ?_
      | refine catL (by omega) ?_
      | refine nilB rfl ?_))
    all_goals
      refine ⟨?_, rfl, rfl⟩
      simp only [pieceS, gt_iff_lt]
      first | rw [if_pos (by omega)] | rw [if_neg (by omega), if_pos (by omega)] | rw [if_neg (by omega), if_neg (by omega)]
      simp only [List.append_assoc, List.append_nil, List.cons_append, List.nil_append]
  · rintro ⟨sl, rf, df, pn, nb⟩ ⟨h1, h2, h3, h4⟩
    simp only at h1 h2 h3 h4
    subst h1 h2 h3 h4
    exact ⟨sl, rfl⟩
  · rintro e s ⟨_, h⟩
    exact h

end Go.Ab.R05

namespace Go.Ab.R05
open Go.RowKit Go.Shelf Go.Proofs
attribute [local go_sem] Oper.semAt_some

def Tx.encs (p : UInt8 × UInt8) : Array Value := #[.int .u8 p.1.toNat, .int .u8 p.2.toNat]
def Tx.endOf (n : Nat) : Nat → Nat → Nat
  | 0, c => c
  | k + 1, c => if c < 256 ∧ n.testBit c = true then Tx.endOf n k (c + 1) else c
def Tx.runs (n : Nat) : Nat → Nat → List (UInt8 × UInt8)
  | 0, _ => []
  | k + 1, c => if c < 256 then (let e := Tx.endOf n 256 c; if c < e then (UInt8.ofNat c, UInt8.ofNat (e - 1)) :: Tx.runs n k (e + 1) else Tx.runs n k (e + 1)) else []

theorem Tx.u8 {c : Nat} (hc : c < 256) : (UInt8.ofNat c).toNat = c := by rw [UInt8.toNat_ofNat']; omega

theorem Tx.runs_length (n : Nat) : ∀ k c, (Tx.runs n k c).length ≤ k
  | 0, c => by simp [Tx.runs]
  | k + 1, c => by
    simp only [Tx.runs]
    split
    · split
      · have := Tx.runs_length n k (Tx.endOf n 256 c + 1); simp; omega
      · have := Tx.runs_length n k (Tx.endOf n 256 c + 1); omega
    · simp

theorem Tx.grown_of_below {w w' : World} (h : Below w.heap.size w w') : w.grownBy w' none := ⟨h.os, h.tape, h.output, h.size, fun i hi _ => h.block i hi⟩

theorem Tx.endOf_stop {n k c : Nat} (h : ¬ (c < 256 ∧ n.testBit c = true)) : Tx.endOf n k c = c := by
  cases k with
  | zero => rfl
  | succ k => simp only [Tx.endOf]; rw [if_neg h]

def Tx.Box (b : Nat) (k0 k1 k2 k3 : Value) (W : World) : Prop := W.cell? ⟨b, 0, none⟩ = some k0 ∧ W.cell? ⟨b, 1, none⟩ = some k1 ∧ W.cell? ⟨b, 2, none⟩ = some k2 ∧ W.cell? ⟨b, 3, none⟩ = some k3

theorem Tx.Box.below {b B : Nat} {k0 k1 k2 k3 : Value} {W W' : World} (h : Tx.Box b k0 k1 k2 k3 W) (hb : Below B W W') (hlt : b < B) : Tx.Box b k0 k1 k2 k3 W' :=
  ⟨(hb.cell (p := ⟨b, 0, none⟩) hlt).trans h.1, (hb.cell (p := ⟨b, 1, none⟩) hlt).trans h.2.1, (hb.cell (p := ⟨b, 2, none⟩) hlt).trans h.2.2.1, (hb.cell (p := ⟨b, 3, none⟩) hlt).trans h.2.2.2⟩

theorem Tx.Box.lt {b : Nat} {k0 k1 k2 k3 : Value} {W : World} (h : Tx.Box b k0 k1 k2 k3 W) : b < W.heap.size := cell_lt h.1

set_option maxHeartbeats 4000000 in
set_option maxRecDepth 100000 in
theorem Tx.runs1_in (F : Fence) (m : Nat) (h34 : F.fn 66) (h15 : F.fn 67) (hro : F.round = none) (hm : 1 ≤ m) (k0 k1 k2 k3 : Value) (n : Nat)
    (hHas : ∀ (c : Nat) (W : World), c < 256 → CallsIn F (m - 1) Try.prog 67 #[.agg #[k0, k1, k2, k3], .int .u8 c] W fun e W' => e = .returned (.bool (n.testBit c)) ∧ Below W.heap.size W W')
    (l Bn B : Nat) (J Jx : List (UInt8 × UInt8) → World → Prop)
    (hY : ∀ pre x W, J pre W → pre.length < 300 → YieldAt F (m - 1) Try.prog l (Tx.encs x) W fun e W' =>
      (e = .returned (.bool true) ∧ J (pre ++ [x]) W' ∧ (Tx.Box Bn k0 k1 k2 k3 W → Tx.Box Bn k0 k1 k2 k3 W')) ∨ (e = .returned (.bool false) ∧ Jx (pre ++ [x]) W'))
    (hJ : AbidesFrom B J) (W : World) (hBx : Tx.Box Bn k0 k1 k2 k3 W) (h0 : J [] W) :
    CallsIn F m Try.prog 66 #[.func (.yield l) #[] #[], .pointer (some ⟨Bn, 0, none⟩)] W fun e W' => (∃ v, e = .returned v) ∧
      ((∃ ys, ys = Tx.runs n 257 0 ∧ J ys W') ∨ (∃ pre, pre <+: Tx.runs n 257 0 ∧ Jx pre W')) := by
  refine callsIn_of_wp Try.func66 rfl h34 ?_ hro
  simp only [Try.ntmps66, List.size_toArray, List.length_cons, List.length_nil, Nat.reduceAdd, Nat.reduceSub, Array.replicate_succ, Array.replicate_zero, List.push_toArray, List.append_toArray, List.nil_append, List.cons_append]
  have hJb : ∀ pre W W', J pre W → Below W.heap.size W W' → J pre W' := fun pre W W' h hb => hJ pre W W' none h (Tx.grown_of_below hb) (fun r e => by cases e)
  gi_wp2
  gi_loopw [3] (fun p wr => ∃ (pre rest : List (UInt8 × UInt8)) (c k : Nat), p = .int .i64 c ∧ Tx.runs n 257 0 = pre ++ rest ∧ rest = Tx.runs n k c ∧ 257 ≤ k + c ∧ c ≤ 257 ∧ J pre wr ∧ Tx.Box Bn k0 k1 k2 k3 wr)
    (fun p wr => 300 - (intOf p).toNat)
  case atStart =>
    exact ⟨[], _, 0, 257, rfl, rfl, rfl, by omega, by omega, h0, hBx⟩
  case round =>
    obtain ⟨pre, rest, c, k, rfl, hx, hr, hk, hc7, hJs, hBs⟩ := hrel
    by_cases hc : c < 256
    · obtain ⟨k, rfl⟩ : ∃ j, k = j + 1 := ⟨k - 1, by omega⟩
      gi_wp2
      simp only [show decide ((c : Int) < 256) = true by simp; omega]
      gi_loopw [3] (fun p w2 => ∃ (c2 q : Nat), p = .int .i64 c2 ∧ c ≤ c2 ∧ c2 ≤ 256 ∧ Tx.endOf n q c2 = Tx.endOf n 256 c ∧ 256 ≤ q + c2 ∧ J pre w2 ∧ Tx.Box Bn k0 k1 k2 k3 w2)
        (fun p w2 => 300 - (intOf p).toNat)
      case atStart =>
        exact ⟨c, 256, rfl, Nat.le_refl _, by omega, rfl, by omega, hJs, hBs⟩
      case round =>
        obtain ⟨c2, q, rfl, h1, h2, h3, h4, hJ2, hB2⟩ := hrel
        obtain ⟨e0, e1, e2, e3⟩ := id hB2
        by_cases hgo : c2 < 256 ∧ n.testBit c2 = true
        · obtain ⟨hc2, htb⟩ := hgo
          obtain ⟨q, rfl⟩ : ∃ j, q = j + 1 := ⟨q - 1, by omega⟩
          rw [Tx.endOf, if_pos ⟨hc2, htb⟩] at h3
          gi_wp2_with (gi_at_call 67; refine (hHas c2 _ hc2).mono ?_; rintro e W' ⟨rfl, hB'⟩; rw [htb])
          go_roundw
          case rel => exact ⟨c2 + 1, q, by simp, by omega, by omega, h3, by omega, hJb _ _ _ hJ2 hB', hB2.below hB' hB2.lt⟩
          case measure => simp [intOf]; omega
        · have hen : Tx.endOf n 256 c = c2 := by rw [← h3]; exact Tx.endOf_stop hgo
          by_cases hcc : c < c2
          · rw [Tx.runs, if_pos hc, hen] at hr
            simp only [if_pos hcc] at hr
            have hlen : pre.length < 300 := by
              have := Tx.runs_length n 257 0
              rw [hx, hr] at this
              simp at this; omega
            have hcast : ((c2 - 1 : Nat) : Int) = (c2 : Int) - 1 := by omega
            by_cases hc2 : c2 < 256
            · have htb : n.testBit c2 = false := by
                cases h : n.testBit c2
                · rfl
                · exact absurd ⟨hc2, h⟩ hgo
              gi_wp2_with (gi_at_call 67; refine (hHas c2 _ hc2).mono ?_; rintro e W' ⟨rfl, hB'⟩; rw [htb]; obtain ⟨fn, tmps, assign, body, hy, hR⟩ := hY pre (UInt8.ofNat c, UInt8.ofNat (c2 - 1)) W' (hJb _ _ _ hJ2 hB') hlen; dsimp only [Tx.encs] at hy; rw [Tx.u8 (by omega), Tx.u8 (by omega), hcast] at hy)
              refine hR.mono ?_
              rintro e W3 (⟨rfl, hJ3, hk3⟩ | ⟨rfl, hJx3⟩)
              · gi_wp2
                go_roundw
                case rel => exact ⟨pre ++ [(UInt8.ofNat c, UInt8.ofNat (c2 - 1))], Tx.runs n k (c2 + 1), c2 + 1, k, by simp, by rw [hx, hr]; simp, rfl, by omega, by omega, hJ3, hk3 (hB2.below hB' hB2.lt)⟩
                case measure => simp [intOf]; omega
              · gi_wp2
                refine bodyPost_ret (results_none rfl _ _ _) rfl ?_
                exact ⟨⟨_, rfl⟩, .inr ⟨pre ++ [(UInt8.ofNat c, UInt8.ofNat (c2 - 1))], ⟨Tx.runs n k (c2 + 1), by rw [hx, hr]; simp⟩, hJx3⟩⟩
            · obtain ⟨fn, tmps, assign, body, hy, hR⟩ := hY pre (UInt8.ofNat c, UInt8.ofNat (c2 - 1)) wr hJ2 hlen
              dsimp only [Tx.encs] at hy; rw [Tx.u8 (by omega), Tx.u8 (by omega), hcast] at hy
              gi_wp2
              refine hR.mono ?_
              rintro e W3 (⟨rfl, hJ3, hk3⟩ | ⟨rfl, hJx3⟩)
              · gi_wp2
                go_roundw
                case rel => exact ⟨pre ++ [(UInt8.ofNat c, UInt8.ofNat (c2 - 1))], Tx.runs n k (c2 + 1), c2 + 1, k, by simp, by rw [hx, hr]; simp, rfl, by omega, by omega, hJ3, hk3 hB2⟩
                case measure => simp [intOf]; omega
              · gi_wp2
                refine bodyPost_ret (results_none rfl _ _ _) rfl ?_
                exact ⟨⟨_, rfl⟩, .inr ⟨pre ++ [(UInt8.ofNat c, UInt8.ofNat (c2 - 1))], ⟨Tx.runs n k (c2 + 1), by rw [hx, hr]; simp⟩, hJx3⟩⟩
          · have hce : c = c2 := by omega
            subst hce
            have htb : n.testBit c = false := by
              cases h : n.testBit c
              · rfl
              · exact absurd ⟨hc, h⟩ hgo
            rw [Tx.runs, if_pos hc, hen] at hr
            simp only [if_neg hcc] at hr
            gi_wp2_with (gi_at_call 67; refine (hHas c _ hc).mono ?_; rintro e W' ⟨rfl, hB'⟩; rw [htb])
            refine ⟨fun _ h => (by cases h), ?_⟩
            gi_wp2
            go_roundw
            case rel => exact ⟨pre, rest, c + 1, k, by simp, hx, hr, by omega, by omega, hJb _ _ _ hJ2 hB', hB2.below hB' hB2.lt⟩
            case measure => simp [intOf]; omega
    · gi_wp2
      go_end0
      have hrn : rest = [] := by
        rw [hr]
        cases k with
        | zero => rfl
        | succ k => simp only [Tx.runs]; rw [if_neg hc]
      exact ⟨⟨_, rfl⟩, .inl ⟨pre, by rw [hx, hrn]; simp, hJs⟩⟩

theorem Tx.stops (F : Fence) (m : Nat) (h34 : F.fn 66) (h15 : F.fn 67) (hro : F.round = none) (hm : 1 ≤ m) (k0 k1 k2 k3 : Value) (n : Nat)
    (hHas : ∀ (c : Nat) (W : World), c < 256 → CallsIn F (m - 1) Try.prog 67 #[.agg #[k0, k1, k2, k3], .int .u8 c] W fun e W' => e = .returned (.bool (n.testBit c)) ∧ Below W.heap.size W W')
    (Bn : Nat) (w : World) (hb : Tx.Box Bn k0 k1 k2 k3 w) :
    SeqStopsK F m Try.prog 66 #[.pointer (some ⟨Bn, 0, none⟩)] Tx.encs (fun W W' => Tx.Box Bn k0 k1 k2 k3 W → Tx.Box Bn k0 k1 k2 k3 W') (fun ys => ys = Tx.runs n 257 0) (fun pre => pre <+: Tx.runs n 257 0) 300 w := fun l J Jx W hW hJ _ hY h0 =>
  Tx.runs1_in F m h34 h15 hro hm k0 k1 k2 k3 n hHas l Bn _ J Jx hY hJ W (hb.below hW hb.lt) h0

set_option maxHeartbeats 1000000 in
theorem Tx.runs_in (F : Fence) (m : Nat) (h31 : F.fn 60) (hro : F.round = none) (k0 k1 k2 k3 : Value) (w : World) :
    CallsIn F m Try.prog 60 #[.agg #[k0, k1, k2, k3]] w fun e w' => e = .returned (.func (.func 66) #[] #[.pointer (some ⟨w.heap.size, 0, none⟩)]) ∧ w' = w.alloc (.cells #[k0, k1, k2, k3] 38) := by
  refine callsIn_of_wp Try.func60 rfl h31 ?_ hro
  simp only [Try.ntmps60, List.size_toArray, List.length_cons, List.length_nil, Nat.reduceAdd, Nat.reduceSub, Array.replicate_succ, Array.replicate_zero, List.push_toArray, List.append_toArray, List.nil_append, List.cons_append]
  gi_wp2
  exact bodyPost_ret (results_tmp rfl _ _ _) rfl ⟨rfl, rfl⟩
end Go.Ab.R05

namespace Go.Ab.R05
open Go.RowKit Go.Shelf Go.Proofs
attribute [local go_sem] Oper.semAt_some
set_option linter.all false

def tells (l : List (UInt8 × UInt8)) : List UInt8 := 91 :: l.flatMap pieceS
def textS (n : Nat) : List UInt8 := tells (Tx.runs n 257 0) ++ [93]

theorem pieceS_length (p : UInt8 × UInt8) : (pieceS p).length ≤ 9 := by
  have h1 := plainS_length p.1.toNat
  have h2 := plainS_length p.2.toNat
  unfold pieceS
  split
  · simp; omega
  · split
    · simp; omega
    · simp; omega

theorem tells_length : ∀ l : List (UInt8 × UInt8), (tells l).length ≤ 1 + 9 * l.length
  | [] => by simp [tells]
  | p :: l => by
    have := tells_length l
    have := pieceS_length p
    simp only [tells, List.flatMap_cons, List.length_cons, List.length_append] at *
    omega

theorem tells_snoc (l : List (UInt8 × UInt8)) (p : UInt8 × UInt8) : tells (l ++ [p]) = tells l ++ pieceS p := by simp [tells]

/-- the table, without class.Text -/
def T0 : Tb := ⟨lookupF tabl, lookupF tabD, orcOf [(f_bytealg_IndexByteString, idxByte)]⟩
theorem fitN : FitN Try.prog (lookupF tabl) := fitN_of (by decide +kernel)
theorem fitD : FitD Try.prog (lookupF tabD) := fitD_of (by decide +kernel)
theorem idxByte_pl {a : List AV} {v : AV} (h : idxByte a = some v) : v.refB = 0 ∧ AV.refBs a = 0 := by
  unfold idxByte at h
  split at h
  · cases h; exact ⟨rfl, rfl⟩
  · cases h
instance : Base T0 where
  tab := fun f af h => let ⟨_, _, hf, _⟩ := fitN f af h; hf.cok
  tabD := fun f af h => let ⟨_, _, hf, _⟩ := fitD f af h; hf.cok
  orc := fun f a v h => by
    simp only [T0, orcOf] at h
    split at h
    · exact idxByte_pl h
    · cases h
  tb := rfl
  td := rfl
  idx := fun args => rfl
  none := fun f args h1 _ => by
    show orcOf [(f_bytealg_IndexByteString, idxByte)] f args = none
    simp only [orcOf]
    rw [if_neg (fun e => h1 e.symm)]

theorem orcIdx : OrcAt Try.prog f_bytealg_IndexByteString idxByte := idxByte_ok (fn := Try.f79) Try.func79 (by decide +kernel) (by decide +kernel) (by rfl) (by rfl)
theorem orc0OK : OrcOK Try.prog T0.orc := orcOK_of fun p hp => by
  simp only [List.mem_singleton] at hp
  subst hp
  exact orcIdx

def kv (n i : Nat) : Value := .int .u64 (wd n i : Nat)
theorem rep_cls {K : Ctx} (n : Nat) : Rep K (cls n) (.agg #[kv n 0, kv n 1, kv n 2, kv n 3]) := by
  simp only [cls, Rep]
  exact ⟨_, rfl, by simp [clsC, RepL, Rep, RepD, wdv, kv]⟩

theorem has_calls (n c : Nat) (W : World) (hc : c < 256) : Calls Try.prog 67 #[.agg #[kv n 0, kv n 1, kv n 2, kv n 3], .int .u8 c] W fun e W' => e = .returned (.bool (n.testBit c)) ∧ Below W.heap.size W W' :=
  calls_of_ev (T := T0) fitN fitD orc0OK (Has_ev n c hc []) rfl ⟨_, rfl⟩ (by rfl) (by intro y hy es e; subst e; simp [cls] at hy)
    (by simp only [RepL]; exact ⟨_, _, rfl, rep_cls n, _, _, rfl, by simp [Rep, RepD], rfl⟩) W


def TI (w : World) (pre : List (UInt8 × UInt8)) (W : World) : Prop := (∃ el, W.heap[w.heap.size + 1]? = some (.cells #[.string ⟨(tells pre).toArray⟩] el)) ∧ Below w.heap.size w W

set_option maxRecDepth 100000 in
set_option maxHeartbeats 2000000 in
theorem text_in (n : Nat) (w : World) :
    CallsIn (FW none) 10 Try.prog 48 #[.agg #[kv n 0, kv n 1, kv n 2, kv n 3]] w fun e W' => e = .returned (.string ⟨(textS n).toArray⟩) ∧ Below w.heap.size w W' := by
  generalize hk0 : kv n 0 = k0
  generalize hk1 : kv n 1 = k1
  generalize hk2 : kv n 2 = k2
  generalize hk3 : kv n 3 = k3
  have hHas : ∀ (j : Nat) (c : Nat) (W : World), c < 256 → CallsIn (FW none) j Try.prog 67 #[.agg #[k0, k1, k2, k3], .int .u8 c] W fun e W' => e = .returned (.bool (n.testBit c)) ∧ Below W.heap.size W W' := fun j c W hc => by
    rw [← hk0, ← hk1, ← hk2, ← hk3]
    exact callsIn_FW (has_calls n c W hc)
  have h19 : (FW none).fn 48 := trivial
  have h31 : (FW none).fn 60 := trivial
  have h34 : (FW none).fn 66 := trivial
  have h15 : (FW none).fn 67 := trivial
  have hro : (FW none).round = none := rfl
  refine callsIn_of_wp_marks Try.func48 rfl h19 ?_ hro
  simp only [Try.ntmps48, List.size_toArray, List.length_cons, List.length_nil, Nat.reduceAdd, Nat.reduceSub, Array.replicate_succ, Array.replicate_zero, List.push_toArray, List.append_toArray, List.nil_append, List.cons_append]
  gi_wp2_with (gi_at_call 60; refine (Tx.runs_in (FW none) _ h31 hro _ _ _ _ _).mono ?_; rintro e w' ⟨rfl, rfl⟩)
  have hB0 : Below w.heap.size w (((w.alloc (.cells #[k0, k1, k2, k3] 38)).alloc (.cells #[.string ⟨#[91]⟩] 9)).alloc (.cells #[k0, k1, k2, k3] 38)) := (((Below.refl _ w).alloc (Nat.le_refl _) _).alloc (by simp) _).alloc (by simp; omega) _
  refine wpIn_rangeFunc_ownF hro (by omega) (gf := 66) (lb := #[.pointer (some ⟨w.heap.size + 1 + 1, 0, none⟩)]) rfl h34 (enters_of Try.func66 (by kernel_rfl) rfl)
    (Tx.stops (FW none) _ h34 h15 hro (by omega) k0 k1 k2 k3 n (hHas _) (w.heap.size + 1 + 1) _ ?box) (fun h k x => k (h x)) ?kb (Below.refl _ _) (fun _ => rfl)
    (TI w) (fun _ _ _ => False) ?hI (fun _ _ _ _ _ hs _ _ => hs) ?h0
    (fun x => { tmps := #[.agg #[k0, k1, k2, k3], .pointer (some ⟨w.heap.size, 0, none⟩), .string ⟨#[]⟩, .pointer (some ⟨w.heap.size + 1, 0, none⟩), .int .u8 x.1.toNat, .int .u8 x.2.toNat, .agg #[k0, k1, k2, k3], .func (.func 66) #[] #[.pointer (some ⟨w.heap.size + 1 + 1, 0, none⟩)], .int .u8 x.1.toNat, .int .u8 x.2.toNat, undef, undef, undef, undef, undef, undef, undef, undef, undef, undef, undef, undef, undef, undef, undef, undef, undef, undef, undef, undef, undef, undef, undef, undef, undef, undef], defers := [] }) ?assign ?body ?done ?stop
  case box =>
    have hn : ∀ W : World, ∀ i, i < 4 → (W.alloc (.cells #[k0, k1, k2, k3] 38)).cell? ⟨W.heap.size, i, none⟩ = (#[k0, k1, k2, k3] : Array Value)[i]? := fun W i _ => cell_of (alloc_new _ _)
    have h := hn ((w.alloc (.cells #[k0, k1, k2, k3] 38)).alloc (.cells #[.string ⟨#[91]⟩] 9))
    simp only [World.size_alloc] at h
    exact ⟨h 0 (by omega), h 1 (by omega), h 2 (by omega), h 3 (by omega)⟩
  case kb =>
    intro W l o o' _ hl ho _ hx
    have hne : l ≠ w.heap.size + 1 + 1 := fun e => by
      subst e
      have := hx.1
      simp only [World.cell?, hl] at this
      cases o <;> simp [Obj.isCells] at ho this
    have hb : (W.putObj l o').heap[w.heap.size + 1 + 1]? = W.heap[w.heap.size + 1 + 1]? := World.putObj_heap_other (fun e => hne e.symm)
    exact ⟨(World.cell?_of_block hb).trans hx.1, (World.cell?_of_block hb).trans hx.2.1, (World.cell?_of_block hb).trans hx.2.2.1, (World.cell?_of_block hb).trans hx.2.2.2⟩
  case hI =>
    refine OwnFrom.and (fun s A B row hs hg hr => ?_) (ownFrom_below (Nat.le_refl _) (by simp; omega))
    obtain ⟨el, hs⟩ := hs
    refine ⟨el, ?_⟩
    rw [hg.block _ (heap_lt hs) (fun e => ?_)]
    · exact hs
    · obtain ⟨_, o, ho, hc⟩ := hr _ e.symm
      rw [hs] at ho
      cases ho
      simp [Obj.isCells] at hc
  case h0 =>
    refine ⟨⟨9, ?_⟩, hB0⟩
    rw [alloc_old (by simp)]
    have := alloc_new (w.alloc (.cells #[k0, k1, k2, k3] 38)) (.cells #[.string ⟨#[91]⟩] 9)
    simpa [tells] using this
  case assign =>
    intro l x W K hK
    dsimp only [Tx.encs]
    gi_wp2
    exact hK
  case body =>
    rintro l pre x W ⟨⟨el, hW⟩, hB⟩ hlen
    refine round_of_wp (T := T0) (c := r_class_Text_0) (N := 36) (sl := [(3, .ptr 0 0), (4, u8 x.1.toNat), (5, u8 x.2.toNat)]) (cs := [str (tells pre)]) (cs' := [str (tells pre ++ pieceS (x.1, x.2))]) fitN fitD orc0OK hW ?rep rfl ?no ?sl (by simp) (by decide +kernel) (by decide +kernel) (by decide +kernel) (by decide +kernel)
      (textBody_wp x.1 x.2 (tells pre) (by have := tells_length pre; omega)) ?q
    case rep => simp [RepL, Rep, RepD]
    case no => intro y hy es e; subst e; simp at hy
    case sl =>
      intro t av ht
      simp only [Slots.get] at ht
      split at ht
      · rename_i h; subst h; cases ht
        exact ⟨by simp, by simp [Rep, K1, Array.getD], by simp [AV.refB], fun es e => by cases e⟩
      · split at ht
        · rename_i h; subst h; cases ht
          exact ⟨by simp, by simp [Rep, RepD, Array.getD], by simp [AV.refB], fun es e => by cases e⟩
        · split at ht
          · rename_i h; subst h; cases ht
            exact ⟨by simp, by simp [Rep, RepD, Array.getD], by simp [AV.refB], fun es e => by cases e⟩
          · cases ht
    case q =>
      intro a' W' K' vs' el' h1 h2 h3 h4 h5 h6 h7
      have hv : vs' = #[.string ⟨(tells (pre ++ [x])).toArray⟩] := by
        simp only [RepL, Rep, RepD] at h2
        obtain ⟨v, r, e1, rfl, rfl⟩ := h2
        apply Array.toList_inj.1
        rw [e1, tells_snoc]
      subst hv
      have hold : ∀ k o, W.heap[k]? = some o → k ≠ w.heap.size + 1 → W'.heap[k]? = some o := fun k o hk hne => by rw [h3 k (heap_lt hk) hne]; exact hk
      refine ⟨⟨h4, fun k o hk ho => hold k o hk (fun e => ?_)⟩, fun hx => ?_, ⟨el', h1⟩, ?_⟩
      · subst e
        rw [hW] at hk
        cases hk
        simp [Obj.isCells] at ho
      · have hb : W'.heap[w.heap.size + 1 + 1]? = W.heap[w.heap.size + 1 + 1]? := h3 _ hx.lt (by omega)
        exact ⟨(World.cell?_of_block hb).trans hx.1, (World.cell?_of_block hb).trans hx.2.1, (World.cell?_of_block hb).trans hx.2.2.1, (World.cell?_of_block hb).trans hx.2.2.2⟩
      · exact ⟨h5.trans hB.os, h6.trans hB.tape, h7.trans hB.output, Nat.le_trans hB.size h4, fun k hk => by rw [h3 k (Nat.lt_of_lt_of_le hk hB.size) (by omega)]; exact hB.block k hk⟩
  case done =>
    rintro D ys W hD rfl ⟨⟨el, hc⟩, hB⟩ hK
    have hl : (tells (Tx.runs n 257 0)).length ≤ 3000 := by have := tells_length (Tx.runs n 257 0); have := Tx.runs_length n 257 0; omega
    have hcc : W.cell? ⟨w.heap.size + 1, 0, none⟩ = some (.string ⟨(tells (Tx.runs n 257 0)).toArray⟩) := by rw [cell_of hc]; rfl
    gi_wp2
    refine ⟨by simp, .inl ⟨_, _, rfl, run_takeDeferred hK, ?_⟩⟩
    refine ⟨_, results_tmp rfl _ _ _, ?_, hB.trans (belowK_b (w := w) (Nat.le_refl _) W D _ _ (by simp at hD; omega) hK rfl rfl)⟩
    have he : (⟨(tells (Tx.runs n 257 0)).toArray⟩ ++ ⟨#[93]⟩ : ByteArray) = ⟨(textS n).toArray⟩ := by
      apply ByteArray.ext
      simp [textS]
    rw [← he]
    rfl
  case stop =>
    rintro D c pre W _ _ h _
    exact h.elim

end Go.Ab.R05

namespace Go.Ab.R05
open Go.RowKit Go.Proofs
set_option linter.all false

def ofW (a b c d : Nat) : Nat := a + b * 2 ^ 64 + c * 2 ^ 128 + d * 2 ^ 192

theorem wd_ofW {a b c d : Nat} (ha : a < 2 ^ 64) (hb : b < 2 ^ 64) (hc : c < 2 ^ 64) (hd : d < 2 ^ 64) : wd (ofW a b c d) 0 = a ∧ wd (ofW a b c d) 1 = b ∧ wd (ofW a b c d) 2 = c ∧ wd (ofW a b c d) 3 = d := by
  unfold wd ofW
  refine ⟨?_, ?_, ?_, ?_⟩ <;> omega

theorem cls_ofW {a b c d : Nat} (ha : a < 2 ^ 64) (hb : b < 2 ^ 64) (hc : c < 2 ^ 64) (hd : d < 2 ^ 64) : cls (ofW a b c d) = .agg [.d (.int .u64 a), .d (.int .u64 b), .d (.int .u64 c), .d (.int .u64 d)] := by
  obtain ⟨h0, h1, h2, h3⟩ := wd_ofW ha hb hc hd
  simp only [cls, clsC, wdv, h0, h1, h2, h3]

def textO : List AV → Option AV
  | [.agg [.d (.int .u64 a), .d (.int .u64 b), .d (.int .u64 c), .d (.int .u64 d)]] =>
    if (0 ≤ a ∧ a < 2 ^ 64) ∧ (0 ≤ b ∧ b < 2 ^ 64) ∧ (0 ≤ c ∧ c < 2 ^ 64) ∧ (0 ≤ d ∧ d < 2 ^ 64) then some (.d (.str (textS (ofW a.toNat b.toNat c.toNat d.toNat)))) else none
  | _ => none

theorem textO_ok : OrcAt Try.prog f_class_Text textO := by
  refine orcAt_of_calls (enters_of Try.func48 (by kernel_rfl) rfl) fun args v hv => ?_
  unfold textO at hv
  split at hv
  · rename_i a b c d
    split at hv
    · rename_i h
      obtain ⟨⟨a0, a1⟩, ⟨b0, b1⟩, ⟨c0, c1⟩, ⟨d0, d1⟩⟩ := h
      obtain ⟨a, rfl⟩ := Int.eq_ofNat_of_zero_le a0
      obtain ⟨b, rfl⟩ := Int.eq_ofNat_of_zero_le b0
      obtain ⟨c, rfl⟩ := Int.eq_ofNat_of_zero_le c0
      obtain ⟨d, rfl⟩ := Int.eq_ofNat_of_zero_le d0
      simp only [Int.toNat_natCast, Option.some.injEq] at hv
      refine ⟨_, _, hv.symm, rfl, fun K vs hr w => ?_⟩
      have h1 : vs = #[.agg #[kv (ofW a b c d) 0, kv (ofW a b c d) 1, kv (ofW a b c d) 2, kv (ofW a b c d) 3]] := by
        obtain ⟨h0, h1, h2, h3⟩ := wd_ofW (a := a) (b := b) (c := c) (d := d) (by omega) (by omega) (by omega) (by omega)
        simp only [RepL, Rep, RepD] at hr
        obtain ⟨u, r, e1, ⟨us, rfl, u0, r0, e2, rfl, u1, r1, rfl, rfl, u2, r2, rfl, rfl, u3, r3, rfl, rfl, rfl⟩, rfl⟩ := hr
        apply Array.toList_inj.1
        rw [e1]
        simp only [kv, h0, h1, h2, h3]
        congr 2
        apply Array.toList_inj.1
        rw [e2]
      rw [h1]
      exact callsIn_wide.1 (text_in (ofW a b c d) w)
    · cases hv
  · cases hv

def orc1 : FuncId → List AV → Option AV := orcOf [(f_bytealg_IndexByteString, idxByte), (f_class_Text, textO)]
def T1 : Tb := ⟨lookupF tabl, lookupF tabD, orc1⟩
theorem textO_pl {a : List AV} {v : AV} (h : textO a = some v) : v.refB = 0 ∧ AV.refBs a = 0 := by
  unfold textO at h
  split at h
  · split at h
    · cases h; exact ⟨rfl, rfl⟩
    · cases h
  · cases h
instance : Base T1 where
  tab := fun f af h => let ⟨_, _, hf, _⟩ := fitN f af h; hf.cok
  tabD := fun f af h => let ⟨_, _, hf, _⟩ := fitD f af h; hf.cok
  orc := fun f a v h => by
    simp only [T1, orc1, orcOf] at h
    split at h
    · exact idxByte_pl h
    · split at h
      · exact textO_pl h
      · cases h
  tb := rfl
  td := rfl
  idx := fun args => rfl
  none := fun f args h1 h2 => by
    show orcOf [(f_bytealg_IndexByteString, idxByte), (f_class_Text, textO)] f args = none
    simp only [orcOf]
    rw [if_neg (fun e => h1 e.symm), if_neg (fun e => h2 e.symm)]
theorem orc1OK : OrcOK Try.prog T1.orc := orcOK_of fun p hp => by
  simp only [List.mem_cons, List.not_mem_nil, or_false] at hp
  rcases hp with rfl | rfl
  · exact orcIdx
  · exact textO_ok

end Go.Ab.R05

namespace Go.Ab.R05
set_option maxRecDepth 100000
set_option linter.all false
set_option maxHeartbeats 4000000
section
variable {T : Tb} [hT : Base T]

def reK : List PK := [.int .i64, .int .u64, .int .u64, .int .u64, .int .u64, .int .i64, .int .i64]
def Re.eqB (r q : Re) : Bool := (eqCells reK (reC r) (reC q)).getD false
theorem eqB_cells (r q : Re) : eqCells reK (reC r) (reC q) = some (r.eqB q) := by
  simp [Re.eqB, eqCells, reK, reC, wdv, AV.nat, D.kind?]
theorem eqB_iff {r q : Re} : r.eqB q = true ↔ reD r = reD q := by
  simp [Re.eqB, eqCells, reK, reC, reD, wdv, AV.nat, D.kind?, D.eqP]

def sameT : List Re → List Re → Bool
  | [], [] => true
  | a :: t, b :: u => a.eqB b && sameT t u
  | _, _ => false
theorem sameT_iff : ∀ {t u : List Re}, sameT t u = true ↔ t.map reD = u.map reD
  | [], [] => by simp [sameT]
  | [], b :: u => by simp [sameT]
  | a :: t, [] => by simp [sameT]
  | a :: t, b :: u => by simp [sameT, eqB_iff, sameT_iff (t := t) (u := u)]
theorem sameT_len {t u : List Re} (h : t.length ≠ u.length) : sameT t u = false := by
  cases hs : sameT t u
  · rfl
  · exact absurd (by simpa using congrArg List.length (sameT_iff.1 hs)) h
theorem sameT_self (t : List Re) : sameT t t = true := sameT_iff.2 rfl

theorem getRe {t : List Re} {m : Nat} (h : m < t.length) : ∃ y, t[m]? = some y := ⟨_, List.getElem?_eq_getElem h⟩
theorem idxRe {t : List Re} {i : Nat} {r : Re} {c : List D → Prop} (h : t[i]? = some r) (h' : c (reD r)) : IdxL 7 (t.map reD) (i : Int) c := idxLb (by rw [List.getElem?_map, h]; rfl) rfl h'
theorem eqRe {r q : Re} {c : Bool → Prop} (h : c (r.eqB q)) : EqcE reK (reC r) (reC q) c := eqcB (eqB_cells r q) h

theorem Same_ev (t u : List Re) (rf : Refs) (ht : t.length ≤ 2 ^ 40) : Ev T f_ref05_Same [lst (t.map reD), lst (u.map reD)] rf (.ret (bl (sameT t u))) rf := by
  refine Ev.any ?_ rfl rf
  have l1 : (t.map reD).length = t.length := by simp
  have l2 : (u.map reD).length = u.length := by simp
  refine ev_fn rfl rfl ?_
  (repeat' (first
    | (intro (u_ : Unit); clear u_)
    | refine condT ?_
    | refine condF ?_
    | refine condp (by assumption) ?_
    | refine condn (by assumption) ?_
    | refine condN ?_
    | refine idxSb (by assumption) ?_
    | (refine condD ?_ ?_ <;> intro hq_ <;> first | (exfalso; omega) | skip)
    | (refine idxS (by omega) ?_; intro b_ hb_; have hl_ := b_.toNat_lt)
    | refine wrA (by omega) ?_
    | refine wrS (by omega) (by omega) ?_
    | refine wrI (by omega) (by omega) ?_
    | refine wrBA (by omega) ?_
    | refine wrB (by omega) (by omega) ?_
    | refine catL (by omega) ?_
    | refine nilB rfl ?_))
  · rw [sameT_len (by omega)]; exact ⟨rfl, rfl⟩
  · refine loopR (fun i : Nat => [(5, i64 i)]) (fun _ => []) (fun i => t.length - i) (fun i => i ≤ t.length ∧ sameT t u = sameT (t.drop i) (u.drop i)) 0 ⟨by omega, by simp⟩ (by rfl) (by rfl) ?_
    rintro i ⟨hi, hP⟩
    by_cases hlt : i < t.length
    · obtain ⟨r, hr⟩ := getRe hlt
      obtain ⟨q, hq⟩ := getRe (t := u) (m := i) (by omega)
      have h1 : t.drop i = r :: t.drop (i + 1) := by rw [← List.getElem_cons_drop (h := hlt)]; congr 1; exact (List.getElem?_eq_some_iff.1 hr).2
      have h2 : u.drop i = q :: u.drop (i + 1) := by rw [← List.getElem_cons_drop (h := by omega)]; congr 1; exact (List.getElem?_eq_some_iff.1 hq).2
      rw [h1, h2] at hP
      (repeat' (first
        | (intro (u_ : Unit); clear u_)
        | refine condT ?_
        | refine condF ?_
        | refine condp (by assumption) ?_
        | refine condn (by assumption) ?_
        | refine condN ?_
        | refine idxSb (by assumption) ?_
        | refine idxRe hr ?_
        | refine idxRe hq ?_
        | (refine eqRe ?_; cases he_ : r.eqB q)
        | refine condX ?_
        | (refine condD ?_ ?_ <;> intro hq_ <;> first | (exfalso; omega) | skip)
        | (refine idxS (by omega) ?_; intro b_ hb_; have hl_ := b_.toNat_lt)
        | refine wrA (by omega) ?_
        | refine wrS (by omega) (by omega) ?_
        | refine wrI (by omega) (by omega) ?_
        | refine wrBA (by omega) ?_
        | refine wrB (by omega) (by omega) ?_
        | refine catL (by omega) ?_
        | refine nilB rfl ?_))
      · rw [hP]; simp only [sameT, he_]; exact ⟨rfl, rfl⟩
      · exact ⟨i + 1, ⟨by omega, by rw [hP]; simp [sameT, he_]⟩, by omega, rfl, rfl, rfl, rfl⟩
    · (repeat' (first
        | (intro (u_ : Unit); clear u_)
        | refine condT ?_
        | refine condF ?_
        | refine condp (by assumption) ?_
        | refine condn (by assumption) ?_
        | refine condN ?_
        | refine idxSb (by assumption) ?_
        | (refine condD ?_ ?_ <;> intro hq_ <;> first | (exfalso; omega) | skip)
        | (refine idxS (by omega) ?_; intro b_ hb_; have hl_ := b_.toNat_lt)
        | refine wrA (by omega) ?_
        | refine wrS (by omega) (by omega) ?_
        | refine wrI (by omega) (by omega) ?_
        | refine wrBA (by omega) ?_
        | refine wrB (by omega) (by omega) ?_
        | refine catL (by omega) ?_
        | refine nilB rfl ?_))
      rw [hP, List.drop_eq_nil_of_le (by omega), List.drop_eq_nil_of_le (by omega)]
      exact ⟨rfl, rfl⟩
end

theorem shown_ev : Ev T1 f_law05_shown [] [] (.ret (bl true)) [] := ⟨60, by kernel_rfl⟩

theorem RegexReads_ev (s : List UInt8) : Ev T1 f_law05_RegexReads [str s] [] (.ret (bl true)) [] := by
  by_cases hs : s.length ≤ 3000
  · have h1 := rRd_ev (T := T1) s (by omega) []
    have h2 := pRd_ev (T := T1) s (by omega) []
    have hl : ∀ t, parse s = .ok t → t.length ≤ 2000 := fun t h => by
      unfold parse at h
      cases hr : allM s 31 0 0 [] with
      | err e => rw [hr] at h; cases h
      | ok a i d u =>
        rw [hr] at h
        simp only at h
        split at h
        · cases h
        · cases h; exact (adv_allM 31 (Nat.zero_le _) (by simp) _ _ _ _ hr).2.2.2
    cases hp : parse s with
    | error e =>
      rw [hp] at h1 h2
      have hS := Same_ev (T := T1) [] [] [] (by simp)
      refine ev_fn rfl rfl ?_
      (repeat' (first
        | (intro (u_ : Unit); clear u_)
        | refine condT ?_
        | refine condF ?_
        | refine condp (by assumption) ?_
        | refine condn (by assumption) ?_
        | refine condN ?_
        | refine idxSb (by assumption) ?_
        | refine callE_ev shown_ev ?_
        | refine callE_ev h1 ?_
        | refine callE_ev h2 ?_
        | refine callE_ev hS ?_
        | (refine condD ?_ ?_ <;> intro hq_ <;> first | (exfalso; omega) | skip)
        | (refine idxS (by omega) ?_; intro b_ hb_; have hl_ := b_.toNat_lt)
        | refine wrA (by omega) ?_
        | refine wrS (by omega) (by omega) ?_
        | refine wrI (by omega) (by omega) ?_
        | refine wrBA (by omega) ?_
        | refine wrB (by omega) (by omega) ?_
        | refine catL (by omega) ?_
        | refine nilB rfl ?_))
      all_goals exact ⟨by simp, rfl⟩
    | ok t =>
      rw [hp] at h1 h2
      have hS := Same_ev (T := T1) t t [] (by have := hl t hp; omega)
      rw [sameT_self] at hS
      refine ev_fn rfl rfl ?_
      (repeat' (first
        | (intro (u_ : Unit); clear u_)
        | refine condT ?_
        | refine condF ?_
        | refine condp (by assumption) ?_
        | refine condn (by assumption) ?_
        | refine condN ?_
        | refine idxSb (by assumption) ?_
        | refine callE_ev shown_ev ?_
        | refine callE_ev h1 ?_
        | refine callE_ev h2 ?_
        | refine callE_ev hS ?_
        | (refine condD ?_ ?_ <;> intro hq_ <;> first | (exfalso; omega) | skip)
        | (refine idxS (by omega) ?_; intro b_ hb_; have hl_ := b_.toNat_lt)
        | refine wrA (by omega) ?_
        | refine wrS (by omega) (by omega) ?_
        | refine wrI (by omega) (by omega) ?_
        | refine wrBA (by omega) ?_
        | refine wrB (by omega) (by omega) ?_
        | refine catL (by omega) ?_
        | refine nilB rfl ?_))
      all_goals exact ⟨rfl, rfl⟩
  · refine ev_fn rfl rfl ?_
    (repeat' (first
      | (intro (u_ : Unit); clear u_)
      | refine condT ?_
      | refine condF ?_
      | refine condp (by assumption) ?_
      | refine condn (by assumption) ?_
      | refine condN ?_
      | refine idxSb (by assumption) ?_
      | refine callE_ev shown_ev ?_
      | (refine condD ?_ ?_ <;> intro hq_ <;> first | (exfalso; omega) | skip)
      | (refine idxS (by omega) ?_; intro b_ hb_; have hl_ := b_.toNat_lt)
      | refine wrA (by omega) ?_
      | refine wrS (by omega) (by omega) ?_
      | refine wrI (by omega) (by omega) ?_
      | refine wrBA (by omega) ?_
      | refine wrB (by omega) (by omega) ?_
      | refine catL (by omega) ?_
      | refine nilB rfl ?_))
    exact ⟨rfl, rfl⟩
end Go.Ab.R05
