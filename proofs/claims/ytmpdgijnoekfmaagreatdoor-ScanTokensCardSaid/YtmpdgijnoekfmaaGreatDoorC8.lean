/- A part of the proof: tools. No condition. -/
import Derived.Test.YtmpdgijnoekfmaaGreatDoorC7
set_option linter.all false
namespace Go.Ab.R15z
set_option maxRecDepth 100000
set_option linter.all false
set_option maxHeartbeats 4000000
variable {T : Tb} [hT : Base T]
inductive QM where
 | go (f a i : Nat) (t : List Re)
 | bad (e : Nat) (a : Int) (i : Nat) (t : List Re)
def QM.ch : QM → Slots
 | .go _ a _ _ => [(3, i64 a)]
 | .bad _ a _ _ => [(3, i64 a)]
def QM.hc (s : List UInt8) (d : Nat) : QM → List (Nat × List AV)
 | .go _ _ i t => [(0, pr s i d t 0)]
 | .bad e _ i t => [(0, pr s i d t e)]
def QM.m : QM → Nat
 | .go f _ _ _ => f + 1
 | .bad _ _ _ _ => 0
def QM.P (s : List UInt8) (d : Nat) (L : Nat → Nat → Nat → Nat → List Re → R) (r : R) : QM → Prop
 | .go f a i t => s.length < i + f ∧ i ≤ s.length ∧ t.length ≤ 2000 ∧ r = L f a i d t
 | .bad e _ i t => r = .err e ∧ e ≠ 0 ∧ i + d ≤ s.length + 31 ∧ t.length ≤ 2000
theorem rrow_ev (G : Nat → Nat → List Re → R) (s : List UInt8) (hs : s.length ≤ 2 ^ 30) (i d : Nat) (t : List Re) (hi : i ≤ s.length) (ht : t.length ≤ 2000) (hd : d ≤ 30) (hA : AdvG s G) (hat : ∀ i t, i < s.length → t.length ≤ 2000 → FitR T f_ref05_parser_atom [] s i d t (atomM s G i d t)) : FitR T f_ref05_parser_row [] s i d t (catM s G i d t) := by
 refine call_fn rfl rfl ?_
 (repeat' (first| (intro (u_ : Unit); clear u_)| refine condT ?_| refine condF ?_| refine condp (by assumption) ?_| refine condn (by assumption) ?_| refine condN ?_| refine idxSb (by assumption) ?_| refine isE0 (fun hh_ hl_ => ?_) (fun hh_ => ?_)| refine layE0 (n := 0) ht hi hd (fun a_ i_ d_ t_ hr2_ => ?_) (fun e_ v_ i_ t_ hr2_ he_ hb_ hu_ => ?_)| refine fitRA (rpiece_ev G s hs _ _ _ (by omega) ht hd hA (hat _ _ (by omega) ht)) (adv_piece hA (by omega) ht) rfl (fun a_ i_ t_ hr_ h1_ h2_ h3_ => ?_) (fun e_ v_ i_ t_ hr_ he_ hb_ hu_ => ?_)| (refine condD ?_ ?_ <;> intro hq_ <;> first | (exfalso; omega) | skip)| (refine idxS (by omega) ?_; intro b_ hb_; have hl_ := b_.toNat_lt)| refine wrA (by omega) ?_| refine wrS (by omega) (by omega) ?_| refine wrI (by omega) (by omega) ?_| refine wrBA (by omega) ?_| refine wrB (by omega) (by omega) ?_| refine strC (by omega) ?_| refine nilB rfl ?_))
 all_goals first
  | exact postR_ok ((catM_stop (stopT (by first | exact .inl (by assumption) | exact .inr (.inl (by assumption)) | exact .inr (.inr (by omega))))).trans hr2_)
  | exact postR_err ((catM_stop (stopT (by first | exact .inl (by assumption) | exact .inr (.inl (by assumption)) | exact .inr (.inr (by omega))))).trans hr2_) he_ hb_ hu_
  | skip
 all_goals
  have hgo := catM_go (G := G) (d := d) (t := t) (stopF (show i < s.length by omega) (by assumption) (by assumption))
  first
  | refine loopR QM.ch (QM.hc s d) QM.m (QM.P s d (catL s G) (catM s G i d t)) (.go (s.length + 1) _ _ _) ⟨by omega, h2_, h3_, hgo.trans (bind_ok hr_)⟩ (by rfl) (by rfl) ?_
  | refine loopR QM.ch (QM.hc s d) QM.m (QM.P s d (catL s G) (catM s G i d t)) (.bad _ _ _ _) ⟨hgo.trans (bind_err hr_), he_, hb_, hu_⟩ (by rfl) (by rfl) ?_
  clear hr_ hgo
  rintro (⟨f, a, j, u⟩ | ⟨e, a, j, u⟩) hP
  ·obtain ⟨hf, hj, hu, hP⟩ := hP
   obtain ⟨f, rfl⟩ : ∃ g, f = g + 1 := ⟨f - 1, by omega⟩
   (repeat' (first| (intro (u_ : Unit); clear u_)| refine condT ?_| refine condF ?_| refine condp (by assumption) ?_| refine condn (by assumption) ?_| refine condN ?_| refine idxSb (by assumption) ?_| refine fitRA (rpiece_ev G s hs _ _ _ (by omega) hu hd hA (hat _ _ (by omega) hu)) (adv_piece hA (by omega) hu) rfl (fun a_ i_ t_ hr_ h1_ h2_ h3_ => ?_) (fun e_ v_ i_ t_ hr_ he_ hb_ hu_ => ?_)| refine layE0 (n := 0) h3_ h2_ hd (fun a_ i_ d_ t_ hr2_ => ?_) (fun e_ v_ i_ t_ hr2_ he_ hb_ hu_ => ?_)| refine layE1 (n := 0) (by omega) he_ (fun v_ => ?_)| (refine condD ?_ ?_ <;> intro hq_ <;> first | (exfalso; omega) | skip)| (refine idxS (by omega) ?_; intro b_ hb_; have hl_ := b_.toNat_lt)| refine wrA (by omega) ?_| refine wrS (by omega) (by omega) ?_| refine wrI (by omega) (by omega) ?_| refine wrBA (by omega) ?_| refine wrB (by omega) (by omega) ?_| refine strC (by omega) ?_| refine nilB rfl ?_))
   all_goals first
    | exact postR_ok (hP.trans (catL_stop (stopT (by first | exact .inr (.inr (by omega)) | exact .inl (hitT (by assumption) (by omega)) | exact .inr (.inl (hitT (by assumption) (by omega)))))))
    | (have hq := hP.trans (catL_go (stopF (show j < s.length by omega) (hitF (by assumption) (by omega)) (hitF (by assumption) (by omega))))
       first
       | exact ⟨.bad e_ _ i_ t_, ⟨hq.trans (bind_err hr_), he_, hb_, hu_⟩, (by show 0 < f + 1 + 1; omega), rfl, rfl, rfl, rfl⟩
       | exact ⟨.bad e_ _ i_ t_, ⟨hq.trans ((bind_ok hr_).trans (bind_err hr2_)), he_, hb_, hu_⟩, (by show 0 < f + 1 + 1; omega), rfl, rfl, rfl, rfl⟩
       | (obtain ⟨rfl, rfl, rfl, rfl, hl2⟩ := putM_ok hr2_
          exact ⟨.go f _ _ _, ⟨by omega, h2_, by simp; omega, hq.trans ((bind_ok hr_).trans (bind_ok hr2_))⟩, (by show f + 1 < f + 1 + 1; omega), rfl, rfl, rfl, rfl⟩))
  ·obtain ⟨hP, he, hb, hu⟩ := hP
   (repeat' (first| (intro (u_ : Unit); clear u_)| refine condT ?_| refine condF ?_| refine condp (by assumption) ?_| refine condn (by assumption) ?_| refine condN ?_| refine idxSb (by assumption) ?_| (refine condD ?_ ?_ <;> intro hq_ <;> first | (exfalso; omega) | skip)| (refine idxS (by omega) ?_; intro b_ hb_; have hl_ := b_.toNat_lt)| refine wrA (by omega) ?_| refine wrS (by omega) (by omega) ?_| refine wrI (by omega) (by omega) ?_| refine wrBA (by omega) ?_| refine wrB (by omega) (by omega) ?_| refine strC (by omega) ?_| refine nilB rfl ?_))
   exact postR_err hP he hb hu
theorem rwhole_ev (G : Nat → Nat → List Re → R) (s : List UInt8) (hs : s.length ≤ 2 ^ 30) (i d : Nat) (t : List Re) (hi : i ≤ s.length) (ht : t.length ≤ 2000) (hd : d ≤ 30) (hA : AdvG s G) (hat : ∀ i t, i < s.length → t.length ≤ 2000 → FitR T f_ref05_parser_atom [] s i d t (atomM s G i d t)) : FitR T f_ref05_parser_whole [] s i d t (allB s G i d t) := by
 refine call_fn rfl rfl ?_
 (repeat' (first| (intro (u_ : Unit); clear u_)| refine condT ?_| refine condF ?_| refine condp (by assumption) ?_| refine condn (by assumption) ?_| refine condN ?_| refine idxSb (by assumption) ?_| refine fitRA (rrow_ev G s hs _ _ _ hi ht hd hA hat) (adv_catM hA hi ht) rfl (fun a_ i_ t_ hr_ h1_ h2_ h3_ => ?_) (fun e_ v_ i_ t_ hr_ he_ hb_ hu_ => ?_)| (refine condD ?_ ?_ <;> intro hq_ <;> first | (exfalso; omega) | skip)| (refine idxS (by omega) ?_; intro b_ hb_; have hl_ := b_.toNat_lt)| refine wrA (by omega) ?_| refine wrS (by omega) (by omega) ?_| refine wrI (by omega) (by omega) ?_| refine wrBA (by omega) ?_| refine wrB (by omega) (by omega) ?_| refine strC (by omega) ?_| refine nilB rfl ?_))
 all_goals
  first
  | refine loopR QM.ch (QM.hc s d) QM.m (QM.P s d (altL s G) (allB s G i d t)) (.go (s.length + 1) _ _ _) ⟨by omega, h2_, h3_, bind_ok hr_⟩ (by rfl) (by rfl) ?_
  | refine loopR QM.ch (QM.hc s d) QM.m (QM.P s d (altL s G) (allB s G i d t)) (.bad _ _ _ _) ⟨bind_err hr_, he_, hb_, hu_⟩ (by rfl) (by rfl) ?_
  clear hr_
  rintro (⟨f, a, j, u⟩ | ⟨e, a, j, u⟩) hP
  ·obtain ⟨hf, hj, hu, hP⟩ := hP
   obtain ⟨f, rfl⟩ : ∃ g, f = g + 1 := ⟨f - 1, by omega⟩
   (repeat' (first| (intro (u_ : Unit); clear u_)| refine condT ?_| refine condF ?_| refine condp (by assumption) ?_| refine condn (by assumption) ?_| refine condN ?_| refine idxSb (by assumption) ?_| refine isE0 (fun hh_ hl_ => ?_) (fun hh_ => ?_)| refine fitRA (rrow_ev G s hs _ _ _ (by omega) hu hd hA hat) (adv_catM hA (by omega) hu) rfl (fun a_ i_ t_ hr_ h1_ h2_ h3_ => ?_) (fun e_ v_ i_ t_ hr_ he_ hb_ hu_ => ?_)| refine layE0 (n := 0) h3_ h2_ hd (fun a_ i_ d_ t_ hr2_ => ?_) (fun e_ v_ i_ t_ hr2_ he_ hb_ hu_ => ?_)| refine layE1 (n := 0) (by omega) he_ (fun v_ => ?_)| (refine condD ?_ ?_ <;> intro hq_ <;> first | (exfalso; omega) | skip)| (refine idxS (by omega) ?_; intro b_ hb_; have hl_ := b_.toNat_lt)| refine wrA (by omega) ?_| refine wrS (by omega) (by omega) ?_| refine wrI (by omega) (by omega) ?_| refine wrBA (by omega) ?_| refine wrB (by omega) (by omega) ?_| refine strC (by omega) ?_| refine nilB rfl ?_))
   all_goals first
    | exact postR_ok (hP.trans (altL_stop (by assumption)))
    | (have hq := hP.trans (altL_go (by assumption))
       first
       | exact ⟨.bad e_ _ i_ t_, ⟨hq.trans (bind_err hr_), he_, hb_, hu_⟩, (by show 0 < f + 1 + 1; omega), rfl, rfl, rfl, rfl⟩
       | exact ⟨.bad e_ _ i_ t_, ⟨hq.trans ((bind_ok hr_).trans (bind_err hr2_)), he_, hb_, hu_⟩, (by show 0 < f + 1 + 1; omega), rfl, rfl, rfl, rfl⟩
       | (obtain ⟨rfl, rfl, rfl, rfl, hl2⟩ := putM_ok hr2_
          exact ⟨.go f _ _ _, ⟨by omega, h2_, by simp; omega, hq.trans ((bind_ok hr_).trans (bind_ok hr2_))⟩, (by show f + 1 < f + 1 + 1; omega), rfl, rfl, rfl, rfl⟩))
  ·obtain ⟨hP, he, hb, hu⟩ := hP
   (repeat' (first| (intro (u_ : Unit); clear u_)| refine condT ?_| refine condF ?_| refine condp (by assumption) ?_| refine condn (by assumption) ?_| refine condN ?_| refine idxSb (by assumption) ?_| refine isE1 he ?_| (refine condD ?_ ?_ <;> intro hq_ <;> first | (exfalso; omega) | skip)| (refine idxS (by omega) ?_; intro b_ hb_; have hl_ := b_.toNat_lt)| refine wrA (by omega) ?_| refine wrS (by omega) (by omega) ?_| refine wrI (by omega) (by omega) ?_| refine wrBA (by omega) ?_| refine wrB (by omega) (by omega) ?_| refine strC (by omega) ?_| refine nilB rfl ?_))
   exact postR_err hP he hb hu
theorem rallM_ev (s : List UInt8) (hs : s.length ≤ 2 ^ 30) : ∀ (n i d : Nat) (t : List Re), d + n = 30 → i ≤ s.length → t.length ≤ 2000 → FitR T f_ref05_parser_whole [] s i d t (allM s (n + 1) i d t)
 | 0, i, d, t, hd, hi, ht => rwhole_ev _ s hs i d t hi ht (by omega) (adv_grp fun i d t hi ht => adv_allM 0 hi ht) fun i t hi ht => ratom_ev _ s hs i d t hi ht (by omega) (fun i d t hi ht => adv_allM 0 hi ht) (fun h => by omega)
 | n + 1, i, d, t, hd, hi, ht => rwhole_ev _ s hs i d t hi ht (by omega) (adv_grp fun i d t hi ht => adv_allM (n + 1) hi ht) fun i t hi ht => ratom_ev _ s hs i d t hi ht (by omega) (fun i d t hi ht => adv_allM (n + 1) hi ht) (fun h => rallM_ev s hs n (i + 1) (d + 1) t (by omega) (by omega) ht)
theorem pRd_ev (s : List UInt8) (hs : s.length ≤ 2 ^ 30) (rf : Refs) : Ev T f_ref05_Read [str s] rf (.ret (resT (parse s))) rf := by
 have hall := rallM_ev (T := T) s hs 30 0 0 [] rfl (Nat.zero_le _) (by simp)
 refine Ev.any ?_ rfl rf
 cases hr : allM s 31 0 0 [] with
 | err e =>
   rw [parse_err hr]
   refine ev_fn rfl rfl ?_
   (repeat' (first| (intro (u_ : Unit); clear u_)| refine condT ?_| refine condF ?_| refine condp (by assumption) ?_| refine condn (by assumption) ?_| refine condN ?_| refine idxSb (by assumption) ?_| refine fitR hall rfl (fun a_ i_ d_ t_ hr_ => absurd (hr.symm.trans hr_) (fun h => by cases h)) (fun e_ v_ i_ t_ hr_ he_ hb_ hu_ => ?_)| (refine condD ?_ ?_ <;> intro hq_ <;> first | (exfalso; omega) | skip)| (refine idxS (by omega) ?_; intro b_ hb_; have hl_ := b_.toNat_lt)| refine wrA (by omega) ?_| refine wrS (by omega) (by omega) ?_| refine wrI (by omega) (by omega) ?_| refine wrBA (by omega) ?_| refine wrB (by omega) (by omega) ?_| refine strC (by omega) ?_| refine nilB rfl ?_))
   cases hr.symm.trans hr_
   exact ⟨rfl, rfl⟩
 | ok a i d t =>
   by_cases hi : i < s.length
   ·rw [parse_9 hr hi]
    refine ev_fn rfl rfl ?_
    (repeat' (first| (intro (u_ : Unit); clear u_)| refine condT ?_| refine condF ?_| refine condp (by assumption) ?_| refine condn (by assumption) ?_| refine condN ?_| refine idxSb (by assumption) ?_| refine fitR hall rfl (fun a_ i_ d_ t_ hr_ => ?_) (fun e_ v_ i_ t_ hr_ he_ hb_ hu_ => absurd (hr.symm.trans hr_) (fun h => by cases h))| (have he_ := hr.symm.trans hr_; clear hr_; cases he_)| refine failE0 ?_| (refine condD ?_ ?_ <;> intro hq_ <;> first | (exfalso; omega) | skip)| (refine idxS (by omega) ?_; intro b_ hb_; have hl_ := b_.toNat_lt)| refine wrA (by omega) ?_| refine wrS (by omega) (by omega) ?_| refine wrI (by omega) (by omega) ?_| refine wrBA (by omega) ?_| refine wrB (by omega) (by omega) ?_| refine strC (by omega) ?_| refine nilB rfl ?_))
    exact ⟨rfl, rfl⟩
   ·rw [parse_ok hr hi]
    cases t <;>
    (refine ev_fn rfl rfl ?_
     (repeat' (first| (intro (u_ : Unit); clear u_)| refine condT ?_| refine condF ?_| refine condp (by assumption) ?_| refine condn (by assumption) ?_| refine condN ?_| refine idxSb (by assumption) ?_| refine fitR hall rfl (fun a_ i_ d_ t_ hr_ => ?_) (fun e_ v_ i_ t_ hr_ he_ hb_ hu_ => absurd (hr.symm.trans hr_) (fun h => by cases h))| (have he_ := hr.symm.trans hr_; clear hr_; cases he_)| (refine condD ?_ ?_ <;> intro hq_ <;> first | (exfalso; omega) | skip)| (refine idxS (by omega) ?_; intro b_ hb_; have hl_ := b_.toNat_lt)| refine wrA (by omega) ?_| refine wrS (by omega) (by omega) ?_| refine wrI (by omega) (by omega) ?_| refine wrBA (by omega) ?_| refine wrB (by omega) (by omega) ?_| refine strC (by omega) ?_| refine nilB rfl ?_))
     exact ⟨rfl, rfl⟩)
end Go.Ab.R15z
namespace Go.Ab.R15z
set_option maxRecDepth 100000
set_option linter.all false
set_option maxHeartbeats 4000000
def runL (p : UInt8 → Bool) : List UInt8 → Nat
 | [] => 0
 | c :: l => if p c then runL p l + 1 else 0
def runA (p : UInt8 → Bool) (s : List UInt8) (i : Nat) : Nat := runL p (s.drop i)
section
variable {p : UInt8 → Bool} {s : List UInt8} {i : Nat} {c : UInt8}
theorem drop_get (h : s[i]? = some c) : s.drop i = c :: s.drop (i + 1) := by
 obtain ⟨h1, h2⟩ := List.getElem?_eq_some_iff.1 h
 rw [← List.getElem_cons_drop (h := h1), h2]
theorem runA_end (h : s.length ≤ i) : runA p s i = 0 := by unfold runA; rw [List.drop_eq_nil_of_le h]; rfl
theorem runA_no (h : s[i]? = some c) (hp : p c = false) : runA p s i = 0 := by unfold runA; rw [drop_get h]; simp [runL, hp]
theorem runA_go (h : s[i]? = some c) (hp : p c = true) : runA p s i = runA p s (i + 1) + 1 := by unfold runA; rw [drop_get h]; simp [runL, hp]
theorem runL_le : ∀ l : List UInt8, runL p l ≤ l.length
 | [] => Nat.le_refl _
 | c :: l => by have := runL_le l; simp only [runL, List.length_cons]; split <;> omega
theorem runA_le (h : i ≤ s.length) : i + runA p s i ≤ s.length := by
 have := runL_le (p := p) (s.drop i)
 rw [List.length_drop] at this
 unfold runA; omega
end
def fig (c : UInt8) : Bool := decide (48 ≤ c.toNat) && decide (c.toNat ≤ 57)
def letter (c : UInt8) : Bool := (decide (65 ≤ c.toNat) && decide (c.toNat ≤ 90)) || (decide (97 ≤ c.toNat) && decide (c.toNat ≤ 122)) || decide (c.toNat = 95)
def nameB (c : UInt8) : Bool := letter c || fig c
def blank (c : UInt8) : Bool := decide (c.toNat = 32) || decide (c.toNat = 9)
def nameM : List UInt8 → Bool
 | [] => false
 | c :: l => letter c && l.all nameB
def skipL : Bool → List UInt8 → Nat
 | _, [] => 0
 | false, c :: l => if blank c then skipL false l + 1 else if c.toNat = 35 then skipL true l + 1 else 0
 | true, c :: l => if c.toNat = 10 then 0 else skipL true l + 1
def skipA (b : Bool) (s : List UInt8) (i : Nat) : Nat := skipL b (s.drop i)
section
variable {b : Bool} {s : List UInt8} {i : Nat} {c : UInt8}
theorem skipL_le : ∀ (l : List UInt8) (b : Bool), skipL b l ≤ l.length
 | [], b => by cases b <;> exact Nat.le_refl _
 | c :: l, false => by have := skipL_le l false; have := skipL_le l true; simp only [skipL, List.length_cons]; split <;> (try split) <;> omega
 | c :: l, true => by have := skipL_le l true; simp only [skipL, List.length_cons]; split <;> omega
theorem skipA_le (h : i ≤ s.length) : i + skipA b s i ≤ s.length := by
 have := skipL_le (s.drop i) b
 rw [List.length_drop] at this
 unfold skipA; omega
theorem skipA_end (h : s.length ≤ i) : skipA b s i = 0 := by unfold skipA; rw [List.drop_eq_nil_of_le h]; cases b <;> rfl
theorem skip_blank (h : s[i]? = some c) (hc : blank c = true) : skipA false s i = skipA false s (i + 1) + 1 := by unfold skipA; rw [drop_get h]; simp [skipL, hc]
theorem skip_mark (h : s[i]? = some c) (hc : c.toNat = 35) : skipA false s i = skipA true s i := by
 unfold skipA; rw [drop_get h]
 have : blank c = false := by simp [blank, hc]
 simp [skipL, this, hc]
theorem skip_stop (h : s[i]? = some c) (hc : blank c = false) (h2 : c.toNat ≠ 35) : skipA false s i = 0 := by unfold skipA; rw [drop_get h]; simp [skipL, hc, h2]
theorem skip_nl (h : s[i]? = some c) (hc : c.toNat = 10) : skipA b s i = 0 := by
 unfold skipA; rw [drop_get h]
 have : blank c = false := by simp [blank, hc]
 cases b <;> simp [skipL, this, hc]
theorem skip_in (h : s[i]? = some c) (hc : c.toNat ≠ 10) : skipA true s i = skipA true s (i + 1) + 1 := by unfold skipA; rw [drop_get h]; simp [skipL, hc]
end
/-! what is wrong has a number that isn't nought -/
def Enz (r : R) : Prop := ∀ e, r = .err e → e ≠ 0
section
variable {s : List UInt8}
theorem enz_ok {x i d : Nat} {t : List Re} : Enz (.ok x i d t) := fun e h => by cases h
theorem enz_err {e : Nat} (h : e ≠ 0) : Enz (.err e) := fun e' h' => by cases h'; exact h
theorem enz_put {r : Re} {i d : Nat} {t : List Re} : Enz (putM r i d t) := by unfold putM; split; exact enz_err (by decide); exact enz_ok
theorem enz_bind {a : R} {f : Nat → Nat → Nat → List Re → R} (h : Enz a) (hf : ∀ x i d t, Enz (f x i d t)) : Enz (a.bind f) := by
 cases a with
 | err e => exact h
 | ok x i d t => exact hf x i d t
theorem enz_atom {G : Nat → Nat → List Re → R} (hG : ∀ i d t, Enz (G i d t)) {i d : Nat} {t : List Re} : Enz (atomM s G i d t) := by
 unfold atomM
 repeat' split
 all_goals first | exact enz_err (by decide) | exact hG _ _ _ | exact enz_put
theorem enz_post : ∀ {f a i d : Nat} {t : List Re}, Enz (postL s f a i d t)
 | 0, a, i, d, t => enz_ok
 | f + 1, a, i, d, t => by
   unfold postL
   repeat' split
   all_goals first | exact enz_ok | exact enz_bind enz_put fun _ _ _ _ => enz_post
theorem enz_piece {G : Nat → Nat → List Re → R} (hG : ∀ i d t, Enz (G i d t)) {i d : Nat} {t : List Re} : Enz (pieceM s G i d t) := enz_bind (enz_atom hG) fun _ _ _ _ => enz_post
theorem enz_cat {G : Nat → Nat → List Re → R} (hG : ∀ i d t, Enz (G i d t)) : ∀ {f a i d : Nat} {t : List Re}, Enz (catL s G f a i d t)
 | 0, a, i, d, t => enz_ok
 | f + 1, a, i, d, t => by
   unfold catL
   split
   ·exact enz_ok
   ·exact enz_bind (enz_piece hG) fun _ _ _ _ => enz_bind enz_put fun _ _ _ _ => enz_cat hG
theorem enz_catM {G : Nat → Nat → List Re → R} (hG : ∀ i d t, Enz (G i d t)) {i d : Nat} {t : List Re} : Enz (catM s G i d t) := by
 unfold catM
 split
 ·exact enz_put
 ·exact enz_bind (enz_piece hG) fun _ _ _ _ => enz_cat hG
theorem enz_alt {G : Nat → Nat → List Re → R} (hG : ∀ i d t, Enz (G i d t)) : ∀ {f a i d : Nat} {t : List Re}, Enz (altL s G f a i d t)
 | 0, a, i, d, t => enz_ok
 | f + 1, a, i, d, t => by
   unfold altL
   split
   ·exact enz_bind (enz_catM hG) fun _ _ _ _ => enz_bind enz_put fun _ _ _ _ => enz_alt hG
   ·exact enz_ok
theorem enz_grp {A : Nat → Nat → List Re → R} (hA : ∀ i d t, Enz (A i d t)) : ∀ i d t, Enz (grpM s A i d t) := fun i d t => by
 unfold grpM
 split
 ·exact enz_err (by decide)
 ·refine enz_bind (hA _ _ _) fun x j d' t => ?_
  split
  ·exact enz_ok
  ·exact enz_err (by decide)
theorem enz_all : ∀ n i d t, Enz (allM s n i d t)
 | 0, _, _, _ => enz_err (by decide)
 | n + 1, _, _, _ => enz_bind (enz_catM (enz_grp (enz_all n))) fun _ _ _ _ => enz_alt (enz_grp (enz_all n))
theorem err_nz1 {e : Nat} (h : parse s = .error e) : e ≠ 0 := by
 unfold parse at h
 cases hr : allM s 31 0 0 [] with
 | err e' => rw [hr] at h; cases h; exact enz_all _ _ _ _ _ hr
 | ok a i d t =>
   rw [hr] at h
   simp only at h
   split at h
   ·cases h; decide
   ·cases h
end
structure Tok where
 kind : Nat
 pos : Nat
 text : List UInt8
 num : Int
 deriving DecidableEq
def tokD (t : Tok) : List D := [.int .i64 t.kind, .int .i64 t.pos, .str t.text, .int .i64 t.num]
def tokC (t : Tok) : List AV := [i64 t.kind, i64 t.pos, str t.text, i64 t.num]
def tok0 : Tok := ⟨0, 0, [], 0⟩
inductive Nx where
 | over
 | bad (kind : Nat)
 | ok (t : Tok) (n : Nat)
def numLen (s : List UInt8) : Nat :=
 let a := runA fig s 0
 match s[a]?, s[a + 1]? with
 | some c, some d => if c.toNat = 46 ∧ fig d = true then a + 1 + runA fig s (a + 1) else a
 | _, _ => a
def valL (l : List UInt8) : Nat := l.foldl (fun n c => n * 10 + (c.toNat - 48)) 0
def six (l : List UInt8) : List UInt8 := (l ++ [48, 48, 48, 48, 48, 48]).take 6
inductive Num where
 | form
 | over
 | ok (n : Int) (used : Nat)
def spB (s : List UInt8) : Nat := runA blank s 0
def spF (s : List UInt8) : Nat := match s[spB s]? with
 | some c => if c.toNat = 45 ∨ c.toNat = 43 then spB s + 1 else spB s
 | none => spB s
def spP (s : List UInt8) : Nat := spF s + runA fig s (spF s)
def spE (s : List UInt8) : Nat := if hit s (spP s) 46 then spP s + 1 + runA fig s (spP s + 1) else spP s
def spD (s : List UInt8) : List UInt8 := (s.take (spP s)).drop (spF s) ++ six ((s.take (spE s)).drop (spP s + 1))
def decM (s : List UInt8) : Num :=
 if spP s = spF s ∧ spE s ≤ spP s + 1 then .form else
 if hit s (spB s) 45 then (if 9223372036854775808 < valL (spD s) then .over else .ok (-(valL (spD s) : Int)) (spE s)) else (if 9223372036854775807 < valL (spD s) then .over else .ok (valL (spD s)) (spE s))
def numberM (s : List UInt8) : Nx :=
 match decM (s.take (numLen s)) with
 | .ok n _ => .ok ⟨2, 0, [], n⟩ (numLen s)
 | _ => .over
def escS : List UInt8 := [34, 92, 47]
def textL (s : List UInt8) : Nat → Nat → List UInt8 → Option (List UInt8 × Nat)
 | 0, _, _ => none
 | f + 1, i, o =>
   match s[i]? with
   | none => none
   | some c =>
     if c.toNat = 10 then none
     else if c.toNat = 34 then some (o, i + 1)
     else if c.toNat ≠ 92 then textL s f (i + 1) (o ++ [c])
     else match s[i + 1]? with
      | none => none
      | some e =>
        if e ∈ escS then textL s f (i + 2) (o ++ [e])
        else match s[i + 2]?, s[i + 3]? with
         | some a, some b =>
           if e.toNat = 120 ∧ 0 ≤ digit a.toNat ∧ 0 ≤ digit b.toNat then
            (if 16 * (digit a.toNat).toNat + (digit b.toNat).toNat = 10 then none
             else textL s f (i + 4) (o ++ [UInt8.ofNat (16 * (digit a.toNat).toNat + (digit b.toNat).toNat)]))
           else none
         | _, _ => none
def textQ (s : List UInt8) : Nx :=
 match textL s s.length 1 [] with
 | none => .bad 0
 | some (o, n) => .ok ⟨3, 0, o, 0⟩ n
def exprL (s : List UInt8) : Nat → Nat → Option Nat
 | 0, _ => none
 | f + 1, i =>
   match s[i]? with
   | none => none
   | some c =>
     if c.toNat = 10 then none
     else if c.toNat = 92 then (if hit s (i + 1) 10 then none else exprL s f (i + 2))
     else if c.toNat = 47 then some i
     else exprL s f (i + 1)
def exprM (s : List UInt8) : Nx :=
 match exprL s s.length 1 with
 | none => .bad 0
 | some i => match parse ((s.take i).drop 1) with
   | .ok _ => .ok ⟨4, 0, (s.take i).drop 1, 0⟩ (i + 1)
   | .error _ => .bad 0
def keysL : List (List UInt8) := [[66, 69, 71, 73, 78], [69, 78, 68], [112, 114, 105, 110, 116], [105, 102], [101, 108, 115, 101], [119, 104, 105, 108, 101], [102, 111, 114], [105, 110], [98, 114, 101, 97, 107], [99, 111, 110, 116, 105, 110, 117, 101], [110, 101, 120, 116], [101, 120, 105, 116], [100, 101, 108, 101, 116, 101], [108, 101, 110, 103, 116, 104], [115, 117, 98, 115, 116, 114], [105, 110, 100, 101, 120], [116, 111, 117, 112, 112, 101, 114], [116, 111, 108, 111, 119, 101, 114], [115, 117, 98], [103, 115, 117, 98]]
def marksL : List (List UInt8) := [[123], [125], [40], [41], [91], [93], [44], [63], [58], [126], [33, 126], [33], [61, 61], [33, 61], [60, 61], [62, 61], [60], [62], [38, 38], [124, 124], [61], [43, 61], [45, 61], [42, 61], [47, 61], [37, 61], [43], [45], [42], [47], [37], [36]]
def wordLen (s : List UInt8) : Nat := 1 + runA nameB s 1
def wordM (s : List UInt8) : Nx := .ok ⟨if s.take (wordLen s) ∈ keysL then 6 else 5, 0, s.take (wordLen s), 0⟩ (wordLen s)
def bestL (s : List UInt8) : List (List UInt8) → List UInt8 → List UInt8
 | [], b => b
 | m :: l, b => bestL s l (if m.isPrefixOf s = true ∧ b.length < m.length then m else b)
def markM (s : List UInt8) : Nx :=
 let b := bestL s marksL []
 if b.length = 0 then .bad 7 else .ok ⟨7, 0, b, 0⟩ b.length
def nextM (s : List UInt8) (op : Bool) : Nx :=
 match s[0]? with
 | none => .bad 0
 | some c =>
   if c.toNat = 10 ∨ c.toNat = 59 then .ok ⟨1, 0, [], 0⟩ 1
   else if fig c then numberM s
   else if c.toNat = 34 then textQ s
   else if c.toNat = 47 ∧ op = false then exprM s
   else if letter c then wordM s
   else markM s
def opM (t : Tok) : Bool := (decide (2 ≤ t.kind) && decide (t.kind ≤ 5)) || (decide (t.kind = 7) && (decide (t.text = [41]) || decide (t.text = [93])))
inductive Ts where
 | err (e i : Nat)
 | ok (l : List Tok)
 deriving DecidableEq
def toksL (s : List UInt8) : Nat → Nat → Bool → List Tok → Ts
 | 0, i, _, _ => .err 6 i
 | f + 1, i, op, l =>
   let j := i + skipA false s i
   if j < s.length then
    match nextM (s.drop j) op with
    | .over => .err 3 j
    | .bad _ => .err 9 j
    | .ok t n => if 2000 ≤ l.length then .err 6 j else toksL s f (j + n) (opM { t with pos := j }) (l ++ [{ t with pos := j }])
   else if 2000 ≤ l.length then .err 6 j else .ok (l ++ [{ tok0 with pos := j }])
def toksM (s : List UInt8) : Ts := if 8192 < s.length then .err 6 0 else toksL s (s.length + 1) 0 false []
end Go.Ab.R15z
namespace Go.Ab.R15z
set_option maxRecDepth 100000
set_option linter.all false
set_option maxHeartbeats 4000000
variable {T : Tb} [hT : Base T]
section
variable {c : UInt8}
theorem blank_t (h : c.toNat = 32 ∨ c.toNat = 9) : blank c = true := by simp [blank]; omega
theorem blank_f (h : c.toNat ≠ 32) (h' : c.toNat ≠ 9) : blank c = false := by simp [blank]; omega
theorem fig_t (h : 48 ≤ c.toNat) (h' : c.toNat ≤ 57) : fig c = true := by simp [fig]; omega
theorem fig_f (h : c.toNat < 48 ∨ 57 < c.toNat) : fig c = false := by simp [fig]; omega
end
theorem isFig_ev (c : UInt8) (rf : Refs) : Ev T f_scan_isFigure [u8 c.toNat] rf (.ret (bl (fig c))) rf := by
 refine Ev.any ?_ rfl rf
 refine ev_fn rfl rfl ?_
 (repeat' (first| (intro (u_ : Unit); clear u_)| refine condT ?_| refine condF ?_| refine condp (by assumption) ?_| refine condn (by assumption) ?_| refine condN ?_| refine idxSb (by assumption) ?_| (refine condD ?_ ?_ <;> intro hq_ <;> first | (exfalso; omega) | skip)| (refine idxS (by omega) ?_; intro b_ hb_; have hl_ := b_.toNat_lt)| refine wrA (by omega) ?_| refine wrS (by omega) (by omega) ?_| refine wrI (by omega) (by omega) ?_| refine wrBA (by omega) ?_| refine wrB (by omega) (by omega) ?_| refine strC (by omega) ?_| refine nilB rfl ?_))
 all_goals (refine ⟨?_, rfl⟩; congr 3; rw [Bool.eq_iff_iff]; simp [fig]; omega)
theorem figE {c : UInt8} {rf : Refs} {k : Out → Refs → Prop} (h1 : fig c = true → k (.ret (bl true)) rf) (h2 : fig c = false → k (.ret (bl false)) rf) : CallE T f_scan_isFigure [u8 c.toNat] rf k := by
 refine callE_ev (isFig_ev c rf) ?_
 cases h : fig c
 ·exact h2 h
 ·exact h1 h
theorem skip_ev (s : List UInt8) (i0 : Nat) (h0 : i0 ≤ s.length) (hs : s.length ≤ 2 ^ 40) (rf : Refs) : Ev T f_scan_skip [str s, i64 i0] rf (.ret (i64 (i0 + skipA false s i0 : Nat))) rf := by
 refine Ev.any ?_ rfl rf
 generalize hR : i0 + skipA false s i0 = R
 refine ev_fn rfl rfl ?_
 (repeat' (first| (intro (u_ : Unit); clear u_)| refine condT ?_| refine condF ?_| refine condp (by assumption) ?_| refine condn (by assumption) ?_| refine condN ?_| refine idxSb (by assumption) ?_| (refine condD ?_ ?_ <;> intro hq_ <;> first | (exfalso; omega) | skip)| (refine idxS (by omega) ?_; intro b_ hb_; have hl_ := b_.toNat_lt)| refine wrA (by omega) ?_| refine wrS (by omega) (by omega) ?_| refine wrI (by omega) (by omega) ?_| refine wrBA (by omega) ?_| refine wrB (by omega) (by omega) ?_| refine strC (by omega) ?_| refine nilB rfl ?_))
 refine loopR (fun i : Nat => [(1, i64 i)]) (fun _ => []) (fun i => s.length - i) (fun i => i ≤ s.length ∧ i + skipA false s i = R) i0 ⟨h0, hR⟩ (by rfl) (by rfl) ?_
 rintro i ⟨hi, hP⟩
 (repeat' (first| (intro (u_ : Unit); clear u_)| refine condT ?_| refine condF ?_| refine condp (by assumption) ?_| refine condn (by assumption) ?_| refine condN ?_| refine idxSb (by assumption) ?_| (refine condD ?_ ?_ <;> intro hq_ <;> first | (exfalso; omega) | skip)| (refine idxS (by omega) ?_; intro b_ hb_; have hl_ := b_.toNat_lt)| refine wrA (by omega) ?_| refine wrS (by omega) (by omega) ?_| refine wrI (by omega) (by omega) ?_| refine wrBA (by omega) ?_| refine wrB (by omega) (by omega) ?_| refine strC (by omega) ?_| refine nilB rfl ?_))
 all_goals first
  | exact ⟨i + 1, ⟨by omega, by rw [skip_blank (by assumption) (blank_t (by omega))] at hP; omega⟩, by omega, rfl, rfl, rfl, rfl⟩
  | (rw [skip_stop (by assumption) (blank_f (by omega) (by omega)) (by omega)] at hP; subst hP; exact ⟨rfl, rfl⟩)
  | (rw [skipA_end (by omega)] at hP; subst hP; exact ⟨rfl, rfl⟩)
  | skip
 rw [skip_mark (by assumption) (by omega)] at hP
 refine loopR (fun j : Nat => [(1, i64 j)]) (fun _ => []) (fun j => s.length - j) (fun j => i ≤ j ∧ j ≤ s.length ∧ (j = i → s[j]? = some b_) ∧ j + skipA true s j = R) i ⟨by omega, by omega, fun _ => by assumption, hP⟩ (by rfl) (by rfl) ?_
 rintro j ⟨hij, hj, hb, hQ⟩
 (repeat' (first| (intro (u_ : Unit); clear u_)| refine condT ?_| refine condF ?_| refine condp (by assumption) ?_| refine condn (by assumption) ?_| refine condN ?_| refine idxSb (by assumption) ?_| (refine condD ?_ ?_ <;> intro hq_ <;> first | (exfalso; omega) | skip)| (refine idxS (by omega) ?_; intro b_ hb_; have hl_ := b_.toNat_lt)| refine wrA (by omega) ?_| refine wrS (by omega) (by omega) ?_| refine wrI (by omega) (by omega) ?_| refine wrBA (by omega) ?_| refine wrB (by omega) (by omega) ?_| refine strC (by omega) ?_| refine nilB rfl ?_))
 ·exact ⟨j + 1, ⟨by omega, by omega, by omega, by rw [skip_in (by assumption) (by omega)] at hQ; omega⟩, by omega, rfl, rfl, rfl, rfl⟩
 ·have hne : j ≠ i := fun e => by
   have h1 := (hb e).symm.trans hb_
   cases h1
   omega
  refine ⟨j, ⟨by omega, ?_⟩, by omega, rfl, rfl, rfl, rfl⟩
  rw [skip_nl (by assumption) (by omega)] at hQ ⊢
  exact hQ
 ·have hne : j ≠ i := fun e => by omega
  refine ⟨j, ⟨by omega, ?_⟩, by omega, rfl, rfl, rfl, rfl⟩
  rw [skipA_end (by omega)] at hQ ⊢
  exact hQ
theorem figs_ev (s : List UInt8) (i0 : Nat) (h0 : i0 ≤ s.length) (hs : s.length ≤ 2 ^ 40) :
  Ev T f_scan_number_1 [.ptr 1 0, .ptr 0 0] [[str s], [i64 i0]] (.ret (.tup [])) [[str s], [i64 (i0 + runA fig s i0 : Nat)]] := by
 generalize hR : i0 + runA fig s i0 = R
 refine ev_fn rfl rfl ?_
 (repeat' (first| (intro (u_ : Unit); clear u_)| refine condT ?_| refine condF ?_| refine condp (by assumption) ?_| refine condn (by assumption) ?_| refine condN ?_| refine idxSb (by assumption) ?_| (refine condD ?_ ?_ <;> intro hq_ <;> first | (exfalso; omega) | skip)| (refine idxS (by omega) ?_; intro b_ hb_; have hl_ := b_.toNat_lt)| refine wrA (by omega) ?_| refine wrS (by omega) (by omega) ?_| refine wrI (by omega) (by omega) ?_| refine wrBA (by omega) ?_| refine wrB (by omega) (by omega) ?_| refine strC (by omega) ?_| refine nilB rfl ?_))
 refine loopR (fun _ : Nat => []) (fun i => [(1, [i64 i])]) (fun i => s.length - i) (fun i => i ≤ s.length ∧ i + runA fig s i = R) i0 ⟨h0, hR⟩ (by rfl) (by rfl) ?_
 rintro i ⟨hi, hP⟩
 (repeat' (first| (intro (u_ : Unit); clear u_)| refine condT ?_| refine condF ?_| refine condp (by assumption) ?_| refine condn (by assumption) ?_| refine condN ?_| refine idxSb (by assumption) ?_| (refine figE (fun hf_ => ?_) (fun hf_ => ?_))| (refine condD ?_ ?_ <;> intro hq_ <;> first | (exfalso; omega) | skip)| (refine idxS (by omega) ?_; intro b_ hb_; have hl_ := b_.toNat_lt)| refine wrA (by omega) ?_| refine wrS (by omega) (by omega) ?_| refine wrI (by omega) (by omega) ?_| refine wrBA (by omega) ?_| refine wrB (by omega) (by omega) ?_| refine strC (by omega) ?_| refine nilB rfl ?_))
 ·exact ⟨i + 1, ⟨by omega, by rw [runA_go (by assumption) (by assumption)] at hP; omega⟩, by omega, rfl, rfl, rfl, rfl⟩
 ·rw [runA_no (by assumption) (by assumption)] at hP; subst hP; exact ⟨rfl, rfl⟩
 ·rw [runA_end (by omega)] at hP; subst hP; exact ⟨rfl, rfl⟩
section
variable {s : List UInt8}
theorem spF_t {c : UInt8} (h : s[spB s]? = some c) (hc : c.toNat = 45 ∨ c.toNat = 43) : spF s = spB s + 1 := by unfold spF; rw [h]; simp only; rw [if_pos hc]
theorem spF_f {c : UInt8} (h : s[spB s]? = some c) (hc : c.toNat ≠ 45) (hc' : c.toNat ≠ 43) : spF s = spB s := by unfold spF; rw [h]; simp only; rw [if_neg (by omega)]
theorem spF_n (h : s.length ≤ spB s) : spF s = spB s := by unfold spF; rw [List.getElem?_eq_none h]
theorem spE_t {c : UInt8} (h : s[spP s]? = some c) (hc : c.toNat = 46) : spE s = spP s + 1 + runA fig s (spP s + 1) := by unfold spE; rw [if_pos (by rw [hit_some h]; exact decide_eq_true hc)]
theorem spE_f {c : UInt8} (h : s[spP s]? = some c) (hc : c.toNat ≠ 46) : spE s = spP s := by unfold spE; rw [if_neg (by rw [hit_some h]; simpa using hc)]
theorem spE_n (h : s.length ≤ spP s) : spE s = spP s := by unfold spE; rw [if_neg (by rw [hit_none h]; simp)]
theorem spB_le : spB s ≤ s.length := by have := runA_le (p := blank) (s := s) (Nat.zero_le _); unfold spB; omega
theorem spF_le : spB s ≤ spF s ∧ spF s ≤ s.length := by
 have := spB_le (s := s)
 unfold spF
 split
 ·rename_i c h
  have := (List.getElem?_eq_some_iff.1 h).1
  split <;> omega
 ·omega
theorem spP_le : spF s ≤ spP s ∧ spP s ≤ s.length := by
 have h1 := spF_le (s := s)
 have := runA_le (p := fig) h1.2
 unfold spP; omega
theorem spE_le : spP s ≤ spE s ∧ spE s ≤ s.length := by
 have h1 := spP_le (s := s)
 unfold spE
 split
 ·rename_i h
  have := hit_lt h
  have := runA_le (p := fig) (s := s) (i := spP s + 1) (by omega)
  omega
 ·omega
end
theorem span_ev (s : List UInt8) (hs : s.length ≤ 2 ^ 40) (rf : Refs) : Ev T f_dec_span [str s] rf (.ret (.tup [i64 (spB s), i64 (spF s), i64 (spP s), i64 (spE s)])) rf := by
 refine Ev.any ?_ rfl rf
 have l1 := spF_le (s := s); have l2 := spP_le (s := s); have l3 := spE_le (s := s)
 refine ev_fn rfl rfl ?_
 (repeat' (first| (intro (u_ : Unit); clear u_)| refine condT ?_| refine condF ?_| refine condp (by assumption) ?_| refine condn (by assumption) ?_| refine condN ?_| refine idxSb (by assumption) ?_| (refine condD ?_ ?_ <;> intro hq_ <;> first | (exfalso; omega) | skip)| (refine idxS (by omega) ?_; intro b_ hb_; have hl_ := b_.toNat_lt)| refine wrA (by omega) ?_| refine wrS (by omega) (by omega) ?_| refine wrI (by omega) (by omega) ?_| refine wrBA (by omega) ?_| refine wrB (by omega) (by omega) ?_| refine strC (by omega) ?_| refine nilB rfl ?_))
 refine loopR (fun i : Nat => [(2, i64 i)]) (fun _ => []) (fun i => s.length - i) (fun i => i ≤ s.length ∧ i + runA blank s i = spB s) 0 ⟨by omega, by simp [spB]⟩ (by rfl) (by rfl) ?_
 rintro i ⟨hi, hP⟩
 (repeat' (first| (intro (u_ : Unit); clear u_)| refine condT ?_| refine condF ?_| refine condp (by assumption) ?_| refine condn (by assumption) ?_| refine condN ?_| refine idxSb (by assumption) ?_| (refine condD ?_ ?_ <;> intro hq_ <;> first | (exfalso; omega) | skip)| (refine idxS (by omega) ?_; intro b_ hb_; have hl_ := b_.toNat_lt)| refine wrA (by omega) ?_| refine wrS (by omega) (by omega) ?_| refine wrI (by omega) (by omega) ?_| refine wrBA (by omega) ?_| refine wrB (by omega) (by omega) ?_| refine strC (by omega) ?_| refine nilB rfl ?_))
 all_goals first
  | exact ⟨i + 1, ⟨by omega, by rw [runA_go (by assumption) (blank_t (by omega))] at hP; omega⟩, by omega, rfl, rfl, rfl, rfl⟩
  | skip
 all_goals
  have hB : i = spB s := by
   first
   | (rw [runA_no (by assumption) (blank_f (by omega) (by omega))] at hP; omega)
   | (rw [runA_end (by omega)] at hP; omega)
  clear hP
  subst hB
  refine loopR (fun i : Nat => [(4, i64 i)]) (fun _ => []) (fun i => s.length - i) (fun i => i ≤ s.length ∧ i + runA fig s i = spP s) _ ⟨?_, ?_⟩ (by rfl) (by rfl) ?_
  rotate_right
  ·rintro j ⟨hj, hQ⟩
   have hF : spF s = spB s ∨ spF s = spB s + 1 := by unfold spF; split <;> (try split) <;> simp
   have hG : i64 (spF s : Nat) = i64 (spF s : Nat) := rfl
   first
    | rw [spF_t (by assumption) (by omega)] at hG l1 l2 ⊢
    | rw [spF_f (by assumption) (by omega) (by omega)] at hG l1 l2 ⊢
    | rw [spF_n (by omega)] at hG l1 l2 ⊢
   clear hF hG
   (repeat' (first| (intro (u_ : Unit); clear u_)| refine condT ?_| refine condF ?_| refine condp (by assumption) ?_| refine condn (by assumption) ?_| refine condN ?_| refine idxSb (by assumption) ?_| (refine condD ?_ ?_ <;> intro hq_ <;> first | (exfalso; omega) | skip)| (refine idxS (by omega) ?_; intro b_ hb_; have hl_ := b_.toNat_lt)| refine wrA (by omega) ?_| refine wrS (by omega) (by omega) ?_| refine wrI (by omega) (by omega) ?_| refine wrBA (by omega) ?_| refine wrB (by omega) (by omega) ?_| refine strC (by omega) ?_| refine nilB rfl ?_))
   all_goals first
    | exact ⟨j + 1, ⟨by omega, by rw [runA_go (by assumption) (fig_t (by omega) (by omega))] at hQ; omega⟩, by omega, rfl, rfl, rfl, rfl⟩
    | skip
   all_goals
    have hB : j = spP s := by
     first
     | (rw [runA_no (by assumption) (fig_f (by omega))] at hQ; omega)
     | (rw [runA_end (by omega)] at hQ; omega)
    clear hQ
    subst hB
   all_goals first
    | (rw [spE_f (by assumption) (by omega)]; exact ⟨rfl, rfl⟩)
    | (rw [spE_n (by omega)]; exact ⟨rfl, rfl⟩)
    | skip
   all_goals
    rw [spE_t (by assumption) (by omega)]
    refine loopR (fun i : Nat => [(5, i64 i)]) (fun _ => []) (fun i => s.length - i) (fun i => i ≤ s.length ∧ i + runA fig s i = spP s + 1 + runA fig s (spP s + 1)) _ ⟨?_, ?_⟩ (by rfl) (by rfl) ?_
    rotate_right
    ·rintro m ⟨hm, hM⟩
     (repeat' (first| (intro (u_ : Unit); clear u_)| refine condT ?_| refine condF ?_| refine condp (by assumption) ?_| refine condn (by assumption) ?_| refine condN ?_| refine idxSb (by assumption) ?_| (refine condD ?_ ?_ <;> intro hq_ <;> first | (exfalso; omega) | skip)| (refine idxS (by omega) ?_; intro b_ hb_; have hl_ := b_.toNat_lt)| refine wrA (by omega) ?_| refine wrS (by omega) (by omega) ?_| refine wrI (by omega) (by omega) ?_| refine wrBA (by omega) ?_| refine wrB (by omega) (by omega) ?_| refine strC (by omega) ?_| refine nilB rfl ?_))
     all_goals first
      | exact ⟨m + 1, ⟨by omega, by rw [runA_go (i := m) (by assumption) (fig_t (by omega) (by omega))] at hM; omega⟩, by omega, rfl, rfl, rfl, rfl⟩
      | (rw [runA_no (i := m) (by assumption) (fig_f (by omega))] at hM; rw [← hM]; exact ⟨rfl, rfl⟩)
      | (rw [runA_end (i := m) (by omega)] at hM; rw [← hM]; exact ⟨rfl, rfl⟩)
    ·omega
    ·rfl
  ·omega
  ·first
    | (unfold spP; rw [spF_t (by assumption) (by omega)])
    | (unfold spP; rw [spF_f (by assumption) (by omega) (by omega)])
    | (unfold spP; rw [spF_n (by omega)])
end Go.Ab.R15z
