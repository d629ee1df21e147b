/- A part of the proof: tools. No condition. -/
import Derived.Test.YtmpdgijnoekfmaaDoorC8
import Derived.Test.YtmpdgijnoekfmaaDoorL2
import Derived.Test.YtmpdgijnoekfmaaDoorProg
set_option linter.all false
namespace Go.Ab.R15
open Go.RowKit Go.Proofs
set_option maxRecDepth 100000
set_option linter.all false
set_option maxHeartbeats 4000000

theorem idxByte_pl {a : List AV} {v : AV} (h : idxByte a = some v) : v.refB = 0 ∧ AV.refBs a = 0 := by
  unfold idxByte at h
  split at h
  · cases h; exact ⟨rfl, rfl⟩
  · cases h
theorem splitO_pl {a : List AV} {v : AV} (h : splitO a = some v) : v.refB = 0 ∧ AV.refBs a = 0 := by
  unfold splitO at h
  split at h
  · split at h
    · cases h; exact ⟨rfl, rfl⟩
    · cases h
  · cases h
theorem mul64O_pl {a : List AV} {v : AV} (h : mul64O a = some v) : v.refB = 0 ∧ AV.refBs a = 0 := by
  unfold mul64O at h
  split at h
  · split at h
    · cases h; exact ⟨rfl, rfl⟩
    · cases h
  · cases h
theorem add64O_pl {a : List AV} {v : AV} (h : add64O a = some v) : v.refB = 0 ∧ AV.refBs a = 0 := by
  unfold add64O at h
  split at h
  · split at h
    · cases h; exact ⟨rfl, rfl⟩
    · cases h
  · cases h

def orcL : List (Nat × (List AV → Option AV)) := [(f_bytealg_IndexByteString, idxByte), (f_strings_Split, splitO), (f_bits_Mul64, mul64O), (f_bits_Add64, add64O)]
def T2 : Tb := ⟨lookupF tabl, lookupF tabD, orcOf orcL⟩
theorem fitN : FitN Tryd.prog (lookupF tabl) := fitN_of (by decide +kernel)
theorem fitD : FitD Tryd.prog (lookupF tabD) := fitD_of (by decide +kernel)
theorem orcL_pl {a : List AV} {v : AV} {f : FuncId} (h : orcOf orcL f a = some v) : v.refB = 0 ∧ AV.refBs a = 0 := by
  simp only [orcL, orcOf] at h
  split at h
  · exact idxByte_pl h
  · split at h
    · exact splitO_pl h
    · split at h
      · exact mul64O_pl h
      · split at h
        · exact add64O_pl h
        · cases h
instance : ScanB T2 where
  tab := fun f af h => let ⟨_, _, hf, _⟩ := fitN f af h; hf.cok
  tabD := fun f af h => let ⟨_, _, hf, _⟩ := fitD f af h; hf.cok
  orc := fun f a v h => orcL_pl h
  tb := rfl
  td := rfl
  idx := fun args => rfl
  none := fun f args h1 => orcOf_none (fun p hp e => by
    simp only [orcL, List.mem_cons, List.not_mem_nil, or_false] at hp
    rcases hp with rfl | rfl | rfl | rfl <;> (subst e; exact absurd h1 (by decide)))
  mul := fun args => rfl
  add := fun args => rfl
  spl := fun args => rfl

theorem orcIdx [Glb] : OrcAt Tryd.prog f_bytealg_IndexByteString idxByte := idxByte_ok (fn := Tryd.f55) Tryd.func55 (by decide +kernel) (by decide +kernel) (by rfl) (by rfl)
theorem orcAdd [Glb] : OrcAt Tryd.prog f_bits_Add64 add64O := add64O_ok (fn := Tryd.f43) Tryd.func43 (by decide +kernel) (by decide +kernel) (by rfl) (by rfl)

section
variable {T : Tb} [hS : ScanB T] {rf : Refs} {k : Out → Refs → Prop}
theorem tokE {s : List UInt8} {X : Ts} (hs : s.length ≤ 2 ^ 60) (hX : toksM s = X) (h : k (.ret (toksA X)) rf) : CallE T f_scan_Tokens [str s] rf k := callE_ev (Tokens_ev s hs rf) (by rw [hX]; exact h)
theorem idxTk {l : List Tok} {i : Nat} {t : Tok} {c : List D → Prop} (h : l[i]? = some t) (h' : c (tokD t)) : IdxL 4 (l.map tokD) (i : Int) c := idxLb (by rw [List.getElem?_map, h]; rfl) rfl h'
end

def shA : List Tok := [⟨5, 0, [97], 0⟩, ⟨7, 2, [47], 0⟩, ⟨5, 3, [98], 0⟩, ⟨7, 4, [47], 0⟩, ⟨2, 6, [], 2000000⟩, ⟨0, 7, [], 0⟩]
def shB : List Tok := [⟨7, 0, [126], 0⟩, ⟨4, 2, [98], 0⟩, ⟨0, 5, [], 0⟩]
theorem shA_eq : toksM [97, 32, 47, 98, 47, 32, 50] = .ok shA := by decide +kernel
theorem shB_eq : toksM [126, 32, 47, 98, 47] = .ok shB := by decide +kernel

theorem shown_ev {T : Tb} [hS : ScanB T] (rf : Refs) : Ev T f_law15_shown [] rf (.ret (bl true)) rf := by
  refine Ev.any ?_ rfl rf
  refine ev_fn rfl rfl ?_
  (repeat' (first
    | (intro (u_ : Unit); clear u_)
    | refine condT ?_
    | refine condF ?_
    | refine condp (by assumption) ?_
    | refine condn (by assumption) ?_
    | refine condN ?_
    | refine idxSb (by assumption) ?_
    | refine tokE (by decide) shA_eq ?_
    | refine tokE (by decide) shB_eq ?_
    | refine idxTk (l := shA) (i := 1) rfl ?_
    | refine idxTk (l := shA) (i := 4) rfl ?_
    | refine idxTk (l := shB) (i := 1) rfl ?_
    | refine condt (by decide) ?_
    | (refine condD ?_ ?_ <;> intro hq_ <;> first | (exfalso; omega) | skip)
    | (refine idxS (by omega) ?_; intro b_ hb_; have hl_ := b_.toNat_lt)
    | refine wrA (by omega) ?_
    | refine wrS (by omega) (by omega) ?_
    | refine wrI (by omega) (by omega) ?_
    | refine wrBA (by omega) ?_
    | refine wrB (by omega) (by omega) ?_
    | refine strC (by omega) ?_
    | refine nilB rfl ?_))
  exact ⟨rfl, rfl⟩
end Go.Ab.R15

namespace Go.Ab.R15
set_option maxRecDepth 100000
set_option linter.all false
set_option maxHeartbeats 4000000

theorem get_snoc {α : Type} {l : List α} {x t : α} {k : Nat} (h : (l ++ [x])[k]? = some t) : l[k]? = some t ∨ (k = l.length ∧ t = x) := by
  by_cases hk : k < l.length
  · rw [List.getElem?_append_left hk] at h; exact .inl h
  · rw [List.getElem?_append_right (by omega)] at h
    have h1 := (List.getElem?_eq_some_iff.1 h).1
    simp at h1
    have : k = l.length := by omega
    subst this
    simp at h
    exact .inr ⟨rfl, h.symm⟩

structure GoodT (s : List UInt8) (i : Nat) (l : List Tok) : Prop where
  lt : ∀ (k : Nat) (t : Tok), l[k]? = some t → t.pos < i ∧ 1 ≤ t.kind
  up : ∀ (k : Nat) (a b : Tok), l[k]? = some a → l[k + 1]? = some b → a.pos < b.pos
structure Places (s : List UInt8) (l : List Tok) : Prop where
  pos : ∀ (k : Nat) (t : Tok), l[k]? = some t → t.pos ≤ s.length ∧ (t.kind = 0 ↔ k + 1 = l.length)
  up : ∀ (k : Nat) (a b : Tok), l[k]? = some a → l[k + 1]? = some b → a.pos < b.pos
  ne : 0 < l.length
  le : l.length ≤ 2000

theorem up_snoc {l : List Tok} {x : Tok} (h : ∀ (k : Nat) (a b : Tok), l[k]? = some a → l[k + 1]? = some b → a.pos < b.pos) (h1 : ∀ (k : Nat) (t : Tok), l[k]? = some t → t.pos < x.pos) :
    ∀ (k : Nat) (a b : Tok), (l ++ [x])[k]? = some a → (l ++ [x])[k + 1]? = some b → a.pos < b.pos := fun k a b ha hb => by
  have hl := (List.getElem?_eq_some_iff.1 hb).1
  simp only [List.length_append, List.length_cons, List.length_nil] at hl
  have ha' : l[k]? = some a := by rwa [List.getElem?_append_left (by omega)] at ha
  rcases get_snoc hb with hb1 | ⟨_, e⟩
  · exact h k a b ha' hb1
  · rw [e]; exact h1 k a ha'

theorem good_snoc {s : List UInt8} {i j : Nat} {l : List Tok} {x : Tok} (h : GoodT s i l) (h1 : i ≤ x.pos) (h2 : x.pos < j) (hk : 1 ≤ x.kind) : GoodT s j (l ++ [x]) where
  lt := fun k t ht => by
    rcases get_snoc ht with h3 | ⟨_, e⟩
    · have := h.lt k t h3; omega
    · rw [e]; exact ⟨h2, hk⟩
  up := up_snoc h.up fun k t ht => by have := h.lt k t ht; omega

theorem places_end {s : List UInt8} {i : Nat} {l : List Tok} {x : Tok} (h : GoodT s i l) (h1 : i ≤ x.pos) (h2 : x.pos ≤ s.length) (hi : i ≤ s.length) (hk : x.kind = 0) (hl : l.length < 2000) : Places s (l ++ [x]) where
  pos := fun k t ht => by
    simp only [List.length_append, List.length_cons, List.length_nil]
    rcases get_snoc ht with h3 | ⟨hk1, e⟩
    · have h4 := h.lt k t h3
      have h5 := (List.getElem?_eq_some_iff.1 h3).1
      exact ⟨by omega, fun h => by omega, fun h => by omega⟩
    · rw [e]
      exact ⟨h2, fun _ => by omega, fun _ => hk⟩
  up := up_snoc h.up fun k t ht => by have := h.lt k t ht; omega
  ne := by simp
  le := by simp; omega

theorem toksL_places {s : List UInt8} : ∀ (f i : Nat) (op : Bool) (l : List Tok), i ≤ s.length → GoodT s i l → match toksL s f i op l with
    | .err e j => e ≠ 0 ∧ j ≤ s.length
    | .ok r => Places s r
  | 0, i, op, l, hi, h => ⟨by decide, hi⟩
  | f + 1, i, op, l, hi, h => by
    rw [toks_go]
    have hj := skipA_le (b := false) hi
    have hij : i ≤ i + skipA false s i := by omega
    generalize i + skipA false s i = j at *
    by_cases hlt : j < s.length
    · rw [if_pos hlt]
      cases hx : nextM (s.drop j) op with
      | over => exact ⟨by decide, hj⟩
      | bad k => exact ⟨by decide, hj⟩
      | ok t n =>
        obtain ⟨n1, n2, k1, k2, _⟩ := next_ok hx
        rw [List.length_drop] at n2
        simp only
        by_cases hfull : 2000 ≤ l.length
        · rw [if_pos hfull]; exact ⟨by decide, hj⟩
        · rw [if_neg hfull]
          exact toksL_places f (j + n) _ _ (by omega) (good_snoc h hij (show j < j + n by omega) k1)
    · rw [if_neg hlt]
      by_cases hfull : 2000 ≤ l.length
      · rw [if_pos hfull]; exact ⟨by decide, hj⟩
      · rw [if_neg hfull]
        exact places_end h hij hj hi rfl (by omega)

theorem toksM_places (s : List UInt8) : match toksM s with
    | .err e j => e ≠ 0 ∧ j ≤ s.length
    | .ok r => Places s r := by
  unfold toksM
  by_cases h : 8192 < s.length
  · rw [if_pos h]; exact ⟨by decide, Nat.zero_le _⟩
  · rw [if_neg h]; exact toksL_places _ _ _ _ (Nat.zero_le _) ⟨fun k t h => by simp at h, fun k a b h => by simp at h⟩

theorem idxTi {l : List Tok} {n : Int} {i : Nat} {t : Tok} {c : List D → Prop} (hn : n = i) (h : l[i]? = some t) (h' : c (tokD t)) : IdxL 4 (l.map tokD) n c := by subst hn; exact idxTk h h'
theorem beqT {p q : Prop} [Decidable p] [Decidable q] (h : p ↔ q) : (decide p == decide q) = true := by
  rw [beq_iff_eq]; exact decide_eq_decide.2 h
theorem beqN {b : Bool} (h : b = true) : (b != true) = false := by subst h; rfl

theorem ScanPlaces_ev {T : Tb} [hS : ScanB T] (s : List UInt8) (hs : s.length ≤ 2 ^ 47) : Ev T f_law15_ScanPlaces [str s] [] (.ret (bl true)) [] := by
  by_cases hbig : 3000 < s.length
  · refine ev_fn rfl rfl ?_
    (repeat' (first
      | (intro (u_ : Unit); clear u_)
      | refine condT ?_
      | refine condF ?_
      | refine condp (by assumption) ?_
      | refine condn (by assumption) ?_
      | refine condN ?_
      | refine idxSb (by assumption) ?_
      | refine callE_ev (shown_ev _) ?_
      | (refine condD ?_ ?_ <;> intro hq_ <;> first | (exfalso; omega) | skip)
      | (refine idxS (by omega) ?_; intro b_ hb_; have hl_ := b_.toNat_lt)
      | refine wrA (by omega) ?_
      | refine wrS (by omega) (by omega) ?_
      | refine wrI (by omega) (by omega) ?_
      | refine wrBA (by omega) ?_
      | refine wrB (by omega) (by omega) ?_
      | refine strC (by omega) ?_
      | refine nilB rfl ?_))
    exact ⟨rfl, rfl⟩
  have hp := toksM_places s
  cases hx : toksM s with
  | err e j =>
    rw [hx] at hp
    obtain ⟨he, hj⟩ := hp
    refine ev_fn rfl rfl ?_
    (repeat' (first
      | (intro (u_ : Unit); clear u_)
      | refine condT ?_
      | refine condF ?_
      | refine condp (by assumption) ?_
      | refine condn (by assumption) ?_
      | refine condN ?_
      | refine idxSb (by assumption) ?_
      | refine callE_ev (shown_ev _) ?_
      | refine tokE (by omega) hx ?_
      | (refine condD ?_ ?_ <;> intro hq_ <;> first | (exfalso; omega) | skip)
      | (refine idxS (by omega) ?_; intro b_ hb_; have hl_ := b_.toNat_lt)
      | refine wrA (by omega) ?_
      | refine wrS (by omega) (by omega) ?_
      | refine wrI (by omega) (by omega) ?_
      | refine wrBA (by omega) ?_
      | refine wrB (by omega) (by omega) ?_
      | refine strC (by omega) ?_
      | refine nilB rfl ?_))
    refine ⟨?_, rfl⟩
    congr 3
    simp
    omega
  | ok l =>
    rw [hx] at hp
    have hml : (l.map tokD).length = l.length := by simp
    have hne := hp.ne
    have hle := hp.le
    refine ev_fn rfl rfl ?_
    (repeat' (first
      | (intro (u_ : Unit); clear u_)
      | refine condT ?_
      | refine condF ?_
      | refine condp (by assumption) ?_
      | refine condn (by assumption) ?_
      | refine condN ?_
      | refine idxSb (by assumption) ?_
      | refine callE_ev (shown_ev _) ?_
      | refine tokE (by omega) hx ?_
      | (refine condD ?_ ?_ <;> intro hq_ <;> first | (exfalso; omega) | skip)
      | (refine idxS (by omega) ?_; intro b_ hb_; have hl_ := b_.toNat_lt)
      | refine wrA (by omega) ?_
      | refine wrS (by omega) (by omega) ?_
      | refine wrI (by omega) (by omega) ?_
      | refine wrBA (by omega) ?_
      | refine wrB (by omega) (by omega) ?_
      | refine strC (by omega) ?_
      | refine nilB rfl ?_))
    refine loopR (fun i : Nat => [(7, i64 i)]) (fun _ => []) (fun i => l.length - i) (fun i => i ≤ l.length) 0 (by omega) (by rfl) (by rfl) ?_
    intro i hi
    by_cases hlt : i < l.length
    · obtain ⟨t, ht⟩ : ∃ t, l[i]? = some t := ⟨_, List.getElem?_eq_getElem hlt⟩
      have hp1 := hp.pos i t ht
      have hb : (decide ((t.kind : Int) = ((0 : Nat) : Int)) == decide ((i : Int) = (((l.map tokD).length - 1 : Nat) : Int))) = true := beqT (by rw [hml]; omega)
      rcases i with _ | j
      · (repeat' (first
          | (intro (u_ : Unit); clear u_)
          | refine condT ?_
          | refine condF ?_
          | refine condp (by assumption) ?_
          | refine condn (by assumption) ?_
          | refine condN ?_
          | refine idxSb (by assumption) ?_
          | refine idxTk ht ?_
          | refine condf (beqN hb) ?_
          | (refine condD ?_ ?_ <;> intro hq_ <;> first | (exfalso; omega) | skip)
          | (refine idxS (by omega) ?_; intro b_ hb_; have hl_ := b_.toNat_lt)
          | refine wrA (by omega) ?_
          | refine wrS (by omega) (by omega) ?_
          | refine wrI (by omega) (by omega) ?_
          | refine wrBA (by omega) ?_
          | refine wrB (by omega) (by omega) ?_
          | refine strC (by omega) ?_
          | refine nilB rfl ?_))
        exact ⟨1, by omega, by omega, rfl, rfl, rfl, rfl⟩
      · obtain ⟨q, hq⟩ : ∃ t, l[j]? = some t := ⟨_, List.getElem?_eq_getElem (by omega)⟩
        have hup := hp.up j q t hq ht
        (repeat' (first
          | (intro (u_ : Unit); clear u_)
          | refine condT ?_
          | refine condF ?_
          | refine condp (by assumption) ?_
          | refine condn (by assumption) ?_
          | refine condN ?_
          | refine idxSb (by assumption) ?_
          | refine idxTi (i := j + 1) rfl ht ?_
          | refine idxTi (i := j) (by omega) hq ?_
          | refine condf (beqN hb) ?_
          | (refine condD ?_ ?_ <;> intro hq_ <;> first | (exfalso; omega) | skip)
          | (refine idxS (by omega) ?_; intro b_ hb_; have hl_ := b_.toNat_lt)
          | refine wrA (by omega) ?_
          | refine wrS (by omega) (by omega) ?_
          | refine wrI (by omega) (by omega) ?_
          | refine wrBA (by omega) ?_
          | refine wrB (by omega) (by omega) ?_
          | refine strC (by omega) ?_
          | refine nilB rfl ?_))
        exact ⟨j + 2, by omega, by omega, rfl, rfl, rfl, rfl⟩
    · (repeat' (first
        | (intro (u_ : Unit); clear u_)
        | refine condT ?_
        | refine condF ?_
        | refine condp (by assumption) ?_
        | refine condn (by assumption) ?_
        | refine condN ?_
        | refine idxSb (by assumption) ?_
        | (refine condD ?_ ?_ <;> intro hq_ <;> first | (exfalso; omega) | skip)
        | (refine idxS (by omega) ?_; intro b_ hb_; have hl_ := b_.toNat_lt)
        | refine wrA (by omega) ?_
        | refine wrS (by omega) (by omega) ?_
        | refine wrI (by omega) (by omega) ?_
        | refine wrBA (by omega) ?_
        | refine wrB (by omega) (by omega) ?_
        | refine strC (by omega) ?_
        | refine nilB rfl ?_))
      exact ⟨rfl, rfl⟩
end Go.Ab.R15

namespace Go.Ab.R15
set_option maxRecDepth 100000
set_option linter.all false
set_option maxHeartbeats 4000000
variable {T : Tb} [hS : ScanB T]

/-! a text in quotes -/
def quo : List UInt8 → List UInt8
  | [] => []
  | c :: l => (if c.toNat = 34 ∨ c.toNat = 92 then [92, c] else [c]) ++ quo l
theorem quo_append (a b : List UInt8) : quo (a ++ b) = quo a ++ quo b := by
  induction a with
  | nil => rfl
  | cons c l ih => simp [quo, ih]
theorem quo_length (l : List UInt8) : l.length ≤ (quo l).length ∧ (quo l).length ≤ 2 * l.length := by
  induction l with
  | nil => simp [quo]
  | cons c l ih => simp only [quo, List.length_append, List.length_cons]; split <;> simp <;> omega

/-- reading it goes over the text, byte by byte -/
theorem textL_quo : ∀ (l p : List UInt8) (f : Nat) (o : List UInt8), (∀ c ∈ l, c.toNat ≠ 10) → (quo l).length < f → textL (p ++ (quo l ++ [34])) f p.length o = some (o ++ l, p.length + (quo l).length + 1)
  | [], p, f, o, _, hf => by
    obtain ⟨g, rfl⟩ : ∃ g, f = g + 1 := ⟨f - 1, by omega⟩
    have h0 : (p ++ (quo [] ++ [34]))[p.length]? = some 34 := by simp [quo]
    rw [tl_end h0 (by decide)]
    simp [quo]
  | c :: l, p, f, o, hn, hf => by
    have hc := hn c (by simp)
    have hl : ∀ c ∈ l, c.toNat ≠ 10 := fun c h => hn c (by simp [h])
    by_cases hq : c.toNat = 34 ∨ c.toNat = 92
    · have e : quo (c :: l) = [92, c] ++ quo l := by simp only [quo]; rw [if_pos hq]
      rw [e] at hf ⊢
      simp only [List.length_append, List.length_cons, List.length_nil] at hf
      obtain ⟨g, rfl⟩ : ∃ g, f = g + 1 := ⟨f - 1, by omega⟩
      have e2 : p ++ ([92, c] ++ quo l ++ [34]) = (p ++ [92, c]) ++ (quo l ++ [34]) := by simp
      have h0 : (p ++ ([92, c] ++ quo l ++ [34]))[p.length]? = some 92 := by simp
      have h1 : (p ++ ([92, c] ++ quo l ++ [34]))[p.length + 1]? = some c := by simp
      have hm : c ∈ escS := by
        simp only [escS, List.mem_cons, List.not_mem_nil, or_false, ← UInt8.toNat_inj]
        rcases hq with hq | hq
        · exact .inl hq
        · exact .inr (.inl hq)
      rw [tl_esc h0 (by decide) h1 hm, e2, show p.length + 2 = (p ++ [92, c]).length by simp, textL_quo l (p ++ [92, c]) g (o ++ [c]) hl (by omega)]
      simp; omega
    · have e : quo (c :: l) = [c] ++ quo l := by simp only [quo]; rw [if_neg hq]
      rw [e] at hf ⊢
      simp only [List.length_append, List.length_cons, List.length_nil] at hf
      obtain ⟨g, rfl⟩ : ∃ g, f = g + 1 := ⟨f - 1, by omega⟩
      have e2 : p ++ ([c] ++ quo l ++ [34]) = (p ++ [c]) ++ (quo l ++ [34]) := by simp
      have h0 : (p ++ ([c] ++ quo l ++ [34]))[p.length]? = some c := by simp
      rw [tl_plain h0 hc (by omega) (by omega), e2, show p.length + 1 = (p ++ [c]).length by simp, textL_quo l (p ++ [c]) g (o ++ [c]) hl (by omega)]
      simp; omega

theorem toks_quo {s : List UInt8} (hn : ∀ c ∈ s, c.toNat ≠ 10) (hs : s.length ≤ 1000) : toksM ([34] ++ quo s ++ [34]) = .ok [⟨3, 0, s, 0⟩, ⟨0, (quo s).length + 2, [], 0⟩] := by
  have hq := quo_length s
  have hlen : ([34] ++ quo s ++ [34] : List UInt8).length = (quo s).length + 2 := by simp
  have h0 : ([34] ++ quo s ++ [34] : List UInt8)[0]? = some 34 := rfl
  have hsk : skipA false ([34] ++ quo s ++ [34]) 0 = 0 := skip_stop h0 (by decide) (by decide)
  have ht : textL ([34] ++ quo s ++ [34]) ((quo s).length + 2) 1 [] = some (s, (quo s).length + 2) := by
    have := textL_quo s [34] ((quo s).length + 2) [] hn (by omega)
    rw [← List.append_assoc] at this
    simp only [List.length_cons, List.length_nil, List.nil_append] at this
    rw [show 0 + 1 + (quo s).length + 1 = (quo s).length + 2 by omega] at this
    exact this
  have hx : nextM ([34] ++ quo s ++ [34]) false = .ok ⟨3, 0, s, 0⟩ ((quo s).length + 2) := by
    unfold nextM
    rw [h0]
    simp only
    rw [if_neg (by decide), if_neg (by decide), if_pos (by decide)]
    unfold textQ
    rw [hlen, ht]
  unfold toksM
  rw [if_neg (by omega), hlen, toks_go, hsk, if_pos (by rw [hlen]; omega)]
  simp only [Nat.add_zero, List.drop_zero, Nat.zero_add]
  rw [hx]
  simp only
  rw [if_neg (by simp), toks_go, skipA_end (by rw [hlen]; omega), if_neg (by rw [hlen]; omega), if_neg (by simp)]
  rfl

theorem ScanTexts_ev (s : List UInt8) (hs : s.length ≤ 2 ^ 47) : Ev T f_law15_ScanTexts [str s] [] (.ret (bl true)) [] := by
  by_cases hbig : 1000 < s.length
  · refine ev_fn rfl rfl ?_
    (repeat' (first
      | (intro (u_ : Unit); clear u_)
      | refine condT ?_
      | refine condF ?_
      | refine condp (by assumption) ?_
      | refine condn (by assumption) ?_
      | refine condN ?_
      | refine idxSb (by assumption) ?_
      | refine callE_ev (shown_ev _) ?_
      | (refine condD ?_ ?_ <;> intro hq_ <;> first | (exfalso; omega) | skip)
      | (refine idxS (by omega) ?_; intro b_ hb_; have hl_ := b_.toNat_lt)
      | refine wrA (by omega) ?_
      | refine wrS (by omega) (by omega) ?_
      | refine wrI (by omega) (by omega) ?_
      | refine wrBA (by omega) ?_
      | refine wrB (by omega) (by omega) ?_
      | refine strC (by omega) ?_
      | refine nilB rfl ?_))
    exact ⟨rfl, rfl⟩
  refine ev_fn rfl rfl ?_
  (repeat' (first
    | (intro (u_ : Unit); clear u_)
    | refine condT ?_
    | refine condF ?_
    | refine condp (by assumption) ?_
    | refine condn (by assumption) ?_
    | refine condN ?_
    | refine idxSb (by assumption) ?_
    | refine callE_ev (shown_ev _) ?_
    | (refine condD ?_ ?_ <;> intro hq_ <;> first | (exfalso; omega) | skip)
    | (refine idxS (by omega) ?_; intro b_ hb_; have hl_ := b_.toNat_lt)
    | refine wrA (by omega) ?_
    | refine wrS (by omega) (by omega) ?_
    | refine wrI (by omega) (by omega) ?_
    | refine wrBA (by omega) ?_
    | refine wrB (by omega) (by omega) ?_
    | refine strC (by omega) ?_
    | refine nilB rfl ?_))
  refine loopR (fun i : Nat => [(5, i64 i), (4, str ([34] ++ quo (s.take i)))]) (fun _ => []) (fun i => s.length - i) (fun i => i ≤ s.length ∧ ∀ c ∈ s.take i, c.toNat ≠ 10) 0 ⟨by omega, by simp⟩ (by rfl) (by rfl) ?_
  rintro i ⟨hi, hn⟩
  by_cases hlt : i < s.length
  · obtain ⟨c, hc⟩ := getS hlt
    have hq := quo_length (s.take i)
    rw [List.length_take] at hq
    have hsub : (s.take (i + 1)).drop i = [c] := by
      rw [take_succ_of hc, List.drop_append_of_le_length (by rw [List.length_take]; omega), List.drop_eq_nil_of_le (by rw [List.length_take]; omega)]; rfl
    have hq1 : quo (s.take (i + 1)) = quo (s.take i) ++ (if c.toNat = 34 ∨ c.toNat = 92 then [92, c] else [c]) := by rw [take_succ_of hc, quo_append]; simp [quo]
    have hn1 : c.toNat ≠ 10 → ∀ x ∈ s.take (i + 1), x.toNat ≠ 10 := fun h x hx => by
      rw [take_succ_of hc] at hx
      rcases List.mem_append.1 hx with h1 | h1
      · exact hn x h1
      · simp at h1; subst h1; exact h
    generalize quo (s.take i) = Q at *
    (repeat' (first
      | (intro (u_ : Unit); clear u_)
      | refine condT ?_
      | refine condF ?_
      | refine condp (by assumption) ?_
      | refine condn (by assumption) ?_
      | refine condN ?_
      | refine idxSb (by assumption) ?_
      | (refine subBo (i := i) (j := i + 1) (by omega) (by omega) ?_; rw [hsub])
      | refine strC (by simp only [List.length_append, List.length_cons, List.length_nil] at *; omega) ?_
      | (refine condD ?_ ?_ <;> intro hq_ <;> first | (exfalso; omega) | skip)
      | (refine idxS (by omega) ?_; intro b_ hb_; have hl_ := b_.toNat_lt)
      | refine wrA (by omega) ?_
      | refine wrS (by omega) (by omega) ?_
      | refine wrI (by omega) (by omega) ?_
      | refine wrBA (by omega) ?_
      | refine wrB (by omega) (by omega) ?_
      | refine strC (by omega) ?_
      | refine nilB rfl ?_))
    all_goals first
      | exact ⟨rfl, rfl⟩
      | (refine ⟨i + 1, ⟨by omega, hn1 (by omega)⟩, by omega, ?_, rfl, rfl, rfl⟩
         rw [hq1]
         first | rw [if_pos (by omega)] | rw [if_neg (by omega)]
         simp [upd, Slots.get])
  · have hi' : i = s.length := by omega
    subst hi'
    rw [List.take_of_length_le (Nat.le_refl _)] at *
    have hx := toks_quo hn (by omega)
    have hq := quo_length s
    generalize quo s = Q at *
    (repeat' (first
      | (intro (u_ : Unit); clear u_)
      | refine condT ?_
      | refine condF ?_
      | refine condp (by assumption) ?_
      | refine condn (by assumption) ?_
      | refine condN ?_
      | refine idxSb (by assumption) ?_
      | refine strC (by simp only [List.length_append, List.length_cons, List.length_nil] at *; omega) ?_
      | refine tokE (by simp only [List.length_append, List.length_cons, List.length_nil] at *; omega) hx ?_
      | refine idxTk (l := [⟨3, 0, s, 0⟩, ⟨0, Q.length + 2, [], 0⟩]) (i := 0) rfl ?_
      | refine idxTk (l := [⟨3, 0, s, 0⟩, ⟨0, Q.length + 2, [], 0⟩]) (i := 1) rfl ?_
      | refine condt (decide_eq_true rfl) ?_
      | (refine condD ?_ ?_ <;> intro hq_ <;> first | (exfalso; omega) | skip)
      | (refine idxS (by omega) ?_; intro b_ hb_; have hl_ := b_.toNat_lt)
      | refine wrA (by omega) ?_
      | refine wrS (by omega) (by omega) ?_
      | refine wrI (by omega) (by omega) ?_
      | refine wrBA (by omega) ?_
      | refine wrB (by omega) (by omega) ?_
      | refine strC (by omega) ?_
      | refine nilB rfl ?_))
    all_goals exact ⟨rfl, rfl⟩

/-! operands, of whatever numbers -/
def opZ (k : Int) (x : List UInt8) : Bool := (decide (2 ≤ k) && decide (k ≤ 5)) || (decide (k = 7) && (decide (x = [41]) || decide (x = [93])))
theorem OperandZ_ev (k p n : Int) (x : List UInt8) (rf : Refs) : Ev T f_scan_Operand [.agg [i64 k, i64 p, str x, i64 n]] rf (.ret (bl (opZ k x))) rf := by
  refine Ev.any ?_ rfl rf
  refine ev_fn rfl rfl ?_
  (repeat' (first
    | (intro (u_ : Unit); clear u_)
    | refine condT ?_
    | refine condF ?_
    | refine condp (by assumption) ?_
    | refine condn (by assumption) ?_
    | refine condN ?_
    | refine idxSb (by assumption) ?_
    | (refine condD ?_ ?_ <;> intro hq_ <;> first | (exfalso; omega) | skip)
    | (refine idxS (by omega) ?_; intro b_ hb_; have hl_ := b_.toNat_lt)
    | refine wrA (by omega) ?_
    | refine wrS (by omega) (by omega) ?_
    | refine wrI (by omega) (by omega) ?_
    | refine wrBA (by omega) ?_
    | refine wrB (by omega) (by omega) ?_
    | refine strC (by omega) ?_
    | refine nilB rfl ?_))
  all_goals (refine ⟨?_, rfl⟩; congr 3; rw [Bool.eq_iff_iff]; by_cases x1 : x = [41] <;> by_cases x2 : x = [93] <;> simp [opZ, x1, x2] at * <;> omega)
theorem rOperandZ_ev (k p n : Int) (x : List UInt8) (rf : Refs) : Ev T f_ref15_Operand [.agg [i64 k, i64 p, str x, i64 n]] rf (.ret (bl (opZ k x))) rf := by
  refine Ev.any ?_ rfl rf
  refine ev_fn rfl rfl ?_
  (repeat' (first
    | (intro (u_ : Unit); clear u_)
    | refine condT ?_
    | refine condF ?_
    | refine condp (by assumption) ?_
    | refine condn (by assumption) ?_
    | refine condN ?_
    | refine idxSb (by assumption) ?_
    | (refine condD ?_ ?_ <;> intro hq_ <;> first | (exfalso; omega) | skip)
    | (refine idxS (by omega) ?_; intro b_ hb_; have hl_ := b_.toNat_lt)
    | refine wrA (by omega) ?_
    | refine wrS (by omega) (by omega) ?_
    | refine wrI (by omega) (by omega) ?_
    | refine wrBA (by omega) ?_
    | refine wrB (by omega) (by omega) ?_
    | refine strC (by omega) ?_
    | refine nilB rfl ?_))
  all_goals (refine ⟨?_, rfl⟩; congr 3; rw [Bool.eq_iff_iff]; by_cases x1 : x = [41] <;> by_cases x2 : x = [93] <;> simp [opZ, x1, x2] at * <;> omega)
theorem ScanOperands_ev (k p n : Int) (x : List UInt8) : Ev T f_law15_ScanOperands [.agg [i64 k, i64 p, str x, i64 n]] [] (.ret (bl true)) [] := by
  have h1 := OperandZ_ev (T := T) k p n x
  have h2 := rOperandZ_ev (T := T) k p n x
  generalize opZ k x = q at *
  cases q
  · refine ev_fn rfl rfl ?_
    (repeat' (first
      | (intro (u_ : Unit); clear u_)
      | refine condT ?_
      | refine condF ?_
      | refine condp (by assumption) ?_
      | refine condn (by assumption) ?_
      | refine condN ?_
      | refine idxSb (by assumption) ?_
      | refine callE_ev (shown_ev _) ?_
      | refine callE_ev (h1 _) ?_
      | refine callE_ev (h2 _) ?_
      | (refine condD ?_ ?_ <;> intro hq_ <;> first | (exfalso; omega) | skip)
      | (refine idxS (by omega) ?_; intro b_ hb_; have hl_ := b_.toNat_lt)
      | refine wrA (by omega) ?_
      | refine wrS (by omega) (by omega) ?_
      | refine wrI (by omega) (by omega) ?_
      | refine wrBA (by omega) ?_
      | refine wrB (by omega) (by omega) ?_
      | refine strC (by omega) ?_
      | refine nilB rfl ?_))
    exact ⟨rfl, rfl⟩
  · refine ev_fn rfl rfl ?_
    (repeat' (first
      | (intro (u_ : Unit); clear u_)
      | refine condT ?_
      | refine condF ?_
      | refine condp (by assumption) ?_
      | refine condn (by assumption) ?_
      | refine condN ?_
      | refine idxSb (by assumption) ?_
      | refine callE_ev (shown_ev _) ?_
      | refine callE_ev (h1 _) ?_
      | refine callE_ev (h2 _) ?_
      | (refine condD ?_ ?_ <;> intro hq_ <;> first | (exfalso; omega) | skip)
      | (refine idxS (by omega) ?_; intro b_ hb_; have hl_ := b_.toNat_lt)
      | refine wrA (by omega) ?_
      | refine wrS (by omega) (by omega) ?_
      | refine wrI (by omega) (by omega) ?_
      | refine wrBA (by omega) ?_
      | refine wrB (by omega) (by omega) ?_
      | refine strC (by omega) ?_
      | refine nilB rfl ?_))
    exact ⟨rfl, rfl⟩
end Go.Ab.R15
