/- A part of the proof: tools. No condition. -/
import Derived.Test.YtmpdgijnoekfmaaDoorC8
import Derived.Test.YtmpdgijnoekfmaaDoorL2
import Derived.Test.YtmpdgijnoekfmaaDoorProg
set_option linter.all false
namespace Go.Ab.R15
open Go.RowKit Go.Proofs
set_option maxRecDepth 100000
set_option linter.all false
set_option maxHeartbeats 4000000

theorem idxByte_pl {a : List AV} {v : AV} (h : idxByte a = some v) : v.refB = 0 ∧ AV.refBs a = 0 := by
  unfold idxByte at h
  split at h
  · cases h; exact ⟨rfl, rfl⟩
  · cases h
theorem splitO_pl {a : List AV} {v : AV} (h : splitO a = some v) : v.refB = 0 ∧ AV.refBs a = 0 := by
  unfold splitO at h
  split at h
  · split at h
    · cases h; exact ⟨rfl, rfl⟩
    · cases h
  · cases h
theorem mul64O_pl {a : List AV} {v : AV} (h : mul64O a = some v) : v.refB = 0 ∧ AV.refBs a = 0 := by
  unfold mul64O at h
  split at h
  · split at h
    · cases h; exact ⟨rfl, rfl⟩
    · cases h
  · cases h
theorem add64O_pl {a : List AV} {v : AV} (h : add64O a = some v) : v.refB = 0 ∧ AV.refBs a = 0 := by
  unfold add64O at h
  split at h
  · split at h
    · cases h; exact ⟨rfl, rfl⟩
    · cases h
  · cases h

def orcL : List (Nat × (List AV → Option AV)) := [(f_bytealg_IndexByteString, idxByte), (f_strings_Split, splitO), (f_bits_Mul64, mul64O), (f_bits_Add64, add64O)]
def T2 : Tb := ⟨lookupF tabl, lookupF tabD, orcOf orcL⟩
theorem fitN : FitN Tryd.prog (lookupF tabl) := fitN_of (by decide +kernel)
theorem fitD : FitD Tryd.prog (lookupF tabD) := fitD_of (by decide +kernel)
theorem orcL_pl {a : List AV} {v : AV} {f : FuncId} (h : orcOf orcL f a = some v) : v.refB = 0 ∧ AV.refBs a = 0 := by
  simp only [orcL, orcOf] at h
  split at h
  · exact idxByte_pl h
  · split at h
    · exact splitO_pl h
    · split at h
      · exact mul64O_pl h
      · split at h
        · exact add64O_pl h
        · cases h
instance : ScanB T2 where
  tab := fun f af h => let ⟨_, _, hf, _⟩ := fitN f af h; hf.cok
  tabD := fun f af h => let ⟨_, _, hf, _⟩ := fitD f af h; hf.cok
  orc := fun f a v h => orcL_pl h
  tb := rfl
  td := rfl
  idx := fun args => rfl
  none := fun f args h1 => orcOf_none (fun p hp e => by
    simp only [orcL, List.mem_cons, List.not_mem_nil, or_false] at hp
    rcases hp with rfl | rfl | rfl | rfl <;> (subst e; exact absurd h1 (by decide)))
  mul := fun args => rfl
  add := fun args => rfl
  spl := fun args => rfl

theorem orcIdx [Glb] : OrcAt Tryd.prog f_bytealg_IndexByteString idxByte := idxByte_ok (fn := Tryd.f55) Tryd.func55 (by decide +kernel) (by decide +kernel) (by rfl) (by rfl)
theorem orcAdd [Glb] : OrcAt Tryd.prog f_bits_Add64 add64O := add64O_ok (fn := Tryd.f43) Tryd.func43 (by decide +kernel) (by decide +kernel) (by rfl) (by rfl)

section
variable {T : Tb} [hS : ScanB T] {rf : Refs} {k : Out → Refs → Prop}
theorem tokE {s : List UInt8} {X : Ts} (hs : s.length ≤ 2 ^ 60) (hX : toksM s = X) (h : k (.ret (toksA X)) rf) : CallE T f_scan_Tokens [str s] rf k := callE_ev (Tokens_ev s hs rf) (by rw [hX]; exact h)
theorem idxTk {l : List Tok} {i : Nat} {t : Tok} {c : List D → Prop} (h : l[i]? = some t) (h' : c (tokD t)) : IdxL 4 (l.map tokD) (i : Int) c := idxLb (by rw [List.getElem?_map, h]; rfl) rfl h'
end

def shA : List Tok := [⟨5, 0, [97], 0⟩, ⟨7, 2, [47], 0⟩, ⟨5, 3, [98], 0⟩, ⟨7, 4, [47], 0⟩, ⟨2, 6, [], 2000000⟩, ⟨0, 7, [], 0⟩]
def shB : List Tok := [⟨7, 0, [126], 0⟩, ⟨4, 2, [98], 0⟩, ⟨0, 5, [], 0⟩]
theorem shA_eq : toksM [97, 32, 47, 98, 47, 32, 50] = .ok shA := by decide +kernel
theorem shB_eq : toksM [126, 32, 47, 98, 47] = .ok shB := by decide +kernel

theorem shown_ev {T : Tb} [hS : ScanB T] (rf : Refs) : Ev T f_law15_shown [] rf (.ret (bl true)) rf := by
  refine Ev.any ?_ rfl rf
  refine ev_fn rfl rfl ?_
  (repeat' (first
    | (intro (u_ : Unit); clear u_)
    | refine condT ?_
    | refine condF ?_
    | refine condp (by assumption) ?_
    | refine condn (by assumption) ?_
    | refine condN ?_
    | refine idxSb (by assumption) ?_
    | refine tokE (by decide) shA_eq ?_
    | refine tokE (by decide) shB_eq ?_
    | refine idxTk (l := shA) (i := 1) rfl ?_
    | refine idxTk (l := shA) (i := 4) rfl ?_
    | refine idxTk (l := shB) (i := 1) rfl ?_
    | refine condt (by decide) ?_
    | (refine condD ?_ ?_ <;> intro hq_ <;> first | (exfalso; omega) | skip)
    | (refine idxS (by omega) ?_; intro b_ hb_; have hl_ := b_.toNat_lt)
    | refine wrA (by omega) ?_
    | refine wrS (by omega) (by omega) ?_
    | refine wrI (by omega) (by omega) ?_
    | refine wrBA (by omega) ?_
    | refine wrB (by omega) (by omega) ?_
    | refine strC (by omega) ?_
    | refine nilB rfl ?_))
  exact ⟨rfl, rfl⟩
end Go.Ab.R15

namespace Go.Ab.R15
set_option maxRecDepth 100000
set_option linter.all false
set_option maxHeartbeats 4000000

theorem get_snoc {α : Type} {l : List α} {x t : α} {k : Nat} (h : (l ++ [x])[k]? = some t) : l[k]? = some t ∨ (k = l.length ∧ t = x) := by
  by_cases hk : k < l.length
  · rw [List.getElem?_append_left hk] at h; exact .inl h
  · rw [List.getElem?_append_right (by omega)] at h
    have h1 := (List.getElem?_eq_some_iff.1 h).1
    simp at h1
    have : k = l.length := by omega
    subst this
    simp at h
    exact .inr ⟨rfl, h.symm⟩

structure GoodT (s : List UInt8) (i : Nat) (l : List Tok) : Prop where
  lt : ∀ (k : Nat) (t : Tok), l[k]? = some t → t.pos < i ∧ 1 ≤ t.kind
  up : ∀ (k : Nat) (a b : Tok), l[k]? = some a → l[k + 1]? = some b → a.pos < b.pos
structure Places (s : List UInt8) (l : List Tok) : Prop where
  pos : ∀ (k : Nat) (t : Tok), l[k]? = some t → t.pos ≤ s.length ∧ (t.kind = 0 ↔ k + 1 = l.length)
  up : ∀ (k : Nat) (a b : Tok), l[k]? = some a → l[k + 1]? = some b → a.pos < b.pos
  ne : 0 < l.length
  le : l.length ≤ 2000

theorem up_snoc {l : List Tok} {x : Tok} (h : ∀ (k : Nat) (a b : Tok), l[k]? = some a → l[k + 1]? = some b → a.pos < b.pos) (h1 : ∀ (k : Nat) (t : Tok), l[k]? = some t → t.pos < x.pos) :
    ∀ (k : Nat) (a b : Tok), (l ++ [x])[k]? = some a → (l ++ [x])[k + 1]? = some b → a.pos < b.pos := fun k a b ha hb => by
  have hl := (List.getElem?_eq_some_iff.1 hb).1
  simp only [List.length_append, List.length_cons, List.length_nil] at hl
  have ha' : l[k]? = some a := by rwa [List.getElem?_append_left (by omega)] at ha
  rcases get_snoc hb with hb1 | ⟨_, e⟩
  · exact h k a b ha' hb1
  · rw [e]; exact h1 k a ha'

theorem good_snoc {s : List UInt8} {i j : Nat} {l : List Tok} {x : Tok} (h : GoodT s i l) (h1 : i ≤ x.pos) (h2 : x.pos < j) (hk : 1 ≤ x.kind) : GoodT s j (l ++ [x]) where
  lt := fun k t ht => by
    rcases get_snoc ht with h3 | ⟨_, e⟩
    · have := h.lt k t h3; omega
    · rw [e]; exact ⟨h2, hk⟩
  up := up_snoc h.up fun k t ht => by have := h.lt k t ht; omega

theorem places_end {s : List UInt8} {i : Nat} {l : List Tok} {x : Tok} (h : GoodT s i l) (h1 : i ≤ x.pos) (h2 : x.pos ≤ s.length) (hi : i ≤ s.length) (hk : x.kind = 0) (hl : l.length < 2000) : Places s (l ++ [x]) where
  pos := fun k t ht => by
    simp only [List.length_append, List.length_cons, List.length_nil]
    rcases get_snoc ht with h3 | ⟨hk1, e⟩
    · have h4 := h.lt k t h3
      have h5 := (List.getElem?_eq_some_iff.1 h3).1
      exact ⟨by omega, fun h => by omega, fun h => by omega⟩
    · rw [e]
      exact ⟨h2, fun _ => by omega, fun _ => hk⟩
  up := up_snoc h.up fun k t ht => by have := h.lt k t ht; omega
  ne := by simp
  le := by simp; omega

theorem toksL_places {s : List UInt8} : ∀ (f i : Nat) (op : Bool) (l : List Tok), i ≤ s.length → GoodT s i l → match toksL s f i op l with
    | .err e j => e ≠ 0 ∧ j ≤ s.length
    | .ok r => Places s r
  | 0, i, op, l, hi, h => ⟨by decide, hi⟩
  | f + 1, i, op, l, hi, h => by
    rw [toks_go]
    have hj := skipA_le (b := false) hi
    have hij : i ≤ i + skipA false s i := by omega
    generalize i + skipA false s i = j at *
    by_cases hlt : j < s.length
    · rw [if_pos hlt]
      cases hx : nextM (s.drop j) op with
      | over => exact ⟨by decide, hj⟩
      | bad k => exact ⟨by decide, hj⟩
      | ok t n =>
        obtain ⟨n1, n2, k1, k2, _⟩ := next_ok hx
        rw [List.length_drop] at n2
        simp only
        by_cases hfull : 2000 ≤ l.length
        · rw [if_pos hfull]; exact ⟨by decide, hj⟩
        · rw [if_neg hfull]
          exact toksL_places f (j + n) _ _ (by omega) (good_snoc h hij (show j < j + n by omega) k1)
    · rw [if_neg hlt]
      by_cases hfull : 2000 ≤ l.length
      · rw [if_pos hfull]; exact ⟨by decide, hj⟩
      · rw [if_neg hfull]
        exact places_end h hij hj hi rfl (by omega)

theorem toksM_places (s : List UInt8) : match toksM s with
    | .err e j => e ≠ 0 ∧ j ≤ s.length
    | .ok r => Places s r := by
  unfold toksM
  by_cases h : 8192 < s.length
  · rw [if_pos h]; exact ⟨by decide, Nat.zero_le _⟩
  · rw [if_neg h]; exact toksL_places _ _ _ _ (Nat.zero_le _) ⟨fun k t h => by simp at h, fun k a b h => by simp at h⟩

theorem idxTi {l : List Tok} {n : Int} {i : Nat} {t : Tok} {c : List D → Prop} (hn : n = i) (h : l[i]? = some t) (h' : c (tokD t)) : IdxL 4 (l.map tokD) n c := by subst hn; exact idxTk h h'
theorem beqT {p q : Prop} [Decidable p] [Decidable q] (h : p ↔ q) : (decide p == decide q) = true := by
  rw [beq_iff_eq]; exact decide_eq_decide.2 h
theorem beqN {b : Bool} (h : b = true) : (b != true) = false := by subst h; rfl

theorem ScanPlaces_ev {T : Tb} [hS : ScanB T] (s : List UInt8) (hs : s.length ≤ 2 ^ 47) : Ev T f_law15_ScanPlaces [str s] [] (.ret (bl true)) [] := by
  by_cases hbig : 3000 < s.length
  · refine ev_fn rfl rfl ?_
    (repeat' (first
      | (intro (u_ : Unit); clear u_)
      | refine condT ?_
      | refine condF ?_
      | refine condp (by assumption) ?_
      | refine condn (by assumption) ?_
      | refine condN ?_
      | refine idxSb (by assumption) ?_
      | refine callE_ev (shown_ev _) ?_
      | (refine condD ?_ ?_ <;> intro hq_ <;> first | (exfalso; omega) | skip)
      | (refine idxS (by omega) ?_; intro b_ hb_; have hl_ := b_.toNat_lt)
      | refine wrA (by omega) ?_
      | refine wrS (by omega) (by omega) ?_
      | refine wrI (by omega) (by omega) ?_
      | refine wrBA (by omega) ?_
      | refine wrB (by omega) (by omega) ?_
      | refine strC (by omega) ?_
      | refine nilB rfl ?_))
    exact ⟨rfl, rfl⟩
  have hp := toksM_places s
  cases hx : toksM s with
  | err e j =>
    rw [hx] at hp
    obtain ⟨he, hj⟩ := hp
    refine ev_fn rfl rfl ?_
    (repeat' (first
      | (intro (u_ : Unit); clear u_)
      | refine condT ?_
      | refine condF ?_
      | refine condp (by assumption) ?_
      | refine condn (by assumption) ?_
      | refine condN ?_
      | refine idxSb (by assumption) ?_
      | refine callE_ev (shown_ev _) ?_
      | refine tokE (by omega) hx ?_
      | (refine condD ?_ ?_ <;> intro hq_ <;> first | (exfalso; omega) | skip)
      | (refine idxS (by omega) ?_; intro b_ hb_; have hl_ := b_.toNat_lt)
      | refine wrA (by omega) ?_
      | refine wrS (by omega) (by omega) ?_
      | refine wrI (by omega) (by omega) ?_
      | refine wrBA (by omega) ?_
      | refine wrB (by omega) (by omega) ?_
      | refine strC (by omega) ?_
      | refine nilB rfl ?_))
    refine ⟨?_, rfl⟩
    congr 3
    simp
    omega
  | ok l =>
    rw [hx] at hp
    have hml : (l.map tokD).length = l.length := by simp
    have hne := hp.ne
    have hle := hp.le
    refine ev_fn rfl rfl ?_
    (repeat' (first
      | (intro (u_ : Unit); clear u_)
      | refine condT ?_
      | refine condF ?_
      | refine condp (by assumption) ?_
      | refine condn (by assumption) ?_
      | refine condN ?_
      | refine idxSb (by assumption) ?_
      | refine callE_ev (shown_ev _) ?_
      | refine tokE (by omega) hx ?_
      | (refine condD ?_ ?_ <;> intro hq_ <;> first | (exfalso; omega) | skip)
      | (refine idxS (by omega) ?_; intro b_ hb_; have hl_ := b_.toNat_lt)
      | refine wrA (by omega) ?_
      | refine wrS (by omega) (by omega) ?_
      | refine wrI (by omega) (by omega) ?_
      | refine wrBA (by omega) ?_
      | refine wrB (by omega) (by omega) ?_
      | refine strC (by omega) ?_
      | refine nilB rfl ?_))
    refine loopR (fun i : Nat => [(7, i64 i)]) (fun _ => []) (fun i => l.length - i) (fun i => i ≤ l.length) 0 (by omega) (by rfl) (by rfl) ?_
    intro i hi
    by_cases hlt : i < l.length
    · obtain ⟨t, ht⟩ : ∃ t, l[i]? = some t := ⟨_, List.getElem?_eq_getElem hlt⟩
      have hp1 := hp.pos i t ht
      have hb : (decide ((t.kind : Int) = ((0 : Nat) : Int)) == decide ((i : Int) = (((l.map tokD).length - 1 : Nat) : Int))) = true := beqT (by rw [hml]; omega)
      rcases i with _ | j
      · (repeat' (first
          | (intro (u_ : Unit); clear u_)
          | refine condT ?_
          | refine condF ?_
          | refine condp (by assumption) ?_
          | refine condn (by assumption) ?_
          | refine condN ?_
          | refine idxSb (by assumption) ?_
          | refine idxTk ht ?_
          | refine condf (beqN hb) ?_
          | (refine condD ?_ ?_ <;> intro hq_ <;> first | (exfalso; omega) | skip)
          | (refine idxS (by omega) ?_; intro b_ hb_; have hl_ := b_.toNat_lt)
          | refine wrA (by omega) ?_
          | refine wrS (by omega) (by omega) ?_
          | refine wrI (by omega) (by omega) ?_
          | refine wrBA (by omega) ?_
          | refine wrB (by omega) (by omega) ?_
          | refine strC (by omega) ?_
          | refine nilB rfl ?_))
        exact ⟨1, by omega, by omega, rfl, rfl, rfl, rfl⟩
      · obtain ⟨q, hq⟩ : ∃ t, l[j]? = some t := ⟨_, List.getElem?_eq_getElem (by omega)⟩
        have hup := hp.up j q t hq ht
        (repeat' (first
          | (intro (u_ : Unit); clear u_)
          | refine condT ?_
          | refine condF ?_
          | refine condp (by assumption) ?_
          | refine condn (by assumption) ?_
          | refine condN ?_
          | refine idxSb (by assumption) ?_
          | refine idxTi (i := j + 1) rfl ht ?_
          | refine idxTi (i := j) (by omega) hq ?_
          | refine condf (beqN hb) ?_
          | (refine condD ?_ ?_ <;> intro hq_ <;> first | (exfalso; omega) | skip)
          | (refine idxS (by omega) ?_; intro b_ hb_; have hl_ := b_.toNat_lt)
          | refine wrA (by omega) ?_
          | refine wrS (by omega) (by omega) ?_
          | refine wrI (by omega) (by omega) ?_
          | refine wrBA (by omega) ?_
          | refine wrB (by omega) (by omega) ?_
          | refine strC (by omega) ?_
          | refine nilB rfl ?_))
        exact ⟨j + 2, by omega, by omega, rfl, rfl, rfl, rfl⟩
    · (repeat' (first
        | (intro (u_ : Unit); clear u_)
        | refine condT ?_
        | refine condF ?_
        | refine condp (by assumption) ?_
        | refine condn (by assumption) ?_
        | refine condN ?_
        | refine idxSb (by assumption) ?_
        | (refine condD ?_ ?_ <;> intro hq_ <;> first | (exfalso; omega) | skip)
        | (refine idxS (by omega) ?_; intro b_ hb_; have hl_ := b_.toNat_lt)
        | refine wrA (by omega) ?_
        | refine wrS (by omega) (by omega) ?_
        | refine wrI (by omega) (by omega) ?_
        | refine wrBA (by omega) ?_
        | refine wrB (by omega) (by omega) ?_
        | refine strC (by omega) ?_
        | refine nilB rfl ?_))
      exact ⟨rfl, rfl⟩
end Go.Ab.R15

namespace Go.Ab.R15
set_option maxRecDepth 100000
set_option linter.all false
set_option maxHeartbeats 4000000
variable {T : Tb} [hS : ScanB T]

/-! a text in quotes -/
def quo : List UInt8 → List UInt8
  | [] => []
  | c :: l => (if c.toNat = 34 ∨ c.toNat = 92 then [92, c] else [c]) ++ quo l
theorem quo_append (a b : List UInt8) : quo (a ++ b) = quo a ++ quo b := by
  induction a with
  | nil => rfl
  | cons c l ih => simp [quo, ih]
theorem quo_length (l : List UInt8) : l.length ≤ (quo l).length ∧ (quo l).length ≤ 2 * l.length := by
  induction l with
  | nil => simp [quo]
  | cons c l ih => simp only [quo, List.length_append, List.length_cons]; split <;> simp <;> omega

/-- reading it goes over the text, byte by byte -/
theorem textL_quo : ∀ (l p : List UInt8) (f : Nat) (o : List UInt8), (∀ c ∈ l, c.toNat ≠ 10) → (quo l).length < f → textL (p ++ (quo l ++ [34])) f p.length o = some (o ++ l, p.length + (quo l).length + 1)
  | [], p, f, o, _, hf => by
    obtain ⟨g, rfl⟩ : ∃ g, f = g + 1 := ⟨f - 1, by omega⟩
    have h0 : (p ++ (quo [] ++ [34]))[p.length]? = some 34 := by simp [quo]
    rw [tl_end h0 (by decide)]
    simp [quo]
  | c :: l, p, f, o, hn, hf => by
    have hc := hn c (by simp)
    have hl : ∀ c ∈ l, c.toNat ≠ 10 := fun c h => hn c (by simp [h])
    by_cases hq : c.toNat = 34 ∨ c.toNat = 92
    · have e : quo (c :: l) = [92, c] ++ quo l := by simp only [quo]; rw [if_pos hq]
      rw [e] at hf ⊢
      simp only [List.length_append, List.length_cons, List.length_nil] at hf
      obtain ⟨g, rfl⟩ : ∃ g, f = g + 1 := ⟨f - 1, by omega⟩
      have e2 : p ++ ([92, c] ++ quo l ++ [34]) = (p ++ [92, c]) ++ (quo l ++ [34]) := by simp
      have h0 : (p ++ ([92, c] ++ quo l ++ [34]))[p.length]? = some 92 := by simp
      have h1 : (p ++ ([92, c] ++ quo l ++ [34]))[p.length + 1]? = some c := by simp
      have hm : c ∈ escS := by
        simp only [escS, List.mem_cons, List.not_mem_nil, or_false, ← UInt8.toNat_inj]
        rcases hq with hq | hq
        · exact .inl hq
        · exact .inr (.inl hq)
      rw [tl_esc h0 (by decide) h1 hm, e2, show p.length + 2 = (p ++ [92, c]).length by simp, textL_quo l (p ++ [92, c]) g (o ++ [c]) hl (by omega)]
      simp; omega
    · have e : quo (c :: l) = [c] ++ quo l := by simp only [quo]; rw [if_neg hq]
      rw [e] at hf ⊢
      simp only [List.length_append, List.length_cons, List.length_nil] at hf
      obtain ⟨g, rfl⟩ : ∃ g, f = g + 1 := ⟨f - 1, by omega⟩
      have e2 : p ++ ([c] ++ quo l ++ [34]) = (p ++ [c]) ++ (quo l ++ [34]) := by simp
      have h0 : (p ++ ([c] ++ quo l ++ [34]))[p.length]? = some c := by simp
      rw [tl_plain h0 hc (by omega) (by omega), e2, show p.length + 1 = (p ++ [c]).length by simp, textL_quo l (p ++ [c]) g (o ++ [c]) hl (by omega)]
      simp; omega

theorem toks_quo {s : List UInt8} (hn : ∀ c ∈ s, c.toNat ≠ 10) (hs : s.length ≤ 1000) : toksM ([34] ++ quo s ++ [34]) = .ok [⟨3, 0, s, 0⟩, ⟨0, (quo s).length + 2, [], 0⟩] := by
  have hq := quo_length s
  have hlen : ([34] ++ quo s ++ [34] : List UInt8).length = (quo s).length + 2 := by simp
  have h0 : ([34] ++ quo s ++ [34] : List UInt8)[0]? = some 34 := rfl
  have hsk : skipA false ([34] ++ quo s ++ [34]) 0 = 0 := skip_stop h0 (by decide) (by decide)
  have ht : textL ([34] ++ quo s ++ [34]) ((quo s).length + 2) 1 [] = some (s, (quo s).length + 2) := by
    have := textL_quo s [34] ((quo s).length + 2) [] hn (by omega)
    rw [← List.append_assoc] at this
    simp only [List.length_cons, List.length_nil, List.nil_append] at this
    rw [show 0 + 1 + (quo s).length + 1 = (quo s).length + 2 by omega] at this
    exact this
  have hx : nextM ([34] ++ quo s ++ [34]) false = .ok ⟨3, 0, s, 0⟩ ((quo s).length + 2) := by
    unfold nextM
    rw [h0]
    simp only
    rw [if_neg (by decide), if_neg (by decide), if_pos (by decide)]
    unfold textQ
    rw [hlen, ht]
  unfold toksM
  rw [if_neg (by omega), hlen, toks_go, hsk, if_pos (by rw [hlen]; omega)]
  simp only [Nat.add_zero, List.drop_zero, Nat.zero_add]
  rw [hx]
  simp only
  rw [if_neg (by simp), toks_go, skipA_end (by rw [hlen]; omega), if_neg (by rw [hlen]; omega), if_neg (by simp)]
  rfl

theorem ScanTexts_ev (s : List UInt8) (hs : s.length ≤ 2 ^ 47) : Ev T f_law15_ScanTexts [str s] [] (.ret (bl true)) [] := by
  by_cases hbig : 1000 < s.length
  · refine ev_fn rfl rfl ?_
    (repeat' (first
      | (intro (u_ : Unit); clear u_)
      | refine condT ?_
      | refine condF ?_
      | refine condp (by assumption) ?_
      | refine condn (by assumption) ?_
      | refine condN ?_
      | refine idxSb (by assumption) ?_
      | refine callE_ev (shown_ev _) ?_
      | (refine condD ?_ ?_ <;> intro hq_ <;> first | (exfalso; omega) | skip)
      | (refine idxS (by omega) ?_; intro b_ hb_; have hl_ := b_.toNat_lt)
      | refine wrA (by omega) ?_
      | refine wrS (by omega) (by omega) ?_
      | refine wrI (by omega) (by omega) ?_
      | refine wrBA (by omega) ?_
      | refine wrB (by omega) (by omega) ?_
      | refine strC (by omega) ?_
      | refine nilB rfl ?_))
    exact ⟨rfl, rfl⟩
  refine ev_fn rfl rfl ?_
  (repeat' (first
    | (intro (u_ : Unit); clear u_)
    | refine condT ?_
    | refine condF ?_
    | refine condp (by assumption) ?_
    | refine condn (by assumption) ?_
    | refine condN ?_
    | refine idxSb (by assumption) ?_
    | refine callE_ev (shown_ev _) ?_
    | (refine condD ?_ ?_ <;> intro hq_ <;> first | (exfalso; omega) | skip)
    | (refine idxS (by omega) ?_; intro b_ hb_; have hl_ := b_.toNat_lt)
    | refine wrA (by omega) ?_
    | refine wrS (by omega) (by omega) ?_
    | refine wrI (by omega) (by omega) ?_
    | refine wrBA (by omega) ?_
    | refine wrB (by omega) (by omega) ?_
    | refine strC (by omega) ?_
    | refine nilB rfl ?_))
  refine loopR (fun i : Nat => [(5, i64 i), (4, str ([34] ++ quo (s.take i)))]) (fun _ => []) (fun i => s.length - i) (fun i => i ≤ s.length ∧ ∀ c ∈ s.take i, c.toNat ≠ 10) 0 ⟨by omega, by simp⟩ (by rfl) (by rfl) ?_
  rintro i ⟨hi, hn⟩
  by_cases hlt : i < s.length
  · obtain ⟨c, hc⟩ := getS hlt
    have hq := quo_length (s.take i)
    rw [List.length_take] at hq
    have hsub : (s.take (i + 1)).drop i = [c] := by
      rw [take_succ_of hc, List.drop_append_of_le_length (by rw [List.length_take]; omega), List.drop_eq_nil_of_le (by rw [List.length_take]; omega)]; rfl
    have hq1 : quo (s.take (i + 1)) = quo (s.take i) ++ (if c.toNat = 34 ∨ c.toNat = 92 then [92, c] else [c]) := by rw [take_succ_of hc, quo_append]; simp [quo]
    have hn1 : c.toNat ≠ 10 → ∀ x ∈ s.take (i + 1), x.toNat ≠ 10 := fun h x hx => by
      rw [take_succ_of hc] at hx
      rcases List.mem_append.1 hx with h1 | h1
      · exact hn x h1
      · simp at h1; subst h1; exact h
    generalize quo (s.take i) = Q at *
    (repeat' (first
      | (intro (u_ : Unit); clear u_)
      | refine condT ?_
      | refine condF ?_
      | refine condp (by assumption) ?_
      | refine condn (by assumption) ?_
      | refine condN ?_
      | refine idxSb (by assumption) ?_
      | (refine subBo (i := i) (j := i + 1) (by omega) (by omega) ?_; rw [hsub])
      | refine strC (by simp only [List.length_append, List.length_cons, List.length_nil] at *; omega) ?_
      | (refine condD ?_ ?_ <;> intro hq_ <;> first | (exfalso; omega) | skip)
      | (refine idxS (by omega) ?_; intro b_ hb_; have hl_ := b_.toNat_lt)
      | refine wrA (by omega) ?_
      | refine wrS (by omega) (by omega) ?_
      | refine wrI (by omega) (by omega) ?_
      | refine wrBA (by omega) ?_
      | refine wrB (by omega) (by omega) ?_
      | refine strC (by omega) ?_
      | refine nilB rfl ?_))
    all_goals first
      | exact ⟨rfl, rfl⟩
      | (refine ⟨i + 1, ⟨by omega, hn1 (by omega)⟩, by omega, ?_, rfl, rfl, rfl⟩
         rw [hq1]
         first | rw [if_pos (by omega)] | rw [if_neg (by omega)]
         simp [upd, Slots.get])
  · have hi' : i = s.length := by omega
    subst hi'
    rw [List.take_of_length_le (Nat.le_refl _)] at *
    have hx := toks_quo hn (by omega)
    have hq := quo_length s
    generalize quo s = Q at *
    (repeat' (first
      | (intro (u_ : Unit); clear u_)
      | refine condT ?_
      | refine condF ?_
      | refine condp (by assumption) ?_
      | refine condn (by assumption) ?_
      | refine condN ?_
      | refine idxSb (by assumption) ?_
      | refine strC (by simp only [List.length_append, List.length_cons, List.length_nil] at *; omega) ?_
      | refine tokE (by simp only [List.length_append, List.length_cons, List.length_nil] at *; omega) hx ?_
      | refine idxTk (l := [⟨3, 0, s, 0⟩, ⟨0, Q.length + 2, [], 0⟩]) (i := 0) rfl ?_
      | refine idxTk (l := [⟨3, 0, s, 0⟩, ⟨0, Q.length + 2, [], 0⟩]) (i := 1) rfl ?_
      | refine condt (decide_eq_true rfl) ?_
      | (refine condD ?_ ?_ <;> intro hq_ <;> first | (exfalso; omega) | skip)
      | (refine idxS (by omega) ?_; intro b_ hb_; have hl_ := b_.toNat_lt)
      | refine wrA (by omega) ?_
      | refine wrS (by omega) (by omega) ?_
      | refine wrI (by omega) (by omega) ?_
      | refine wrBA (by omega) ?_
      | refine wrB (by omega) (by omega) ?_
      | refine strC (by omega) ?_
      | refine nilB rfl ?_))
    all_goals exact ⟨rfl, rfl⟩

/-! operands, of whatever numbers -/
def opZ (k : Int) (x : List UInt8) : Bool := (decide (2 ≤ k) && decide (k ≤ 5)) || (decide (k = 7) && (decide (x = [41]) || decide (x = [93])))
theorem OperandZ_ev (k p n : Int) (x : List UInt8) (rf : Refs) : Ev T f_scan_Operand [.agg [i64 k, i64 p, str x, i64 n]] rf (.ret (bl (opZ k x))) rf := by
  refine Ev.any ?_ rfl rf
  refine ev_fn rfl rfl ?_
  (repeat' (first
    | (intro (u_ : Unit); clear u_)
    | refine condT ?_
    | refine condF ?_
    | refine condp (by assumption) ?_
    | refine condn (by assumption) ?_
    | refine condN ?_
    | refine idxSb (by assumption) ?_
    | (refine condD ?_ ?_ <;> intro hq_ <;> first | (exfalso; omega) | skip)
    | (refine idxS (by omega) ?_; intro b_ hb_; have hl_ := b_.toNat_lt)
    | refine wrA (by omega) ?_
    | refine wrS (by omega) (by omega) ?_
    | refine wrI (by omega) (by omega) ?_
    | refine wrBA (by omega) ?_
    | refine wrB (by omega) (by omega) ?_
    | refine strC (by omega) ?_
    | refine nilB rfl ?_))
  all_goals (refine ⟨?_, rfl⟩; congr 3; rw [Bool.eq_iff_iff]; by_cases x1 : x = [41] <;> by_cases x2 : x = [93] <;> simp [opZ, x1, x2] at * <;> omega)
theorem rOperandZ_ev (k p n : Int) (x : List UInt8) (rf : Refs) : Ev T f_ref15_Operand [.agg [i64 k, i64 p, str x, i64 n]] rf (.ret (bl (opZ k x))) rf := by
  refine Ev.any ?_ rfl rf
  refine ev_fn rfl rfl ?_
  (repeat' (first
    | (intro (u_ : Unit); clear u_)
    | refine condT ?_
    | refine condF ?_
    | refine condp (by assumption) ?_
    | refine condn (by assumption) ?_
    | refine condN ?_
    | refine idxSb (by assumption) ?_
    | (refine condD ?_ ?_ <;> intro hq_ <;> first | (exfalso; omega) | skip)
    | (refine idxS (by omega) ?_; intro b_ hb_; have hl_ := b_.toNat_lt)
    | refine wrA (by omega) ?_
    | refine wrS (by omega) (by omega) ?_
    | refine wrI (by omega) (by omega) ?_
    | refine wrBA (by omega) ?_
    | refine wrB (by omega) (by omega) ?_
    | refine strC (by omega) ?_
    | refine nilB rfl ?_))
  all_goals (refine ⟨?_, rfl⟩; congr 3; rw [Bool.eq_iff_iff]; by_cases x1 : x = [41] <;> by_cases x2 : x = [93] <;> simp [opZ, x1, x2] at * <;> omega)
theorem ScanOperands_ev (k p n : Int) (x : List UInt8) : Ev T f_law15_ScanOperands [.agg [i64 k, i64 p, str x, i64 n]] [] (.ret (bl true)) [] := by
  have h1 := OperandZ_ev (T := T) k p n x
  have h2 := rOperandZ_ev (T := T) k p n x
  generalize opZ k x = q at *
  cases q
  · refine ev_fn rfl rfl ?_
    (repeat' (first
      | (intro (u_ : Unit); clear u_)
      | refine condT ?_
      | refine condF ?_
      | refine condp (by assumption) ?_
      | refine condn (by assumption) ?_
      | refine condN ?_
      | refine idxSb (by assumption) ?_
      | refine callE_ev (shown_ev _) ?_
      | refine callE_ev (h1 _) ?_
      | refine callE_ev (h2 _) ?_
      | (refine condD ?_ ?_ <;> intro hq_ <;> first | (exfalso; omega) | skip)
      | (refine idxS (by omega) ?_; intro b_ hb_; have hl_ := b_.toNat_lt)
      | refine wrA (by omega) ?_
      | refine wrS (by omega) (by omega) ?_
      | refine wrI (by omega) (by omega) ?_
      | refine wrBA (by omega) ?_
      | refine wrB (by omega) (by omega) ?_
      | refine strC (by omega) ?_
      | refine nilB rfl ?_))
    exact ⟨rfl, rfl⟩
  · refine ev_fn rfl rfl ?_
    (repeat' (first
      | (intro (u_ : Unit); clear u_)
      | refine condT ?_
      | refine condF ?_
      | refine condp (by assumption) ?_
      | refine condn (by assumption) ?_
      | refine condN ?_
      | refine idxSb (by assumption) ?_
      | refine callE_ev (shown_ev _) ?_
      | refine callE_ev (h1 _) ?_
      | refine callE_ev (h2 _) ?_
      | (refine condD ?_ ?_ <;> intro hq_ <;> first | (exfalso; omega) | skip)
      | (refine idxS (by omega) ?_; intro b_ hb_; have hl_ := b_.toNat_lt)
      | refine wrA (by omega) ?_
      | refine wrS (by omega) (by omega) ?_
      | refine wrI (by omega) (by omega) ?_
      | refine wrBA (by omega) ?_
      | refine wrB (by omega) (by omega) ?_
      | refine strC (by omega) ?_
      | refine nilB rfl ?_))
    exact ⟨rfl, rfl⟩
end Go.Ab.R15

namespace Go.Ab.R15
set_option maxRecDepth 100000
set_option linter.all false
set_option maxHeartbeats 4000000

theorem getA {s r : List UInt8} {i : Nat} {c : UInt8} (h : s[i]? = some c) : (s ++ r)[i]? = some c := by
  rw [List.getElem?_append_left (List.getElem?_eq_some_iff.1 h).1]; exact h
theorem hitA {s r : List UInt8} {i c : Nat} (h : i < s.length) : hit (s ++ r) i c = hit s i c := by
  unfold hit; rw [List.getElem?_append_left h]
/-- a byte that ends what stands ahead of it -/
def Sep (b : UInt8) : Prop := b.toNat = 9 ∨ b.toNat = 10
section
variable {b : UInt8} {s r : List UInt8}
theorem sep_fig (h : Sep b) : fig b = false := fig_f (by unfold Sep at h; omega)
theorem sep_name (h : Sep b) : nameB b = false := by unfold Sep at h; simp [nameB, letter, fig]; omega

theorem runL_app {p : UInt8 → Bool} (hp : p b = false) : ∀ l : List UInt8, runL p (l ++ b :: r) = runL p l
  | [] => by simp [runL, hp]
  | c :: l => by simp only [List.cons_append, runL, runL_app hp l]
theorem runA_app {p : UInt8 → Bool} (hp : p b = false) {i : Nat} (hi : i ≤ s.length) : runA p (s ++ b :: r) i = runA p s i := by
  unfold runA; rw [List.drop_append_of_le_length hi, runL_app hp]

theorem numLen_app (h : Sep b) : numLen (s ++ b :: r) = numLen s := by
  have e0 := runA_app (p := fig) (s := s) (r := r) (sep_fig h) (Nat.zero_le _)
  have l0 := runA_le (p := fig) (s := s) (Nat.zero_le _)
  rw [Nat.zero_add] at l0
  have h46 : b.toNat ≠ 46 := by unfold Sep at h; omega
  by_cases h1 : runA fig s 0 = s.length
  · rw [nl_far (s := s) (by omega), nl_dot (c := b) (by rw [e0, h1]; simp) h46, e0]
  · obtain ⟨c, hc⟩ := getS (s := s) (m := runA fig s 0) (by omega)
    have hcu := getA (r := b :: r) hc
    by_cases h2 : runA fig s 0 + 1 = s.length
    · rw [nl_far (s := s) (by omega), nl_fig (d := b) (by rw [e0, h2]; simp) (sep_fig h), e0]
    · obtain ⟨d, hd⟩ := getS (s := s) (m := runA fig s 0 + 1) (by omega)
      have hdu := getA (r := b :: r) hd
      by_cases c1 : c.toNat = 46
      · cases c2 : fig d
        · rw [nl_fig hd c2, nl_fig (s := s ++ b :: r) (by rw [e0]; exact hdu) c2, e0]
        · rw [nl_two hc c1 hd c2, nl_two (s := s ++ b :: r) (by rw [e0]; exact hcu) c1 (by rw [e0]; exact hdu) c2, e0, runA_app (sep_fig h) (by omega)]
      · rw [nl_dot hc c1, nl_dot (s := s ++ b :: r) (by rw [e0]; exact hcu) c1, e0]

theorem textL_app : ∀ {f f' i : Nat} {o : List UInt8} {x : List UInt8 × Nat}, f ≤ f' → textL s f i o = some x → textL (s ++ r) f' i o = some x
  | 0, f', i, o, x, _, h => by cases h
  | f + 1, f', i, o, x, hf, h => by
    obtain ⟨g, rfl⟩ : ∃ g, f' = g + 1 := ⟨f' - 1, by omega⟩
    rcases hc : s[i]? with _ | c
    · unfold textL at h; rw [hc] at h; cases h
    have hcu := getA (r := r) hc
    by_cases c1 : c.toNat = 10
    · rw [tl_nl hc c1] at h; cases h
    by_cases c2 : c.toNat = 34
    · rw [tl_end hc c2] at h; rw [tl_end hcu c2]; exact h
    by_cases c3 : c.toNat = 92
    · rcases he : s[i + 1]? with _ | e
      · rw [tl_short hc c3 (by rw [List.getElem?_eq_none_iff] at he; exact he)] at h; cases h
      have heu := getA (r := r) he
      by_cases hm : e ∈ escS
      · rw [tl_esc hc c3 he hm] at h
        rw [tl_esc hcu c3 heu hm]
        exact textL_app (by omega) h
      · by_cases hx : s.length ≤ i + 3 ∨ e.toNat ≠ 120 ∨ (∃ a, s[i + 2]? = some a ∧ digit a.toNat < 0) ∨ (∃ a, s[i + 3]? = some a ∧ digit a.toNat < 0)
        · rw [tl_form hc c3 he hm hx] at h; cases h
        · have hl : i + 3 < s.length := by
            by_cases hl : i + 3 < s.length
            · exact hl
            · exact absurd (.inl (by omega)) hx
          obtain ⟨a, ha⟩ := getS (s := s) (m := i + 2) (by omega)
          obtain ⟨d, hd⟩ := getS hl
          have h120 : e.toNat = 120 := by
            by_cases h1 : e.toNat = 120
            · exact h1
            · exact absurd (.inr (.inl h1)) hx
          have pa : 0 ≤ digit a.toNat := by
            by_cases h1 : 0 ≤ digit a.toNat
            · exact h1
            · exact absurd (.inr (.inr (.inl ⟨a, ha, by omega⟩))) hx
          have pd : 0 ≤ digit d.toNat := by
            by_cases h1 : 0 ≤ digit d.toNat
            · exact h1
            · exact absurd (.inr (.inr (.inr ⟨d, hd, by omega⟩))) hx
          obtain ⟨y, hy⟩ := Int.eq_ofNat_of_zero_le pa
          obtain ⟨z, hz⟩ := Int.eq_ofNat_of_zero_le pd
          rw [tl_hex hc c3 he hm h120 ha hd hy hz] at h
          rw [tl_hex hcu c3 heu hm h120 (getA ha) (getA hd) hy hz]
          split at h
          · cases h
          · rename_i hne
            rw [if_neg hne]
            exact textL_app (by omega) h
    · rw [tl_plain hc c1 c2 c3] at h
      rw [tl_plain hcu c1 c2 c3]
      exact textL_app (by omega) h

theorem exprL_app : ∀ {f f' i : Nat} {n : Nat}, f ≤ f' → exprL s f i = some n → exprL (s ++ r) f' i = some n
  | 0, f', i, n, _, h => by cases h
  | f + 1, f', i, n, hf, h => by
    obtain ⟨g, rfl⟩ : ∃ g, f' = g + 1 := ⟨f' - 1, by omega⟩
    rcases hc : s[i]? with _ | c
    · unfold exprL at h; rw [hc] at h; cases h
    have hcu := getA (r := r) hc
    by_cases c1 : c.toNat = 10
    · rw [el_nl hc c1] at h; cases h
    by_cases c2 : c.toNat = 92
    · cases hh : hit s (i + 1) 10
      · rw [el_esc hc c2 hh] at h
        have hl : i + 1 < s.length := by
          by_cases hl : i + 1 < s.length
          · exact hl
          · rw [el_none (by omega)] at h; cases h
        rw [el_esc hcu c2 (by rw [hitA hl]; exact hh)]
        exact exprL_app (by omega) h
      · rw [el_bad hc c2 hh] at h; cases h
    by_cases c3 : c.toNat = 47
    · rw [el_end hc c3] at h; rw [el_end hcu c3]; exact h
    · rw [el_plain hc c1 c2 c3] at h
      rw [el_plain hcu c1 c2 c3]
      exact exprL_app (by omega) h

theorem pre_app : ∀ (m s : List UInt8), b ∉ m → m.isPrefixOf (s ++ b :: r) = m.isPrefixOf s
  | [], s, _ => by simp
  | x :: m, [], h => by
    have : x ≠ b := fun e => h (by simp [e])
    simp [List.isPrefixOf, this]
  | x :: m, c :: s, h => by
    have := pre_app m s (fun e => h (by simp [e]))
    simp [List.isPrefixOf, this]
theorem bestL_app : ∀ (L : List (List UInt8)) (o : List UInt8), (∀ m ∈ L, b ∉ m) → bestL (s ++ b :: r) L o = bestL s L o
  | [], o, _ => rfl
  | m :: L, o, h => by
    simp only [bestL]
    rw [pre_app m s (h m (by simp))]
    exact bestL_app L _ fun m hm => h m (by simp [hm])
theorem marks_sep (h : Sep b) : ∀ m ∈ marksL, b ∉ m := by
  intro m hm hb
  have h1 : (marksL.all fun m => m.all fun x => decide (x.toNat ≠ 9 ∧ x.toNat ≠ 10)) = true := by decide
  have h2 := List.all_eq_true.1 (List.all_eq_true.1 h1 m hm) b hb
  have h3 := of_decide_eq_true h2
  unfold Sep at h; omega

theorem next_app {op : Bool} {t : Tok} {n : Nat} (h : Sep b) (hx : nextM s op = .ok t n) : nextM (s ++ b :: r) op = .ok t n := by
  unfold nextM at hx
  rcases hc : s[0]? with _ | c
  · rw [hc] at hx; cases hx
  have hl := (List.getElem?_eq_some_iff.1 hc).1
  unfold nextM
  rw [hc] at hx
  rw [getA hc]
  simp only at hx ⊢
  split at hx
  · rename_i c1; rw [if_pos c1]; exact hx
  rename_i c1; rw [if_neg c1]
  split at hx
  · rename_i c2; rw [if_pos c2]
    unfold numberM at hx ⊢
    rw [numLen_app h, List.take_append_of_le_length numLen_le]
    exact hx
  rename_i c2; rw [if_neg c2]
  split at hx
  · rename_i c3; rw [if_pos c3]
    unfold textQ at hx ⊢
    cases ht : textL s s.length 1 [] with
    | none => rw [ht] at hx; cases hx
    | some x => rw [ht] at hx; rw [textL_app (by simp) ht]; exact hx
  rename_i c3; rw [if_neg c3]
  split at hx
  · rename_i c4; rw [if_pos c4]
    unfold exprM at hx ⊢
    cases ht : exprL s s.length 1 with
    | none => rw [ht] at hx; cases hx
    | some j =>
      have := exprL_len ht
      rw [ht] at hx; rw [exprL_app (by simp) ht]
      simp only at hx ⊢
      rw [List.take_append_of_le_length (by omega)]
      exact hx
  rename_i c4; rw [if_neg c4]
  split at hx
  · rename_i c5; rw [if_pos c5]
    have e : wordLen (s ++ b :: r) = wordLen s := by unfold wordLen; rw [runA_app (sep_name h) (by omega)]
    unfold wordM at hx ⊢
    rw [e, List.take_append_of_le_length (wordLen_le (by omega))]
    exact hx
  rename_i c5; rw [if_neg c5]
  unfold markM at hx ⊢
  rw [bestL_app marksL [] (marks_sep h)]
  exact hx

theorem skipL_app : ∀ (a : List UInt8) (md : Bool) (x : List UInt8), skipL md a < a.length → skipL md (a ++ x) = skipL md a
  | [], md, x, h => by simp at h
  | c :: a, false, x, h => by
    simp only [List.cons_append, skipL, List.length_cons] at h ⊢
    split
    · rename_i h1; rw [if_pos h1] at h; rw [skipL_app a false x (by omega)]
    · rename_i h1; rw [if_neg h1] at h
      split
      · rename_i h2; rw [if_pos h2] at h; rw [skipL_app a true x (by omega)]
      · rfl
  | c :: a, true, x, h => by
    simp only [List.cons_append, skipL, List.length_cons] at h ⊢
    split
    · rfl
    · rename_i h1; rw [if_neg h1] at h; rw [skipL_app a true x (by omega)]
theorem skipL_nl : ∀ (a : List UInt8) (md : Bool) (x : List UInt8), skipL md a = a.length → skipL md (a ++ 10 :: x) = a.length
  | [], false, x, h => by simp [skipL, blank]
  | [], true, x, h => by simp [skipL]
  | c :: a, false, x, h => by
    simp only [List.cons_append, skipL, List.length_cons] at h ⊢
    split
    · rename_i h1; rw [if_pos h1] at h; rw [skipL_nl a false x (by omega)]
    · rename_i h1; rw [if_neg h1] at h
      split
      · rename_i h2; rw [if_pos h2] at h; rw [skipL_nl a true x (by omega)]
      · rename_i h2; rw [if_neg h2] at h; omega
  | c :: a, true, x, h => by
    simp only [List.cons_append, skipL, List.length_cons] at h ⊢
    split
    · rename_i h1; rw [if_pos h1] at h; omega
    · rename_i h1; rw [if_neg h1] at h; rw [skipL_nl a true x (by omega)]
/-- blanks, with a blank behind them -/
theorem skipL_tab : ∀ (a : List UInt8) (x : List UInt8), skipL false a = a.length → (∀ c ∈ a, c.toNat ≠ 35) → skipL false (a ++ 9 :: 47 :: x) = a.length + 1
  | [], x, _, _ => by simp [skipL, blank]
  | c :: a, x, h, hn => by
    simp only [List.cons_append, skipL, List.length_cons] at h ⊢
    have h35 := hn c (by simp)
    rw [if_neg h35] at h
    split
    · rename_i h1; rw [if_pos h1] at h; rw [skipL_tab a x (by omega) fun c hc => hn c (by simp [hc])]
    · rename_i h1; rw [if_neg h1] at h; omega
end

def toksW (u : List UInt8) (i : Nat) (op : Bool) (l : List Tok) : Ts := toksL u (u.length + 1) i op l
theorem toksL_fuel {u : List UInt8} : ∀ (f f' i : Nat) (op : Bool) (l : List Tok), i ≤ u.length → u.length < i + f → u.length < i + f' → toksL u f i op l = toksL u f' i op l
  | 0, f', i, op, l, hi, h, h' => by omega
  | f + 1, 0, i, op, l, hi, h, h' => by omega
  | f + 1, f' + 1, i, op, l, hi, h, h' => by
    rw [toks_go, toks_go]
    split
    · rename_i hlt
      cases hx : nextM (u.drop (i + skipA false u i)) op with
      | over => rfl
      | bad k => rfl
      | ok t n =>
        obtain ⟨n1, n2, _⟩ := next_ok hx
        rw [List.length_drop] at n2
        simp only
        split
        · rfl
        · exact toksL_fuel f f' _ _ _ (by omega) (by omega) (by omega)
    · rfl
theorem toksW_go {u : List UInt8} {i : Nat} {op : Bool} {l : List Tok} (hi : i ≤ u.length) : toksW u i op l = if i + skipA false u i < u.length then
      match nextM (u.drop (i + skipA false u i)) op with
      | .over => .err 3 (i + skipA false u i)
      | .bad _ => .err 9 (i + skipA false u i)
      | .ok t n => if 2000 ≤ l.length then .err 6 (i + skipA false u i) else toksW u (i + skipA false u i + n) (opM ⟨t.kind, i + skipA false u i, t.text, t.num⟩) (l ++ [⟨t.kind, i + skipA false u i, t.text, t.num⟩])
    else if 2000 ≤ l.length then .err 6 (i + skipA false u i) else .ok (l ++ [⟨0, i + skipA false u i, [], 0⟩]) := by
  unfold toksW
  rw [toks_go]
  split
  · rename_i hlt
    cases hx : nextM (u.drop (i + skipA false u i)) op with
    | over => rfl
    | bad k => rfl
    | ok t n =>
      obtain ⟨n1, n2, _⟩ := next_ok hx
      rw [List.length_drop] at n2
      simp only
      split
      · rfl
      · exact toksL_fuel _ _ _ _ _ (by omega) (by omega) (by omega)
  · rfl

/-- up to the end of a text's own tokens, whatever stands behind it -/
theorem toks_app {s r : List UInt8} {b : UInt8} (hb : Sep b) : ∀ (k i : Nat) (op : Bool) (l rr : List Tok), s.length - i = k → i ≤ s.length → toksW s i op l = .ok rr → ∃ i' op' m, rr = m ++ [⟨0, s.length, [], 0⟩] ∧ m.length < 2000 ∧ (i ≤ i' ∧ i' ≤ s.length) ∧ i' + skipA false s i' = s.length ∧
    toksW (s ++ b :: r) i op l = toksW (s ++ b :: r) i' op' m ∧ ((m = l ∧ op' = op) ∨ ∃ t m0, m = m0 ++ [t] ∧ op' = opM t ∧ t.pos < i') := by
  intro k
  induction k using Nat.strongRecOn with
  | _ k ih =>
    intro i op l rr hk hi h
    have hul : (s ++ b :: r).length = s.length + (r.length + 1) := by simp
    rw [toksW_go hi] at h
    have hj := skipA_le (b := false) hi
    by_cases hlt : i + skipA false s i < s.length
    · rw [if_pos hlt] at h
      have hsk : skipA false (s ++ b :: r) i = skipA false s i := by
        unfold skipA at hlt ⊢
        rw [List.drop_append_of_le_length hi]
        exact skipL_app _ _ _ (by rw [List.length_drop]; omega)
      rw [toksW_go (u := s ++ b :: r) (by omega), hsk, if_pos (by omega), List.drop_append_of_le_length (by omega)]
      have hij : i ≤ i + skipA false s i := by omega
      generalize i + skipA false s i = j at *
      cases hx : nextM (s.drop j) op with
      | over => rw [hx] at h; cases h
      | bad e => rw [hx] at h; cases h
      | ok t n =>
        rw [hx] at h
        obtain ⟨n1, n2, _⟩ := next_ok hx
        rw [List.length_drop] at n2
        rw [next_app hb hx]
        simp only at h ⊢
        by_cases hfull : 2000 ≤ l.length
        · rw [if_pos hfull] at h; cases h
        · rw [if_neg hfull] at h ⊢
          obtain ⟨i', op', m, h1, h2, h3, h4, h5, h6⟩ := ih _ (by omega) (j + n) _ _ _ rfl (by omega) h
          refine ⟨i', op', m, h1, h2, ⟨by omega, h3.2⟩, h4, h5, .inr ?_⟩
          rcases h6 with ⟨rfl, rfl⟩ | h6
          · refine ⟨_, l, rfl, rfl, ?_⟩
            show j < i'
            omega
          · exact h6
    · rw [if_neg hlt] at h
      by_cases hfull : 2000 ≤ l.length
      · rw [if_pos hfull] at h; cases h
      · rw [if_neg hfull] at h
        have he : i + skipA false s i = s.length := by omega
        rw [he] at h
        cases h
        exact ⟨i, op, l, rfl, by omega, ⟨Nat.le_refl _, hi⟩, he, rfl, .inl ⟨rfl, rfl⟩⟩
end Go.Ab.R15

namespace Go.Ab.R15
set_option maxRecDepth 100000
set_option linter.all false
set_option maxHeartbeats 4000000
variable {T : Tb} [hS : ScanB T]

def tokK : List PK := [.int .i64, .int .i64, .str, .int .i64]
theorem tokEq (t : Tok) : eqCells tokK (tokC t) (tokC t) = some true := by simp [eqCells, tokK, tokC, D.kind?, D.eqP]
theorem eqTk {t : Tok} {a b : List AV} {c : Bool → Prop} (ha : a = tokC t) (hb : b = tokC t) (h : c true) : EqcE tokK a b c := by
  subst ha hb; exact eqcB (tokEq t) h

/-! marks and words alone -/
def mkA (m : List UInt8) : List Tok := [⟨2, 0, [], 1000000⟩, ⟨7, 2, m, 0⟩, ⟨0, 2 + m.length, [], 0⟩]
def kyA (w : List UInt8) : List Tok := [⟨6, 0, w, 0⟩, ⟨0, w.length, [], 0⟩]
def kyB (w : List UInt8) : List Tok := [⟨5, 0, w ++ [120], 0⟩, ⟨0, w.length + 1, [], 0⟩]
theorem marks_all : (marksL.all fun m => decide (toksM ([49, 32] ++ m) = .ok (mkA m)) && decide (m.length ≤ 100)) = true := by decide +kernel
theorem keys_all : (keysL.all fun w => decide (toksM w = .ok (kyA w)) && decide (toksM (w ++ [120]) = .ok (kyB w)) && decide (w.length ≤ 100)) = true := by decide +kernel
theorem remL {a m : Nat} {l : List (List UInt8)} {c : Int → Prop} (hl : l.length = m) (hm : m ≠ 0) (h : c ((a % m : Nat) : Int)) : RemE (a : Int) ((rowsS l).length : Int) c := by
  rw [rowsS_length, hl]; exact remN hm h

theorem ScanMarks_ev (n : Nat) (hn : n < 256) : Ev T f_law15_ScanMarks [u8 n] [] (.ret (bl true)) [] := by
  have hm := Marks_ev (T := T)
  have hk := Keys_ev (T := T)
  have lm : marksL.length = 32 := rfl
  have lk : keysL.length = 20 := rfl
  obtain ⟨m, em⟩ : ∃ m, marksL[n % 32]? = some m := ⟨_, List.getElem?_eq_getElem (by rw [lm]; omega)⟩
  obtain ⟨w, ew⟩ : ∃ m, keysL[n % 20]? = some m := ⟨_, List.getElem?_eq_getElem (by rw [lk]; omega)⟩
  have a1 := List.all_eq_true.1 marks_all m (List.mem_of_getElem? em)
  have a2 := List.all_eq_true.1 keys_all w (List.mem_of_getElem? ew)
  simp only [Bool.and_eq_true, decide_eq_true_eq] at a1 a2
  obtain ⟨t1, l1⟩ := a1
  obtain ⟨⟨t2, t3⟩, l2⟩ := a2
  have rm := rowsS_length marksL
  have rk := rowsS_length keysL
  rw [lm] at rm
  rw [lk] at rk
  generalize marksL = M at *
  generalize keysL = K at *
  refine ev_fn rfl rfl ?_
  (repeat' (first
    | (intro (u_ : Unit); clear u_)
    | refine condT ?_
    | refine condF ?_
    | refine condp (by assumption) ?_
    | refine condn (by assumption) ?_
    | refine condN ?_
    | refine idxSb (by assumption) ?_
    | refine callE_ev (shown_ev _) ?_
    | refine callE_ev (hm _) ?_
    | refine callE_ev (hk _) ?_
    | refine remL lm (by decide) ?_
    | refine remL lk (by decide) ?_
    | refine idxSt em ?_
    | refine idxSt ew ?_
    | refine strC (by simp only [List.length_cons, List.length_nil]; omega) ?_
    | refine tokE (by simp only [List.length_append, List.length_cons, List.length_nil]; omega) t1 ?_
    | refine tokE (by omega) t2 ?_
    | refine tokE (by simp only [List.length_append, List.length_cons, List.length_nil]; omega) t3 ?_
    | refine idxTk (l := mkA m) (i := 1) rfl ?_
    | refine idxTk (l := kyA w) (i := 0) rfl ?_
    | refine idxTk (l := kyB w) (i := 0) rfl ?_
    | refine eqTk (t := ⟨7, 2, m, 0⟩) rfl rfl ?_
    | refine eqTk (t := ⟨6, 0, w, 0⟩) rfl rfl ?_
    | refine eqTk (t := ⟨5, 0, w ++ [120], 0⟩) rfl rfl ?_
    | refine condt (by rfl) ?_
    | refine condf (by rfl) ?_
    | (refine condD ?_ ?_ <;> intro hq_ <;> first | (exfalso; omega) | skip)
    | (refine idxS (by omega) ?_; intro b_ hb_; have hl_ := b_.toNat_lt)
    | refine wrA (by omega) ?_
    | refine wrS (by omega) (by omega) ?_
    | refine wrI (by omega) (by omega) ?_
    | refine wrBA (by omega) ?_
    | refine wrB (by omega) (by omega) ?_
    | refine strC (by omega) ?_
    | refine nilB rfl ?_))
  all_goals exact ⟨rfl, rfl⟩

/-! two programs -/
def shT (d : Nat) (t : Tok) : Tok := ⟨t.kind, t.pos + d, t.text, t.num⟩
theorem opM_pos (k p p' : Nat) (x : List UInt8) (n : Int) : opM ⟨k, p, x, n⟩ = opM ⟨k, p', x, n⟩ := rfl
theorem drop_pre {p t : List UInt8} {i : Nat} : (p ++ t).drop (p.length + i) = t.drop i := by
  rw [List.drop_append, List.drop_eq_nil_of_le (by omega), show p.length + i - p.length = i by omega]; rfl

theorem toks_sh {p t : List UInt8} {q : List Tok} : ∀ (k i : Nat) (op : Bool) (l rr : List Tok), t.length - i = k → i ≤ t.length → toksW t i op l = .ok rr →
    toksW (p ++ t) (p.length + i) op (q ++ l.map (shT p.length)) = .ok (q ++ rr.map (shT p.length)) ∨ ∃ j, toksW (p ++ t) (p.length + i) op (q ++ l.map (shT p.length)) = .err 6 j := by
  intro k
  induction k using Nat.strongRecOn with
  | _ k ih =>
    intro i op l rr hk hi h
    have hul : (p ++ t).length = p.length + t.length := by simp
    rw [toksW_go hi] at h
    have hsk : skipA false (p ++ t) (p.length + i) = skipA false t i := by unfold skipA; rw [drop_pre]
    have hj := skipA_le (b := false) hi
    have hij : i ≤ i + skipA false t i := by omega
    rw [toksW_go (u := p ++ t) (by omega), hsk]
    rw [Nat.add_assoc p.length i]
    generalize i + skipA false t i = j at *
    rw [drop_pre]
    by_cases hlt : j < t.length
    · rw [if_pos hlt] at h
      rw [if_pos (show p.length + j < (p ++ t).length by omega)]
      cases hx : nextM (t.drop j) op with
      | over => rw [hx] at h; cases h
      | bad e => rw [hx] at h; cases h
      | ok u n =>
        rw [hx] at h
        obtain ⟨n1, n2, _⟩ := next_ok hx
        rw [List.length_drop] at n2
        simp only at h ⊢
        by_cases hfull : 2000 ≤ l.length
        · rw [if_pos hfull] at h; cases h
        · rw [if_neg hfull] at h
          by_cases hf2 : 2000 ≤ (q ++ l.map (shT p.length)).length
          · rw [if_pos hf2]; exact .inr ⟨_, rfl⟩
          · rw [if_neg hf2]
            have := ih _ (by omega) (j + n) _ _ _ rfl (by omega) h
            rw [List.map_append, List.map_cons, List.map_nil, ← List.append_assoc, ← Nat.add_assoc] at this
            rw [opM_pos _ (p.length + j) j, show (⟨u.kind, p.length + j, u.text, u.num⟩ : Tok) = shT p.length ⟨u.kind, j, u.text, u.num⟩ from by simp [shT, Nat.add_comm]]
            exact this
    · rw [if_neg hlt] at h
      rw [if_neg (show ¬ p.length + j < (p ++ t).length by omega)]
      by_cases hfull : 2000 ≤ l.length
      · rw [if_pos hfull] at h; cases h
      · rw [if_neg hfull] at h
        cases h
        by_cases hf2 : 2000 ≤ (q ++ l.map (shT p.length)).length
        · rw [if_pos hf2]; exact .inr ⟨_, rfl⟩
        · rw [if_neg hf2]
          exact .inl (by simp [shT, Nat.add_comm])

theorem toksM_W {u : List UInt8} (h : u.length ≤ 8192) : toksM u = toksW u 0 false [] := by unfold toksM; rw [if_neg (by omega)]; rfl

theorem next_nl (t : List UInt8) (op : Bool) : nextM (10 :: t) op = .ok ⟨1, 0, [], 0⟩ 1 := by
  unfold nextM
  simp only [List.getElem?_cons_zero]
  rw [if_pos (.inl (by decide))]

theorem joins {s t : List UInt8} {a b : List Tok} (hs : toksM s = .ok a) (ht : toksM t = .ok b) (hl : s.length + t.length ≤ 1500) :
    ∃ m, a = m ++ [⟨0, s.length, [], 0⟩] ∧ (toksM (s ++ [10] ++ t) = .ok (m ++ [⟨1, s.length, [], 0⟩] ++ b.map (shT (s.length + 1))) ∨ ∃ j, toksM (s ++ [10] ++ t) = .err 6 j) := by
  rw [toksM_W (by omega)] at hs ht
  have e : s ++ [10] ++ t = s ++ 10 :: t := by simp
  have hul : (s ++ 10 :: t).length = s.length + (t.length + 1) := by simp
  obtain ⟨i', op', m, h1, h2, h3, h4, h5, _⟩ := toks_app (r := t) (b := 10) (.inr (by decide)) _ 0 false [] a rfl (Nat.zero_le _) hs
  refine ⟨m, h1, ?_⟩
  rw [e, toksM_W (by omega), h5, toksW_go (by omega)]
  have hsk : skipA false (s ++ 10 :: t) i' = skipA false s i' := by
    unfold skipA at h4 ⊢
    rw [List.drop_append_of_le_length h3.2]
    have : skipL false (s.drop i') = (s.drop i').length := by rw [List.length_drop]; omega
    rw [skipL_nl _ _ _ this, this]
  rw [hsk, h4, if_pos (by omega), List.drop_left, next_nl]
  simp only
  rw [if_neg (by omega)]
  have hp : (s ++ [10]).length = s.length + 1 := by simp
  have := toks_sh (p := s ++ [10]) (q := m ++ [⟨1, s.length, [], 0⟩]) _ 0 false [] b rfl (Nat.zero_le _) ht
  rw [hp, List.map_nil, List.append_nil, Nat.add_zero, e] at this
  exact this

theorem ScanJoins_ev (s : List UInt8) (hs : s.length ≤ 2 ^ 47) (t : List UInt8) (ht : t.length ≤ 2 ^ 47) : Ev T f_law15_ScanJoins [str s, str t] [] (.ret (bl true)) [] := by
  by_cases hbig : 1500 < s.length + t.length
  · refine ev_fn rfl rfl ?_
    (repeat' (first
      | (intro (u_ : Unit); clear u_)
      | refine condT ?_
      | refine condF ?_
      | refine condp (by assumption) ?_
      | refine condn (by assumption) ?_
      | refine condN ?_
      | refine idxSb (by assumption) ?_
      | refine callE_ev (shown_ev _) ?_
      | (refine condD ?_ ?_ <;> intro hq_ <;> first | (exfalso; omega) | skip)
      | (refine idxS (by omega) ?_; intro b_ hb_; have hl_ := b_.toNat_lt)
      | refine wrA (by omega) ?_
      | refine wrS (by omega) (by omega) ?_
      | refine wrI (by omega) (by omega) ?_
      | refine wrBA (by omega) ?_
      | refine wrB (by omega) (by omega) ?_
      | refine strC (by omega) ?_
      | refine nilB rfl ?_))
    exact ⟨rfl, rfl⟩
  have ps := toksM_places s
  have pt := toksM_places t
  cases hx : toksM s with
  | err e j =>
    rw [hx] at ps
    obtain ⟨he, hj⟩ := ps
    cases hy : toksM t with
    | err e2 j2 =>
      refine ev_fn rfl rfl ?_
      (repeat' (first
        | (intro (u_ : Unit); clear u_)
        | refine condT ?_
        | refine condF ?_
        | refine condp (by assumption) ?_
        | refine condn (by assumption) ?_
        | refine condN ?_
        | refine idxSb (by assumption) ?_
        | refine callE_ev (shown_ev _) ?_
        | refine tokE (by omega) hx ?_
        | refine tokE (by omega) hy ?_
        | (refine condD ?_ ?_ <;> intro hq_ <;> first | (exfalso; omega) | skip)
        | (refine idxS (by omega) ?_; intro b_ hb_; have hl_ := b_.toNat_lt)
        | refine wrA (by omega) ?_
        | refine wrS (by omega) (by omega) ?_
        | refine wrI (by omega) (by omega) ?_
        | refine wrBA (by omega) ?_
        | refine wrB (by omega) (by omega) ?_
        | refine strC (by omega) ?_
        | refine nilB rfl ?_))
      exact ⟨rfl, rfl⟩
    | ok l2 =>
      refine ev_fn rfl rfl ?_
      (repeat' (first
        | (intro (u_ : Unit); clear u_)
        | refine condT ?_
        | refine condF ?_
        | refine condp (by assumption) ?_
        | refine condn (by assumption) ?_
        | refine condN ?_
        | refine idxSb (by assumption) ?_
        | refine callE_ev (shown_ev _) ?_
        | refine tokE (by omega) hx ?_
        | refine tokE (by omega) hy ?_
        | (refine condD ?_ ?_ <;> intro hq_ <;> first | (exfalso; omega) | skip)
        | (refine idxS (by omega) ?_; intro b_ hb_; have hl_ := b_.toNat_lt)
        | refine wrA (by omega) ?_
        | refine wrS (by omega) (by omega) ?_
        | refine wrI (by omega) (by omega) ?_
        | refine wrBA (by omega) ?_
        | refine wrB (by omega) (by omega) ?_
        | refine strC (by omega) ?_
        | refine nilB rfl ?_))
      exact ⟨rfl, rfl⟩
  | ok a =>
    rw [hx] at ps
    cases hy : toksM t with
    | err e2 j2 =>
      rw [hy] at pt
      obtain ⟨he, hj⟩ := pt
      refine ev_fn rfl rfl ?_
      (repeat' (first
        | (intro (u_ : Unit); clear u_)
        | refine condT ?_
        | refine condF ?_
        | refine condp (by assumption) ?_
        | refine condn (by assumption) ?_
        | refine condN ?_
        | refine idxSb (by assumption) ?_
        | refine callE_ev (shown_ev _) ?_
        | refine tokE (by omega) hx ?_
        | refine tokE (by omega) hy ?_
        | (refine condD ?_ ?_ <;> intro hq_ <;> first | (exfalso; omega) | skip)
        | (refine idxS (by omega) ?_; intro b_ hb_; have hl_ := b_.toNat_lt)
        | refine wrA (by omega) ?_
        | refine wrS (by omega) (by omega) ?_
        | refine wrI (by omega) (by omega) ?_
        | refine wrBA (by omega) ?_
        | refine wrB (by omega) (by omega) ?_
        | refine strC (by omega) ?_
        | refine nilB rfl ?_))
      exact ⟨rfl, rfl⟩
    | ok b =>
      rw [hy] at pt
      have la := ps.le
      have lb := pt.le
      obtain ⟨m, hm, hc⟩ := joins hx hy (by omega)
      have hma : (a.map tokD).length = m.length + 1 := by rw [hm]; simp
      have hmb : (b.map tokD).length = b.length := by simp
      have lm : a.length = m.length + 1 := by rw [hm]; simp
      rcases hc with hc | ⟨j, hc⟩
      · generalize hcl : m ++ [⟨1, s.length, [], 0⟩] ++ b.map (shT (s.length + 1)) = c at hc
        have lc : c.length = m.length + 1 + b.length := by rw [← hcl]; simp; omega
        have hmc : (c.map tokD).length = m.length + 1 + b.length := by rw [List.length_map, lc]
        have c1 : ∀ i, i < m.length → ∃ u, a[i]? = some u ∧ c[i]? = some u := fun i hi => ⟨m[i], by rw [hm, List.getElem?_append_left hi]; exact List.getElem?_eq_getElem hi, by rw [← hcl, List.append_assoc, List.getElem?_append_left hi]; exact List.getElem?_eq_getElem hi⟩
        have c2 : c[m.length]? = some ⟨1, s.length, [], 0⟩ := by rw [← hcl, List.append_assoc, List.getElem?_append_right (Nat.le_refl _)]; simp
        have c3 : ∀ i, i < b.length → ∃ u, b[i]? = some u ∧ c[m.length + 1 + i]? = some (shT (s.length + 1) u) := fun i hi => ⟨b[i], List.getElem?_eq_getElem hi, by
          rw [← hcl, List.getElem?_append_right (by simp), List.getElem?_map]
          simp [List.getElem?_eq_getElem hi]⟩
        clear hcl hm
        refine ev_fn rfl rfl ?_
        (repeat' (first
          | (intro (u_ : Unit); clear u_)
          | refine condT ?_
          | refine condF ?_
          | refine condp (by assumption) ?_
          | refine condn (by assumption) ?_
          | refine condN ?_
          | refine idxSb (by assumption) ?_
          | refine callE_ev (shown_ev _) ?_
          | refine tokE (by omega) hx ?_
          | refine tokE (by omega) hy ?_
          | refine strC (by simp only [List.length_append, List.length_cons, List.length_nil]; omega) ?_
          | refine tokE (by simp only [List.length_append, List.length_cons, List.length_nil]; omega) hc ?_
          | (refine condD ?_ ?_ <;> intro hq_ <;> first | (exfalso; omega) | skip)
          | (refine idxS (by omega) ?_; intro b_ hb_; have hl_ := b_.toNat_lt)
          | refine wrA (by omega) ?_
          | refine wrS (by omega) (by omega) ?_
          | refine wrI (by omega) (by omega) ?_
          | refine wrBA (by omega) ?_
          | refine wrB (by omega) (by omega) ?_
          | refine strC (by omega) ?_
          | refine nilB rfl ?_))
        refine loopR (fun i : Nat => [(15, i64 i)]) (fun _ => []) (fun i => c.length - i) (fun i => i ≤ c.length) 0 (by omega) (by rfl) (by rfl) ?_
        intro i hi
        by_cases h1 : i < m.length
        · obtain ⟨u, u1, u2⟩ := c1 i h1
          (repeat' (first
            | (intro (u_ : Unit); clear u_)
            | refine condT ?_
            | refine condF ?_
            | refine condp (by assumption) ?_
            | refine condn (by assumption) ?_
            | refine condN ?_
            | refine idxSb (by assumption) ?_
            | refine idxTk u1 ?_
            | refine idxTk u2 ?_
            | refine eqTk (t := u) rfl rfl ?_
            | refine condf (by rfl) ?_
            | (refine condD ?_ ?_ <;> intro hq_ <;> first | (exfalso; omega) | skip)
            | (refine idxS (by omega) ?_; intro b_ hb_; have hl_ := b_.toNat_lt)
            | refine wrA (by omega) ?_
            | refine wrS (by omega) (by omega) ?_
            | refine wrI (by omega) (by omega) ?_
            | refine wrBA (by omega) ?_
            | refine wrB (by omega) (by omega) ?_
            | refine strC (by omega) ?_
            | refine nilB rfl ?_))
          exact ⟨i + 1, by omega, by omega, rfl, rfl, rfl, rfl⟩
        by_cases h2 : i = m.length
        · subst h2
          (repeat' (first
            | (intro (u_ : Unit); clear u_)
            | refine condT ?_
            | refine condF ?_
            | refine condp (by assumption) ?_
            | refine condn (by assumption) ?_
            | refine condN ?_
            | refine idxSb (by assumption) ?_
            | refine idxTk c2 ?_
            | refine eqTk (t := ⟨1, s.length, [], 0⟩) rfl rfl ?_
            | refine condf (by rfl) ?_
            | (refine condD ?_ ?_ <;> intro hq_ <;> first | (exfalso; omega) | skip)
            | (refine idxS (by omega) ?_; intro b_ hb_; have hl_ := b_.toNat_lt)
            | refine wrA (by omega) ?_
            | refine wrS (by omega) (by omega) ?_
            | refine wrI (by omega) (by omega) ?_
            | refine wrBA (by omega) ?_
            | refine wrB (by omega) (by omega) ?_
            | refine strC (by omega) ?_
            | refine nilB rfl ?_))
          exact ⟨m.length + 1, by omega, by omega, rfl, rfl, rfl, rfl⟩
        by_cases h3 : i < c.length
        · obtain ⟨k, rfl⟩ : ∃ k, i = m.length + 1 + k := ⟨i - (m.length + 1), by omega⟩
          obtain ⟨u, u1, u2⟩ := c3 k (by omega)
          have hu := pt.pos k u u1
          (repeat' (first
            | (intro (u_ : Unit); clear u_)
            | refine condT ?_
            | refine condF ?_
            | refine condp (by assumption) ?_
            | refine condn (by assumption) ?_
            | refine condN ?_
            | refine idxSb (by assumption) ?_
            | refine idxTi (i := k) (by omega) u1 ?_
            | refine idxTi (i := m.length + 1 + k) (by omega) u2 ?_
            | refine eqTk (t := shT (s.length + 1) u) rfl (by simp only [shT, tokC]; congr 4) ?_
            | refine condf (by rfl) ?_
            | (refine condD ?_ ?_ <;> intro hq_ <;> first | (exfalso; omega) | skip)
            | (refine idxS (by omega) ?_; intro b_ hb_; have hl_ := b_.toNat_lt)
            | refine wrA (by omega) ?_
            | refine wrS (by omega) (by omega) ?_
            | refine wrI (by omega) (by omega) ?_
            | refine wrBA (by omega) ?_
            | refine wrB (by omega) (by omega) ?_
            | refine strC (by omega) ?_
            | refine nilB rfl ?_))
          exact ⟨m.length + 1 + k + 1, by omega, by omega, rfl, rfl, rfl, rfl⟩
        · (repeat' (first
            | (intro (u_ : Unit); clear u_)
            | refine condT ?_
            | refine condF ?_
            | refine condp (by assumption) ?_
            | refine condn (by assumption) ?_
            | refine condN ?_
            | refine idxSb (by assumption) ?_
            | (refine condD ?_ ?_ <;> intro hq_ <;> first | (exfalso; omega) | skip)
            | (refine idxS (by omega) ?_; intro b_ hb_; have hl_ := b_.toNat_lt)
            | refine wrA (by omega) ?_
            | refine wrS (by omega) (by omega) ?_
            | refine wrI (by omega) (by omega) ?_
            | refine wrBA (by omega) ?_
            | refine wrB (by omega) (by omega) ?_
            | refine strC (by omega) ?_
            | refine nilB rfl ?_))
          exact ⟨rfl, rfl⟩
      · refine ev_fn rfl rfl ?_
        (repeat' (first
          | (intro (u_ : Unit); clear u_)
          | refine condT ?_
          | refine condF ?_
          | refine condp (by assumption) ?_
          | refine condn (by assumption) ?_
          | refine condN ?_
          | refine idxSb (by assumption) ?_
          | refine callE_ev (shown_ev _) ?_
          | refine tokE (by omega) hx ?_
          | refine tokE (by omega) hy ?_
          | refine strC (by simp only [List.length_append, List.length_cons, List.length_nil]; omega) ?_
          | refine tokE (by simp only [List.length_append, List.length_cons, List.length_nil]; omega) hc ?_
          | (refine condD ?_ ?_ <;> intro hq_ <;> first | (exfalso; omega) | skip)
          | (refine idxS (by omega) ?_; intro b_ hb_; have hl_ := b_.toNat_lt)
          | refine wrA (by omega) ?_
          | refine wrS (by omega) (by omega) ?_
          | refine wrI (by omega) (by omega) ?_
          | refine wrBA (by omega) ?_
          | refine wrB (by omega) (by omega) ?_
          | refine strC (by omega) ?_
          | refine nilB rfl ?_))
        exact ⟨rfl, rfl⟩
end Go.Ab.R15

namespace Go.Ab.R15
set_option maxRecDepth 100000
set_option linter.all false
set_option maxHeartbeats 4000000
variable {T : Tb} [hS : ScanB T]

def Big (u : List UInt8) (X : Ts) : Prop := X = X

theorem next_sl (r : List UInt8) : nextM (47 :: 97 :: r) true = .ok ⟨7, 0, [47], 0⟩ 1 := by
  have hb : bestL (47 :: 97 :: r) marksL [] = [47] := by simp [bestL, marksL, List.isPrefixOf]
  unfold nextM markM
  simp only [List.getElem?_cons_zero]
  rw [if_neg (by decide), if_neg (by decide), if_neg (by decide), if_neg (by simp), if_neg (by decide), hb]
  rfl
theorem next_a : nextM [97, 47] true = .ok ⟨5, 0, [97], 0⟩ 1 ∧ nextM [97, 47] false = .ok ⟨5, 0, [97], 0⟩ 1 := ⟨by kernel_rfl, by kernel_rfl⟩
theorem next_s1 : nextM [47] true = .ok ⟨7, 0, [47], 0⟩ 1 := by kernel_rfl
theorem next_re : nextM [47, 97, 47] false = .ok ⟨4, 0, [97], 0⟩ 3 := by kernel_rfl

/-- one step, where it is known what stands there -/
theorem stepW {u x : List UInt8} {i j : Nat} {op : Bool} {l : List Tok} {t : Tok} {n : Nat} (hi : i ≤ u.length) (hsk : i + skipA false u i = j) (hj : j < u.length) (hd : u.drop j = x) (hx : nextM x op = .ok t n) :
    toksW u i op l = .err 6 j ∨ toksW u i op l = toksW u (j + n) (opM t) (l ++ [⟨t.kind, j, t.text, t.num⟩]) := by
  rw [toksW_go hi, hsk, if_pos hj, hd, hx]
  simp only
  split
  · exact .inl rfl
  · exact .inr rfl
theorem endW {u : List UInt8} {i : Nat} {op : Bool} {l : List Tok} (hi : i = u.length) :
    toksW u i op l = .err 6 i ∨ toksW u i op l = .ok (l ++ [⟨0, i, [], 0⟩]) := by
  have hz : skipA false u i = 0 := skipA_end (by omega)
  rw [toksW_go (by omega), hz, Nat.add_zero, if_neg (by omega)]
  split
  · exact .inl rfl
  · exact .inr rfl

theorem slashes {s : List UInt8} {a : List Tok} (hs : toksM s = .ok a) (hl : s.length ≤ 300) (h2 : 2 ≤ a.length) :
    ∃ m t, a = m ++ [t] ++ [⟨0, s.length, [], 0⟩] ∧ t.pos < s.length ∧ ((∀ i c, t.pos ≤ i → s[i]? = some c → c.toNat ≠ 35) →
      (∃ j, toksM (s ++ [9, 47, 97, 47]) = .err 6 j) ∨ ∃ c, toksM (s ++ [9, 47, 97, 47]) = .ok c ∧
        (opM t = true → c.length = a.length + 3) ∧ (opM t = false → c.length = a.length + 1 ∧ ∃ u, c[c.length - 2]? = some u ∧ u.kind = 4)) := by
  rw [toksM_W (by omega)] at hs
  have hul : (s ++ 9 :: [47, 97, 47]).length = s.length + 4 := by simp
  obtain ⟨i', op', m', h1, h3, h4, h5, h6, h7⟩ := toks_app (r := [47, 97, 47]) (b := 9) (.inl (by decide)) _ 0 false [] a rfl (Nat.zero_le _) hs
  rcases h7 with ⟨rfl, _⟩ | ⟨t, m, rfl, rfl, hp⟩
  · rw [h1] at h2; simp at h2
  refine ⟨m, t, h1, by omega, fun hn => ?_⟩
  have hla : a.length = m.length + 2 := by rw [h1]; simp
  have hsk : skipA false (s ++ 9 :: [47, 97, 47]) i' = skipA false s i' + 1 := by
    unfold skipA at h5 ⊢
    rw [List.drop_append_of_le_length h4.2]
    have e : skipL false (s.drop i') = (s.drop i').length := by rw [List.length_drop]; omega
    rw [skipL_tab _ _ e fun c hc => ?_, e]
    obtain ⟨k, hk, rfl⟩ := List.getElem_of_mem hc
    have hk' : k < s.length - i' := by rwa [List.length_drop] at hk
    refine hn (i' + k) _ (by omega) ?_
    rw [List.getElem_drop]
    exact List.getElem?_eq_getElem (by omega)
  have d1 : (s ++ 9 :: [47, 97, 47]).drop (s.length + 1) = [47, 97, 47] := drop_pre (p := s) (i := 1)
  have d2 : (s ++ 9 :: [47, 97, 47]).drop (s.length + 2) = [97, 47] := drop_pre (p := s) (i := 2)
  have d3 : (s ++ 9 :: [47, 97, 47]).drop (s.length + 3) = [47] := drop_pre (p := s) (i := 3)
  have k2 : s.length + 2 + skipA false (s ++ 9 :: [47, 97, 47]) (s.length + 2) = s.length + 2 := by unfold skipA; rw [d2]; rfl
  have k3 : s.length + 3 + skipA false (s ++ 9 :: [47, 97, 47]) (s.length + 3) = s.length + 3 := by unfold skipA; rw [d3]; rfl
  rw [toksM_W (by omega), h6]
  cases ho : opM t with
  | true =>
    rcases stepW (u := s ++ 9 :: [47, 97, 47]) (i := i') (j := s.length + 1) (op := true) (l := m ++ [t]) (by omega) (by rw [hsk]; omega) (by omega) d1 (next_sl [47]) with e | e
    · exact Or.inl ⟨_, e⟩
    rw [e]
    rcases stepW (u := s ++ 9 :: [47, 97, 47]) (i := s.length + 1 + 1) (j := s.length + 2) (op := false) (l := m ++ [t] ++ [⟨7, s.length + 1, [47], 0⟩]) (by omega) k2 (by omega) d2 next_a.2 with e | e
    · exact Or.inl ⟨_, e⟩
    rw [show opM ⟨7, 0, [47], 0⟩ = false from rfl, e]
    rcases stepW (u := s ++ 9 :: [47, 97, 47]) (i := s.length + 2 + 1) (j := s.length + 3) (op := true) (l := m ++ [t] ++ [⟨7, s.length + 1, [47], 0⟩] ++ [⟨5, s.length + 2, [97], 0⟩]) (by omega) k3 (by omega) d3 next_s1 with e | e
    · exact Or.inl ⟨_, e⟩
    rw [show opM ⟨5, 0, [97], 0⟩ = true from rfl, e]
    rcases endW (u := s ++ 9 :: [47, 97, 47]) (i := s.length + 3 + 1) (op := opM ⟨7, 0, [47], 0⟩) (l := m ++ [t] ++ [⟨7, s.length + 1, [47], 0⟩] ++ [⟨5, s.length + 2, [97], 0⟩] ++ [⟨7, s.length + 3, [47], 0⟩]) (by omega) with e | e
    · exact Or.inl ⟨_, e⟩
    refine Or.inr ⟨_, e, fun _ => ?_, fun h => by cases h⟩
    rw [hla]; simp
  | false =>
    rcases stepW (u := s ++ 9 :: [47, 97, 47]) (i := i') (j := s.length + 1) (op := false) (l := m ++ [t]) (by omega) (by rw [hsk]; omega) (by omega) d1 next_re with e | e
    · exact Or.inl ⟨_, e⟩
    rw [e]
    rcases endW (u := s ++ 9 :: [47, 97, 47]) (i := s.length + 1 + 3) (op := opM ⟨4, 0, [97], 0⟩) (l := m ++ [t] ++ [⟨4, s.length + 1, [97], 0⟩]) (by omega) with e | e
    · exact Or.inl ⟨_, e⟩
    refine Or.inr ⟨_, e, (fun h => by cases h), fun _ => ⟨by rw [hla]; simp, ⟨4, s.length + 1, [97], 0⟩, ?_, rfl⟩⟩
    have e2 : (m ++ [t] ++ [(⟨4, s.length + 1, [97], 0⟩ : Tok)] ++ [(⟨0, s.length + 1 + 3, [], 0⟩ : Tok)]).length - 2 = (m ++ [t]).length := by simp
    rw [e2, List.append_assoc, List.getElem?_append_right (Nat.le_refl _)]
    simp

theorem ScanSlashes_ev (s : List UInt8) (hs : s.length ≤ 2 ^ 47) : Ev T f_law15_ScanSlashes [str s] [] (.ret (bl true)) [] := by
  by_cases hbig : 300 < s.length
  · refine ev_fn rfl rfl ?_
    (repeat' (first
      | (intro (u_ : Unit); clear u_)
      | refine condT ?_
      | refine condF ?_
      | refine condp (by assumption) ?_
      | refine condn (by assumption) ?_
      | refine condN ?_
      | refine idxSb (by assumption) ?_
      | refine callE_ev (shown_ev _) ?_
      | (refine condD ?_ ?_ <;> intro hq_ <;> first | (exfalso; omega) | skip)
      | (refine idxS (by omega) ?_; intro b_ hb_; have hl_ := b_.toNat_lt)
      | refine wrA (by omega) ?_
      | refine wrS (by omega) (by omega) ?_
      | refine wrI (by omega) (by omega) ?_
      | refine wrBA (by omega) ?_
      | refine wrB (by omega) (by omega) ?_
      | refine strC (by omega) ?_
      | refine nilB rfl ?_))
    exact ⟨rfl, rfl⟩
  have ps := toksM_places s
  cases hx : toksM s with
  | err e j =>
    rw [hx] at ps
    obtain ⟨he, hj⟩ := ps
    refine ev_fn rfl rfl ?_
    (repeat' (first
      | (intro (u_ : Unit); clear u_)
      | refine condT ?_
      | refine condF ?_
      | refine condp (by assumption) ?_
      | refine condn (by assumption) ?_
      | refine condN ?_
      | refine idxSb (by assumption) ?_
      | refine callE_ev (shown_ev _) ?_
      | refine tokE (by omega) hx ?_
      | (refine condD ?_ ?_ <;> intro hq_ <;> first | (exfalso; omega) | skip)
      | (refine idxS (by omega) ?_; intro b_ hb_; have hl_ := b_.toNat_lt)
      | refine wrA (by omega) ?_
      | refine wrS (by omega) (by omega) ?_
      | refine wrI (by omega) (by omega) ?_
      | refine wrBA (by omega) ?_
      | refine wrB (by omega) (by omega) ?_
      | refine strC (by omega) ?_
      | refine nilB rfl ?_))
    exact ⟨rfl, rfl⟩
  | ok a =>
    rw [hx] at ps
    have la := ps.le
    have hma : (a.map tokD).length = a.length := by simp
    by_cases h2 : a.length < 2
    · refine ev_fn rfl rfl ?_
      (repeat' (first
        | (intro (u_ : Unit); clear u_)
        | refine condT ?_
        | refine condF ?_
        | refine condp (by assumption) ?_
        | refine condn (by assumption) ?_
        | refine condN ?_
        | refine idxSb (by assumption) ?_
        | refine callE_ev (shown_ev _) ?_
        | refine tokE (by omega) hx ?_
        | (refine condD ?_ ?_ <;> intro hq_ <;> first | (exfalso; omega) | skip)
        | (refine idxS (by omega) ?_; intro b_ hb_; have hl_ := b_.toNat_lt)
        | refine wrA (by omega) ?_
        | refine wrS (by omega) (by omega) ?_
        | refine wrI (by omega) (by omega) ?_
        | refine wrBA (by omega) ?_
        | refine wrB (by omega) (by omega) ?_
        | refine strC (by omega) ?_
        | refine nilB rfl ?_))
      exact ⟨rfl, rfl⟩
    obtain ⟨m, t, h1, hp, hc⟩ := slashes hx (by omega) (by omega)
    have hla : a.length = m.length + 2 := by rw [h1]; simp
    have hat : a[m.length]? = some t := by rw [h1, List.append_assoc, List.getElem?_append_right (Nat.le_refl _)]; simp
    have hpu := toksM_places (s ++ [9, 47, 97, 47])
    clear h1
    cases hy : toksM (s ++ [9, 47, 97, 47]) with
    | err e j =>
      rw [hy] at hc hpu
      obtain ⟨he, hj⟩ := hpu
      by_cases he6 : e = 6
      · subst he6
        refine ev_fn rfl rfl ?_
        (repeat' (first
          | (intro (u_ : Unit); clear u_)
          | refine condT ?_
          | refine condF ?_
          | refine condp (by assumption) ?_
          | refine condn (by assumption) ?_
          | refine condN ?_
          | refine idxSb (by assumption) ?_
          | refine callE_ev (shown_ev _) ?_
          | refine tokE (by omega) hx ?_
          | refine strC (by simp only [List.length_append, List.length_cons, List.length_nil]; omega) ?_
          | refine tokE (by simp only [List.length_append, List.length_cons, List.length_nil]; omega) hy ?_
          | refine idxTi (i := m.length) (by omega) hat ?_
          | (refine condD ?_ ?_ <;> intro hq_ <;> first | (exfalso; omega) | skip)
          | (refine idxS (by omega) ?_; intro b_ hb_; have hl_ := b_.toNat_lt)
          | refine wrA (by omega) ?_
          | refine wrS (by omega) (by omega) ?_
          | refine wrI (by omega) (by omega) ?_
          | refine wrBA (by omega) ?_
          | refine wrB (by omega) (by omega) ?_
          | refine strC (by omega) ?_
          | refine nilB rfl ?_))
        exact ⟨rfl, rfl⟩
      · have hno : ¬ ∀ i c, t.pos ≤ i → s[i]? = some c → c.toNat ≠ 35 := fun h => by
          rcases hc h with ⟨j, e⟩ | ⟨c, e, _⟩
          · cases e; exact he6 rfl
          · cases e
        refine ev_fn rfl rfl ?_
        (repeat' (first
          | (intro (u_ : Unit); clear u_)
          | refine condT ?_
          | refine condF ?_
          | refine condp (by assumption) ?_
          | refine condn (by assumption) ?_
          | refine condN ?_
          | refine idxSb (by assumption) ?_
          | refine callE_ev (shown_ev _) ?_
          | refine tokE (by omega) hx ?_
          | refine strC (by simp only [List.length_append, List.length_cons, List.length_nil]; omega) ?_
          | refine tokE (by simp only [List.length_append, List.length_cons, List.length_nil]; omega) hy ?_
          | refine idxTi (i := m.length) (by omega) hat ?_
          | (refine condD ?_ ?_ <;> intro hq_ <;> first | (exfalso; omega) | skip)
          | (refine idxS (by omega) ?_; intro b_ hb_; have hl_ := b_.toNat_lt)
          | refine wrA (by omega) ?_
          | refine wrS (by omega) (by omega) ?_
          | refine wrI (by omega) (by omega) ?_
          | refine wrBA (by omega) ?_
          | refine wrB (by omega) (by omega) ?_
          | refine strC (by omega) ?_
          | refine nilB rfl ?_))
        all_goals first | exact ⟨rfl, rfl⟩ | skip
        refine loopR (fun i : Nat => [(11, i64 i)]) (fun _ => []) (fun i => s.length - i) (fun i => t.pos ≤ i ∧ i ≤ s.length ∧ ∀ k c, t.pos ≤ k → k < i → s[k]? = some c → c.toNat ≠ 35) t.pos ⟨by omega, by omega, fun k c h1 h2 => by omega⟩ (by rfl) (by rfl) ?_
        rintro i ⟨hi1, hi2, hP⟩
        (repeat' (first
          | (intro (u_ : Unit); clear u_)
          | refine condT ?_
          | refine condF ?_
          | refine condp (by assumption) ?_
          | refine condn (by assumption) ?_
          | refine condN ?_
          | refine idxSb (by assumption) ?_
          | (refine condD ?_ ?_ <;> intro hq_ <;> first | (exfalso; omega) | skip)
          | (refine idxS (by omega) ?_; intro b_ hb_; have hl_ := b_.toNat_lt)
          | refine wrA (by omega) ?_
          | refine wrS (by omega) (by omega) ?_
          | refine wrI (by omega) (by omega) ?_
          | refine wrBA (by omega) ?_
          | refine wrB (by omega) (by omega) ?_
          | refine strC (by omega) ?_
          | refine nilB rfl ?_))
        · exact ⟨rfl, rfl⟩
        · refine ⟨i + 1, ⟨by omega, by omega, fun k c h1 h2 h3 => ?_⟩, by omega, rfl, rfl, rfl, rfl⟩
          by_cases hk : k = i
          · subst hk
            rw [hb_] at h3; cases h3; omega
          · exact hP k c h1 (by omega) h3
        · exact absurd (fun k c h1 h3 => hP k c h1 (by have := (List.getElem?_eq_some_iff.1 h3).1; omega) h3) hno
    | ok c =>
      rw [hy] at hc hpu
      have lc := hpu.le
      have hmc : (c.map tokD).length = c.length := by simp
      have hO := Operand_ev (T := T) t
      have hG : (∀ i c, t.pos ≤ i → s[i]? = some c → c.toNat ≠ 35) → (opM t = true → c.length = a.length + 3) ∧ (opM t = false → c.length = a.length + 1 ∧ ∃ u, c[c.length - 2]? = some u ∧ u.kind = 4) := fun h => by
        rcases hc h with ⟨j, e⟩ | ⟨c', e, h3⟩
        · cases e
        · cases e; exact h3
      clear hc
      generalize opM t = q at *
      refine ev_fn rfl rfl ?_
      (repeat' (first
        | (intro (u_ : Unit); clear u_)
        | refine condT ?_
        | refine condF ?_
        | refine condp (by assumption) ?_
        | refine condn (by assumption) ?_
        | refine condN ?_
        | refine idxSb (by assumption) ?_
        | refine callE_ev (shown_ev _) ?_
        | refine tokE (by omega) hx ?_
        | refine strC (by simp only [List.length_append, List.length_cons, List.length_nil]; omega) ?_
        | refine tokE (by simp only [List.length_append, List.length_cons, List.length_nil]; omega) hy ?_
        | refine idxTi (i := m.length) (by omega) hat ?_
        | (refine condD ?_ ?_ <;> intro hq_ <;> first | (exfalso; omega) | skip)
        | (refine idxS (by omega) ?_; intro b_ hb_; have hl_ := b_.toNat_lt)
        | refine wrA (by omega) ?_
        | refine wrS (by omega) (by omega) ?_
        | refine wrI (by omega) (by omega) ?_
        | refine wrBA (by omega) ?_
        | refine wrB (by omega) (by omega) ?_
        | refine strC (by omega) ?_
        | refine nilB rfl ?_))
      all_goals first | exact ⟨rfl, rfl⟩ | skip
      refine loopR (fun i : Nat => [(11, i64 i)]) (fun _ => []) (fun i => s.length - i) (fun i => t.pos ≤ i ∧ i ≤ s.length ∧ ∀ k c, t.pos ≤ k → k < i → s[k]? = some c → c.toNat ≠ 35) t.pos ⟨by omega, by omega, fun k c h1 h2 => by omega⟩ (by rfl) (by rfl) ?_
      rintro i ⟨hi1, hi2, hP⟩
      by_cases hlt : i < s.length
      · (repeat' (first
          | (intro (u_ : Unit); clear u_)
          | refine condT ?_
          | refine condF ?_
          | refine condp (by assumption) ?_
          | refine condn (by assumption) ?_
          | refine condN ?_
          | refine idxSb (by assumption) ?_
          | (refine condD ?_ ?_ <;> intro hq_ <;> first | (exfalso; omega) | skip)
          | (refine idxS (by omega) ?_; intro b_ hb_; have hl_ := b_.toNat_lt)
          | refine wrA (by omega) ?_
          | refine wrS (by omega) (by omega) ?_
          | refine wrI (by omega) (by omega) ?_
          | refine wrBA (by omega) ?_
          | refine wrB (by omega) (by omega) ?_
          | refine strC (by omega) ?_
          | refine nilB rfl ?_))
        · exact ⟨rfl, rfl⟩
        · refine ⟨i + 1, ⟨by omega, by omega, fun k c h1 h2 h3 => ?_⟩, by omega, rfl, rfl, rfl, rfl⟩
          by_cases hk : k = i
          · subst hk
            rw [hb_] at h3; cases h3; omega
          · exact hP k c h1 (by omega) h3
      · obtain ⟨g1, g2⟩ := hG fun k c h1 h3 => hP k c h1 (by have := (List.getElem?_eq_some_iff.1 h3).1; omega) h3
        cases q
        · obtain ⟨g2, u, gu, gk⟩ := g2 rfl
          (repeat' (first
            | (intro (u_ : Unit); clear u_)
            | refine condT ?_
            | refine condF ?_
            | refine condp (by assumption) ?_
            | refine condn (by assumption) ?_
            | refine condN ?_
            | refine idxSb (by assumption) ?_
            | refine callE_ev (hO _) ?_
            | refine idxTi (i := c.length - 2) (by omega) gu ?_
            | (refine condD ?_ ?_ <;> intro hq_ <;> first | (exfalso; omega) | skip)
            | (refine idxS (by omega) ?_; intro b_ hb_; have hl_ := b_.toNat_lt)
            | refine wrA (by omega) ?_
            | refine wrS (by omega) (by omega) ?_
            | refine wrI (by omega) (by omega) ?_
            | refine wrBA (by omega) ?_
            | refine wrB (by omega) (by omega) ?_
            | refine strC (by omega) ?_
            | refine nilB rfl ?_))
          refine ⟨?_, rfl⟩; congr 3; simp; omega
        · have g1 := g1 rfl
          (repeat' (first
            | (intro (u_ : Unit); clear u_)
            | refine condT ?_
            | refine condF ?_
            | refine condp (by assumption) ?_
            | refine condn (by assumption) ?_
            | refine condN ?_
            | refine idxSb (by assumption) ?_
            | refine callE_ev (hO _) ?_
            | (refine condD ?_ ?_ <;> intro hq_ <;> first | (exfalso; omega) | skip)
            | (refine idxS (by omega) ?_; intro b_ hb_; have hl_ := b_.toNat_lt)
            | refine wrA (by omega) ?_
            | refine wrS (by omega) (by omega) ?_
            | refine wrI (by omega) (by omega) ?_
            | refine wrBA (by omega) ?_
            | refine wrB (by omega) (by omega) ?_
            | refine strC (by omega) ?_
            | refine nilB rfl ?_))
          refine ⟨?_, rfl⟩; congr 3; simp; omega
end Go.Ab.R15
