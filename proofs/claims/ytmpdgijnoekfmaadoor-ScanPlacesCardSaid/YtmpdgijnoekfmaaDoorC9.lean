/- A part of the proof: tools. No condition. -/
import Derived.Test.YtmpdgijnoekfmaaDoorC8
import Derived.Test.YtmpdgijnoekfmaaDoorL2
import Derived.Test.YtmpdgijnoekfmaaDoorProg
set_option linter.all false
namespace Go.Ab.R15
open Go.RowKit Go.Proofs
set_option maxRecDepth 100000
set_option linter.all false
set_option maxHeartbeats 4000000

theorem idxByte_pl {a : List AV} {v : AV} (h : idxByte a = some v) : v.refB = 0 ∧ AV.refBs a = 0 := by
  unfold idxByte at h
  split at h
  · cases h; exact ⟨rfl, rfl⟩
  · cases h
theorem splitO_pl {a : List AV} {v : AV} (h : splitO a = some v) : v.refB = 0 ∧ AV.refBs a = 0 := by
  unfold splitO at h
  split at h
  · split at h
    · cases h; exact ⟨rfl, rfl⟩
    · cases h
  · cases h
theorem mul64O_pl {a : List AV} {v : AV} (h : mul64O a = some v) : v.refB = 0 ∧ AV.refBs a = 0 := by
  unfold mul64O at h
  split at h
  · split at h
    · cases h; exact ⟨rfl, rfl⟩
    · cases h
  · cases h
theorem add64O_pl {a : List AV} {v : AV} (h : add64O a = some v) : v.refB = 0 ∧ AV.refBs a = 0 := by
  unfold add64O at h
  split at h
  · split at h
    · cases h; exact ⟨rfl, rfl⟩
    · cases h
  · cases h

def orcL : List (Nat × (List AV → Option AV)) := [(f_bytealg_IndexByteString, idxByte), (f_strings_Split, splitO), (f_bits_Mul64, mul64O), (f_bits_Add64, add64O)]
def T2 : Tb := ⟨lookupF tabl, lookupF tabD, orcOf orcL⟩
theorem fitN : FitN Tryd.prog (lookupF tabl) := fitN_of (by decide +kernel)
theorem fitD : FitD Tryd.prog (lookupF tabD) := fitD_of (by decide +kernel)
theorem orcL_pl {a : List AV} {v : AV} {f : FuncId} (h : orcOf orcL f a = some v) : v.refB = 0 ∧ AV.refBs a = 0 := by
  simp only [orcL, orcOf] at h
  split at h
  · exact idxByte_pl h
  · split at h
    · exact splitO_pl h
    · split at h
      · exact mul64O_pl h
      · split at h
        · exact add64O_pl h
        · cases h
instance : ScanB T2 where
  tab := fun f af h => let ⟨_, _, hf, _⟩ := fitN f af h; hf.cok
  tabD := fun f af h => let ⟨_, _, hf, _⟩ := fitD f af h; hf.cok
  orc := fun f a v h => orcL_pl h
  tb := rfl
  td := rfl
  idx := fun args => rfl
  none := fun f args h1 => orcOf_none (fun p hp e => by
    simp only [orcL, List.mem_cons, List.not_mem_nil, or_false] at hp
    rcases hp with rfl | rfl | rfl | rfl <;> (subst e; exact absurd h1 (by decide)))
  mul := fun args => rfl
  add := fun args => rfl
  spl := fun args => rfl

theorem orcIdx [Glb] : OrcAt Tryd.prog f_bytealg_IndexByteString idxByte := idxByte_ok (fn := Tryd.f55) Tryd.func55 (by decide +kernel) (by decide +kernel) (by rfl) (by rfl)
theorem orcAdd [Glb] : OrcAt Tryd.prog f_bits_Add64 add64O := add64O_ok (fn := Tryd.f43) Tryd.func43 (by decide +kernel) (by decide +kernel) (by rfl) (by rfl)

section
variable {T : Tb} [hS : ScanB T] {rf : Refs} {k : Out → Refs → Prop}
theorem tokE {s : List UInt8} {X : Ts} (hs : s.length ≤ 2 ^ 60) (hX : toksM s = X) (h : k (.ret (toksA X)) rf) : CallE T f_scan_Tokens [str s] rf k := callE_ev (Tokens_ev s hs rf) (by rw [hX]; exact h)
theorem idxTk {l : List Tok} {i : Nat} {t : Tok} {c : List D → Prop} (h : l[i]? = some t) (h' : c (tokD t)) : IdxL 4 (l.map tokD) (i : Int) c := idxLb (by rw [List.getElem?_map, h]; rfl) rfl h'
end

def shA : List Tok := [⟨5, 0, [97], 0⟩, ⟨7, 2, [47], 0⟩, ⟨5, 3, [98], 0⟩, ⟨7, 4, [47], 0⟩, ⟨2, 6, [], 2000000⟩, ⟨0, 7, [], 0⟩]
def shB : List Tok := [⟨7, 0, [126], 0⟩, ⟨4, 2, [98], 0⟩, ⟨0, 5, [], 0⟩]
theorem shA_eq : toksM [97, 32, 47, 98, 47, 32, 50] = .ok shA := by decide +kernel
theorem shB_eq : toksM [126, 32, 47, 98, 47] = .ok shB := by decide +kernel

theorem shown_ev {T : Tb} [hS : ScanB T] (rf : Refs) : Ev T f_law15_shown [] rf (.ret (bl true)) rf := by
  refine Ev.any ?_ rfl rf
  refine ev_fn rfl rfl ?_
  (repeat' (first
    | (intro (u_ : Unit); clear u_)
    | refine condT ?_
    | refine condF ?_
    | refine condp (by assumption) ?_
    | refine condn (by assumption) ?_
    | refine condN ?_
    | refine idxSb (by assumption) ?_
    | refine tokE (by decide) shA_eq ?_
    | refine tokE (by decide) shB_eq ?_
    | refine idxTk (l := shA) (i := 1) rfl ?_
    | refine idxTk (l := shA) (i := 4) rfl ?_
    | refine idxTk (l := shB) (i := 1) rfl ?_
    | refine condt (by decide) ?_
    | (refine condD ?_ ?_ <;> intro hq_ <;> first | (exfalso; omega) | skip)
    | (refine idxS (by omega) ?_; intro b_ hb_; have hl_ := b_.toNat_lt)
    | refine wrA (by omega) ?_
    | refine wrS (by omega) (by omega) ?_
    | refine wrI (by omega) (by omega) ?_
    | refine wrBA (by omega) ?_
    | refine wrB (by omega) (by omega) ?_
    | refine strC (by omega) ?_
    | refine nilB rfl ?_))
  exact ⟨rfl, rfl⟩
end Go.Ab.R15

namespace Go.Ab.R15
set_option maxRecDepth 100000
set_option linter.all false
set_option maxHeartbeats 4000000

theorem get_snoc {α : Type} {l : List α} {x t : α} {k : Nat} (h : (l ++ [x])[k]? = some t) : l[k]? = some t ∨ (k = l.length ∧ t = x) := by
  by_cases hk : k < l.length
  · rw [List.getElem?_append_left hk] at h; exact .inl h
  · rw [List.getElem?_append_right (by omega)] at h
    have h1 := (List.getElem?_eq_some_iff.1 h).1
    simp at h1
    have : k = l.length := by omega
    subst this
    simp at h
    exact .inr ⟨rfl, h.symm⟩

structure GoodT (s : List UInt8) (i : Nat) (l : List Tok) : Prop where
  lt : ∀ (k : Nat) (t : Tok), l[k]? = some t → t.pos < i ∧ 1 ≤ t.kind
  up : ∀ (k : Nat) (a b : Tok), l[k]? = some a → l[k + 1]? = some b → a.pos < b.pos
structure Places (s : List UInt8) (l : List Tok) : Prop where
  pos : ∀ (k : Nat) (t : Tok), l[k]? = some t → t.pos ≤ s.length ∧ (t.kind = 0 ↔ k + 1 = l.length)
  up : ∀ (k : Nat) (a b : Tok), l[k]? = some a → l[k + 1]? = some b → a.pos < b.pos
  ne : 0 < l.length
  le : l.length ≤ 2000

theorem up_snoc {l : List Tok} {x : Tok} (h : ∀ (k : Nat) (a b : Tok), l[k]? = some a → l[k + 1]? = some b → a.pos < b.pos) (h1 : ∀ (k : Nat) (t : Tok), l[k]? = some t → t.pos < x.pos) :
    ∀ (k : Nat) (a b : Tok), (l ++ [x])[k]? = some a → (l ++ [x])[k + 1]? = some b → a.pos < b.pos := fun k a b ha hb => by
  have hl := (List.getElem?_eq_some_iff.1 hb).1
  simp only [List.length_append, List.length_cons, List.length_nil] at hl
  have ha' : l[k]? = some a := by rwa [List.getElem?_append_left (by omega)] at ha
  rcases get_snoc hb with hb1 | ⟨_, e⟩
  · exact h k a b ha' hb1
  · rw [e]; exact h1 k a ha'

theorem good_snoc {s : List UInt8} {i j : Nat} {l : List Tok} {x : Tok} (h : GoodT s i l) (h1 : i ≤ x.pos) (h2 : x.pos < j) (hk : 1 ≤ x.kind) : GoodT s j (l ++ [x]) where
  lt := fun k t ht => by
    rcases get_snoc ht with h3 | ⟨_, e⟩
    · have := h.lt k t h3; omega
    · rw [e]; exact ⟨h2, hk⟩
  up := up_snoc h.up fun k t ht => by have := h.lt k t ht; omega

theorem places_end {s : List UInt8} {i : Nat} {l : List Tok} {x : Tok} (h : GoodT s i l) (h1 : i ≤ x.pos) (h2 : x.pos ≤ s.length) (hi : i ≤ s.length) (hk : x.kind = 0) (hl : l.length < 2000) : Places s (l ++ [x]) where
  pos := fun k t ht => by
    simp only [List.length_append, List.length_cons, List.length_nil]
    rcases get_snoc ht with h3 | ⟨hk1, e⟩
    · have h4 := h.lt k t h3
      have h5 := (List.getElem?_eq_some_iff.1 h3).1
      exact ⟨by omega, fun h => by omega, fun h => by omega⟩
    · rw [e]
      exact ⟨h2, fun _ => by omega, fun _ => hk⟩
  up := up_snoc h.up fun k t ht => by have := h.lt k t ht; omega
  ne := by simp
  le := by simp; omega

theorem toksL_places {s : List UInt8} : ∀ (f i : Nat) (op : Bool) (l : List Tok), i ≤ s.length → GoodT s i l → match toksL s f i op l with
    | .err e j => e ≠ 0 ∧ j ≤ s.length
    | .ok r => Places s r
  | 0, i, op, l, hi, h => ⟨by decide, hi⟩
  | f + 1, i, op, l, hi, h => by
    rw [toks_go]
    have hj := skipA_le (b := false) hi
    have hij : i ≤ i + skipA false s i := by omega
    generalize i + skipA false s i = j at *
    by_cases hlt : j < s.length
    · rw [if_pos hlt]
      cases hx : nextM (s.drop j) op with
      | over => exact ⟨by decide, hj⟩
      | bad k => exact ⟨by decide, hj⟩
      | ok t n =>
        obtain ⟨n1, n2, k1, k2, _⟩ := next_ok hx
        rw [List.length_drop] at n2
        simp only
        by_cases hfull : 2000 ≤ l.length
        · rw [if_pos hfull]; exact ⟨by decide, hj⟩
        · rw [if_neg hfull]
          exact toksL_places f (j + n) _ _ (by omega) (good_snoc h hij (show j < j + n by omega) k1)
    · rw [if_neg hlt]
      by_cases hfull : 2000 ≤ l.length
      · rw [if_pos hfull]; exact ⟨by decide, hj⟩
      · rw [if_neg hfull]
        exact places_end h hij hj hi rfl (by omega)

theorem toksM_places (s : List UInt8) : match toksM s with
    | .err e j => e ≠ 0 ∧ j ≤ s.length
    | .ok r => Places s r := by
  unfold toksM
  by_cases h : 8192 < s.length
  · rw [if_pos h]; exact ⟨by decide, Nat.zero_le _⟩
  · rw [if_neg h]; exact toksL_places _ _ _ _ (Nat.zero_le _) ⟨fun k t h => by simp at h, fun k a b h => by simp at h⟩

theorem idxTi {l : List Tok} {n : Int} {i : Nat} {t : Tok} {c : List D → Prop} (hn : n = i) (h : l[i]? = some t) (h' : c (tokD t)) : IdxL 4 (l.map tokD) n c := by subst hn; exact idxTk h h'
theorem beqT {p q : Prop} [Decidable p] [Decidable q] (h : p ↔ q) : (decide p == decide q) = true := by
  rw [beq_iff_eq]; exact decide_eq_decide.2 h
theorem beqN {b : Bool} (h : b = true) : (b != true) = false := by subst h; rfl

theorem ScanPlaces_ev {T : Tb} [hS : ScanB T] (s : List UInt8) (hs : s.length ≤ 2 ^ 47) : Ev T f_law15_ScanPlaces [str s] [] (.ret (bl true)) [] := by
  by_cases hbig : 3000 < s.length
  · refine ev_fn rfl rfl ?_
    (repeat' (first
      | (intro (u_ : Unit); clear u_)
      | refine condT ?_
      | refine condF ?_
      | refine condp (by assumption) ?_
      | refine condn (by assumption) ?_
      | refine condN ?_
      | refine idxSb (by assumption) ?_
      | refine callE_ev (shown_ev _) ?_
      | (refine condD ?_ ?_ <;> intro hq_ <;> first | (exfalso; omega) | skip)
      | (refine idxS (by omega) ?_; intro b_ hb_; have hl_ := b_.toNat_lt)
      | refine wrA (by omega) ?_
      | refine wrS (by omega) (by omega) ?_
      | refine wrI (by omega) (by omega) ?_
      | refine wrBA (by omega) ?_
      | refine wrB (by omega) (by omega) ?_
      | refine strC (by omega) ?_
      | refine nilB rfl ?_))
    exact ⟨rfl, rfl⟩
  have hp := toksM_places s
  cases hx : toksM s with
  | err e j =>
    rw [hx] at hp
    obtain ⟨he, hj⟩ := hp
    refine ev_fn rfl rfl ?_
    (repeat' (first
      | (intro (u_ : Unit); clear u_)
      | refine condT ?_
      | refine condF ?_
      | refine condp (by assumption) ?_
      | refine condn (by assumption) ?_
      | refine condN ?_
      | refine idxSb (by assumption) ?_
      | refine callE_ev (shown_ev _) ?_
      | refine tokE (by omega) hx ?_
      | (refine condD ?_ ?_ <;> intro hq_ <;> first | (exfalso; omega) | skip)
      | (refine idxS (by omega) ?_; intro b_ hb_; have hl_ := b_.toNat_lt)
      | refine wrA (by omega) ?_
      | refine wrS (by omega) (by omega) ?_
      | refine wrI (by omega) (by omega) ?_
      | refine wrBA (by omega) ?_
      | refine wrB (by omega) (by omega) ?_
      | refine strC (by omega) ?_
      | refine nilB rfl ?_))
    refine ⟨?_, rfl⟩
    congr 3
    simp
    omega
  | ok l =>
    rw [hx] at hp
    have hml : (l.map tokD).length = l.length := by simp
    have hne := hp.ne
    have hle := hp.le
    refine ev_fn rfl rfl ?_
    (repeat' (first
      | (intro (u_ : Unit); clear u_)
      | refine condT ?_
      | refine condF ?_
      | refine condp (by assumption) ?_
      | refine condn (by assumption) ?_
      | refine condN ?_
      | refine idxSb (by assumption) ?_
      | refine callE_ev (shown_ev _) ?_
      | refine tokE (by omega) hx ?_
      | (refine condD ?_ ?_ <;> intro hq_ <;> first | (exfalso; omega) | skip)
      | (refine idxS (by omega) ?_; intro b_ hb_; have hl_ := b_.toNat_lt)
      | refine wrA (by omega) ?_
      | refine wrS (by omega) (by omega) ?_
      | refine wrI (by omega) (by omega) ?_
      | refine wrBA (by omega) ?_
      | refine wrB (by omega) (by omega) ?_
      | refine strC (by omega) ?_
      | refine nilB rfl ?_))
    refine loopR (fun i : Nat => [(7, i64 i)]) (fun _ => []) (fun i => l.length - i) (fun i => i ≤ l.length) 0 (by omega) (by rfl) (by rfl) ?_
    intro i hi
    by_cases hlt : i < l.length
    · obtain ⟨t, ht⟩ : ∃ t, l[i]? = some t := ⟨_, List.getElem?_eq_getElem hlt⟩
      have hp1 := hp.pos i t ht
      have hb : (decide ((t.kind : Int) = ((0 : Nat) : Int)) == decide ((i : Int) = (((l.map tokD).length - 1 : Nat) : Int))) = true := beqT (by rw [hml]; omega)
      rcases i with _ | j
      · (repeat' (first
          | (intro (u_ : Unit); clear u_)
          | refine condT ?_
          | refine condF ?_
          | refine condp (by assumption) ?_
          | refine condn (by assumption) ?_
          | refine condN ?_
          | refine idxSb (by assumption) ?_
          | refine idxTk ht ?_
          | refine condf (beqN hb) ?_
          | (refine condD ?_ ?_ <;> intro hq_ <;> first | (exfalso; omega) | skip)
          | (refine idxS (by omega) ?_; intro b_ hb_; have hl_ := b_.toNat_lt)
          | refine wrA (by omega) ?_
          | refine wrS (by omega) (by omega) ?_
          | refine wrI (by omega) (by omega) ?_
          | refine wrBA (by omega) ?_
          | refine wrB (by omega) (by omega) ?_
          | refine strC (by omega) ?_
          | refine nilB rfl ?_))
        exact ⟨1, by omega, by omega, rfl, rfl, rfl, rfl⟩
      · obtain ⟨q, hq⟩ : ∃ t, l[j]? = some t := ⟨_, List.getElem?_eq_getElem (by omega)⟩
        have hup := hp.up j q t hq ht
        (repeat' (first
          | (intro (u_ : Unit); clear u_)
          | refine condT ?_
          | refine condF ?_
          | refine condp (by assumption) ?_
          | refine condn (by assumption) ?_
          | refine condN ?_
          | refine idxSb (by assumption) ?_
          | refine idxTi (i := j + 1) rfl ht ?_
          | refine idxTi (i := j) (by omega) hq ?_
          | refine condf (beqN hb) ?_
          | (refine condD ?_ ?_ <;> intro hq_ <;> first | (exfalso; omega) | skip)
          | (refine idxS (by omega) ?_; intro b_ hb_; have hl_ := b_.toNat_lt)
          | refine wrA (by omega) ?_
          | refine wrS (by omega) (by omega) ?_
          | refine wrI (by omega) (by omega) ?_
          | refine wrBA (by omega) ?_
          | refine wrB (by omega) (by omega) ?_
          | refine strC (by omega) ?_
          | refine nilB rfl ?_))
        exact ⟨j + 2, by omega, by omega, rfl, rfl, rfl, rfl⟩
    · (repeat' (first
        | (intro (u_ : Unit); clear u_)
        | refine condT ?_
        | refine condF ?_
        | refine condp (by assumption) ?_
        | refine condn (by assumption) ?_
        | refine condN ?_
        | refine idxSb (by assumption) ?_
        | (refine condD ?_ ?_ <;> intro hq_ <;> first | (exfalso; omega) | skip)
        | (refine idxS (by omega) ?_; intro b_ hb_; have hl_ := b_.toNat_lt)
        | refine wrA (by omega) ?_
        | refine wrS (by omega) (by omega) ?_
        | refine wrI (by omega) (by omega) ?_
        | refine wrBA (by omega) ?_
        | refine wrB (by omega) (by omega) ?_
        | refine strC (by omega) ?_
        | refine nilB rfl ?_))
      exact ⟨rfl, rfl⟩
end Go.Ab.R15
