/- What it says that a value of the machine is an abstract one. -/
import Derived.Test.YtpdfcjgehdlheaaA1
set_option linter.all false
namespace Go.Ab

abbrev Ghost := Nat → Nat → Option Value

mutual
def RepD (G : Ghost) : D → Value → Prop
  | .int k n, v => v = .int k n
  | .bool b, v => v = .bool b
  | .str s, v => v = .string ⟨s.toArray⟩
  | .nilp, v => v = .pointer none
  | .nilI, v => v = .nilIface
  | .nilF, v => v = .nilFunc
  | .lst es, v => ∃ a n, v = .slice a es.length n ∧ es.length ≤ n ∧ (es ≠ [] → ∃ b o sz, a = some ⟨b, o, none⟩ ∧ RepRows G b sz o es)
def RepRows (G : Ghost) (b sz : Nat) : Nat → List (List D) → Prop
  | _, [] => True
  | o, e :: es => e.length = sz ∧ RepCells G b o e ∧ RepRows G b sz (o + sz) es
def RepCells (G : Ghost) (b : Nat) : Nat → List D → Prop
  | _, [] => True
  | o, x :: r => (∃ v, G b o = some v ∧ RepD G x v) ∧ RepCells G b (o + 1) r
end

structure Ctx where
  G : Ghost
  F : Nat → Option Nat
  ρ : Nat → Option Nat

mutual
def Rep (K : Ctx) : AV → Value → Prop
  | .d x, v => RepD K.G x v
  | .nil, v => v = .slice none 0 0
  | .own es, v => RepD K.G (.lst es) v
  | .ptr r off, v => ∃ b, K.ρ r = some b ∧ v = .pointer (some ⟨b, off, none⟩)
  | .ept cs off, v => ∃ b o, v = .pointer (some ⟨b, o + off, none⟩) ∧ RepCells K.G b o cs
  | .sref r off n, v => ∃ b a c, K.ρ r = some b ∧ v = .slice (some a) n c ∧ (n ≠ 0 → a = ⟨b, off, none⟩)
  | .fn f a c, v => ∃ va vc, v = .func f va vc ∧ RepL K a va.toList ∧ RepL K c vc.toList
  | .ifc t x, v => ∃ y, v = .iface t y ∧ Rep K x y
  | .agg cs, v => ∃ vs, v = .agg vs ∧ RepL K cs vs.toList
  | .tup cs, v => ∃ vs, v = .tuple vs ∧ RepL K cs vs.toList
def RepL (K : Ctx) : List AV → List Value → Prop
  | [], vs => vs = []
  | c :: cs, vs => ∃ v r, vs = v :: r ∧ Rep K c v ∧ RepL K cs r
end

def Le (G G' : Ghost) : Prop := ∀ b o v, G b o = some v → G' b o = some v

theorem Le.refl (G : Ghost) : Le G G := fun _ _ _ h => h
theorem Le.trans {A B C : Ghost} (h : Le A B) (k : Le B C) : Le A C := fun b o v x => k b o v (h b o v x)

mutual
theorem RepD.mono {G G' : Ghost} (h : Le G G') : ∀ (x : D) (v : Value), RepD G x v → RepD G' x v
  | .int k n, v, r => by simpa [RepD] using r
  | .bool b, v, r => by simpa [RepD] using r
  | .str s, v, r => by simpa [RepD] using r
  | .nilp, v, r => by simpa [RepD] using r
  | .nilI, v, r => by simpa [RepD] using r
  | .nilF, v, r => by simpa [RepD] using r
  | .lst es, v, r => by
    simp only [RepD] at r ⊢
    obtain ⟨a, n, hv, hn, hr⟩ := r
    exact ⟨a, n, hv, hn, fun hne => let ⟨b, o, sz, ha, hrows⟩ := hr hne; ⟨b, o, sz, ha, RepRows.mono h b sz o es hrows⟩⟩
theorem RepRows.mono {G G' : Ghost} (h : Le G G') (b sz : Nat) : ∀ (o : Nat) (es : List (List D)), RepRows G b sz o es → RepRows G' b sz o es
  | _, [], _ => by simp [RepRows]
  | o, e :: es, r => by
    simp only [RepRows] at r ⊢
    exact ⟨r.1, RepCells.mono h b o e r.2.1, RepRows.mono h b sz (o + sz) es r.2.2⟩
theorem RepCells.mono {G G' : Ghost} (h : Le G G') (b : Nat) : ∀ (o : Nat) (l : List D), RepCells G b o l → RepCells G' b o l
  | _, [], _ => by simp [RepCells]
  | o, x :: l, r => by
    simp only [RepCells] at r ⊢
    obtain ⟨⟨v, hv, hx⟩, hr⟩ := r
    exact ⟨⟨v, h _ _ _ hv, RepD.mono h x v hx⟩, RepCells.mono h b (o + 1) l hr⟩
end

theorem RepRows.get {G : Ghost} {b sz : Nat} : ∀ {o : Nat} {es : List (List D)} {i : Nat} {e : List D}, RepRows G b sz o es → es[i]? = some e → e.length = sz ∧ RepCells G b (o + i * sz) e
  | o, [], i, e, _, h => by simp at h
  | o, x :: es, 0, e, r, h => by
    simp only [RepRows] at r
    simp only [List.getElem?_cons_zero, Option.some.injEq] at h
    subst h
    simpa using ⟨r.1, r.2.1⟩
  | o, x :: es, i + 1, e, r, h => by
    simp only [RepRows] at r
    simp only [List.getElem?_cons_succ] at h
    have := RepRows.get r.2.2 h
    rw [show o + (i + 1) * sz = o + sz + i * sz by rw [Nat.add_mul]; omega]
    exact this

theorem RepRows.append {G : Ghost} {b sz : Nat} : ∀ {o : Nat} {es fs : List (List D)}, RepRows G b sz o es → RepRows G b sz (o + es.length * sz) fs → RepRows G b sz o (es ++ fs)
  | o, [], fs, _, h => by simpa using h
  | o, e :: es, fs, r, h => by
    simp only [RepRows, List.cons_append] at r ⊢
    refine ⟨r.1, r.2.1, RepRows.append r.2.2 ?_⟩
    rw [show o + sz + es.length * sz = o + (e :: es).length * sz by simp [Nat.add_mul]; omega]
    exact h

theorem RepRows.drop {G : Ghost} {b sz : Nat} : ∀ {o : Nat} {es : List (List D)} (i : Nat), RepRows G b sz o es → RepRows G b sz (o + i * sz) (es.drop i)
  | o, es, 0, r => by simpa using r
  | o, [], i + 1, _ => by simp [RepRows]
  | o, e :: es, i + 1, r => by
    simp only [RepRows] at r
    rw [show o + (i + 1) * sz = o + sz + i * sz by rw [Nat.add_mul]; omega, List.drop_succ_cons]
    exact RepRows.drop i r.2.2

theorem RepRows.take {G : Ghost} {b sz : Nat} : ∀ {o : Nat} {es : List (List D)} (i : Nat), RepRows G b sz o es → RepRows G b sz o (es.take i)
  | o, es, 0, r => by simp [RepRows]
  | o, [], i + 1, _ => by simp [RepRows]
  | o, e :: es, i + 1, r => by
    simp only [RepRows, List.take_succ_cons] at r ⊢
    exact ⟨r.1, r.2.1, RepRows.take i r.2.2⟩

theorem RepCells.get {G : Ghost} {b : Nat} : ∀ {o : Nat} {l : List D} {i : Nat} {x : D}, RepCells G b o l → l[i]? = some x → ∃ v, G b (o + i) = some v ∧ RepD G x v
  | o, [], i, x, _, h => by simp at h
  | o, y :: l, 0, x, r, h => by
    simp only [RepCells] at r
    simp only [List.getElem?_cons_zero, Option.some.injEq] at h
    subst h
    simpa using r.1
  | o, y :: l, i + 1, x, r, h => by
    simp only [RepCells] at r
    simp only [List.getElem?_cons_succ] at h
    have := RepCells.get r.2 h
    rw [show o + (i + 1) = o + 1 + i by omega]
    exact this

mutual
/-- K' knows what K knows, of the references below n -/
theorem Rep.mono {K K' : Ctx} {n : Nat} (hG : Le K.G K'.G) (hρ : ∀ r, r < n → K.ρ r = K'.ρ r) : ∀ (x : AV) (v : Value), x.refB ≤ n → Rep K x v → Rep K' x v
  | .d x, v, _, r => by simp only [Rep] at r ⊢; exact RepD.mono hG x v r
  | .nil, v, _, r => by simpa [Rep] using r
  | .own es, v, _, r => by simp only [Rep] at r ⊢; exact RepD.mono hG _ v r
  | .ptr r off, v, hb, h => by
    simp only [Rep, AV.refB] at h hb ⊢
    obtain ⟨b, hb', hv⟩ := h
    exact ⟨b, by rw [← hρ r (by omega)]; exact hb', hv⟩
  | .ept cs off, v, _, h => by
    simp only [Rep] at h ⊢
    obtain ⟨b, o, hv, hc⟩ := h
    exact ⟨b, o, hv, RepCells.mono hG b o cs hc⟩
  | .sref r off m, v, hb, h => by
    simp only [Rep, AV.refB] at h hb ⊢
    obtain ⟨b, a, c, hb', hv⟩ := h
    exact ⟨b, a, c, by rw [← hρ r (by omega)]; exact hb', hv⟩
  | .fn f a c, v, hb, h => by
    simp only [Rep, AV.refB] at h hb ⊢
    obtain ⟨va, vc, hv, h1, h2⟩ := h
    exact ⟨va, vc, hv, RepL.mono hG hρ a _ (Nat.le_trans (Nat.le_max_left _ _) hb) h1, RepL.mono hG hρ c _ (Nat.le_trans (Nat.le_max_right _ _) hb) h2⟩
  | .ifc t x, v, hb, h => by
    simp only [Rep, AV.refB] at h hb ⊢
    obtain ⟨y, hv, hx⟩ := h
    exact ⟨y, hv, Rep.mono hG hρ x y hb hx⟩
  | .agg cs, v, hb, h => by
    simp only [Rep, AV.refB] at h hb ⊢
    obtain ⟨vs, hv, hx⟩ := h
    exact ⟨vs, hv, RepL.mono hG hρ cs _ hb hx⟩
  | .tup cs, v, hb, h => by
    simp only [Rep, AV.refB] at h hb ⊢
    obtain ⟨vs, hv, hx⟩ := h
    exact ⟨vs, hv, RepL.mono hG hρ cs _ hb hx⟩
theorem RepL.mono {K K' : Ctx} {n : Nat} (hG : Le K.G K'.G) (hρ : ∀ r, r < n → K.ρ r = K'.ρ r) : ∀ (l : List AV) (vs : List Value), AV.refBs l ≤ n → RepL K l vs → RepL K' l vs
  | [], vs, _, r => by simpa [RepL] using r
  | x :: l, vs, hb, h => by
    simp only [RepL, AV.refBs] at h hb ⊢
    obtain ⟨v, r, hv, hx, hl⟩ := h
    exact ⟨v, r, hv, Rep.mono hG hρ x v (Nat.le_trans (Nat.le_max_left _ _) hb) hx, RepL.mono hG hρ l r (Nat.le_trans (Nat.le_max_right _ _) hb) hl⟩
end

theorem RepL.length {K : Ctx} : ∀ {l : List AV} {vs : List Value}, RepL K l vs → vs.length = l.length
  | [], vs, h => by simp only [RepL] at h; simp [h]
  | x :: l, vs, h => by
    simp only [RepL] at h
    obtain ⟨v, r, hv, _, hl⟩ := h
    subst hv
    simp [RepL.length hl]

theorem RepL.get {K : Ctx} : ∀ {l : List AV} {vs : List Value} {i : Nat} {x : AV}, RepL K l vs → l[i]? = some x → ∃ v, vs[i]? = some v ∧ Rep K x v
  | [], vs, i, x, _, h => by simp at h
  | y :: l, vs, 0, x, r, h => by
    simp only [RepL] at r
    obtain ⟨v, r, rfl, hx, hl⟩ := r
    simp only [List.getElem?_cons_zero, Option.some.injEq] at h
    subst h
    exact ⟨v, by simp, hx⟩
  | y :: l, vs, i + 1, x, r, h => by
    simp only [RepL] at r
    obtain ⟨v, r, rfl, hx, hl⟩ := r
    simp only [List.getElem?_cons_succ] at h ⊢
    exact RepL.get hl h

theorem RepL.append {K : Ctx} : ∀ {l m : List AV} {vs ws : List Value}, RepL K l vs → RepL K m ws → RepL K (l ++ m) (vs ++ ws)
  | [], m, vs, ws, h, k => by simp only [RepL] at h; subst h; simpa using k
  | x :: l, m, vs, ws, h, k => by
    simp only [RepL, List.cons_append] at h ⊢
    obtain ⟨v, r, rfl, hx, hl⟩ := h
    exact ⟨v, r ++ ws, by simp, hx, RepL.append hl k⟩

theorem RepL.take {K : Ctx} : ∀ {l : List AV} {vs : List Value} (i : Nat), RepL K l vs → RepL K (l.take i) (vs.take i)
  | l, vs, 0, _ => by simp [RepL]
  | [], vs, i + 1, h => by simp only [RepL] at h; subst h; simp [RepL]
  | x :: l, vs, i + 1, h => by
    simp only [RepL] at h
    obtain ⟨v, r, rfl, hx, hl⟩ := h
    simp only [List.take_succ_cons, RepL]
    exact ⟨v, r.take i, rfl, hx, RepL.take i hl⟩

theorem RepL.drop {K : Ctx} : ∀ {l : List AV} {vs : List Value} (i : Nat), RepL K l vs → RepL K (l.drop i) (vs.drop i)
  | l, vs, 0, h => by simpa using h
  | [], vs, i + 1, h => by simp only [RepL] at h; subst h; simp [RepL]
  | x :: l, vs, i + 1, h => by
    simp only [RepL] at h
    obtain ⟨v, r, rfl, hx, hl⟩ := h
    simpa using RepL.drop i hl

theorem RepL.set {K : Ctx} : ∀ {l : List AV} {vs : List Value} {i : Nat} {x : AV} {v : Value}, RepL K l vs → Rep K x v → RepL K (l.set i x) (vs.set i v)
  | [], vs, i, x, v, h, _ => by simp only [RepL] at h; subst h; simp [RepL]
  | y :: l, vs, 0, x, v, h, k => by
    simp only [RepL] at h
    obtain ⟨v', r, rfl, hx, hl⟩ := h
    simp only [List.set_cons_zero, RepL]
    exact ⟨v, r, rfl, k, hl⟩
  | y :: l, vs, i + 1, x, v, h, k => by
    simp only [RepL] at h
    obtain ⟨v', r, rfl, hx, hl⟩ := h
    simp only [List.set_cons_succ, RepL]
    exact ⟨v', _, rfl, hx, RepL.set hl k⟩

def setRangeV (cs : List Value) (off : Nat) : List Value → List Value
  | [] => cs
  | v :: r => setRangeV (cs.set off v) (off + 1) r

theorem RepL.setRange {K : Ctx} : ∀ {m : List AV} {ws : List Value} {l : List AV} {vs : List Value} {off : Nat}, RepL K l vs → RepL K m ws → RepL K (setRange l off m) (setRangeV vs off ws)
  | [], ws, l, vs, off, h, k => by simp only [RepL] at k; subst k; simpa [Ab.setRange, setRangeV] using h
  | x :: m, ws, l, vs, off, h, k => by
    simp only [RepL] at k
    obtain ⟨v, r, rfl, hx, hm⟩ := k
    simp only [Ab.setRange, setRangeV]
    exact RepL.setRange (RepL.set h hx) hm

mutual
theorem Rep.strip {K : Ctx} : ∀ (x : AV) (v : Value), Rep K x v → Rep K x.strip v
  | .d x, v, h => by simpa [AV.strip] using h
  | .nil, v, h => by simpa [AV.strip] using h
  | .own es, v, h => by simpa [AV.strip, Rep] using h
  | .ptr r off, v, h => by simpa [AV.strip] using h
  | .ept cs off, v, h => by simpa [AV.strip] using h
  | .sref r off m, v, h => by simpa [AV.strip] using h
  | .fn f a c, v, h => by simpa [AV.strip] using h
  | .ifc t x, v, h => by
    simp only [AV.strip, Rep] at h ⊢
    obtain ⟨y, hv, hx⟩ := h
    exact ⟨y, hv, Rep.strip x y hx⟩
  | .agg cs, v, h => by
    simp only [AV.strip, Rep] at h ⊢
    obtain ⟨y, hv, hx⟩ := h
    exact ⟨y, hv, RepL.strips cs _ hx⟩
  | .tup cs, v, h => by
    simp only [AV.strip, Rep] at h ⊢
    obtain ⟨y, hv, hx⟩ := h
    exact ⟨y, hv, RepL.strips cs _ hx⟩
theorem RepL.strips {K : Ctx} : ∀ (l : List AV) (vs : List Value), RepL K l vs → RepL K (AV.strips l) vs
  | [], vs, h => by simpa [AV.strips] using h
  | x :: l, vs, h => by
    simp only [AV.strips, RepL] at h ⊢
    obtain ⟨v, r, hv, hx, hl⟩ := h
    exact ⟨v, r, hv, Rep.strip x v hx, RepL.strips l r hl⟩
end

mutual
theorem Rep.bare {K : Ctx} : ∀ (x : AV) (v : Value), Rep K x v → Rep K x.bare v
  | .d x, v, h => by simpa [AV.bare] using h
  | .nil, v, h => by
    simp only [AV.bare, Rep, RepD] at h ⊢
    exact ⟨none, 0, by simp [h], by simp, by simp⟩
  | .own es, v, h => by simpa [AV.bare, Rep] using h
  | .ptr r off, v, h => by simpa [AV.bare] using h
  | .ept cs off, v, h => by simpa [AV.bare] using h
  | .sref r off m, v, h => by simpa [AV.bare] using h
  | .fn f a c, v, h => by simpa [AV.bare] using h
  | .ifc t x, v, h => by
    simp only [AV.bare, Rep] at h ⊢
    obtain ⟨y, hv, hx⟩ := h
    exact ⟨y, hv, Rep.bare x y hx⟩
  | .agg cs, v, h => by
    simp only [AV.bare, Rep] at h ⊢
    obtain ⟨y, hv, hx⟩ := h
    exact ⟨y, hv, RepL.bares cs _ hx⟩
  | .tup cs, v, h => by simpa [AV.bare] using h
theorem RepL.bares {K : Ctx} : ∀ (l : List AV) (vs : List Value), RepL K l vs → RepL K (AV.bares l) vs
  | [], vs, h => by simpa [AV.bares] using h
  | x :: l, vs, h => by
    simp only [AV.bares, RepL] at h ⊢
    obtain ⟨v, r, hv, hx, hl⟩ := h
    exact ⟨v, r, hv, Rep.bare x v hx, RepL.bares l r hl⟩
end

mutual
theorem refB_strip : ∀ x : AV, x.strip.refB = x.refB
  | .d x => by simp [AV.strip]
  | .nil => by simp [AV.strip]
  | .own es => by simp [AV.strip, AV.refB]
  | .ptr r off => by simp [AV.strip]
  | .ept cs off => by simp [AV.strip]
  | .sref r off m => by simp [AV.strip]
  | .fn f a c => by simp [AV.strip]
  | .ifc t x => by simp [AV.strip, AV.refB, refB_strip x]
  | .agg cs => by simp [AV.strip, AV.refB, refBs_strips cs]
  | .tup cs => by simp [AV.strip, AV.refB, refBs_strips cs]
theorem refBs_strips : ∀ l : List AV, AV.refBs (AV.strips l) = AV.refBs l
  | [] => by simp [AV.strips]
  | x :: l => by simp [AV.strips, AV.refBs, refB_strip x, refBs_strips l]
end
mutual
theorem refB_bare : ∀ x : AV, x.bare.refB = x.refB
  | .d x => by simp [AV.bare]
  | .nil => by simp [AV.bare, AV.refB]
  | .own es => by simp [AV.bare, AV.refB]
  | .ptr r off => by simp [AV.bare]
  | .ept cs off => by simp [AV.bare]
  | .sref r off m => by simp [AV.bare]
  | .fn f a c => by simp [AV.bare]
  | .ifc t x => by simp [AV.bare, AV.refB, refB_bare x]
  | .agg cs => by simp [AV.bare, AV.refB, refBs_bares cs]
  | .tup cs => by simp [AV.bare]
theorem refBs_bares : ∀ l : List AV, AV.refBs (AV.bares l) = AV.refBs l
  | [] => by simp [AV.bares]
  | x :: l => by simp [AV.bares, AV.refBs, refB_bare x, refBs_bares l]
end

theorem refBs_append (l m : List AV) : AV.refBs (l ++ m) = max (AV.refBs l) (AV.refBs m) := by
  induction l with
  | nil => simp [AV.refBs]
  | cons x l ih => simp only [List.cons_append, AV.refBs, ih]; omega
theorem refB_le_of_get {l : List AV} {i : Nat} {x : AV} (h : l[i]? = some x) : x.refB ≤ AV.refBs l := by
  induction l generalizing i with
  | nil => simp at h
  | cons y l ih =>
    cases i with
    | zero => simp only [List.getElem?_cons_zero, Option.some.injEq] at h; subst h; simp only [AV.refBs]; omega
    | succ i => simp only [List.getElem?_cons_succ] at h; have := ih h; simp only [AV.refBs]; omega
theorem refBs_le_iff {l : List AV} {n : Nat} : AV.refBs l ≤ n ↔ ∀ x ∈ l, x.refB ≤ n := by
  induction l with
  | nil => simp [AV.refBs]
  | cons y l ih => simp only [AV.refBs, List.mem_cons, forall_eq_or_imp, ← ih]; omega
theorem refBs_take (l : List AV) (i : Nat) : AV.refBs (l.take i) ≤ AV.refBs l :=
  refBs_le_iff.2 fun x h => (refBs_le_iff.1 (Nat.le_refl _)) x (List.mem_of_mem_take h)
theorem refBs_drop (l : List AV) (i : Nat) : AV.refBs (l.drop i) ≤ AV.refBs l :=
  refBs_le_iff.2 fun x h => (refBs_le_iff.1 (Nat.le_refl _)) x (List.mem_of_mem_drop h)
theorem refBs_set {l : List AV} {i n : Nat} {x : AV} (h : AV.refBs l ≤ n) (hx : x.refB ≤ n) : AV.refBs (l.set i x) ≤ n :=
  refBs_le_iff.2 fun y hy => by
    rcases List.mem_or_eq_of_mem_set hy with h' | h'
    · exact refBs_le_iff.1 h y h'
    · subst h'; exact hx
theorem refBs_setRange {m l : List AV} {off n : Nat} (h : AV.refBs l ≤ n) (hm : AV.refBs m ≤ n) : AV.refBs (setRange l off m) ≤ n := by
  induction m generalizing l off with
  | nil => simpa [setRange] using h
  | cons x m ih =>
    simp only [setRange]
    simp only [AV.refBs] at hm
    exact ih (refBs_set h (by omega)) (by omega)

end Go.Ab
