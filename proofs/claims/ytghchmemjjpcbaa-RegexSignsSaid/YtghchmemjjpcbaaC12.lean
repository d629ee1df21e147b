/- A part of the proof: tools. No condition. -/
import Derived.Test.YtghchmemjjpcbaaC10
import Derived.Test.YtghchmemjjpcbaaC11
import Derived.Test.YtghchmemjjpcbaaL3
set_option linter.all false
namespace Go.Ab.R05
set_option maxRecDepth 100000
set_option linter.all false
set_option maxHeartbeats 4000000
section
variable {T : Tb} [hT : Base T]

abbrev ints (l : List Int) : List (List D) := l.map fun k => [.int .i64 k]
def ixI (k : Int) : List Int → Nat → Int
  | [], _ => -1
  | a :: l, i => if k = a then i else ixI k l (i + 1)
theorem ixI_iff (k : Int) : ∀ (l : List Int) (i : Nat), 0 ≤ ixI k l i ↔ k ∈ l
  | [], i => by simp [ixI]
  | a :: l, i => by
    simp only [ixI, List.mem_cons]
    split
    · rename_i h; exact ⟨fun _ => .inl h, fun _ => by omega⟩
    · rename_i h; rw [ixI_iff k l]; exact ⟨.inr, fun h' => h'.resolve_left h⟩
theorem idxInt {l : List Int} {i : Nat} {r : Int} {c : List D → Prop} (h : l[i]? = some r) (h' : c [.int .i64 r]) : IdxL 1 (ints l) (i : Int) c := idxLb (by rw [List.getElem?_map, h]; rfl) rfl h'

theorem Index_ev (l : List Int) (k : Int) (hl : l.length ≤ 2 ^ 30) (rf : Refs) : Ev T f_slices_Index_int_int [lst (ints l), i64 k] rf (.ret (i64 (ixI k l 0))) rf := by
  refine Ev.any ?_ rfl rf
  have l1 : (ints l).length = l.length := by simp
  refine ev_fn rfl rfl ?_
  (repeat' (first
    | (intro (u_ : Unit); clear u_)
    | refine condT ?_
    | refine condF ?_
    | refine condp (by assumption) ?_
    | refine condn (by assumption) ?_
    | refine condN ?_
    | refine idxSb (by assumption) ?_
    | (refine condD ?_ ?_ <;> intro hq_ <;> first | (exfalso; omega) | skip)
    | (refine idxS (by omega) ?_; intro b_ hb_; have hl_ := b_.toNat_lt)
    | refine wrA (by omega) ?_
    | refine wrS (by omega) (by omega) ?_
    | refine wrI (by omega) (by omega) ?_
    | refine wrBA (by omega) ?_
    | refine wrB (by omega) (by omega) ?_
    | refine strC (by omega) ?_
    | refine nilB rfl ?_))
  refine loopR (fun i : Nat => [(8, i64 i)]) (fun _ => []) (fun i => l.length - i) (fun i => i ≤ l.length ∧ ixI k l 0 = ixI k (l.drop i) i) 0 ⟨by omega, by simp⟩ (by rfl) (by rfl) ?_
  rintro i ⟨hi, hP⟩
  by_cases hlt : i < l.length
  · obtain ⟨r, hr⟩ : ∃ r, l[i]? = some r := ⟨_, List.getElem?_eq_getElem hlt⟩
    have h1 : l.drop i = r :: l.drop (i + 1) := by rw [← List.getElem_cons_drop (h := hlt)]; congr 1; exact (List.getElem?_eq_some_iff.1 hr).2
    rw [h1] at hP
    (repeat' (first
      | (intro (u_ : Unit); clear u_)
      | refine condT ?_
      | refine condF ?_
      | refine condp (by assumption) ?_
      | refine condn (by assumption) ?_
      | refine condN ?_
      | refine idxSb (by assumption) ?_
      | refine idxInt hr ?_
      | (refine condD ?_ ?_ <;> intro hq_ <;> first | (exfalso; omega) | skip)
      | (refine idxS (by omega) ?_; intro b_ hb_; have hl_ := b_.toNat_lt)
      | refine wrA (by omega) ?_
      | refine wrS (by omega) (by omega) ?_
      | refine wrI (by omega) (by omega) ?_
      | refine wrBA (by omega) ?_
      | refine wrB (by omega) (by omega) ?_
      | refine strC (by omega) ?_
      | refine nilB rfl ?_))
    · rw [hP]; simp only [ixI]; rw [if_pos (by omega)]; exact ⟨rfl, rfl⟩
    · exact ⟨i + 1, ⟨by omega, by rw [hP]; simp only [ixI]; rw [if_neg (by omega)]⟩, by omega, rfl, rfl, rfl, rfl⟩
  · have : l.drop i = [] := List.drop_eq_nil_of_le (by omega)
    rw [this] at hP
    (repeat' (first
      | (intro (u_ : Unit); clear u_)
      | refine condT ?_
      | refine condF ?_
      | refine condp (by assumption) ?_
      | refine condn (by assumption) ?_
      | refine condN ?_
      | refine idxSb (by assumption) ?_
      | (refine condD ?_ ?_ <;> intro hq_ <;> first | (exfalso; omega) | skip)
      | (refine idxS (by omega) ?_; intro b_ hb_; have hl_ := b_.toNat_lt)
      | refine wrA (by omega) ?_
      | refine wrS (by omega) (by omega) ?_
      | refine wrI (by omega) (by omega) ?_
      | refine wrBA (by omega) ?_
      | refine wrB (by omega) (by omega) ?_
      | refine strC (by omega) ?_
      | refine nilB rfl ?_))
    rw [hP]; exact ⟨rfl, rfl⟩

theorem Contains_ev (l : List Int) (k : Int) (hl : l.length ≤ 2 ^ 30) (rf : Refs) : Ev T f_slices_Contains_int_int [lst (ints l), i64 k] rf (.ret (bl (decide (k ∈ l)))) rf := by
  refine Ev.any ?_ rfl rf
  have := ixI_iff k l 0
  rw [show decide (k ∈ l) = decide (0 ≤ ixI k l 0) from by rw [Bool.eq_iff_iff]; simp [this]]
  refine ev_fn rfl rfl ?_
  (repeat' (first
    | (intro (u_ : Unit); clear u_)
    | refine condT ?_
    | refine condF ?_
    | refine condp (by assumption) ?_
    | refine condn (by assumption) ?_
    | refine condN ?_
    | refine idxSb (by assumption) ?_
    | refine callE_ev (Index_ev l k hl _) ?_
    | (refine condD ?_ ?_ <;> intro hq_ <;> first | (exfalso; omega) | skip)
    | (refine idxS (by omega) ?_; intro b_ hb_; have hl_ := b_.toNat_lt)
    | refine wrA (by omega) ?_
    | refine wrS (by omega) (by omega) ?_
    | refine wrI (by omega) (by omega) ?_
    | refine wrBA (by omega) ?_
    | refine wrB (by omega) (by omega) ?_
    | refine strC (by omega) ?_
    | refine nilB rfl ?_))
  all_goals exact ⟨rfl, rfl⟩
end

def clsK : List PK := [.int .u64, .int .u64, .int .u64, .int .u64]
def clsEq (n m : Nat) : Bool := (eqCells clsK (clsC n) (clsC m)).getD false
theorem clsEq_cells (n m : Nat) : eqCells clsK (clsC n) (clsC m) = some (clsEq n m) := by
  simp [clsEq, eqCells, clsK, clsC, wdv, AV.nat, D.kind?]
theorem wd_all {n m : Nat} (hn : n < 2 ^ 256) (hm : m < 2 ^ 256) (h0 : wd n 0 = wd m 0) (h1 : wd n 1 = wd m 1) (h2 : wd n 2 = wd m 2) (h3 : wd n 3 = wd m 3) : n = m := by
  unfold wd at *
  omega
theorem clsEq_iff {n m : Nat} (hn : n < 2 ^ 256) (hm : m < 2 ^ 256) : clsEq n m = true ↔ n = m := by
  have : clsEq n m = true ↔ wd n 0 = wd m 0 ∧ wd n 1 = wd m 1 ∧ wd n 2 = wd m 2 ∧ wd n 3 = wd m 3 := by
    simp [clsEq, eqCells, clsK, clsC, wdv, AV.nat, D.kind?, D.eqP]
    omega
  rw [this]
  exact ⟨fun ⟨a, b, c, d⟩ => wd_all hn hm a b c d, fun h => by subst h; exact ⟨rfl, rfl, rfl, rfl⟩⟩

def setTextS (n : Nat) : List UInt8 :=
  if clsEq n dotN then [46] else if pop 256 n = 0 then [91, 94, 92, 120, 48, 48, 45, 92, 120, 102, 102, 93] else if pop 256 n ≠ 1 then textS n else ((textS n).take ((textS n).length - 1)).drop 1

theorem textS_length (n : Nat) : 2 ≤ (textS n).length ∧ (textS n).length ≤ 3000 := by
  have h1 := tells_length (Tx.runs n 257 0)
  have h2 := Tx.runs_length n 257 0
  have h3 : (textS n).length = (tells (Tx.runs n 257 0)).length + 1 := by simp [textS]
  have h4 : (tells (Tx.runs n 257 0)).length ≠ 0 := by simp [tells]
  omega
theorem setTextS_length (n : Nat) : (setTextS n).length ≤ 3000 := by
  have := textS_length n
  unfold setTextS
  split
  · simp
  · split
    · simp
    · split
      · omega
      · simp; omega

theorem ofW_wd {n : Nat} (hn : n < 2 ^ 256) : ofW (wd n 0) (wd n 1) (wd n 2) (wd n 3) = n := by
  unfold ofW wd
  omega
theorem clsText_ev (n : Nat) (hn : n < 2 ^ 256) (rf : Refs) : Ev T1 f_class_Text [cls n] rf (.ret (str (textS n))) rf := by
  have h0 := wd_lt n 0; have h1 := wd_lt n 1; have h2 := wd_lt n 2; have h3 := wd_lt n 3
  have ho := ofW_wd hn
  have h4 : T1.orc f_class_Text [cls n] = textO [cls n] := by
    simp only [T1, orc1, orcOf]
    rw [if_neg (by decide), if_pos trivial]
  refine ev_orc (h4.trans ?_)
  simp only [cls, clsC, wdv, AV.nat]
  generalize wd n 0 = w0 at *
  generalize wd n 1 = w1 at *
  generalize wd n 2 = w2 at *
  generalize wd n 3 = w3 at *
  simp only [textO]
  rw [if_pos (by omega)]
  simp only [Int.toNat_natCast, ho]

theorem setText_ev (n : Nat) (hn : n < 2 ^ 256) (rf : Refs) : Ev T1 f_regex_setText [cls n] rf (.ret (str (setTextS n))) rf := by
  refine Ev.any ?_ rfl rf
  have hl := textS_length n
  have hT := clsText_ev n hn
  have hC := Count_ev (T := T1) n
  have hE := clsEq_cells n dotN
  unfold setTextS
  generalize textS n = s at *
  generalize pop 256 n = p at *
  generalize clsEq n dotN = q at *
  refine ev_fn rfl rfl ?_
  (repeat' (first
    | (intro (u_ : Unit); clear u_)
    | refine condT ?_
    | refine condF ?_
    | refine condp (by assumption) ?_
    | refine condn (by assumption) ?_
    | refine condN ?_
    | refine idxSb (by assumption) ?_
    | refine callE_ev (dot_ev _) ?_
    | refine callE_ev (hC _) ?_
    | refine callE_ev (hT _) ?_
    | (refine eqcB hE ?_; cases q)
    | refine subBo (i := 1) (j := s.length - 1) (by omega) (by omega) ?_
    | (refine condD ?_ ?_ <;> intro hq_ <;> first | (exfalso; omega) | skip)
    | (refine idxS (by omega) ?_; intro b_ hb_; have hl_ := b_.toNat_lt)
    | refine wrA (by omega) ?_
    | refine wrS (by omega) (by omega) ?_
    | refine wrI (by omega) (by omega) ?_
    | refine wrBA (by omega) ?_
    | refine wrB (by omega) (by omega) ?_
    | refine strC (by omega) ?_
    | refine nilB rfl ?_))
  · rw [if_neg (by decide), if_pos (by omega)]; exact ⟨rfl, rfl⟩
  · rw [if_neg (by decide), if_neg (by omega), if_pos (by omega)]; exact ⟨rfl, rfl⟩
  · rw [if_neg (by decide), if_neg (by omega), if_neg (by omega)]; exact ⟨rfl, rfl⟩
  · exact ⟨rfl, rfl⟩

/-- brackets, where they are wanted -/
def par (b : Bool) (s : List UInt8) : List UInt8 := if b then [40] ++ s ++ [41] else s
def kindT : Tr → Int
  | .none => 0
  | .set _ => 1
  | .cat _ _ => 2
  | .alt _ _ => 3
  | .post k _ => 4 + k
  | .beg => 7
  | .fin => 8
def postC (k : Nat) : UInt8 := if k = 0 then 42 else if k = 1 then 43 else 63
def textT : Tr → List UInt8
  | .none => [40, 41]
  | .set n => setTextS n
  | .beg => [94]
  | .fin => [36]
  | .cat a b => par (decide (kindT a ∈ [(3 : Int)])) (textT a) ++ par (decide (kindT b ∈ [(3 : Int), 2])) (textT b)
  | .alt a b => textT a ++ [124] ++ par (decide (kindT b ∈ [(3 : Int)])) (textT b)
  | .post k a => par (decide (kindT a ∈ [(3 : Int), 2])) (textT a) ++ [postC k]
theorem par_length (b : Bool) (s : List UInt8) : (par b s).length ≤ s.length + 2 := by unfold par; split <;> simp
theorem textT_length : ∀ a : Tr, (textT a).length ≤ 3010 * a.size
  | .none | .beg | .fin => by simp [textT, Tr.size]
  | .set n => by have := setTextS_length n; simp only [textT, Tr.size]; omega
  | .cat a b => by
    have h1 := textT_length a; have h2 := textT_length b
    have h3 := par_length (decide (kindT a ∈ [(3 : Int)])) (textT a); have h4 := par_length (decide (kindT b ∈ [(3 : Int), 2])) (textT b)
    simp only [textT, Tr.size, List.length_append]; omega
  | .alt a b => by
    have h1 := textT_length a; have h2 := textT_length b
    have h4 := par_length (decide (kindT b ∈ [(3 : Int)])) (textT b)
    simp only [textT, Tr.size, List.length_append, List.length_cons, List.length_nil]; omega
  | .post k a => by
    have h1 := textT_length a
    have h3 := par_length (decide (kindT a ∈ [(3 : Int), 2])) (textT a)
    simp only [textT, Tr.size, List.length_append, List.length_cons, List.length_nil]; omega

/-- the heap of regex.Text -/
def HT (t : List Re) : Refs := [[lst (t.map reD)], [.fn (.func f_regex_Text_2) [] [.ptr 0 0, .ptr 2 0, .ptr 1 0]], [.fn (.func f_regex_Text_1) [] [.ptr 0 0, .ptr 1 0]]]
theorem HT_c (t : List Re) : ∀ c, c ∈ HT t → AV.refBs c ≤ (HT t).length := by
  intro c hc
  simp only [HT, List.mem_cons, List.not_mem_nil, or_false] at hc
  rcases hc with rfl | rfl | rfl <;> simp [AV.refBs, AV.refB, HT]
def TellOK (t : List Re) (i : Int) (x : List UInt8) : Prop := Ev T1 f_regex_Text_2 [i64 i, .ptr 0 0, .ptr 2 0, .ptr 1 0] (HT t) (.ret (str x)) (HT t)
def WithinOK (t : List Re) (i : Int) (ks : List Int) (x : List UInt8) : Prop := Ev T1 f_regex_Text_1 [i64 i, lst (ints ks), .ptr 0 0, .ptr 1 0] (HT t) (.ret (str x)) (HT t)
abbrev HT4 (t : List Re) (c : List AV) : Refs := [[lst (t.map reD)], [.fn (.func f_regex_Text_2) [] [.ptr 0 0, .ptr 2 0, .ptr 1 0]], [.fn (.func f_regex_Text_1) [] [.ptr 0 0, .ptr 1 0]], c]
theorem TellOK.up {t : List Re} {i : Int} {x : List UInt8} (h : TellOK t i x) (c : List AV) : Ev T1 f_regex_Text_2 [i64 i, .ptr 0 0, .ptr 2 0, .ptr 1 0] (HT4 t c) (.ret (str x)) (HT4 t c) := Ev.frame h (by simp [AV.refBs, AV.refB, HT]) (HT_c t) (by simp [Out.val, AV.refB]) [c]
theorem WithinOK.up {t : List Re} {i : Int} {ks : List Int} {x : List UInt8} (h : WithinOK t i ks x) (c : List AV) : Ev T1 f_regex_Text_1 [i64 i, lst (ints ks), .ptr 0 0, .ptr 1 0] (HT4 t c) (.ret (str x)) (HT4 t c) := Ev.frame h (by simp [AV.refBs, AV.refB, HT]) (HT_c t) (by simp [Out.val, AV.refB]) [c]

theorem idxReC {t : List Re} {i : Nat} {r : Re} {c : List D → Prop} (h : t[i]? = some r) (h' : c (reD r)) : IdxL 7 (t.map reD) (i : Int) c := idxLb (by rw [List.getElem?_map, h]; rfl) rfl h'

theorem within_ev (t : List Re) (i : Nat) (r : Re) (hr : t[i]? = some r) (ks : List Int) (hk : ks.length ≤ 2) (x : List UInt8) (hx : x.length ≤ 2 ^ 30) (h : TellOK t i x) : WithinOK t i ks (par (decide (r.kind ∈ ks)) x) := by
  unfold WithinOK
  have hC := Contains_ev (T := T1) ks r.kind (by omega)
  unfold TellOK at h
  generalize decide (r.kind ∈ ks) = q at *
  unfold HT at *
  refine ev_fn rfl rfl ?_
  (repeat' (first
    | (intro (u_ : Unit); clear u_)
    | refine condT ?_
    | refine condF ?_
    | refine condp (by assumption) ?_
    | refine condn (by assumption) ?_
    | refine condN ?_
    | refine idxSb (by assumption) ?_
    | refine idxReC hr ?_
    | (refine callE_ev (hC _) ?_; cases q)
    | refine callE_ev h ?_
    | refine strC (by simp only [List.length_cons, List.length_nil, List.length_append]; omega) ?_
    | (refine condD ?_ ?_ <;> intro hq_ <;> first | (exfalso; omega) | skip)
    | (refine idxS (by omega) ?_; intro b_ hb_; have hl_ := b_.toNat_lt)
    | refine wrA (by omega) ?_
    | refine wrS (by omega) (by omega) ?_
    | refine wrI (by omega) (by omega) ?_
    | refine wrBA (by omega) ?_
    | refine wrB (by omega) (by omega) ?_
    | refine strC (by omega) ?_
    | refine nilB rfl ?_))
  all_goals exact ⟨rfl, rfl⟩

section
variable {t : List Re} {i : Nat} {r : Re} {x y : List UInt8}
theorem subBo' {l : List UInt8} {x y : Int} {i j : Nat} {c : List UInt8 → Prop} (hx : x = i) (hy : y = j) (h1 : i ≤ j) (h2 : j ≤ l.length) (h : c ((l.take j).drop i)) : SubE l (some x) (some y) c := by subst hx; subst hy; exact subBo h1 h2 h

theorem tell_0 (hr : t[i]? = some r) (h : r.kind = 0) : TellOK t i [40, 41] := by
  unfold TellOK HT
  refine ev_fn rfl rfl ?_
  (repeat' (first
    | (intro (u_ : Unit); clear u_)
    | refine condT ?_
    | refine condF ?_
    | refine condp (by assumption) ?_
    | refine condn (by assumption) ?_
    | refine condN ?_
    | refine idxSb (by assumption) ?_
    | refine idxReC hr ?_
    | (refine condD ?_ ?_ <;> intro hq_ <;> first | (exfalso; omega) | skip)
    | (refine idxS (by omega) ?_; intro b_ hb_; have hl_ := b_.toNat_lt)
    | refine wrA (by omega) ?_
    | refine wrS (by omega) (by omega) ?_
    | refine wrI (by omega) (by omega) ?_
    | refine wrBA (by omega) ?_
    | refine wrB (by omega) (by omega) ?_
    | refine strC (by omega) ?_
    | refine nilB rfl ?_))
  all_goals exact ⟨rfl, rfl⟩
theorem tell_7 (hr : t[i]? = some r) (h : r.kind = 7) : TellOK t i [94] := by
  unfold TellOK HT
  refine ev_fn rfl rfl ?_
  (repeat' (first
    | (intro (u_ : Unit); clear u_)
    | refine condT ?_
    | refine condF ?_
    | refine condp (by assumption) ?_
    | refine condn (by assumption) ?_
    | refine condN ?_
    | refine idxSb (by assumption) ?_
    | refine idxReC hr ?_
    | (refine condD ?_ ?_ <;> intro hq_ <;> first | (exfalso; omega) | skip)
    | (refine idxS (by omega) ?_; intro b_ hb_; have hl_ := b_.toNat_lt)
    | refine wrA (by omega) ?_
    | refine wrS (by omega) (by omega) ?_
    | refine wrI (by omega) (by omega) ?_
    | refine wrBA (by omega) ?_
    | refine wrB (by omega) (by omega) ?_
    | refine strC (by omega) ?_
    | refine nilB rfl ?_))
  all_goals exact ⟨rfl, rfl⟩
theorem tell_8 (hr : t[i]? = some r) (h : r.kind = 8) : TellOK t i [36] := by
  unfold TellOK HT
  refine ev_fn rfl rfl ?_
  (repeat' (first
    | (intro (u_ : Unit); clear u_)
    | refine condT ?_
    | refine condF ?_
    | refine condp (by assumption) ?_
    | refine condn (by assumption) ?_
    | refine condN ?_
    | refine idxSb (by assumption) ?_
    | refine idxReC hr ?_
    | (refine condD ?_ ?_ <;> intro hq_ <;> first | (exfalso; omega) | skip)
    | (refine idxS (by omega) ?_; intro b_ hb_; have hl_ := b_.toNat_lt)
    | refine wrA (by omega) ?_
    | refine wrS (by omega) (by omega) ?_
    | refine wrI (by omega) (by omega) ?_
    | refine wrBA (by omega) ?_
    | refine wrB (by omega) (by omega) ?_
    | refine strC (by omega) ?_
    | refine nilB rfl ?_))
  all_goals exact ⟨rfl, rfl⟩
theorem tell_1 (hr : t[i]? = some r) (h : r.kind = 1) (hn : r.set < 2 ^ 256) : TellOK t i (setTextS r.set) := by
  have hS := setText_ev r.set hn
  generalize setTextS r.set = s at *
  unfold TellOK HT
  refine ev_fn rfl rfl ?_
  (repeat' (first
    | (intro (u_ : Unit); clear u_)
    | refine condT ?_
    | refine condF ?_
    | refine condp (by assumption) ?_
    | refine condn (by assumption) ?_
    | refine condN ?_
    | refine idxSb (by assumption) ?_
    | refine idxReC hr ?_
    | refine callE_ev (hS _) ?_
    | (refine condD ?_ ?_ <;> intro hq_ <;> first | (exfalso; omega) | skip)
    | (refine idxS (by omega) ?_; intro b_ hb_; have hl_ := b_.toNat_lt)
    | refine wrA (by omega) ?_
    | refine wrS (by omega) (by omega) ?_
    | refine wrI (by omega) (by omega) ?_
    | refine wrBA (by omega) ?_
    | refine wrB (by omega) (by omega) ?_
    | refine strC (by omega) ?_
    | refine nilB rfl ?_))
  all_goals exact ⟨rfl, rfl⟩
theorem tell_2 (hr : t[i]? = some r) (h : r.kind = 2) (hx : x.length + y.length ≤ 2 ^ 30) (ha : WithinOK t r.k0 [3] x) (hb : WithinOK t r.k1 [3, 2] y) : TellOK t i (x ++ y) := by
  unfold TellOK
  have h1 := fun X => ha.up X
  have h2 := fun X => hb.up X
  unfold HT at *
  refine ev_fn rfl rfl ?_
  (repeat' (first
    | (intro (u_ : Unit); clear u_)
    | refine condT ?_
    | refine condF ?_
    | refine condp (by assumption) ?_
    | refine condn (by assumption) ?_
    | refine condN ?_
    | refine idxSb (by assumption) ?_
    | refine idxReC hr ?_
    | refine idxAi (i := 0) (by decide) ?_
    | refine idxAi (i := 1) (by decide) ?_
    | refine callE_ev (h1 _) ⟨rfl, ?_⟩
    | refine callE_ev (h2 _) ?_
    | (refine condD ?_ ?_ <;> intro hq_ <;> first | (exfalso; omega) | skip)
    | (refine idxS (by omega) ?_; intro b_ hb_; have hl_ := b_.toNat_lt)
    | refine wrA (by omega) ?_
    | refine wrS (by omega) (by omega) ?_
    | refine wrI (by omega) (by omega) ?_
    | refine wrBA (by omega) ?_
    | refine wrB (by omega) (by omega) ?_
    | refine strC (by omega) ?_
    | refine nilB rfl ?_))
  all_goals exact ⟨rfl, rfl⟩
theorem tell_3 (hr : t[i]? = some r) (h : r.kind = 3) (hx : x.length + y.length ≤ 2 ^ 30) (ha : TellOK t r.k0 x) (hb : WithinOK t r.k1 [3] y) : TellOK t i (x ++ [124] ++ y) := by
  unfold TellOK at *
  have h1 := fun X => TellOK.up ha X
  have h2 := fun X => hb.up X
  unfold HT at *
  refine ev_fn rfl rfl ?_
  (repeat' (first
    | (intro (u_ : Unit); clear u_)
    | refine condT ?_
    | refine condF ?_
    | refine condp (by assumption) ?_
    | refine condn (by assumption) ?_
    | refine condN ?_
    | refine idxSb (by assumption) ?_
    | refine idxReC hr ?_
    | refine idxAi (i := 0) (by decide) ?_
    | refine idxAi (i := 1) (by decide) ?_
    | refine callE_ev (h1 _) ⟨rfl, ?_⟩
    | refine callE_ev (h2 _) ?_
    | refine strC (by simp only [List.length_cons, List.length_nil, List.length_append]; omega) ?_
    | (refine condD ?_ ?_ <;> intro hq_ <;> first | (exfalso; omega) | skip)
    | (refine idxS (by omega) ?_; intro b_ hb_; have hl_ := b_.toNat_lt)
    | refine wrA (by omega) ?_
    | refine wrS (by omega) (by omega) ?_
    | refine wrI (by omega) (by omega) ?_
    | refine wrBA (by omega) ?_
    | refine wrB (by omega) (by omega) ?_
    | refine strC (by omega) ?_
    | refine nilB rfl ?_))
  all_goals exact ⟨rfl, rfl⟩
theorem postC_sub {k : Nat} (hk : k ≤ 2) : (([42, 43, 63] : List UInt8).take (k + 1)).drop k = [postC k] := by
  rcases (by omega : k = 0 ∨ k = 1 ∨ k = 2) with rfl | rfl | rfl <;> rfl
theorem tell_4 {k : Nat} (hk : k ≤ 2) (hr : t[i]? = some r) (h : r.kind = 4 + k) (hx : x.length ≤ 2 ^ 30) (ha : WithinOK t r.k0 [3, 2] x) : TellOK t i (x ++ [postC k]) := by
  unfold TellOK
  have h1 := fun X => ha.up X
  rw [← postC_sub hk]
  unfold HT at *
  refine ev_fn rfl rfl ?_
  (repeat' (first
    | (intro (u_ : Unit); clear u_)
    | refine condT ?_
    | refine condF ?_
    | refine condp (by assumption) ?_
    | refine condn (by assumption) ?_
    | refine condN ?_
    | refine idxSb (by assumption) ?_
    | refine idxReC hr ?_
    | refine idxAi (i := 0) (by decide) ?_
    | refine callE_ev (h1 _) ⟨rfl, ?_⟩
    | refine subBo' (i := k) (j := k + 1) (by omega) (by omega) (by omega) (by simp only [List.length_cons, List.length_nil]; omega) ?_
    | refine strC (by simp only [List.length_cons, List.length_nil, List.length_append, List.length_drop, List.length_take]; omega) ?_
    | (refine condD ?_ ?_ <;> intro hq_ <;> first | (exfalso; omega) | skip)
    | (refine idxS (by omega) ?_; intro b_ hb_; have hl_ := b_.toNat_lt)
    | refine wrA (by omega) ?_
    | refine wrS (by omega) (by omega) ?_
    | refine wrI (by omega) (by omega) ?_
    | refine wrBA (by omega) ?_
    | refine wrB (by omega) (by omega) ?_
    | refine strC (by omega) ?_
    | refine nilB rfl ?_))
  all_goals exact ⟨rfl, rfl⟩
end
end Go.Ab.R05

namespace Go.Ab.R05
set_option maxRecDepth 100000
set_option linter.all false
set_option maxHeartbeats 4000000

theorem last_snoc {α : Type} (l : List α) (x : α) (n : Nat) (h : n = l.length) : (l ++ [x])[n]? = some x := by subst h; simp
theorem root_flat : ∀ (o : Nat) (a : Tr), ∃ r, (flat o a)[a.size - 1]? = some r ∧ r.kind = kindT a
  | o, .none | o, .set _ | o, .beg | o, .fin => ⟨_, rfl, rfl⟩
  | o, .post k a => ⟨_, last_snoc _ _ _ (by simp [flat_length, Tr.size]), rfl⟩
  | o, .cat a b => ⟨_, last_snoc _ _ _ (by simp [flat_length, Tr.size]), rfl⟩
  | o, .alt a b => ⟨_, last_snoc _ _ _ (by simp [flat_length, Tr.size]), rfl⟩

def At (t : List Re) (o : Nat) (a : Tr) : Prop := ∀ j, j < a.size → t[o + j]? = (flat o a)[j]?
theorem At.of {t : List Re} {o : Nat} {a : Tr} {n : Nat} {l more : List Re} (h : ∀ j, j < n → t[o + j]? = (l ++ more)[j]?) (hl : l = flat o a) (hn : a.size ≤ n) : At t o a := by
  intro j hj
  subst hl
  rw [h j (by omega), List.getElem?_append_left (by rw [flat_length]; exact hj)]
theorem At.of2 {t : List Re} {o : Nat} {a b : Tr} {n : Nat} {more : List Re} (h : ∀ j, j < n → t[o + j]? = (flat o a ++ flat (o + a.size) b ++ more)[j]?) (hn : a.size + b.size ≤ n) : At t (o + a.size) b := by
  intro j hj
  have h1 := flat_length o a
  have h2 := flat_length (o + a.size) b
  rw [Nat.add_assoc, h _ (by omega), List.append_assoc, List.getElem?_append_right (by omega), h1, Nat.add_sub_cancel_left, List.getElem?_append_left (by omega)]

theorem kid_within {t : List Re} {o : Nat} {a : Tr} {ks : List Int} (hk : ks.length ≤ 2) (hs : a.size ≤ 2000) (hA : At t o a) (h : TellOK t ((o + a.size - 1 : Nat) : Int) (textT a)) : WithinOK t ((o + a.size - 1 : Nat) : Int) ks (par (decide (kindT a ∈ ks)) (textT a)) := by
  obtain ⟨r, hr, hk'⟩ := root_flat o a
  have hp := a.size_pos
  have h1 := hA (a.size - 1) (by omega)
  rw [hr, show o + (a.size - 1) = o + a.size - 1 by omega] at h1
  rw [← hk']
  exact within_ev t _ r h1 ks hk _ (by have := textT_length a; omega) h

theorem tell_ev (t : List Re) : ∀ (a : Tr) (o : Nat), a.ok → a.size ≤ 2000 → At t o a → TellOK t ((o + a.size - 1 : Nat) : Int) (textT a)
  | .none, o, _, _, hA => tell_0 (i := o) (hA 0 (Nat.lt_succ_self 0)) rfl
  | .beg, o, _, _, hA => tell_7 (i := o) (hA 0 (Nat.lt_succ_self 0)) rfl
  | .fin, o, _, _, hA => tell_8 (i := o) (hA 0 (Nat.lt_succ_self 0)) rfl
  | .set n, o, hn, _, hA => tell_1 (i := o) (hA 0 (Nat.lt_succ_self 0)) rfl hn
  | .post k a, o, ho, hs, hA => by
    obtain ⟨hk, ha⟩ := ho
    simp only [Tr.size] at hs ⊢
    have hp := a.size_pos
    have h0 := hA a.size (by simp only [Tr.size]; omega)
    simp only [flat] at h0
    rw [last_snoc _ _ _ (flat_length o a).symm] at h0
    have hA' : At t o a := At.of (n := a.size) (more := [_]) (fun j hj => hA j (by simp only [Tr.size]; omega)) rfl (Nat.le_refl _)
    have h1 := kid_within (ks := [3, 2]) (by simp) (by omega) hA' (tell_ev t a o ha (by omega) hA')
    exact tell_4 (i := o + a.size) hk h0 rfl (by have := textT_length a; have := par_length (decide (kindT a ∈ [(3 : Int), 2])) (textT a); omega) h1
  | .cat a b, o, ho, hs, hA => by
    obtain ⟨ha, hb⟩ := ho
    simp only [Tr.size] at hs ⊢
    have hp := a.size_pos
    have hp' := b.size_pos
    have h0 := hA (a.size + b.size) (by simp only [Tr.size]; omega)
    simp only [flat] at h0
    rw [last_snoc _ _ _ (by simp [flat_length])] at h0
    have hA' : At t o a := At.of (n := a.size) (more := flat (o + a.size) b ++ [_]) (fun j hj => by rw [← List.append_assoc]; exact hA j (by simp only [Tr.size]; omega)) rfl (Nat.le_refl _)
    have hB' : At t (o + a.size) b := At.of2 (n := a.size + b.size) (more := [_]) (fun j hj => hA j (by simp only [Tr.size]; omega)) (Nat.le_refl _)
    have h1 := kid_within (ks := [3]) (by simp) (by omega) hA' (tell_ev t a o ha (by omega) hA')
    have h2 := kid_within (ks := [3, 2]) (by simp) (by omega) hB' (tell_ev t b _ hb (by omega) hB')
    have l1 := textT_length a; have l2 := textT_length b; have l3 := par_length (decide (kindT a ∈ [(3 : Int)])) (textT a); have l4 := par_length (decide (kindT b ∈ [(3 : Int), 2])) (textT b)
    rw [show o + (a.size + b.size + 1) - 1 = o + (a.size + b.size) by omega]
    exact tell_2 (i := o + (a.size + b.size)) h0 rfl (by omega) h1 h2
  | .alt a b, o, ho, hs, hA => by
    obtain ⟨ha, hb⟩ := ho
    simp only [Tr.size] at hs ⊢
    have hp := a.size_pos
    have hp' := b.size_pos
    have h0 := hA (a.size + b.size) (by simp only [Tr.size]; omega)
    simp only [flat] at h0
    rw [last_snoc _ _ _ (by simp [flat_length])] at h0
    have hA' : At t o a := At.of (n := a.size) (more := flat (o + a.size) b ++ [_]) (fun j hj => by rw [← List.append_assoc]; exact hA j (by simp only [Tr.size]; omega)) rfl (Nat.le_refl _)
    have hB' : At t (o + a.size) b := At.of2 (n := a.size + b.size) (more := [_]) (fun j hj => hA j (by simp only [Tr.size]; omega)) (Nat.le_refl _)
    have h1 := tell_ev t a o ha (by omega) hA'
    have h2 := kid_within (ks := [3]) (by simp) (by omega) hB' (tell_ev t b _ hb (by omega) hB')
    have l1 := textT_length a; have l2 := textT_length b; have l4 := par_length (decide (kindT b ∈ [(3 : Int)])) (textT b)
    rw [show o + (a.size + b.size + 1) - 1 = o + (a.size + b.size) by omega]
    exact tell_3 (i := o + (a.size + b.size)) h0 rfl (by omega) h1 h2

theorem at_flat (a : Tr) : At (flat 0 a) 0 a := fun j hj => by rw [Nat.zero_add]

theorem Text_ev (a : Tr) (ha : a.ok) (hs : a.size ≤ 2000) (rf : Refs) : Ev T1 f_regex_Text [lst ((flat 0 a).map reD)] rf (.ret (str (textT a))) rf := by
  refine Ev.any ?_ rfl rf
  have h := tell_ev (flat 0 a) a 0 ha hs (at_flat a)
  have hl : ((flat 0 a).map reD).length = a.size := by rw [List.length_map, flat_length]
  have hp := a.size_pos
  rw [Nat.zero_add, ← hl] at h
  rw [← hl] at hp
  generalize textT a = x at *
  unfold TellOK HT at h
  generalize flat 0 a = t at *
  refine ev_fn rfl rfl ?_
  (repeat' (first
    | (intro (u_ : Unit); clear u_)
    | refine condT ?_
    | refine condF ?_
    | refine condp (by assumption) ?_
    | refine condn (by assumption) ?_
    | refine condN ?_
    | refine idxSb (by assumption) ?_
    | refine callE_ev h ?_
    | (refine condD ?_ ?_ <;> intro hq_ <;> first | (exfalso; omega) | skip)
    | (refine idxS (by omega) ?_; intro b_ hb_; have hl_ := b_.toNat_lt)
    | refine wrA (by omega) ?_
    | refine wrS (by omega) (by omega) ?_
    | refine wrI (by omega) (by omega) ?_
    | refine wrBA (by omega) ?_
    | refine wrB (by omega) (by omega) ?_
    | refine strC (by omega) ?_
    | refine nilB rfl ?_))
  all_goals exact ⟨rfl, rfl⟩
end Go.Ab.R05

namespace Go.Ab.R05
set_option maxRecDepth 100000
set_option linter.all false
set_option maxHeartbeats 4000000

deriving instance DecidableEq for Re
deriving instance DecidableEq for Except

theorem sign_one : ∀ c, c < 256 → parse (plainS c) = .ok [⟨1, spanN c 1, 0, 0⟩] := by decide +kernel
theorem sign_star : ∀ c, c < 256 → parse (plainS c ++ [42]) = .ok [⟨1, spanN c 1, 0, 0⟩, ⟨4, 0, 0, 0⟩] := by decide +kernel
theorem sign_two : ∀ c, c < 256 → parse (plainS c ++ [43, 63]) = .ok [⟨1, spanN c 1, 0, 0⟩, ⟨5, 0, 0, 0⟩, ⟨6, 0, 1, 0⟩] := by decide +kernel
theorem sign_text : ∀ c, c < 256 → setTextS (spanN c 1) = plainS c := by decide +kernel

section
variable {T : Tb} [hT : Base T]
theorem rdig_ev (c : Nat) (hc : c < 16) (rf : Refs) : Ev T f_ref01_digit [u8 c] rf (.ret (str [hexd c])) rf := by
  refine Ev.any ?_ rfl rf
  unfold hexd
  refine ev_fn rfl rfl ?_
  (repeat' (first
    | (intro (u_ : Unit); clear u_)
    | refine condT ?_
    | refine condF ?_
    | refine condp (by assumption) ?_
    | refine condn (by assumption) ?_
    | refine condN ?_
    | refine idxSb (by assumption) ?_
    | refine strB strOf1 ?_
    | (refine condD ?_ ?_ <;> intro hq_ <;> first | (exfalso; omega) | skip)
    | (refine idxS (by omega) ?_; intro b_ hb_; have hl_ := b_.toNat_lt)
    | refine wrA (by omega) ?_
    | refine wrS (by omega) (by omega) ?_
    | refine wrI (by omega) (by omega) ?_
    | refine wrBA (by omega) ?_
    | refine wrB (by omega) (by omega) ?_
    | refine strC (by omega) ?_
    | refine nilB rfl ?_))
  · rw [if_pos (by omega)]; exact ⟨rfl, rfl⟩
  · rw [if_neg (by omega)]; exact ⟨rfl, rfl⟩

theorem rHex_ev (s : List UInt8) (hs : s.length ≤ 2 ^ 30) (rf : Refs) : Ev T f_ref01_Hex [str s] rf (.ret (str (120 :: hexOf s))) rf := by
  refine Ev.any ?_ rfl rf
  refine ev_fn rfl rfl ?_
  (repeat' (first
    | (intro (u_ : Unit); clear u_)
    | refine condT ?_
    | refine condF ?_
    | refine condp (by assumption) ?_
    | refine condn (by assumption) ?_
    | refine condN ?_
    | refine idxSb (by assumption) ?_
    | (refine condD ?_ ?_ <;> intro hq_ <;> first | (exfalso; omega) | skip)
    | (refine idxS (by omega) ?_; intro b_ hb_; have hl_ := b_.toNat_lt)
    | refine wrA (by omega) ?_
    | refine wrS (by omega) (by omega) ?_
    | refine wrI (by omega) (by omega) ?_
    | refine wrBA (by omega) ?_
    | refine wrB (by omega) (by omega) ?_
    | refine strC (by omega) ?_
    | refine nilB rfl ?_))
  refine loopR (fun i : Nat => [(4, i64 i), (3, str (120 :: hexOf (s.take i)))]) (fun _ => []) (fun i => s.length - i) (fun i => i ≤ s.length) 0 (by omega) rfl rfl ?_
  intro i hi
  have hl := hexOf_length (s.take i)
  rw [List.length_take] at hl
  (repeat' (first
    | (intro (u_ : Unit); clear u_)
    | refine condT ?_
    | refine condF ?_
    | refine condp (by assumption) ?_
    | refine condn (by assumption) ?_
    | refine condN ?_
    | refine idxSb (by assumption) ?_
    | refine callE_ev (rdig_ev _ (by omega) _) ?_
    | refine quoN (by decide) (by rw [m8]; omega) (by decide) ?_
    | refine remN (by decide) ?_
    | refine strC (by simp only [List.length_cons, List.length_nil, List.length_append]; omega) ?_
    | (refine condD ?_ ?_ <;> intro hq_ <;> first | (exfalso; omega) | skip)
    | (refine idxS (by omega) ?_; intro b_ hb_; have hl_ := b_.toNat_lt)
    | refine wrA (by omega) ?_
    | refine wrS (by omega) (by omega) ?_
    | refine wrI (by omega) (by omega) ?_
    | refine wrBA (by omega) ?_
    | refine wrB (by omega) (by omega) ?_
    | refine strC (by omega) ?_
    | refine nilB rfl ?_))
  · refine ⟨i + 1, by omega, by omega, ?_, rfl, rfl, rfl⟩
    rw [take_succ_of hb_, hexOf_append]
    simp [upd, Slots.get, hexOf]
  · have : i = s.length := by omega
    subst this
    rw [List.take_of_length_le (Nat.le_refl _)]
    exact ⟨rfl, rfl⟩

theorem rPlain_ev (c : Nat) (hc : c < 256) (rf : Refs) : Ev T f_ref04_Plain [u8 c] rf (.ret (str (plainS c))) rf := by
  have hx : Ev T f_ref01_Hex [str [UInt8.ofNat c]] [] (.ret (str [120, hexd (c / 16), hexd (c % 16)])) [] := by
    have h := rHex_ev (T := T) [UInt8.ofNat c] (by simp) []
    rw [hexOf, hexOf, toNat_ofNat_u8 hc] at h
    exact h
  refine Ev.any ?_ rfl rf
  unfold plainS isWordB
  refine ev_fn rfl rfl ?_
  (repeat' (first
    | (intro (u_ : Unit); clear u_)
    | refine condT ?_
    | refine condF ?_
    | refine condp (by assumption) ?_
    | refine condn (by assumption) ?_
    | refine condN ?_
    | refine idxSb (by assumption) ?_
    | refine strB strOf1 ?_
    | refine callE_ev hx ?_
    | refine strC (by simp) ?_
    | (refine condD ?_ ?_ <;> intro hq_ <;> first | (exfalso; omega) | skip)
    | (refine idxS (by omega) ?_; intro b_ hb_; have hl_ := b_.toNat_lt)
    | refine wrA (by omega) ?_
    | refine wrS (by omega) (by omega) ?_
    | refine wrI (by omega) (by omega) ?_
    | refine wrBA (by omega) ?_
    | refine wrB (by omega) (by omega) ?_
    | refine strC (by omega) ?_
    | refine nilB rfl ?_))
  all_goals first
    | (rw [if_pos (by simp only [Bool.or_eq_true, Bool.and_eq_true, beq_iff_eq, decide_eq_true_eq]; omega)]; exact ⟨rfl, rfl⟩)
    | (rw [if_neg (by simp only [Bool.or_eq_true, Bool.and_eq_true, beq_iff_eq, decide_eq_true_eq]; omega)]; exact ⟨rfl, rfl⟩)
end

theorem eqSame {n : Nat} {k : Bool → Prop} (hn : n < 2 ^ 256) (h : k true) : EqcE clsK (clsC n) (clsC n) k := eqcB ((clsEq_cells n n).trans (congrArg some ((clsEq_iff hn hn).2 rfl))) h
theorem idx0 {r : Re} {l : List Re} {c : List D → Prop} (h' : c (reD r)) : IdxL 7 ((r :: l).map reD) (0 : Nat) c := idxReC (t := r :: l) rfl h'
theorem idx1 {q r : Re} {l : List Re} {c : List D → Prop} (h' : c (reD r)) : IdxL 7 ((q :: r :: l).map reD) (1 : Nat) c := idxReC (t := q :: r :: l) rfl h'
theorem idx2 {p q r : Re} {l : List Re} {c : List D → Prop} (h' : c (reD r)) : IdxL 7 ((p :: q :: r :: l).map reD) (2 : Nat) c := idxReC (t := p :: q :: r :: l) rfl h'

theorem RegexSigns_ev (c : Nat) (hc : c < 256) : Ev T1 f_law05_RegexSigns [u8 c] [] (.ret (bl true)) [] := by
  have r1 := rRd_ev (T := T1) (plainS c) (by have := plainS_length c; omega)
  have r2 := rRd_ev (T := T1) (plainS c ++ [42]) (by have := plainS_length c; simp; omega)
  have r3 := rRd_ev (T := T1) (plainS c ++ [43, 63]) (by have := plainS_length c; simp; omega)
  rw [sign_one c hc] at r1
  rw [sign_star c hc] at r2
  rw [sign_two c hc] at r3
  have rT := Text_ev (.set (spanN c 1)) (spanN_lt c 1 (by omega)) (by simp [Tr.size])
  rw [show textT (.set (spanN c 1)) = plainS c from sign_text c hc] at rT
  have hl := plainS_length c
  have hp := rPlain_ev (T := T1) c hc
  have hO := rOne_ev (T := T1) c hc
  have hn : spanN c 1 < 2 ^ 256 := spanN_lt c 1 (by omega)
  generalize plainS c = s at *
  generalize spanN c 1 = n at *
  refine ev_fn rfl rfl ?_
  (repeat' (first
    | (intro (u_ : Unit); clear u_)
    | refine condT ?_
    | refine condF ?_
    | refine condp (by assumption) ?_
    | refine condn (by assumption) ?_
    | refine condN ?_
    | refine idxSb (by assumption) ?_
    | refine callE_ev shown_ev ?_
    | refine callE_ev (hp _) ?_
    | refine callE_ev (r1 _) ?_
    | refine callE_ev (r2 _) ?_
    | refine callE_ev (r3 _) ?_
    | refine callE_ev (rT _) ?_
    | refine callE_ev (hO _) ?_
    | refine eqSame hn ?_
    | refine idx0 ?_
    | refine idx1 ?_
    | refine idx2 ?_
    | refine strC (by simp only [List.length_cons, List.length_nil, List.length_append]; omega) ?_
    | (refine condD ?_ ?_ <;> intro hq_ <;> first | (exfalso; omega) | skip)
    | (refine idxS (by omega) ?_; intro b_ hb_; have hl_ := b_.toNat_lt)
    | refine wrA (by omega) ?_
    | refine wrS (by omega) (by omega) ?_
    | refine wrI (by omega) (by omega) ?_
    | refine wrBA (by omega) ?_
    | refine wrB (by omega) (by omega) ?_
    | refine strC (by omega) ?_
    | refine nilB rfl ?_))
  all_goals first
    | exact absurd rfl hq_
    | exact ⟨rfl, rfl⟩
end Go.Ab.R05
