/- A part of the proof: tools. No condition. -/
import Derived.Test.YtghchmemjjpcbaaC10
import Derived.Test.YtghchmemjjpcbaaC11
import Derived.Test.YtghchmemjjpcbaaL3
set_option linter.all false
namespace Go.Ab.R05
set_option maxRecDepth 100000
set_option linter.all false
set_option maxHeartbeats 4000000
section
variable {T : Tb} [hT : Base T]
abbrev ints (l : List Int) : List (List D) := l.map fun k => [.int .i64 k]
def ixI (k : Int) : List Int → Nat → Int
 | [], _ => -1
 | a :: l, i => if k = a then i else ixI k l (i + 1)
theorem ixI_iff (k : Int) : ∀ (l : List Int) (i : Nat), 0 ≤ ixI k l i ↔ k ∈ l
 | [], i => by simp [ixI]
 | a :: l, i => by
   simp only [ixI, List.mem_cons]
   split
   ·rename_i h; exact ⟨fun _ => .inl h, fun _ => by omega⟩
   ·rename_i h; rw [ixI_iff k l]; exact ⟨.inr, fun h' => h'.resolve_left h⟩
theorem idxInt {l : List Int} {i : Nat} {r : Int} {c : List D → Prop} (h : l[i]? = some r) (h' : c [.int .i64 r]) : IdxL 1 (ints l) (i : Int) c := idxLb (by rw [List.getElem?_map, h]; rfl) rfl h'
theorem Index_ev (l : List Int) (k : Int) (hl : l.length ≤ 2 ^ 30) (rf : Refs) : Ev T f_slices_Index_int_int [lst (ints l), i64 k] rf (.ret (i64 (ixI k l 0))) rf := by
 refine Ev.any ?_ rfl rf
 have l1 : (ints l).length = l.length := by simp
 refine ev_fn rfl rfl ?_
 (repeat' (first| (intro (u_ : Unit); clear u_)| refine condT ?_| refine condF ?_| refine condp (by assumption) ?_| refine condn (by assumption) ?_| refine condN ?_| refine idxSb (by assumption) ?_| (refine condD ?_ ?_ <;> intro hq_ <;> first | (exfalso; omega) | skip)| (refine idxS (by omega) ?_; intro b_ hb_; have hl_ := b_.toNat_lt)| refine wrA (by omega) ?_| refine wrS (by omega) (by omega) ?_| refine wrI (by omega) (by omega) ?_| refine wrBA (by omega) ?_| refine wrB (by omega) (by omega) ?_| refine strC (by omega) ?_| refine nilB rfl ?_))
 refine loopR (fun i : Nat => [(8, i64 i)]) (fun _ => []) (fun i => l.length - i) (fun i => i ≤ l.length ∧ ixI k l 0 = ixI k (l.drop i) i) 0 ⟨by omega, by simp⟩ (by rfl) (by rfl) ?_
 rintro i ⟨hi, hP⟩
 by_cases hlt : i < l.length
 ·obtain ⟨r, hr⟩ : ∃ r, l[i]? = some r := ⟨_, List.getElem?_eq_getElem hlt⟩
  have h1 : l.drop i = r :: l.drop (i + 1) := by rw [← List.getElem_cons_drop (h := hlt)]; congr 1; exact (List.getElem?_eq_some_iff.1 hr).2
  rw [h1] at hP
  (repeat' (first| (intro (u_ : Unit); clear u_)| refine condT ?_| refine condF ?_| refine condp (by assumption) ?_| refine condn (by assumption) ?_| refine condN ?_| refine idxSb (by assumption) ?_| refine idxInt hr ?_| (refine condD ?_ ?_ <;> intro hq_ <;> first | (exfalso; omega) | skip)| (refine idxS (by omega) ?_; intro b_ hb_; have hl_ := b_.toNat_lt)| refine wrA (by omega) ?_| refine wrS (by omega) (by omega) ?_| refine wrI (by omega) (by omega) ?_| refine wrBA (by omega) ?_| refine wrB (by omega) (by omega) ?_| refine strC (by omega) ?_| refine nilB rfl ?_))
  ·rw [hP]; simp only [ixI]; rw [if_pos (by omega)]; exact ⟨rfl, rfl⟩
  ·exact ⟨i + 1, ⟨by omega, by rw [hP]; simp only [ixI]; rw [if_neg (by omega)]⟩, by omega, rfl, rfl, rfl, rfl⟩
 ·have : l.drop i = [] := List.drop_eq_nil_of_le (by omega)
  rw [this] at hP
  (repeat' (first| (intro (u_ : Unit); clear u_)| refine condT ?_| refine condF ?_| refine condp (by assumption) ?_| refine condn (by assumption) ?_| refine condN ?_| refine idxSb (by assumption) ?_| (refine condD ?_ ?_ <;> intro hq_ <;> first | (exfalso; omega) | skip)| (refine idxS (by omega) ?_; intro b_ hb_; have hl_ := b_.toNat_lt)| refine wrA (by omega) ?_| refine wrS (by omega) (by omega) ?_| refine wrI (by omega) (by omega) ?_| refine wrBA (by omega) ?_| refine wrB (by omega) (by omega) ?_| refine strC (by omega) ?_| refine nilB rfl ?_))
  rw [hP]; exact ⟨rfl, rfl⟩
theorem Contains_ev (l : List Int) (k : Int) (hl : l.length ≤ 2 ^ 30) (rf : Refs) : Ev T f_slices_Contains_int_int [lst (ints l), i64 k] rf (.ret (bl (decide (k ∈ l)))) rf := by
 refine Ev.any ?_ rfl rf
 have := ixI_iff k l 0
 rw [show decide (k ∈ l) = decide (0 ≤ ixI k l 0) from by rw [Bool.eq_iff_iff]; simp [this]]
 refine ev_fn rfl rfl ?_
 (repeat' (first| (intro (u_ : Unit); clear u_)| refine condT ?_| refine condF ?_| refine condp (by assumption) ?_| refine condn (by assumption) ?_| refine condN ?_| refine idxSb (by assumption) ?_| refine callE_ev (Index_ev l k hl _) ?_| (refine condD ?_ ?_ <;> intro hq_ <;> first | (exfalso; omega) | skip)| (refine idxS (by omega) ?_; intro b_ hb_; have hl_ := b_.toNat_lt)| refine wrA (by omega) ?_| refine wrS (by omega) (by omega) ?_| refine wrI (by omega) (by omega) ?_| refine wrBA (by omega) ?_| refine wrB (by omega) (by omega) ?_| refine strC (by omega) ?_| refine nilB rfl ?_))
 all_goals exact ⟨rfl, rfl⟩
end
def clsK : List PK := [.int .u64, .int .u64, .int .u64, .int .u64]
def clsEq (n m : Nat) : Bool := (eqCells clsK (clsC n) (clsC m)).getD false
theorem clsEq_cells (n m : Nat) : eqCells clsK (clsC n) (clsC m) = some (clsEq n m) := by
 simp [clsEq, eqCells, clsK, clsC, wdv, AV.nat, D.kind?]
theorem wd_all {n m : Nat} (hn : n < 2 ^ 256) (hm : m < 2 ^ 256) (h0 : wd n 0 = wd m 0) (h1 : wd n 1 = wd m 1) (h2 : wd n 2 = wd m 2) (h3 : wd n 3 = wd m 3) : n = m := by
 unfold wd at *
 omega
theorem clsEq_iff {n m : Nat} (hn : n < 2 ^ 256) (hm : m < 2 ^ 256) : clsEq n m = true ↔ n = m := by
 have : clsEq n m = true ↔ wd n 0 = wd m 0 ∧ wd n 1 = wd m 1 ∧ wd n 2 = wd m 2 ∧ wd n 3 = wd m 3 := by
  simp [clsEq, eqCells, clsK, clsC, wdv, AV.nat, D.kind?, D.eqP]
  omega
 rw [this]
 exact ⟨fun ⟨a, b, c, d⟩ => wd_all hn hm a b c d, fun h => by subst h; exact ⟨rfl, rfl, rfl, rfl⟩⟩
def setTextS (n : Nat) : List UInt8 :=
 if clsEq n dotN then [46] else if pop 256 n = 0 then [91, 94, 92, 120, 48, 48, 45, 92, 120, 102, 102, 93] else if pop 256 n ≠ 1 then textS n else ((textS n).take ((textS n).length - 1)).drop 1
theorem textS_length (n : Nat) : 2 ≤ (textS n).length ∧ (textS n).length ≤ 3000 := by
 have h1 := tells_length (Tx.runs n 257 0)
 have h2 := Tx.runs_length n 257 0
 have h3 : (textS n).length = (tells (Tx.runs n 257 0)).length + 1 := by simp [textS]
 have h4 : (tells (Tx.runs n 257 0)).length ≠ 0 := by simp [tells]
 omega
theorem setTextS_length (n : Nat) : (setTextS n).length ≤ 3000 := by
 have := textS_length n
 unfold setTextS
 split
 ·simp
 ·split
  ·simp
  ·split
   ·omega
   ·simp; omega
theorem ofW_wd {n : Nat} (hn : n < 2 ^ 256) : ofW (wd n 0) (wd n 1) (wd n 2) (wd n 3) = n := by
 unfold ofW wd
 omega
theorem clsText_ev (n : Nat) (hn : n < 2 ^ 256) (rf : Refs) : Ev T1 f_class_Text [cls n] rf (.ret (str (textS n))) rf := by
 have h0 := wd_lt n 0; have h1 := wd_lt n 1; have h2 := wd_lt n 2; have h3 := wd_lt n 3
 have ho := ofW_wd hn
 have h4 : T1.orc f_class_Text [cls n] = textO [cls n] := by
  simp only [T1, orc1, orcOf]
  rw [if_neg (by decide), if_pos trivial]
 refine ev_orc (h4.trans ?_)
 simp only [cls, clsC, wdv, AV.nat]
 generalize wd n 0 = w0 at *
 generalize wd n 1 = w1 at *
 generalize wd n 2 = w2 at *
 generalize wd n 3 = w3 at *
 simp only [textO]
 rw [if_pos (by omega)]
 simp only [Int.toNat_natCast, ho]
theorem setText_ev (n : Nat) (hn : n < 2 ^ 256) (rf : Refs) : Ev T1 f_regex_setText [cls n] rf (.ret (str (setTextS n))) rf := by
 refine Ev.any ?_ rfl rf
 have hl := textS_length n
 have hT := clsText_ev n hn
 have hC := Count_ev (T := T1) n
 have hE := clsEq_cells n dotN
 unfold setTextS
 generalize textS n = s at *
 generalize pop 256 n = p at *
 generalize clsEq n dotN = q at *
 refine ev_fn rfl rfl ?_
 (repeat' (first| (intro (u_ : Unit); clear u_)| refine condT ?_| refine condF ?_| refine condp (by assumption) ?_| refine condn (by assumption) ?_| refine condN ?_| refine idxSb (by assumption) ?_| refine callE_ev (dot_ev _) ?_| refine callE_ev (hC _) ?_| refine callE_ev (hT _) ?_| (refine eqcB hE ?_; cases q)| refine subBo (i := 1) (j := s.length - 1) (by omega) (by omega) ?_| (refine condD ?_ ?_ <;> intro hq_ <;> first | (exfalso; omega) | skip)| (refine idxS (by omega) ?_; intro b_ hb_; have hl_ := b_.toNat_lt)| refine wrA (by omega) ?_| refine wrS (by omega) (by omega) ?_| refine wrI (by omega) (by omega) ?_| refine wrBA (by omega) ?_| refine wrB (by omega) (by omega) ?_| refine strC (by omega) ?_| refine nilB rfl ?_))
 ·rw [if_neg (by decide), if_pos (by omega)]; exact ⟨rfl, rfl⟩
 ·rw [if_neg (by decide), if_neg (by omega), if_pos (by omega)]; exact ⟨rfl, rfl⟩
 ·rw [if_neg (by decide), if_neg (by omega), if_neg (by omega)]; exact ⟨rfl, rfl⟩
 ·exact ⟨rfl, rfl⟩
def par (b : Bool) (s : List UInt8) : List UInt8 := if b then [40] ++ s ++ [41] else s
def kindT : Tr → Int
 | .none => 0
 | .set _ => 1
 | .cat _ _ => 2
 | .alt _ _ => 3
 | .post k _ => 4 + k
 | .beg => 7
 | .fin => 8
def postC (k : Nat) : UInt8 := if k = 0 then 42 else if k = 1 then 43 else 63
def textT : Tr → List UInt8
 | .none => [40, 41]
 | .set n => setTextS n
 | .beg => [94]
 | .fin => [36]
 | .cat a b => par (decide (kindT a ∈ [(3 : Int)])) (textT a) ++ par (decide (kindT b ∈ [(3 : Int), 2])) (textT b)
 | .alt a b => textT a ++ [124] ++ par (decide (kindT b ∈ [(3 : Int)])) (textT b)
 | .post k a => par (decide (kindT a ∈ [(3 : Int), 2])) (textT a) ++ [postC k]
theorem par_length (b : Bool) (s : List UInt8) : (par b s).length ≤ s.length + 2 := by unfold par; split <;> simp
theorem textT_length : ∀ a : Tr, (textT a).length ≤ 3010 * a.size
 | .none | .beg | .fin => by simp [textT, Tr.size]
 | .set n => by have := setTextS_length n; simp only [textT, Tr.size]; omega
 | .cat a b => by
   have h1 := textT_length a; have h2 := textT_length b
   have h3 := par_length (decide (kindT a ∈ [(3 : Int)])) (textT a); have h4 := par_length (decide (kindT b ∈ [(3 : Int), 2])) (textT b)
   simp only [textT, Tr.size, List.length_append]; omega
 | .alt a b => by
   have h1 := textT_length a; have h2 := textT_length b
   have h4 := par_length (decide (kindT b ∈ [(3 : Int)])) (textT b)
   simp only [textT, Tr.size, List.length_append, List.length_cons, List.length_nil]; omega
 | .post k a => by
   have h1 := textT_length a
   have h3 := par_length (decide (kindT a ∈ [(3 : Int), 2])) (textT a)
   simp only [textT, Tr.size, List.length_append, List.length_cons, List.length_nil]; omega
def HT (t : List Re) : Refs := [[lst (t.map reD)], [.fn (.func f_regex_Text_2) [] [.ptr 0 0, .ptr 2 0, .ptr 1 0]], [.fn (.func f_regex_Text_1) [] [.ptr 0 0, .ptr 1 0]]]
theorem HT_c (t : List Re) : ∀ c, c ∈ HT t → AV.refBs c ≤ (HT t).length := by
 intro c hc
 simp only [HT, List.mem_cons, List.not_mem_nil, or_false] at hc
 rcases hc with rfl | rfl | rfl <;> simp [AV.refBs, AV.refB, HT]
def TellOK (t : List Re) (i : Int) (x : List UInt8) : Prop := Ev T1 f_regex_Text_2 [i64 i, .ptr 0 0, .ptr 2 0, .ptr 1 0] (HT t) (.ret (str x)) (HT t)
def WithinOK (t : List Re) (i : Int) (ks : List Int) (x : List UInt8) : Prop := Ev T1 f_regex_Text_1 [i64 i, lst (ints ks), .ptr 0 0, .ptr 1 0] (HT t) (.ret (str x)) (HT t)
abbrev HT4 (t : List Re) (c : List AV) : Refs := [[lst (t.map reD)], [.fn (.func f_regex_Text_2) [] [.ptr 0 0, .ptr 2 0, .ptr 1 0]], [.fn (.func f_regex_Text_1) [] [.ptr 0 0, .ptr 1 0]], c]
theorem TellOK.up {t : List Re} {i : Int} {x : List UInt8} (h : TellOK t i x) (c : List AV) : Ev T1 f_regex_Text_2 [i64 i, .ptr 0 0, .ptr 2 0, .ptr 1 0] (HT4 t c) (.ret (str x)) (HT4 t c) := Ev.frame h (by simp [AV.refBs, AV.refB, HT]) (HT_c t) (by simp [Out.val, AV.refB]) [c]
theorem WithinOK.up {t : List Re} {i : Int} {ks : List Int} {x : List UInt8} (h : WithinOK t i ks x) (c : List AV) : Ev T1 f_regex_Text_1 [i64 i, lst (ints ks), .ptr 0 0, .ptr 1 0] (HT4 t c) (.ret (str x)) (HT4 t c) := Ev.frame h (by simp [AV.refBs, AV.refB, HT]) (HT_c t) (by simp [Out.val, AV.refB]) [c]
theorem idxReC {t : List Re} {i : Nat} {r : Re} {c : List D → Prop} (h : t[i]? = some r) (h' : c (reD r)) : IdxL 7 (t.map reD) (i : Int) c := idxLb (by rw [List.getElem?_map, h]; rfl) rfl h'
theorem within_ev (t : List Re) (i : Nat) (r : Re) (hr : t[i]? = some r) (ks : List Int) (hk : ks.length ≤ 2) (x : List UInt8) (hx : x.length ≤ 2 ^ 30) (h : TellOK t i x) : WithinOK t i ks (par (decide (r.kind ∈ ks)) x) := by
 unfold WithinOK
 have hC := Contains_ev (T := T1) ks r.kind (by omega)
 unfold TellOK at h
 generalize decide (r.kind ∈ ks) = q at *
 unfold HT at *
 refine ev_fn rfl rfl ?_
 (repeat' (first| (intro (u_ : Unit); clear u_)| refine condT ?_| refine condF ?_| refine condp (by assumption) ?_| refine condn (by assumption) ?_| refine condN ?_| refine idxSb (by assumption) ?_| refine idxReC hr ?_| (refine callE_ev (hC _) ?_; cases q)| refine callE_ev h ?_| refine strC (by simp only [List.length_cons, List.length_nil, List.length_append]; omega) ?_| (refine condD ?_ ?_ <;> intro hq_ <;> first | (exfalso; omega) | skip)| (refine idxS (by omega) ?_; intro b_ hb_; have hl_ := b_.toNat_lt)| refine wrA (by omega) ?_| refine wrS (by omega) (by omega) ?_| refine wrI (by omega) (by omega) ?_| refine wrBA (by omega) ?_| refine wrB (by omega) (by omega) ?_| refine strC (by omega) ?_| refine nilB rfl ?_))
 all_goals exact ⟨rfl, rfl⟩
section
variable {t : List Re} {i : Nat} {r : Re} {x y : List UInt8}
theorem subBo' {l : List UInt8} {x y : Int} {i j : Nat} {c : List UInt8 → Prop} (hx : x = i) (hy : y = j) (h1 : i ≤ j) (h2 : j ≤ l.length) (h : c ((l.take j).drop i)) : SubE l (some x) (some y) c := by subst hx; subst hy; exact subBo h1 h2 h
theorem tell_0 (hr : t[i]? = some r) (h : r.kind = 0) : TellOK t i [40, 41] := by
 unfold TellOK HT
 refine ev_fn rfl rfl ?_
 (repeat' (first| (intro (u_ : Unit); clear u_)| refine condT ?_| refine condF ?_| refine condp (by assumption) ?_| refine condn (by assumption) ?_| refine condN ?_| refine idxSb (by assumption) ?_| refine idxReC hr ?_| (refine condD ?_ ?_ <;> intro hq_ <;> first | (exfalso; omega) | skip)| (refine idxS (by omega) ?_; intro b_ hb_; have hl_ := b_.toNat_lt)| refine wrA (by omega) ?_| refine wrS (by omega) (by omega) ?_| refine wrI (by omega) (by omega) ?_| refine wrBA (by omega) ?_| refine wrB (by omega) (by omega) ?_| refine strC (by omega) ?_| refine nilB rfl ?_))
 all_goals exact ⟨rfl, rfl⟩
theorem tell_7 (hr : t[i]? = some r) (h : r.kind = 7) : TellOK t i [94] := by
 unfold TellOK HT
 refine ev_fn rfl rfl ?_
 (repeat' (first| (intro (u_ : Unit); clear u_)| refine condT ?_| refine condF ?_| refine condp (by assumption) ?_| refine condn (by assumption) ?_| refine condN ?_| refine idxSb (by assumption) ?_| refine idxReC hr ?_| (refine condD ?_ ?_ <;> intro hq_ <;> first | (exfalso; omega) | skip)| (refine idxS (by omega) ?_; intro b_ hb_; have hl_ := b_.toNat_lt)| refine wrA (by omega) ?_| refine wrS (by omega) (by omega) ?_| refine wrI (by omega) (by omega) ?_| refine wrBA (by omega) ?_| refine wrB (by omega) (by omega) ?_| refine strC (by omega) ?_| refine nilB rfl ?_))
 all_goals exact ⟨rfl, rfl⟩
theorem tell_8 (hr : t[i]? = some r) (h : r.kind = 8) : TellOK t i [36] := by
 unfold TellOK HT
 refine ev_fn rfl rfl ?_
 (repeat' (first| (intro (u_ : Unit); clear u_)| refine condT ?_| refine condF ?_| refine condp (by assumption) ?_| refine condn (by assumption) ?_| refine condN ?_| refine idxSb (by assumption) ?_| refine idxReC hr ?_| (refine condD ?_ ?_ <;> intro hq_ <;> first | (exfalso; omega) | skip)| (refine idxS (by omega) ?_; intro b_ hb_; have hl_ := b_.toNat_lt)| refine wrA (by omega) ?_| refine wrS (by omega) (by omega) ?_| refine wrI (by omega) (by omega) ?_| refine wrBA (by omega) ?_| refine wrB (by omega) (by omega) ?_| refine strC (by omega) ?_| refine nilB rfl ?_))
 all_goals exact ⟨rfl, rfl⟩
theorem tell_1 (hr : t[i]? = some r) (h : r.kind = 1) (hn : r.set < 2 ^ 256) : TellOK t i (setTextS r.set) := by
 have hS := setText_ev r.set hn
 generalize setTextS r.set = s at *
 unfold TellOK HT
 refine ev_fn rfl rfl ?_
 (repeat' (first| (intro (u_ : Unit); clear u_)| refine condT ?_| refine condF ?_| refine condp (by assumption) ?_| refine condn (by assumption) ?_| refine condN ?_| refine idxSb (by assumption) ?_| refine idxReC hr ?_| refine callE_ev (hS _) ?_| (refine condD ?_ ?_ <;> intro hq_ <;> first | (exfalso; omega) | skip)| (refine idxS (by omega) ?_; intro b_ hb_; have hl_ := b_.toNat_lt)| refine wrA (by omega) ?_| refine wrS (by omega) (by omega) ?_| refine wrI (by omega) (by omega) ?_| refine wrBA (by omega) ?_| refine wrB (by omega) (by omega) ?_| refine strC (by omega) ?_| refine nilB rfl ?_))
 all_goals exact ⟨rfl, rfl⟩
theorem tell_2 (hr : t[i]? = some r) (h : r.kind = 2) (hx : x.length + y.length ≤ 2 ^ 30) (ha : WithinOK t r.k0 [3] x) (hb : WithinOK t r.k1 [3, 2] y) : TellOK t i (x ++ y) := by
 unfold TellOK
 have h1 := fun X => ha.up X
 have h2 := fun X => hb.up X
 unfold HT at *
 refine ev_fn rfl rfl ?_
 (repeat' (first| (intro (u_ : Unit); clear u_)| refine condT ?_| refine condF ?_| refine condp (by assumption) ?_| refine condn (by assumption) ?_| refine condN ?_| refine idxSb (by assumption) ?_| refine idxReC hr ?_| refine idxAi (i := 0) (by decide) ?_| refine idxAi (i := 1) (by decide) ?_| refine callE_ev (h1 _) ⟨rfl, ?_⟩| refine callE_ev (h2 _) ?_| (refine condD ?_ ?_ <;> intro hq_ <;> first | (exfalso; omega) | skip)| (refine idxS (by omega) ?_; intro b_ hb_; have hl_ := b_.toNat_lt)| refine wrA (by omega) ?_| refine wrS (by omega) (by omega) ?_| refine wrI (by omega) (by omega) ?_| refine wrBA (by omega) ?_| refine wrB (by omega) (by omega) ?_| refine strC (by omega) ?_| refine nilB rfl ?_))
 all_goals exact ⟨rfl, rfl⟩
theorem tell_3 (hr : t[i]? = some r) (h : r.kind = 3) (hx : x.length + y.length ≤ 2 ^ 30) (ha : TellOK t r.k0 x) (hb : WithinOK t r.k1 [3] y) : TellOK t i (x ++ [124] ++ y) := by
 unfold TellOK at *
 have h1 := fun X => TellOK.up ha X
 have h2 := fun X => hb.up X
 unfold HT at *
 refine ev_fn rfl rfl ?_
 (repeat' (first| (intro (u_ : Unit); clear u_)| refine condT ?_| refine condF ?_| refine condp (by assumption) ?_| refine condn (by assumption) ?_| refine condN ?_| refine idxSb (by assumption) ?_| refine idxReC hr ?_| refine idxAi (i := 0) (by decide) ?_| refine idxAi (i := 1) (by decide) ?_| refine callE_ev (h1 _) ⟨rfl, ?_⟩| refine callE_ev (h2 _) ?_| refine strC (by simp only [List.length_cons, List.length_nil, List.length_append]; omega) ?_| (refine condD ?_ ?_ <;> intro hq_ <;> first | (exfalso; omega) | skip)| (refine idxS (by omega) ?_; intro b_ hb_; have hl_ := b_.toNat_lt)| refine wrA (by omega) ?_| refine wrS (by omega) (by omega) ?_| refine wrI (by omega) (by omega) ?_| refine wrBA (by omega) ?_| refine wrB (by omega) (by omega) ?_| refine strC (by omega) ?_| refine nilB rfl ?_))
 all_goals exact ⟨rfl, rfl⟩
theorem postC_sub {k : Nat} (hk : k ≤ 2) : (([42, 43, 63] : List UInt8).take (k + 1)).drop k = [postC k] := by
 rcases (by omega : k = 0 ∨ k = 1 ∨ k = 2) with rfl | rfl | rfl <;> rfl
theorem tell_4 {k : Nat} (hk : k ≤ 2) (hr : t[i]? = some r) (h : r.kind = 4 + k) (hx : x.length ≤ 2 ^ 30) (ha : WithinOK t r.k0 [3, 2] x) : TellOK t i (x ++ [postC k]) := by
 unfold TellOK
 have h1 := fun X => ha.up X
 rw [← postC_sub hk]
 unfold HT at *
 refine ev_fn rfl rfl ?_
 (repeat' (first| (intro (u_ : Unit); clear u_)| refine condT ?_| refine condF ?_| refine condp (by assumption) ?_| refine condn (by assumption) ?_| refine condN ?_| refine idxSb (by assumption) ?_| refine idxReC hr ?_| refine idxAi (i := 0) (by decide) ?_| refine callE_ev (h1 _) ⟨rfl, ?_⟩| refine subBo' (i := k) (j := k + 1) (by omega) (by omega) (by omega) (by simp only [List.length_cons, List.length_nil]; omega) ?_| refine strC (by simp only [List.length_cons, List.length_nil, List.length_append, List.length_drop, List.length_take]; omega) ?_| (refine condD ?_ ?_ <;> intro hq_ <;> first | (exfalso; omega) | skip)| (refine idxS (by omega) ?_; intro b_ hb_; have hl_ := b_.toNat_lt)| refine wrA (by omega) ?_| refine wrS (by omega) (by omega) ?_| refine wrI (by omega) (by omega) ?_| refine wrBA (by omega) ?_| refine wrB (by omega) (by omega) ?_| refine strC (by omega) ?_| refine nilB rfl ?_))
 all_goals exact ⟨rfl, rfl⟩
end
end Go.Ab.R05
namespace Go.Ab.R05
set_option maxRecDepth 100000
set_option linter.all false
set_option maxHeartbeats 4000000
theorem last_snoc {α : Type} (l : List α) (x : α) (n : Nat) (h : n = l.length) : (l ++ [x])[n]? = some x := by subst h; simp
theorem root_flat : ∀ (o : Nat) (a : Tr), ∃ r, (flat o a)[a.size - 1]? = some r ∧ r.kind = kindT a
 | o, .none | o, .set _ | o, .beg | o, .fin => ⟨_, rfl, rfl⟩
 | o, .post k a => ⟨_, last_snoc _ _ _ (by simp [flat_length, Tr.size]), rfl⟩
 | o, .cat a b => ⟨_, last_snoc _ _ _ (by simp [flat_length, Tr.size]), rfl⟩
 | o, .alt a b => ⟨_, last_snoc _ _ _ (by simp [flat_length, Tr.size]), rfl⟩
def At (t : List Re) (o : Nat) (a : Tr) : Prop := ∀ j, j < a.size → t[o + j]? = (flat o a)[j]?
theorem At.of {t : List Re} {o : Nat} {a : Tr} {n : Nat} {l more : List Re} (h : ∀ j, j < n → t[o + j]? = (l ++ more)[j]?) (hl : l = flat o a) (hn : a.size ≤ n) : At t o a := by
 intro j hj
 subst hl
 rw [h j (by omega), List.getElem?_append_left (by rw [flat_length]; exact hj)]
theorem At.of2 {t : List Re} {o : Nat} {a b : Tr} {n : Nat} {more : List Re} (h : ∀ j, j < n → t[o + j]? = (flat o a ++ flat (o + a.size) b ++ more)[j]?) (hn : a.size + b.size ≤ n) : At t (o + a.size) b := by
 intro j hj
 have h1 := flat_length o a
 have h2 := flat_length (o + a.size) b
 rw [Nat.add_assoc, h _ (by omega), List.append_assoc, List.getElem?_append_right (by omega), h1, Nat.add_sub_cancel_left, List.getElem?_append_left (by omega)]
theorem kid_within {t : List Re} {o : Nat} {a : Tr} {ks : List Int} (hk : ks.length ≤ 2) (hs : a.size ≤ 2000) (hA : At t o a) (h : TellOK t ((o + a.size - 1 : Nat) : Int) (textT a)) : WithinOK t ((o + a.size - 1 : Nat) : Int) ks (par (decide (kindT a ∈ ks)) (textT a)) := by
 obtain ⟨r, hr, hk'⟩ := root_flat o a
 have hp := a.size_pos
 have h1 := hA (a.size - 1) (by omega)
 rw [hr, show o + (a.size - 1) = o + a.size - 1 by omega] at h1
 rw [← hk']
 exact within_ev t _ r h1 ks hk _ (by have := textT_length a; omega) h
theorem tell_ev (t : List Re) : ∀ (a : Tr) (o : Nat), a.ok → a.size ≤ 2000 → At t o a → TellOK t ((o + a.size - 1 : Nat) : Int) (textT a)
 | .none, o, _, _, hA => tell_0 (i := o) (hA 0 (Nat.lt_succ_self 0)) rfl
 | .beg, o, _, _, hA => tell_7 (i := o) (hA 0 (Nat.lt_succ_self 0)) rfl
 | .fin, o, _, _, hA => tell_8 (i := o) (hA 0 (Nat.lt_succ_self 0)) rfl
 | .set n, o, hn, _, hA => tell_1 (i := o) (hA 0 (Nat.lt_succ_self 0)) rfl hn
 | .post k a, o, ho, hs, hA => by
   obtain ⟨hk, ha⟩ := ho
   simp only [Tr.size] at hs ⊢
   have hp := a.size_pos
   have h0 := hA a.size (by simp only [Tr.size]; omega)
   simp only [flat] at h0
   rw [last_snoc _ _ _ (flat_length o a).symm] at h0
   have hA' : At t o a := At.of (n := a.size) (more := [_]) (fun j hj => hA j (by simp only [Tr.size]; omega)) rfl (Nat.le_refl _)
   have h1 := kid_within (ks := [3, 2]) (by simp) (by omega) hA' (tell_ev t a o ha (by omega) hA')
   exact tell_4 (i := o + a.size) hk h0 rfl (by have := textT_length a; have := par_length (decide (kindT a ∈ [(3 : Int), 2])) (textT a); omega) h1
 | .cat a b, o, ho, hs, hA => by
   obtain ⟨ha, hb⟩ := ho
   simp only [Tr.size] at hs ⊢
   have hp := a.size_pos
   have hp' := b.size_pos
   have h0 := hA (a.size + b.size) (by simp only [Tr.size]; omega)
   simp only [flat] at h0
   rw [last_snoc _ _ _ (by simp [flat_length])] at h0
   have hA' : At t o a := At.of (n := a.size) (more := flat (o + a.size) b ++ [_]) (fun j hj => by rw [← List.append_assoc]; exact hA j (by simp only [Tr.size]; omega)) rfl (Nat.le_refl _)
   have hB' : At t (o + a.size) b := At.of2 (n := a.size + b.size) (more := [_]) (fun j hj => hA j (by simp only [Tr.size]; omega)) (Nat.le_refl _)
   have h1 := kid_within (ks := [3]) (by simp) (by omega) hA' (tell_ev t a o ha (by omega) hA')
   have h2 := kid_within (ks := [3, 2]) (by simp) (by omega) hB' (tell_ev t b _ hb (by omega) hB')
   have l1 := textT_length a; have l2 := textT_length b; have l3 := par_length (decide (kindT a ∈ [(3 : Int)])) (textT a); have l4 := par_length (decide (kindT b ∈ [(3 : Int), 2])) (textT b)
   rw [show o + (a.size + b.size + 1) - 1 = o + (a.size + b.size) by omega]
   exact tell_2 (i := o + (a.size + b.size)) h0 rfl (by omega) h1 h2
 | .alt a b, o, ho, hs, hA => by
   obtain ⟨ha, hb⟩ := ho
   simp only [Tr.size] at hs ⊢
   have hp := a.size_pos
   have hp' := b.size_pos
   have h0 := hA (a.size + b.size) (by simp only [Tr.size]; omega)
   simp only [flat] at h0
   rw [last_snoc _ _ _ (by simp [flat_length])] at h0
   have hA' : At t o a := At.of (n := a.size) (more := flat (o + a.size) b ++ [_]) (fun j hj => by rw [← List.append_assoc]; exact hA j (by simp only [Tr.size]; omega)) rfl (Nat.le_refl _)
   have hB' : At t (o + a.size) b := At.of2 (n := a.size + b.size) (more := [_]) (fun j hj => hA j (by simp only [Tr.size]; omega)) (Nat.le_refl _)
   have h1 := tell_ev t a o ha (by omega) hA'
   have h2 := kid_within (ks := [3]) (by simp) (by omega) hB' (tell_ev t b _ hb (by omega) hB')
   have l1 := textT_length a; have l2 := textT_length b; have l4 := par_length (decide (kindT b ∈ [(3 : Int)])) (textT b)
   rw [show o + (a.size + b.size + 1) - 1 = o + (a.size + b.size) by omega]
   exact tell_3 (i := o + (a.size + b.size)) h0 rfl (by omega) h1 h2
theorem at_flat (a : Tr) : At (flat 0 a) 0 a := fun j hj => by rw [Nat.zero_add]
theorem Text_ev (a : Tr) (ha : a.ok) (hs : a.size ≤ 2000) (rf : Refs) : Ev T1 f_regex_Text [lst ((flat 0 a).map reD)] rf (.ret (str (textT a))) rf := by
 refine Ev.any ?_ rfl rf
 have h := tell_ev (flat 0 a) a 0 ha hs (at_flat a)
 have hl : ((flat 0 a).map reD).length = a.size := by rw [List.length_map, flat_length]
 have hp := a.size_pos
 rw [Nat.zero_add, ← hl] at h
 rw [← hl] at hp
 generalize textT a = x at *
 unfold TellOK HT at h
 generalize flat 0 a = t at *
 refine ev_fn rfl rfl ?_
 (repeat' (first| (intro (u_ : Unit); clear u_)| refine condT ?_| refine condF ?_| refine condp (by assumption) ?_| refine condn (by assumption) ?_| refine condN ?_| refine idxSb (by assumption) ?_| refine callE_ev h ?_| (refine condD ?_ ?_ <;> intro hq_ <;> first | (exfalso; omega) | skip)| (refine idxS (by omega) ?_; intro b_ hb_; have hl_ := b_.toNat_lt)| refine wrA (by omega) ?_| refine wrS (by omega) (by omega) ?_| refine wrI (by omega) (by omega) ?_| refine wrBA (by omega) ?_| refine wrB (by omega) (by omega) ?_| refine strC (by omega) ?_| refine nilB rfl ?_))
 all_goals exact ⟨rfl, rfl⟩
end Go.Ab.R05
namespace Go.Ab.R05
set_option maxRecDepth 100000
set_option linter.all false
set_option maxHeartbeats 4000000
section
variable {T : Tb} [hT : Base T]
def beginF (t : List Re) : Nat → Int → Int
 | 0, _ => -1
 | f + 1, i =>
   if i < 0 then -1 else
   match t[i.toNat]? with
   | none => -1
   | some r =>
     if many r.kind < 0 ∨ (r.kind ≠ 1 ∧ clsEq r.set 0 = false) then -1
     else if many r.kind = 0 then (if r.k0 = 0 ∧ r.k1 = 0 then i else -1)
     else if many r.kind = 1 then (if r.k0 = i - 1 ∧ r.k1 = 0 then beginF t f (i - 1) else -1)
     else if beginF t f (i - 1) < 1 ∨ ¬ (r.k0 = beginF t f (i - 1) - 1 ∧ r.k1 = i - 1) then -1
     else beginF t f (beginF t f (i - 1) - 1)
theorem beginF_bound (t : List Re) : ∀ (f : Nat) (i : Int), -1 ≤ beginF t f i ∧ (beginF t f i ≤ i ∨ beginF t f i = -1)
 | 0, i => by simp [beginF]
 | f + 1, i => by
   have h1 := beginF_bound t f (i - 1)
   have h2 := beginF_bound t f (beginF t f (i - 1) - 1)
   simp only [beginF]
   split
   ·omega
   ·split
    ·omega
    ·split
     ·omega
     ·split
      ·split <;> omega
      ·split
       ·split <;> omega
       ·split <;> omega
def kidK : List PK := [.int .i64, .int .i64]
def kidEq (a b c d : Int) : Bool := (eqCells kidK [i64 a, i64 b] [i64 c, i64 d]).getD false
theorem kidEq_cells (a b c d : Int) : eqCells kidK [i64 a, i64 b] [i64 c, i64 d] = some (kidEq a b c d) := by
 simp [kidEq, eqCells, kidK, D.kind?]
theorem kidEq_iff {a b c d : Int} : kidEq a b c d = true ↔ a = c ∧ b = d := by
 simp [kidEq, eqCells, kidK, D.kind?, D.eqP]
theorem kidEq_f {a b c d : Int} (h : kidEq a b c d = false) : ¬ (a = c ∧ b = d) := fun e => by rw [kidEq_iff.2 e] at h; cases h
theorem kidEq_t {a b c d : Int} (h : kidEq a b c d = true) : a = c ∧ b = d := kidEq_iff.1 h
theorem kidB {a b c d : Int} {k : Bool → Prop} (h1 : a = c ∧ b = d → k true) (h2 : ¬ (a = c ∧ b = d) → k false) : EqcE kidK [i64 a, i64 b] [i64 c, i64 d] k := by
 refine eqcB (kidEq_cells a b c d) ?_
 cases h : kidEq a b c d
 ·exact h2 (kidEq_f h)
 ·exact h1 (kidEq_t h)
theorem beginB {x y : Int} {L v : AV} {rf : Refs} {k : Out → Refs → Prop} (hx : x = y) (h : Ev T f_ref05_begin [L, i64 y] rf (.ret v) rf) (h' : k (.ret v) rf) : CallE T f_ref05_begin [L, i64 x] rf k := by subst hx; exact callE_ev h h'
theorem nb {A B C : Prop} (h1 : ¬ A) (h2 : B → C → False) : ¬ (A ∨ B ∧ C) := fun h => h.elim h1 fun h => h2 h.1 h.2
theorem ft (h : true = false) : False := nomatch h
theorem putN_end {nb d : Nat} {N : KN} {X : KX} {v : AV} {sl : Slots} {rf : Refs} {df : DF} {pn : PN} (h : N ((d, v) :: sl) rf df pn) : putN (some d) (vops T nb N X []) v sl rf df pn := h
theorem cond_hd {nb n : Nat} {x : Bool} {t e : AC} {N : KN} {X : KX} {sl : Slots} {rf : Refs} {df : DF} {pn : PN} (h1 : x = true → vc T nb t N X ((n, .d (.bool true)) :: sl) rf df pn) (h2 : x = false → vc T nb e N X ((n, .d (.bool false)) :: sl) rf df pn) :
  vc T nb (.cond (.t n) t e) N X ((n, .d (.bool x)) :: sl) rf df pn := by
 simp only [vc, cndN, gv, raw, lk, fz, Nat.beq_refl]
 intro _
 refine ⟨fun h => ?_, fun h => ?_⟩
 ·simp only [setO, setB, Nat.beq_refl]; exact h1 h
 ·simp only [setO, setB, Nat.beq_refl]; exact h2 h
theorem begin_ev (t : List Re) (ht : t.length ≤ 2 ^ 40) : ∀ (f : Nat) (i : Int), i < f → -1 ≤ i → i < t.length → ∀ rf : Refs, Ev T f_ref05_begin [lst (t.map reD), i64 i] rf (.ret (i64 (beginF t f i))) rf := by
 intro f
 induction f with
 | zero =>
   intro i h1 h2 h3 rf
   obtain rfl : i = -1 := by omega
   refine Ev.any ?_ rfl rf
   refine ev_fn rfl rfl ?_
   (repeat' (first| (intro (u_ : Unit); clear u_)| refine condT ?_| refine condF ?_| refine condp (by assumption) ?_| refine condn (by assumption) ?_| refine condN ?_| refine idxSb (by assumption) ?_| (refine condD ?_ ?_ <;> intro hq_ <;> first | (exfalso; omega) | skip)| (refine idxS (by omega) ?_; intro b_ hb_; have hl_ := b_.toNat_lt)| refine wrA (by omega) ?_| refine wrS (by omega) (by omega) ?_| refine wrI (by omega) (by omega) ?_| refine wrBA (by omega) ?_| refine wrB (by omega) (by omega) ?_| refine strC (by omega) ?_| refine nilB rfl ?_))
   all_goals exact ⟨rfl, rfl⟩
 | succ f ih =>
   intro i h1 h2 h3 rf
   refine Ev.any ?_ rfl rf
   by_cases hneg : i < 0
   ·simp only [beginF]
    rw [if_pos hneg]
    refine ev_fn rfl rfl ?_
    (repeat' (first| (intro (u_ : Unit); clear u_)| refine condT ?_| refine condF ?_| refine condp (by assumption) ?_| refine condn (by assumption) ?_| refine condN ?_| refine idxSb (by assumption) ?_| (refine condD ?_ ?_ <;> intro hq_ <;> first | (exfalso; omega) | skip)| (refine idxS (by omega) ?_; intro b_ hb_; have hl_ := b_.toNat_lt)| refine wrA (by omega) ?_| refine wrS (by omega) (by omega) ?_| refine wrI (by omega) (by omega) ?_| refine wrBA (by omega) ?_| refine wrB (by omega) (by omega) ?_| refine strC (by omega) ?_| refine nilB rfl ?_))
    all_goals exact ⟨rfl, rfl⟩
   ·obtain ⟨j, rfl⟩ := Int.eq_ofNat_of_zero_le (by omega : 0 ≤ i)
    have hj : j < t.length := by omega
    obtain ⟨r, hr⟩ := getRe' hj
    have hm := many_cases r.kind
    have hm1 : r.kind = 1 → many r.kind = 0 := fun h => by rw [h]; decide
    have hM := many_ev (T := T) r.kind
    have hE := clsEq_cells r.set 0
    have hb := beginF_bound t f ((j : Int) - 1)
    have g1 := ih ((j : Int) - 1) (by omega) (by omega) (by omega)
    have g2 : 1 ≤ beginF t f ((j : Int) - 1) → _ := fun hq => ih (beginF t f ((j : Int) - 1) - 1) (by omega) (by omega) (by omega)
    have hj2 : (j : Int) ≤ 2 ^ 40 := by omega
    simp only [beginF, Int.toNat_natCast, hr]
    rw [if_neg hneg]
    generalize hB : beginF t f ((j : Int) - 1) = B at *
    generalize hC : beginF t f (B - 1) = C at *
    generalize clsEq r.set 0 = q at *
    clear ih hB hC h1 h2 h3 hneg ht
    have hb2 : B ≤ j := by omega
    have hb1 : -1 ≤ B := by omega
    clear hb
    by_cases hk1 : r.kind = 1
    ·have hm0 := hm1 hk1
     rw [hm0] at hM ⊢
     clear hm hm1 hm0 g1 g2
     rw [if_neg (nb (by omega) (fun h _ => h hk1)), if_pos rfl]
     refine ev_fn rfl rfl ?_
     (repeat' (first| (intro (u_ : Unit); clear u_)| refine condT ?_| refine condF ?_| refine condp (by assumption) ?_| refine condn (by assumption) ?_| refine condN ?_| refine idxSb (by assumption) ?_| refine idxReC hr ?_| refine callE_ev (hM _) ?_| (refine kidB ?_ ?_ <;> intro hk_)| (refine condD ?_ ?_ <;> intro hq_ <;> first | (exfalso; omega) | skip)| (refine idxS (by omega) ?_; intro b_ hb_; have hl_ := b_.toNat_lt)| refine wrA (by omega) ?_| refine wrS (by omega) (by omega) ?_| refine wrI (by omega) (by omega) ?_| refine wrBA (by omega) ?_| refine wrB (by omega) (by omega) ?_| refine strC (by omega) ?_| refine nilB rfl ?_))
     ·rw [if_pos (by omega)]; exact ⟨rfl, rfl⟩
     ·rw [if_neg (by omega)]; exact ⟨rfl, rfl⟩
    ·clear hm1
     cases q
     ·rw [if_pos (.inr ⟨hk1, rfl⟩)]
      clear g1 g2
      rcases hm with hm | hm | hm | hm <;> rw [hm] at hM <;> clear hm
      all_goals
       refine ev_fn rfl rfl ?_
       (repeat' (first| (intro (u_ : Unit); clear u_)| refine condT ?_| refine condF ?_| refine condp (by assumption) ?_| refine condn (by assumption) ?_| refine condN ?_| refine idxSb (by assumption) ?_| refine idxReC hr ?_| refine callE_ev (hM _) ?_| (refine eqcB hE ?_; clear hE)| (refine condD ?_ ?_ <;> intro hq_ <;> first | (exfalso; omega) | skip)| (refine idxS (by omega) ?_; intro b_ hb_; have hl_ := b_.toNat_lt)| refine wrA (by omega) ?_| refine wrS (by omega) (by omega) ?_| refine wrI (by omega) (by omega) ?_| refine wrBA (by omega) ?_| refine wrB (by omega) (by omega) ?_| refine strC (by omega) ?_| refine nilB rfl ?_))
       exact ⟨rfl, rfl⟩
     ·have hn0 : ∀ {m : Int}, 0 ≤ m → ¬ (m < 0 ∨ r.kind ≠ 1 ∧ true = false) := fun h => nb (by omega) (fun _ h => ft h)
      rcases hm with hm | hm | hm | hm <;> rw [hm] at hM ⊢ <;> clear hm
      ·rw [if_neg (hn0 (by omega)), if_neg (by omega), if_neg (by omega)]
       by_cases hB1 : B < 1
       ·rw [if_pos (.inl hB1)]
        clear g2
        refine ev_fn rfl rfl ?_
        (repeat' (first| (intro (u_ : Unit); clear u_)| refine condT ?_| refine condF ?_| refine condp (by assumption) ?_| refine condn (by assumption) ?_| refine condN ?_| refine idxSb (by assumption) ?_| refine idxReC hr ?_| refine callE_ev (hM _) ?_| refine beginB (y := (j : Int) - 1) (by omega) (g1 _) ?_| (refine eqcB hE ?_; clear hE)| (refine condD ?_ ?_ <;> intro hq_ <;> first | (exfalso; omega) | skip)| (refine idxS (by omega) ?_; intro b_ hb_; have hl_ := b_.toNat_lt)| refine wrA (by omega) ?_| refine wrS (by omega) (by omega) ?_| refine wrI (by omega) (by omega) ?_| refine wrBA (by omega) ?_| refine wrB (by omega) (by omega) ?_| refine strC (by omega) ?_| refine nilB rfl ?_))
        exact ⟨rfl, rfl⟩
       ·have g2 := g2 (by omega)
        refine ev_fn rfl rfl ?_
        (repeat' (first| (intro (u_ : Unit); clear u_)| refine condT ?_| refine condF ?_| refine condp (by assumption) ?_| refine condn (by assumption) ?_| refine condN ?_| refine idxSb (by assumption) ?_| refine idxReC hr ?_| refine callE_ev (hM _) ?_| refine beginB (y := (j : Int) - 1) (by omega) (g1 _) ?_| refine beginB (y := B - 1) (by omega) (g2 _) ?_| (refine eqcB hE ?_; clear hE)| (refine kidB ?_ ?_ <;> intro hk_)| (refine condD ?_ ?_ <;> intro hq_ <;> first | (exfalso; omega) | skip)| (refine idxS (by omega) ?_; intro b_ hb_; have hl_ := b_.toNat_lt)| refine wrA (by omega) ?_| refine wrS (by omega) (by omega) ?_| refine wrI (by omega) (by omega) ?_| refine wrBA (by omega) ?_| refine wrB (by omega) (by omega) ?_| refine strC (by omega) ?_| refine nilB rfl ?_))
        ·rw [if_neg (by omega)]; exact ⟨rfl, rfl⟩
        ·rw [if_pos (by omega)]; exact ⟨rfl, rfl⟩
      ·rw [if_neg (hn0 (by omega)), if_neg (by omega), if_pos rfl]
       clear g2
       refine ev_fn rfl rfl ?_
       (repeat' (first| (intro (u_ : Unit); clear u_)| refine condT ?_| refine condF ?_| refine condp (by assumption) ?_| refine condn (by assumption) ?_| refine condN ?_| refine idxSb (by assumption) ?_| refine idxReC hr ?_| refine callE_ev (hM _) ?_| refine beginB (y := (j : Int) - 1) (by omega) (g1 _) ?_| (refine eqcB hE ?_; clear hE)| refine kidB (fun hk_ => putN_end (cond_hd (fun h_ => absurd h_ (by decide)) (fun _ => ?_))) (fun hk_ => putN_end (cond_hd (fun _ => ?_) (fun h_ => absurd h_ (by decide))))| (refine condD ?_ ?_ <;> intro hq_ <;> first | (exfalso; omega) | skip)| (refine idxS (by omega) ?_; intro b_ hb_; have hl_ := b_.toNat_lt)| refine wrA (by omega) ?_| refine wrS (by omega) (by omega) ?_| refine wrI (by omega) (by omega) ?_| refine wrBA (by omega) ?_| refine wrB (by omega) (by omega) ?_| refine strC (by omega) ?_| refine nilB rfl ?_))
       ·rw [if_pos (by omega)]; exact ⟨rfl, rfl⟩
       ·rw [if_neg (by omega)]; exact ⟨rfl, rfl⟩
      ·rw [if_neg (hn0 (by omega)), if_pos rfl]
       clear g1 g2
       refine ev_fn rfl rfl ?_
       (repeat' (first| (intro (u_ : Unit); clear u_)| refine condT ?_| refine condF ?_| refine condp (by assumption) ?_| refine condn (by assumption) ?_| refine condN ?_| refine idxSb (by assumption) ?_| refine idxReC hr ?_| refine callE_ev (hM _) ?_| (refine eqcB hE ?_; clear hE)| (refine kidB ?_ ?_ <;> intro hk_)| (refine condD ?_ ?_ <;> intro hq_ <;> first | (exfalso; omega) | skip)| (refine idxS (by omega) ?_; intro b_ hb_; have hl_ := b_.toNat_lt)| refine wrA (by omega) ?_| refine wrS (by omega) (by omega) ?_| refine wrI (by omega) (by omega) ?_| refine wrBA (by omega) ?_| refine wrB (by omega) (by omega) ?_| refine strC (by omega) ?_| refine nilB rfl ?_))
       ·rw [if_pos (by omega)]; exact ⟨rfl, rfl⟩
       ·rw [if_neg (by omega)]; exact ⟨rfl, rfl⟩
      ·rw [if_pos (.inl (by omega))]
       clear g1 g2
       refine ev_fn rfl rfl ?_
       (repeat' (first| (intro (u_ : Unit); clear u_)| refine condT ?_| refine condF ?_| refine condp (by assumption) ?_| refine condn (by assumption) ?_| refine condN ?_| refine idxSb (by assumption) ?_| refine idxReC hr ?_| refine callE_ev (hM _) ?_| (refine condD ?_ ?_ <;> intro hq_ <;> first | (exfalso; omega) | skip)| (refine idxS (by omega) ?_; intro b_ hb_; have hl_ := b_.toNat_lt)| refine wrA (by omega) ?_| refine wrS (by omega) (by omega) ?_| refine wrI (by omega) (by omega) ?_| refine wrBA (by omega) ?_| refine wrB (by omega) (by omega) ?_| refine strC (by omega) ?_| refine nilB rfl ?_))
       exact ⟨rfl, rfl⟩
end
end Go.Ab.R05
namespace Go.Ab.R05
set_option maxRecDepth 100000
set_option linter.all false
set_option maxHeartbeats 4000000
def rightM (t : List Re) : Bool := decide (t.length ≤ 2000) && (decide (0 < t.length) && decide (beginF t (t.length + 1) ((t.length : Int) - 1) = 0))
section
variable {T : Tb} [hT : Base T]
theorem Right_ev (t : List Re) (ht : t.length ≤ 2 ^ 40) (rf : Refs) : Ev T f_ref05_Right [lst (t.map reD)] rf (.ret (bl (rightM t))) rf := by
 refine Ev.any ?_ rfl rf
 have hml : (t.map reD).length = t.length := List.length_map ..
 unfold rightM
 by_cases h1 : t.length ≤ 2000
 ·rw [decide_eq_true h1, Bool.true_and]
  by_cases h0 : 0 < t.length
  ·rw [decide_eq_true h0, Bool.true_and]
   have hb := begin_ev (T := T) t ht (t.length + 1) ((t.length : Int) - 1) (by omega) (by omega) (by omega)
   generalize beginF t (t.length + 1) ((t.length : Int) - 1) = B at *
   refine ev_fn rfl rfl ?_
   (repeat' (first| (intro (u_ : Unit); clear u_)| refine condT ?_| refine condF ?_| refine condp (by assumption) ?_| refine condn (by assumption) ?_| refine condN ?_| refine idxSb (by assumption) ?_| refine beginB (y := (t.length : Int) - 1) (by omega) (hb _) ?_| (refine condD ?_ ?_ <;> intro hq_ <;> first | (exfalso; omega) | skip)| (refine idxS (by omega) ?_; intro b_ hb_; have hl_ := b_.toNat_lt)| refine wrA (by omega) ?_| refine wrS (by omega) (by omega) ?_| refine wrI (by omega) (by omega) ?_| refine wrBA (by omega) ?_| refine wrB (by omega) (by omega) ?_| refine strC (by omega) ?_| refine nilB rfl ?_))
   exact ⟨rfl, rfl⟩
  ·rw [decide_eq_false h0, Bool.false_and]
   refine ev_fn rfl rfl ?_
   (repeat' (first| (intro (u_ : Unit); clear u_)| refine condT ?_| refine condF ?_| refine condp (by assumption) ?_| refine condn (by assumption) ?_| refine condN ?_| refine idxSb (by assumption) ?_| (refine condD ?_ ?_ <;> intro hq_ <;> first | (exfalso; omega) | skip)| (refine idxS (by omega) ?_; intro b_ hb_; have hl_ := b_.toNat_lt)| refine wrA (by omega) ?_| refine wrS (by omega) (by omega) ?_| refine wrI (by omega) (by omega) ?_| refine wrBA (by omega) ?_| refine wrB (by omega) (by omega) ?_| refine strC (by omega) ?_| refine nilB rfl ?_))
   exact ⟨rfl, rfl⟩
 ·rw [decide_eq_false h1, Bool.false_and]
  refine ev_fn rfl rfl ?_
  (repeat' (first| (intro (u_ : Unit); clear u_)| refine condT ?_| refine condF ?_| refine condp (by assumption) ?_| refine condn (by assumption) ?_| refine condN ?_| refine idxSb (by assumption) ?_| (refine condD ?_ ?_ <;> intro hq_ <;> first | (exfalso; omega) | skip)| (refine idxS (by omega) ?_; intro b_ hb_; have hl_ := b_.toNat_lt)| refine wrA (by omega) ?_| refine wrS (by omega) (by omega) ?_| refine wrI (by omega) (by omega) ?_| refine wrBA (by omega) ?_| refine wrB (by omega) (by omega) ?_| refine strC (by omega) ?_| refine nilB rfl ?_))
  exact ⟨rfl, rfl⟩
end
theorem clsEq00 : clsEq 0 0 = true := by decide +kernel
theorem get_mid {t pre post : List Re} {r : Re} {n : Nat} (h : t = pre ++ r :: post) (hn : pre.length = n) : t[n]? = some r := by
 subst h; subst hn; simp
theorem beginF_at {t : List Re} {f i : Nat} {r : Re} (h : t[i]? = some r) : beginF t (f + 1) (i : Int) =
  if many r.kind < 0 ∨ (r.kind ≠ 1 ∧ clsEq r.set 0 = false) then -1
   else if many r.kind = 0 then (if r.k0 = 0 ∧ r.k1 = 0 then (i : Int) else -1)
   else if many r.kind = 1 then (if r.k0 = (i : Int) - 1 ∧ r.k1 = 0 then beginF t f ((i : Int) - 1) else -1)
   else if beginF t f ((i : Int) - 1) < 1 ∨ ¬ (r.k0 = beginF t f ((i : Int) - 1) - 1 ∧ r.k1 = (i : Int) - 1) then -1
   else beginF t f (beginF t f ((i : Int) - 1) - 1) := by
 conv => lhs; unfold beginF
 rw [if_neg (by omega), Int.toNat_natCast, h]
theorem bf_leaf {t pre post : List Re} {f : Nat} {r : Re} (h : t = pre ++ r :: post) (hk : r.kind = 0 ∨ r.kind = 1 ∨ r.kind = 7 ∨ r.kind = 8) (hs : r.kind = 1 ∨ r.set = 0) (h0 : r.k0 = 0) (h1 : r.k1 = 0) : beginF t (f + 1) (pre.length : Int) = pre.length := by
 rw [beginF_at (get_mid h rfl)]
 have hm : many r.kind = 0 := by rcases hk with hk | hk | hk | hk <;> rw [hk] <;> decide
 rw [hm, if_neg, if_pos rfl, if_pos ⟨h0, h1⟩]
 rintro (h | ⟨ha, hb⟩)
 ·omega
 ·rcases hs with hs | hs
  ·exact ha hs
  ·rw [hs, clsEq00] at hb; cases hb
theorem bf_two {a b : Tr} {t pre post : List Re} {f : Nat} {kd : Int} (hkd : kd = 2 ∨ kd = 3) (_ : a.ok) (_ : b.ok) (h : t = pre ++ (flat pre.length a ++ flat (pre.length + a.size) b ++ [⟨kd, 0, ((pre.length + a.size - 1 : Nat) : Int), ((pre.length + a.size + b.size - 1 : Nat) : Int)⟩] ++ post)) (hf : a.size + b.size + 1 ≤ f + 1)
  (iha : ∀ pre post f, t = pre ++ (flat pre.length a ++ post) → a.size ≤ f → beginF t f ((pre.length + a.size - 1 : Nat) : Int) = pre.length)
  (ihb : ∀ pre post f, t = pre ++ (flat pre.length b ++ post) → b.size ≤ f → beginF t f ((pre.length + b.size - 1 : Nat) : Int) = pre.length) :
  beginF t (f + 1) ((pre.length + (a.size + b.size + 1) - 1 : Nat) : Int) = pre.length := by
 have hpa := a.size_pos
 have hpb := b.size_pos
 have hl : (pre ++ flat pre.length a).length = pre.length + a.size := by simp [flat_length]
 have hg : t[pre.length + a.size + b.size]? = some ⟨kd, 0, ((pre.length + a.size - 1 : Nat) : Int), ((pre.length + a.size + b.size - 1 : Nat) : Int)⟩ :=
  get_mid (pre := pre ++ flat pre.length a ++ flat (pre.length + a.size) b) (post := post) (by rw [h]; simp) (by simp [flat_length]; omega)
 have hb := ihb (pre ++ flat pre.length a) _ f (by rw [hl, h]; simp only [List.append_assoc]; rfl) (by omega)
 have ha := iha pre _ f (by rw [h]; simp only [List.append_assoc]; rfl) (by omega)
 rw [hl] at hb
 have hm : many kd = 2 := by rcases hkd with rfl | rfl <;> decide
 have e1 : ((pre.length + (a.size + b.size + 1) - 1 : Nat) : Int) = ((pre.length + a.size + b.size : Nat) : Int) := by omega
 have e2 : ((pre.length + a.size + b.size : Nat) : Int) - 1 = ((pre.length + a.size + b.size - 1 : Nat) : Int) := by omega
 have e3 : ((pre.length + a.size : Nat) : Int) - 1 = ((pre.length + a.size - 1 : Nat) : Int) := by omega
 rw [e1, beginF_at hg]
 simp only [hm, e2, hb, e3, ha]
 have n1 : ¬ ((2 : Int) < 0 ∨ kd ≠ 1 ∧ clsEq 0 0 = false) := by
  rintro (h | ⟨_, hb⟩)
  ·omega
  ·rw [clsEq00] at hb; cases hb
 rw [if_neg n1, if_neg (show ¬ (2 : Int) = 0 by omega), if_neg (show ¬ (2 : Int) = 1 by omega)]
 rw [if_neg (by
  rintro (h | h)
  ·omega
  ·exact h ⟨trivial, trivial⟩)]
theorem bf_flat : ∀ (a : Tr) (_ : a.ok) (t pre post : List Re) (f : Nat), t = pre ++ (flat pre.length a ++ post) → a.size ≤ f → beginF t f ((pre.length + a.size - 1 : Nat) : Int) = pre.length
 | .none, _, t, pre, post, f + 1, h, _ => bf_leaf (r := ⟨0, 0, 0, 0⟩) h (.inl rfl) (.inr rfl) rfl rfl
 | .set n, _, t, pre, post, f + 1, h, _ => bf_leaf (r := ⟨1, n, 0, 0⟩) h (.inr (.inl rfl)) (.inl rfl) rfl rfl
 | .beg, _, t, pre, post, f + 1, h, _ => bf_leaf (r := ⟨7, 0, 0, 0⟩) h (.inr (.inr (.inl rfl))) (.inr rfl) rfl rfl
 | .fin, _, t, pre, post, f + 1, h, _ => bf_leaf (r := ⟨8, 0, 0, 0⟩) h (.inr (.inr (.inr rfl))) (.inr rfl) rfl rfl
 | .post k a, hok, t, pre, post, f + 1, h, hf => by
   have hp := a.size_pos
   simp only [Tr.size] at hf ⊢
   simp only [flat, List.append_assoc, List.singleton_append] at h
   have hg : t[pre.length + a.size]? = some ⟨4 + k, 0, ((pre.length + a.size - 1 : Nat) : Int), 0⟩ := get_mid (pre := pre ++ flat pre.length a) (post := post) (by rw [h]; simp) (by simp [flat_length])
   have ih := bf_flat a hok.2 t pre _ f h (by omega)
   have hm : many (4 + (k : Int)) = 1 := by
    have := hok.1
    unfold many; rw [if_neg (by omega), if_pos (by omega)]
   have e1 : ((pre.length + (a.size + 1) - 1 : Nat) : Int) = ((pre.length + a.size : Nat) : Int) := by omega
   have e2 : ((pre.length + a.size : Nat) : Int) - 1 = ((pre.length + a.size - 1 : Nat) : Int) := by omega
   rw [e1, beginF_at hg]
   simp only [hm, e2]
   rw [if_neg (by rintro (h | ⟨_, hb⟩); · omega
                  ·rw [clsEq00] at hb; cases hb), if_neg (by omega), if_pos trivial, if_pos ⟨trivial, trivial⟩, ih]
 | .cat a b, hok, t, pre, post, f + 1, h, hf => bf_two (kd := 2) (.inl rfl) hok.1 hok.2 h hf (fun pre post f h hf => bf_flat a hok.1 t pre post f h hf) (fun pre post f h hf => bf_flat b hok.2 t pre post f h hf)
 | .alt a b, hok, t, pre, post, f + 1, h, hf => bf_two (kd := 3) (.inr rfl) hok.1 hok.2 h hf (fun pre post f h hf => bf_flat a hok.1 t pre post f h hf) (fun pre post f h hf => bf_flat b hok.2 t pre post f h hf)
 | a, _, t, pre, post, 0, h, hf => by have := a.size_pos; omega
end Go.Ab.R05
namespace Go.Ab.R05
set_option maxRecDepth 100000
set_option linter.all false
set_option maxHeartbeats 4000000
theorem take_snocR {t : List Re} {b n i : Nat} {r : Re} (h : t[i]? = some r) (hi : b + n = i) : (t.drop b).take (n + 1) = (t.drop b).take n ++ [r] := by
 rw [List.take_add_one, List.getElem?_drop, hi, h]; rfl
theorem many0 {k : Int} (h : many k = 0) : k = 0 ∨ k = 1 ∨ k = 7 ∨ k = 8 := by
 unfold many at h; repeat' split at h
 all_goals omega
theorem many1 {k : Int} (h : many k = 1) : 4 ≤ k ∧ k ≤ 6 := by
 unfold many at h; repeat' split at h
 all_goals omega
theorem many2 {k : Int} (h : ¬ many k < 0) (h0 : many k ≠ 0) (h1 : many k ≠ 1) : k = 2 ∨ k = 3 := by
 by_cases a : k = 2 ∨ k = 3
 ·exact a
 ·exfalso
  unfold many at h h0 h1
  rw [if_neg a] at h h0 h1
  by_cases b : 4 ≤ k ∧ k ≤ 6
  ·rw [if_pos b] at h1; exact h1 rfl
  ·rw [if_neg b] at h h0 h1
   by_cases c : k = 0 ∨ k = 1 ∨ k = 7 ∨ k = 8
   ·rw [if_pos c] at h0; exact h0 rfl
   ·rw [if_neg c] at h; omega
theorem bf_back (t : List Re) (hset : ∀ r ∈ t, r.set < 2 ^ 256) : ∀ (f i b : Nat), i < t.length → beginF t f (i : Int) = (b : Int) → ∃ a : Tr, a.ok ∧ b + a.size = i + 1 ∧ (t.drop b).take a.size = flat b a
 | 0, i, b, hi, h => by simp [beginF] at h
 | f + 1, i, b, hi, h => by
   obtain ⟨r, hr⟩ : ∃ r, t[i]? = some r := ⟨t[i], List.getElem?_eq_getElem hi⟩
   have hrs := hset r (List.mem_of_getElem? hr)
   rw [beginF_at hr] at h
   by_cases c1 : many r.kind < 0 ∨ (r.kind ≠ 1 ∧ clsEq r.set 0 = false)
   ·rw [if_pos c1] at h; omega
   rw [if_neg c1] at h
   have hs : r.kind ≠ 1 → r.set = 0 := fun hk => by
    cases hq : clsEq r.set 0
    ·exact absurd (.inr ⟨hk, hq⟩) c1
    ·exact (clsEq_iff hrs (by decide)).1 hq
   have one : b = i → ∀ a : Tr, a.size = 1 → a.ok → flat b a = [r] → ∃ a : Tr, a.ok ∧ b + a.size = i + 1 ∧ (t.drop b).take a.size = flat b a := fun hb a h1 h2 h3 =>
    ⟨a, h2, by omega, by rw [h1, h3, take_snocR (n := 0) hr (by omega)]; rfl⟩
   by_cases c2 : many r.kind = 0
   ·rw [if_pos c2] at h
    by_cases c3 : r.k0 = 0 ∧ r.k1 = 0
    ·rw [if_pos c3] at h
     obtain ⟨h0, h1⟩ := c3
     have hb : b = i := by omega
     obtain ⟨kd, st, a0, a1⟩ := r
     simp only at *
     subst h0 h1
     rcases many0 c2 with hk | hk | hk | hk
     ·subst hk; have := hs (by decide); subst this; exact one hb .none rfl trivial rfl
     ·subst hk; exact one hb (.set st) rfl hrs rfl
     ·subst hk; have := hs (by decide); subst this; exact one hb .beg rfl trivial rfl
     ·subst hk; have := hs (by decide); subst this; exact one hb .fin rfl trivial rfl
    ·rw [if_neg c3] at h; omega
   rw [if_neg c2] at h
   have hn1 : r.kind ≠ 1 := fun e => c2 (by rw [e]; decide)
   have hs0 := hs hn1
   have hi1 : i = 0 → ∀ x : Int, beginF t f ((i : Int) - 1) = -1 := fun e _ => by
    subst e
    cases f <;> simp [beginF]
   by_cases c4 : many r.kind = 1
   ·rw [if_pos c4] at h
    by_cases c5 : r.k0 = (i : Int) - 1 ∧ r.k1 = 0
    ·rw [if_pos c5] at h
     obtain ⟨h0, h1⟩ := c5
     have hi0 : 1 ≤ i := by
      rcases Nat.eq_zero_or_pos i with e | e
      ·have := hi1 e 0; omega
      ·exact e
     rw [show (i : Int) - 1 = ((i - 1 : Nat) : Int) by omega] at h
     obtain ⟨a, ha1, ha2, ha3⟩ := bf_back t hset f (i - 1) b (by omega) h
     have hk := many1 c4
     obtain ⟨kd, st, a0, a1⟩ := r
     simp only at *
     subst h0 h1 hs0
     refine ⟨.post (kd - 4).toNat a, ⟨by omega, ha1⟩, by simp only [Tr.size]; omega, ?_⟩
     simp only [Tr.size, flat]
     rw [take_snocR hr (by omega), ha3]
     congr 3 <;> omega
    ·rw [if_neg c5] at h; omega
   rw [if_neg c4] at h
   generalize hB : beginF t f ((i : Int) - 1) = B at h
   by_cases c6 : B < 1 ∨ ¬ (r.k0 = B - 1 ∧ r.k1 = (i : Int) - 1)
   ·rw [if_pos c6] at h; omega
   rw [if_neg c6] at h
   have hB1 : ¬ B < 1 := fun e => c6 (.inl e)
   have hk01 : r.k0 = B - 1 ∧ r.k1 = (i : Int) - 1 := Classical.byContradiction fun e => c6 (.inr e)
   obtain ⟨h0, h1⟩ := hk01
   have hi0 : 1 ≤ i := by
    rcases Nat.eq_zero_or_pos i with e | e
    ·have := hi1 e 0; omega
    ·exact e
   obtain ⟨B', rfl⟩ := Int.eq_ofNat_of_zero_le (by omega : 0 ≤ B)
   rw [show (i : Int) - 1 = ((i - 1 : Nat) : Int) by omega] at hB
   obtain ⟨y, hy1, hy2, hy3⟩ := bf_back t hset f (i - 1) B' (by omega) hB
   have hyp := y.size_pos
   rw [show (B' : Int) - 1 = ((B' - 1 : Nat) : Int) by omega] at h
   obtain ⟨x, hx1, hx2, hx3⟩ := bf_back t hset f (B' - 1) b (by omega) h
   have hxp := x.size_pos
   have hbx : b + x.size = B' := by omega
   have hk := many2 (fun e => c1 (.inl e)) c2 c4
   obtain ⟨kd, st, a0, a1⟩ := r
   simp only at *
   subst h0 h1 hs0
   have ht : (t.drop b).take (x.size + y.size + 1) = flat b x ++ flat (b + x.size) y ++ [⟨kd, 0, (B' : Int) - 1, (i : Int) - 1⟩] := by
    rw [take_snocR hr (by omega), List.take_add, hx3, List.drop_drop, hbx, hy3]
   rcases hk with rfl | rfl
   ·refine ⟨.cat x y, ⟨hx1, hy1⟩, by simp only [Tr.size]; omega, ?_⟩
    simp only [Tr.size, flat]
    rw [ht]
    congr 3 <;> omega
   ·refine ⟨.alt x y, ⟨hx1, hy1⟩, by simp only [Tr.size]; omega, ?_⟩
    simp only [Tr.size, flat]
    rw [ht]
    congr 3 <;> omega
theorem right_flat {a : Tr} (ha : a.ok) (hl : a.size ≤ 2000) : rightM (flat 0 a) = true := by
 have hp := a.size_pos
 have h := bf_flat a ha (flat 0 a) [] [] (a.size + 1) (by simp) (by omega)
 unfold rightM
 rw [flat_length, decide_eq_true hl, decide_eq_true (show 0 < a.size by omega), Bool.true_and, Bool.true_and, decide_eq_true]
 rw [show (a.size : Int) - 1 = (([] : List Re).length + a.size - 1 : Nat) by simp; omega]
 exact h
theorem flat_right {t : List Re} (hset : ∀ r ∈ t, r.set < 2 ^ 256) (h : rightM t = true) : ∃ a : Tr, a.ok ∧ t = flat 0 a ∧ a.size = t.length ∧ t.length ≤ 2000 := by
 unfold rightM at h
 simp only [Bool.and_eq_true, decide_eq_true_eq] at h
 obtain ⟨h1, h2, h3⟩ := h
 rw [show (t.length : Int) - 1 = ((t.length - 1 : Nat) : Int) by omega] at h3
 obtain ⟨a, ha1, ha2, ha3⟩ := bf_back t hset (t.length + 1) (t.length - 1) 0 (by omega) h3
 have hs : a.size = t.length := by omega
 refine ⟨a, ha1, ?_, hs, h1⟩
 rw [← ha3, hs]; simp
end Go.Ab.R05
namespace Go.Ab.R05
set_option maxRecDepth 100000
set_option linter.all false
set_option maxHeartbeats 4000000
theorem plainS_len (c : Nat) : (isWordB c = true ∧ plainS c = [UInt8.ofNat c]) ∨ plainS c = [92, 120, hexd (c / 16), hexd (c % 16)] := by
 unfold plainS
 split
 ·rename_i h; exact .inl ⟨h, rfl⟩
 ·exact .inr rfl
theorem signs_word : ∀ c : Nat, c < 256 → isWordB c = true → (UInt8.ofNat c).toNat ≠ 92 ∧ UInt8.ofNat c ∉ badB := by decide +kernel
theorem signs_hex : ∀ c : Nat, c < 256 → digit (hexd (c / 16)).toNat = (c / 16 : Nat) ∧ digit (hexd (c % 16)).toNat = (c % 16 : Nat) := by decide +kernel
theorem named_x : (120 : UInt8) ∉ named := by decide
theorem sign_plain (c : Nat) (hc : c < 256) (more : List UInt8) : sign (plainS c ++ more) = some (c, (plainS c).length) := by
 rcases plainS_len c with ⟨hw, h⟩ | h
 ·obtain ⟨h1, h2⟩ := signs_word c hc hw
  rw [h]
  simp only [sign, List.cons_append, List.nil_append, List.getElem?_cons_zero]
  rw [if_pos h1, if_neg h2, toNat_ofNat_u8 hc]
  rfl
 ·obtain ⟨h1, h2⟩ := signs_hex c hc
  rw [h]
  simp only [sign, List.cons_append, List.nil_append, List.getElem?_cons_zero, List.getElem?_cons_succ]
  rw [if_neg (by decide), if_neg named_x, if_pos ⟨by decide, by omega, by omega⟩, h1, h2]
  simp only [Int.toNat_natCast, List.length_cons, List.length_nil]
  congr 2
  omega
def headB (c : UInt8) : Bool := c != 45 && c != 94 && c != 93
theorem plainS_head : ∀ c, c < 256 → ∃ x r, plainS c = x :: r ∧ headB x = true := fun c hc => by
 rcases plainS_len c with ⟨hw, h⟩ | h
 ·refine ⟨_, _, h, ?_⟩
  have : ∀ c : Nat, c < 256 → isWordB c = true → headB (UInt8.ofNat c) = true := by decide +kernel
  exact this c hc hw
 ·exact ⟨_, _, h, by decide⟩
def itT (p : Nat × Nat) : List UInt8 := plainS p.1 ++ (if p.1 < p.2 then 45 :: plainS p.2 else [])
def uni (k : Nat) (L : List (Nat × Nat)) : Nat := L.foldl (fun k p => k ||| spanN p.1 (p.2 + 1 - p.1)) k
theorem hit_drop {S r : List UInt8} {i c : Nat} {x : UInt8} (h : S.drop i = x :: r) : hit S i c = decide (x.toNat = c) := by
 have : (S.drop i)[0]? = some x := by rw [h]; rfl
 rw [List.getElem?_drop, Nat.add_zero] at this
 exact hit_some this
theorem dropApp {S a r : List UInt8} {i : Nat} (h : S.drop i = a ++ r) : S.drop (i + a.length) = r := by
 rw [← List.drop_drop, h, List.drop_left]
theorem itT_pos (p : Nat × Nat) : 1 ≤ (itT p).length := by
 unfold itT; rw [List.length_append]
 have : 1 ≤ (plainS p.1).length := by unfold plainS; split <;> simp
 omega
theorem itm_text {S r : List UInt8} {i : Nat} {p : Nat × Nat} {x : UInt8} (h1 : p.1 ≤ p.2) (h2 : p.2 < 256) (h : S.drop i = itT p ++ x :: r) (hx : x ≠ 45) : itm S i = some (p.1, p.2, i + (itT p).length) := by
 unfold itT at h
 unfold itm
 rw [List.append_assoc] at h
 rw [h, sign_plain p.1 (by omega)]
 have hd := dropApp h
 simp only
 by_cases hlt : p.1 < p.2
 ·rw [if_pos hlt] at hd
  rw [hit_drop (by rw [hd]; rfl), if_pos (by decide)]
  have hd2 : S.drop (i + (plainS p.1).length + 1) = plainS p.2 ++ x :: r := by
   rw [← List.drop_drop, hd]; rfl
  rw [hd2, sign_plain p.2 h2]
  simp only
  rw [if_neg (by omega)]
  simp only [itT, if_pos hlt, List.length_append, List.length_cons]
  congr 3; omega
 ·rw [if_neg hlt, List.nil_append] at hd
  rw [hit_drop hd, if_neg (by simpa using fun e => hx (UInt8.toNat_inj.1 e))]
  simp only [itT, if_neg hlt, List.append_nil]
  congr 3; omega
theorem itms_text {S q : List UInt8} : ∀ (L : List (Nat × Nat)) (p : Nat × Nat) (i f k : Nat), (∀ x ∈ p :: L, x.1 ≤ x.2 ∧ x.2 < 256) → S.drop i = itT p ++ (L.flatMap itT ++ 93 :: q) → L.length < f →
  itms S f i k = some (uni k (p :: L), i + (itT p).length + (L.flatMap itT).length + 1)
 | [], p, i, f + 1, k, hL, h, _ => by
   have hp := hL p (by simp)
   have hm := itm_text hp.1 hp.2 (x := 93) (r := q) (by rw [h]; rfl) (by decide)
   have hd := dropApp h
   simp only [itms, hm]
   rw [hit_drop (by rw [hd]; rfl), if_pos (by decide)]
   rfl
 | p2 :: L, p, i, f + 1, k, hL, h, hf => by
   have hp := hL p (by simp)
   have hp2 := hL p2 (by simp)
   obtain ⟨x, r, hx, hh⟩ := plainS_head p2.1 (by omega)
   have hx45 : x ≠ 45 := fun e => by subst e; exact absurd hh (by decide)
   have hx93 : x ≠ 93 := fun e => by subst e; exact absurd hh (by decide)
   have hd := dropApp h
   have hcons : ∃ r2, (p2 :: L).flatMap itT ++ 93 :: q = x :: r2 := ⟨r ++ ((if p2.1 < p2.2 then 45 :: plainS p2.2 else []) ++ (L.flatMap itT ++ 93 :: q)), by simp [itT, hx]⟩
   obtain ⟨r2, hr2⟩ := hcons
   have hm := itm_text hp.1 hp.2 (by rw [h, hr2]) hx45
   simp only [itms, hm]
   rw [hit_drop (by rw [hd, hr2]), if_neg (by simpa using fun e => hx93 (UInt8.toNat_inj.1 e))]
   rw [itms_text (q := q) L p2 (i + (itT p).length) f _ (fun y hy => hL y (by simp at hy ⊢; exact .inr hy)) (by rw [hd]; simp) (by simp only [List.length_cons] at hf; omega)]
   simp only [uni, List.foldl_cons, List.flatMap_cons, List.length_append]
   congr 2; omega
def itemsP (p : UInt8 × UInt8) : List (Nat × Nat) := if p.2.toNat = p.1.toNat + 1 then [(p.1.toNat, p.1.toNat), (p.2.toNat, p.2.toNat)] else [(p.1.toNat, p.2.toNat)]
theorem itemsP_text (p : UInt8 × UInt8) (h : p.1.toNat ≤ p.2.toNat) : (itemsP p).flatMap itT = pieceS p := by
 unfold itemsP pieceS itT
 by_cases h1 : p.2.toNat = p.1.toNat + 1
 ·rw [if_pos h1]; simp [h1]
 ·rw [if_neg h1]
  by_cases h2 : p.2.toNat > p.1.toNat + 1
  ·simp [h2, show p.1.toNat < p.2.toNat by omega]
  ·simp [h2, show ¬ p.1.toNat < p.2.toNat by omega]
theorem itemsP_ok (p : UInt8 × UInt8) (h : p.1.toNat ≤ p.2.toNat) : itemsP p ≠ [] ∧ ∀ x ∈ itemsP p, x.1 ≤ x.2 ∧ x.2 < 256 := by
 have := p.2.toNat_lt
 have := p.1.toNat_lt
 unfold itemsP
 split
 ·refine ⟨by simp, fun x hx => ?_⟩
  simp only [List.mem_cons, List.not_mem_nil, or_false] at hx
  rcases hx with rfl | rfl <;> simp <;> omega
 ·refine ⟨by simp, fun x hx => ?_⟩
  simp only [List.mem_cons, List.not_mem_nil, or_false] at hx
  subst hx; simp; omega
theorem uni_bit (L : List (Nat × Nat)) : ∀ (k j : Nat), (uni k L).testBit j = (k.testBit j || L.any fun p => decide (p.1 ≤ j ∧ j ≤ p.2)) := by
 induction L with
 | nil => intro k j; simp [uni]
 | cons p L ih =>
   intro k j
   simp only [uni, List.foldl_cons, List.any_cons] at ih ⊢
   rw [ih, Nat.testBit_or, spanN_bit, Bool.or_assoc]
   congr 2
   rw [decide_eq_decide]; omega
theorem itemsP_bit (p : UInt8 × UInt8) (h : p.1.toNat ≤ p.2.toNat) (j : Nat) : ((itemsP p).any fun q => decide (q.1 ≤ j ∧ j ≤ q.2)) = decide (p.1.toNat ≤ j ∧ j ≤ p.2.toNat) := by
 unfold itemsP
 split
 ·simp only [List.any_cons, List.any_nil, Bool.or_false]
  rw [Bool.eq_iff_iff]
  simp only [Bool.or_eq_true, decide_eq_true_eq]
  omega
 ·simp
theorem endOf_spec (n : Nat) : ∀ k c, c ≤ Tx.endOf n k c ∧ (Tx.endOf n k c ≤ 256 ∨ Tx.endOf n k c = c) ∧ (∀ j, c ≤ j → j < Tx.endOf n k c → n.testBit j = true) ∧ (256 ≤ k + c → Tx.endOf n k c < 256 → n.testBit (Tx.endOf n k c) = false)
 | 0, c => by
   show c ≤ c ∧ (c ≤ 256 ∨ c = c) ∧ (∀ j, c ≤ j → j < c → n.testBit j = true) ∧ (256 ≤ 0 + c → c < 256 → n.testBit c = false)
   exact ⟨Nat.le_refl _, .inr rfl, fun j h1 h2 => by omega, fun h1 h2 => by omega⟩
 | k + 1, c => by
   simp only [Tx.endOf]
   split
   ·rename_i h
    obtain ⟨h1, h2, h3, h4⟩ := endOf_spec n k (c + 1)
    refine ⟨by omega, by omega, fun j hj hj2 => ?_, fun hk he => h4 (by omega) he⟩
    by_cases e : j = c
    ·subst e; exact h.2
    ·exact h3 j (by omega) hj2
   ·rename_i h
    refine ⟨Nat.le_refl _, .inr rfl, fun j h1 h2 => by omega, fun _ hc => ?_⟩
    cases hb : n.testBit c
    ·rfl
    ·exact absurd ⟨hc, hb⟩ h
theorem runs_ok (n : Nat) : ∀ k c, ∀ p ∈ Tx.runs n k c, p.1.toNat ≤ p.2.toNat
 | 0, c, p, hp => by simp [Tx.runs] at hp
 | k + 1, c, p, hp => by
   obtain ⟨h1, h2, _, _⟩ := endOf_spec n 256 c
   simp only [Tx.runs] at hp
   split at hp
   ·rename_i hc
    split at hp
    ·rename_i hce
     simp only [List.mem_cons] at hp
     rcases hp with rfl | hp
     ·simp only [Tx.u8 hc, Tx.u8 (show Tx.endOf n 256 c - 1 < 256 by omega)]; omega
     ·exact runs_ok n k _ p hp
    ·exact runs_ok n k _ p hp
   ·simp at hp
theorem runs_bit (n : Nat) : ∀ k c j, 257 ≤ k + c → ((Tx.runs n k c).any fun p => decide (p.1.toNat ≤ j ∧ j ≤ p.2.toNat)) = decide (c ≤ j ∧ j < 256 ∧ n.testBit j = true)
 | 0, c, j, hk => by
   simp only [Tx.runs, List.any_nil]
   symm; rw [decide_eq_false_iff_not]; omega
 | k + 1, c, j, hk => by
   obtain ⟨h1, h2, h3, h4⟩ := endOf_spec n 256 c
   simp only [Tx.runs]
   split
   ·rename_i hc
    have h4' := h4 (by omega)
    clear h4
    have ih := runs_bit n k (Tx.endOf n 256 c + 1) j (by omega)
    generalize Tx.endOf n 256 c = e at *
    split
    ·rename_i hce
     simp only [List.any_cons, ih, Tx.u8 hc, Tx.u8 (show e - 1 < 256 by omega)]
     rw [Bool.eq_iff_iff]
     simp only [Bool.or_eq_true, decide_eq_true_eq]
     constructor
     ·rintro (h | h)
      ·exact ⟨by omega, by omega, h3 j (by omega) (by omega)⟩
      ·exact ⟨by omega, h.2⟩
     ·rintro ⟨h5, h6, h7⟩
      rcases Nat.lt_or_ge j e with h | h
      ·exact .inl (by omega)
      ·rcases Nat.eq_or_lt_of_le h with h | h
       ·subst h; rw [h4' h6] at h7; cases h7
       ·exact .inr ⟨by omega, h6, h7⟩
    ·have hec : e = c := by omega
     subst hec
     rw [ih, decide_eq_decide]
     constructor
     ·rintro ⟨a, b⟩; exact ⟨by omega, b⟩
     ·rintro ⟨a, b, d⟩
      refine ⟨?_, b, d⟩
      rcases Nat.eq_or_lt_of_le a with h | h
      ·subst h; rw [h4' b] at d; cases d
      ·omega
   ·symm; rw [List.any_nil, decide_eq_false_iff_not]; omega
end Go.Ab.R05
namespace Go.Ab.R05
set_option maxRecDepth 100000
set_option linter.all false
set_option maxHeartbeats 4000000
theorem flatMap_len {L : List (Nat × Nat)} : L.length ≤ (L.flatMap itT).length := by
 induction L with
 | nil => simp
 | cons p L ih => have := itT_pos p; simp only [List.flatMap_cons, List.length_append, List.length_cons]; omega
theorem runs_text : ∀ l : List (UInt8 × UInt8), (∀ p ∈ l, p.1.toNat ≤ p.2.toNat) → (l.flatMap itemsP).flatMap itT = l.flatMap pieceS
 | [], _ => rfl
 | p :: l, h => by
   simp only [List.flatMap_cons, List.flatMap_append, itemsP_text p (h p (by simp)), runs_text l (fun x hx => h x (by simp [hx]))]
theorem items_any : ∀ (l : List (UInt8 × UInt8)) (j : Nat), (∀ p ∈ l, p.1.toNat ≤ p.2.toNat) → ((l.flatMap itemsP).any fun q => decide (q.1 ≤ j ∧ j ≤ q.2)) = (l.any fun p => decide (p.1.toNat ≤ j ∧ j ≤ p.2.toNat))
 | [], _, _ => rfl
 | p :: l, j, h => by
   simp only [List.flatMap_cons, List.any_append, List.any_cons, itemsP_bit p (h p (by simp)), items_any l j (fun x hx => h x (by simp [hx]))]
theorem bit_hi {n j : Nat} (hn : n < 2 ^ 256) (hj : 256 ≤ j) : n.testBit j = false := Nat.testBit_lt_two_pow (Nat.lt_of_lt_of_le hn (@Nat.pow_le_pow_right 2 (Nat.succ_pos 1) 256 j hj))
theorem runs_ne {n : Nat} (hn : n < 2 ^ 256) (h0 : n ≠ 0) : Tx.runs n 257 0 ≠ [] := fun h => by
 apply h0
 apply Nat.eq_of_testBit_eq
 intro j
 rw [Nat.zero_testBit]
 have := runs_bit n 257 0 j (by omega)
 rw [h] at this
 simp only [List.any_nil] at this
 have h2 := of_decide_eq_false this.symm
 rcases Nat.lt_or_ge j 256 with hj | hj
 ·cases hb : n.testBit j
  ·rfl
  ·exact absurd ⟨Nat.zero_le _, hj, hb⟩ h2
 ·exact bit_hi hn hj
theorem readS_text {n : Nat} (hn : n < 2 ^ 256) (h0 : n ≠ 0) {S q : List UInt8} {i : Nat} (h : S.drop i = textS n ++ q) : readS (S.drop i) = some (n, (textS n).length) := by
 generalize hW : S.drop i = W at *
 have hro := runs_ok n 257 0
 have hne := runs_ne hn h0
 have ht := runs_text _ hro
 have hb : ∀ j, (((Tx.runs n 257 0).flatMap itemsP).any fun q => decide (q.1 ≤ j ∧ j ≤ q.2)) = decide (0 ≤ j ∧ j < 256 ∧ n.testBit j = true) := fun j => by rw [items_any _ j hro, runs_bit n 257 0 j (by omega)]
 have hok : ∀ x ∈ (Tx.runs n 257 0).flatMap itemsP, x.1 ≤ x.2 ∧ x.2 < 256 := fun x hx => by
  obtain ⟨p, hp, hx⟩ := List.mem_flatMap.1 hx
  exact (itemsP_ok p (hro p hp)).2 x hx
 have hL : (Tx.runs n 257 0).flatMap itemsP ≠ [] := fun e => by
  cases hr : Tx.runs n 257 0 with
  | nil => exact hne hr
  | cons p l =>
    rw [hr, List.flatMap_cons] at e
    exact (itemsP_ok p (hro p (by rw [hr]; simp))).1 (List.append_eq_nil_iff.1 e).1
 have htl : (textS n).length = ((Tx.runs n 257 0).flatMap pieceS).length + 2 := by simp [textS, tells]
 have hW1 : W = 91 :: ((Tx.runs n 257 0).flatMap pieceS ++ 93 :: q) := by rw [h]; simp [textS, tells]
 rw [← ht] at hW1 htl
 generalize (Tx.runs n 257 0).flatMap itemsP = L at *
 obtain ⟨p, L, rfl⟩ := List.exists_cons_of_ne_nil hL
 have hp := hok p (by simp)
 obtain ⟨x, r, hx, hh⟩ := plainS_head p.1 (by omega)
 have hx94 : x ≠ 94 := fun e => by subst e; exact absurd hh (by decide)
 have hd1 : W.drop 1 = itT p ++ (L.flatMap itT ++ 93 :: q) := by rw [hW1]; simp
 have hx1 : ∃ r2, W.drop 1 = x :: r2 := ⟨_, by rw [hd1, itT, hx]; simp; rfl⟩
 obtain ⟨r2, hx1⟩ := hx1
 have hlen : L.length < W.length := by
  have := flatMap_len (L := p :: L)
  rw [hW1]; simp only [List.length_cons, List.length_append] at this ⊢; omega
 have hI := itms_text (S := W) (q := q) L p 1 W.length 0 hok hd1 hlen
 have hun : uni 0 (p :: L) = n := by
  apply Nat.eq_of_testBit_eq
  intro j
  rw [uni_bit, hb, Nat.zero_testBit, Bool.false_or]
  rcases Nat.lt_or_ge j 256 with hj | hj
  ·cases hbj : n.testBit j
   ·exact decide_eq_false (fun e => by cases e.2.2)
   ·exact decide_eq_true ⟨Nat.zero_le _, hj, rfl⟩
  ·rw [bit_hi hn hj]; exact decide_eq_false (fun e => by omega)
 unfold readS
 rw [hit_drop (S := W) (i := 0) (x := 91) (by rw [hW1]; rfl), if_pos (by decide), hit_drop hx1, if_neg (by simpa using fun e => hx94 (UInt8.toNat_inj.1 e)), hI, hun]
 simp only
 rw [if_neg (by simpa using fun e => hx94 (UInt8.toNat_inj.1 e)), htl]
 simp only [List.flatMap_cons, List.length_append]
 congr 2; omega
end Go.Ab.R05
namespace Go.Ab.R05
set_option maxRecDepth 100000
set_option linter.all false
set_option maxHeartbeats 4000000
deriving instance DecidableEq for Re
deriving instance DecidableEq for Except
theorem sign_one : ∀ c, c < 256 → parse (plainS c) = .ok [⟨1, spanN c 1, 0, 0⟩] := by decide +kernel
theorem sign_star : ∀ c, c < 256 → parse (plainS c ++ [42]) = .ok [⟨1, spanN c 1, 0, 0⟩, ⟨4, 0, 0, 0⟩] := by decide +kernel
theorem sign_two : ∀ c, c < 256 → parse (plainS c ++ [43, 63]) = .ok [⟨1, spanN c 1, 0, 0⟩, ⟨5, 0, 0, 0⟩, ⟨6, 0, 1, 0⟩] := by decide +kernel
theorem sign_text : ∀ c, c < 256 → setTextS (spanN c 1) = plainS c := by decide +kernel
section
variable {T : Tb} [hT : Base T]
theorem rdig_ev (c : Nat) (hc : c < 16) (rf : Refs) : Ev T f_ref01_digit [u8 c] rf (.ret (str [hexd c])) rf := by
 refine Ev.any ?_ rfl rf
 unfold hexd
 refine ev_fn rfl rfl ?_
 (repeat' (first| (intro (u_ : Unit); clear u_)| refine condT ?_| refine condF ?_| refine condp (by assumption) ?_| refine condn (by assumption) ?_| refine condN ?_| refine idxSb (by assumption) ?_| refine strB strOf1 ?_| (refine condD ?_ ?_ <;> intro hq_ <;> first | (exfalso; omega) | skip)| (refine idxS (by omega) ?_; intro b_ hb_; have hl_ := b_.toNat_lt)| refine wrA (by omega) ?_| refine wrS (by omega) (by omega) ?_| refine wrI (by omega) (by omega) ?_| refine wrBA (by omega) ?_| refine wrB (by omega) (by omega) ?_| refine strC (by omega) ?_| refine nilB rfl ?_))
 ·rw [if_pos (by omega)]; exact ⟨rfl, rfl⟩
 ·rw [if_neg (by omega)]; exact ⟨rfl, rfl⟩
theorem rHex_ev (s : List UInt8) (hs : s.length ≤ 2 ^ 30) (rf : Refs) : Ev T f_ref01_Hex [str s] rf (.ret (str (120 :: hexOf s))) rf := by
 refine Ev.any ?_ rfl rf
 refine ev_fn rfl rfl ?_
 (repeat' (first| (intro (u_ : Unit); clear u_)| refine condT ?_| refine condF ?_| refine condp (by assumption) ?_| refine condn (by assumption) ?_| refine condN ?_| refine idxSb (by assumption) ?_| (refine condD ?_ ?_ <;> intro hq_ <;> first | (exfalso; omega) | skip)| (refine idxS (by omega) ?_; intro b_ hb_; have hl_ := b_.toNat_lt)| refine wrA (by omega) ?_| refine wrS (by omega) (by omega) ?_| refine wrI (by omega) (by omega) ?_| refine wrBA (by omega) ?_| refine wrB (by omega) (by omega) ?_| refine strC (by omega) ?_| refine nilB rfl ?_))
 refine loopR (fun i : Nat => [(4, i64 i), (3, str (120 :: hexOf (s.take i)))]) (fun _ => []) (fun i => s.length - i) (fun i => i ≤ s.length) 0 (by omega) rfl rfl ?_
 intro i hi
 have hl := hexOf_length (s.take i)
 rw [List.length_take] at hl
 (repeat' (first| (intro (u_ : Unit); clear u_)| refine condT ?_| refine condF ?_| refine condp (by assumption) ?_| refine condn (by assumption) ?_| refine condN ?_| refine idxSb (by assumption) ?_| refine callE_ev (rdig_ev _ (by omega) _) ?_| refine quoN (by decide) (by rw [m8]; omega) (by decide) ?_| refine remN (by decide) ?_| refine strC (by simp only [List.length_cons, List.length_nil, List.length_append]; omega) ?_| (refine condD ?_ ?_ <;> intro hq_ <;> first | (exfalso; omega) | skip)| (refine idxS (by omega) ?_; intro b_ hb_; have hl_ := b_.toNat_lt)| refine wrA (by omega) ?_| refine wrS (by omega) (by omega) ?_| refine wrI (by omega) (by omega) ?_| refine wrBA (by omega) ?_| refine wrB (by omega) (by omega) ?_| refine strC (by omega) ?_| refine nilB rfl ?_))
 ·refine ⟨i + 1, by omega, by omega, ?_, rfl, rfl, rfl⟩
  rw [take_succ_of hb_, hexOf_append]
  simp [upd, Slots.get, hexOf]
 ·have : i = s.length := by omega
  subst this
  rw [List.take_of_length_le (Nat.le_refl _)]
  exact ⟨rfl, rfl⟩
theorem rPlain_ev (c : Nat) (hc : c < 256) (rf : Refs) : Ev T f_ref04_Plain [u8 c] rf (.ret (str (plainS c))) rf := by
 have hx : Ev T f_ref01_Hex [str [UInt8.ofNat c]] [] (.ret (str [120, hexd (c / 16), hexd (c % 16)])) [] := by
  have h := rHex_ev (T := T) [UInt8.ofNat c] (by simp) []
  rw [hexOf, hexOf, toNat_ofNat_u8 hc] at h
  exact h
 refine Ev.any ?_ rfl rf
 unfold plainS isWordB
 refine ev_fn rfl rfl ?_
 (repeat' (first| (intro (u_ : Unit); clear u_)| refine condT ?_| refine condF ?_| refine condp (by assumption) ?_| refine condn (by assumption) ?_| refine condN ?_| refine idxSb (by assumption) ?_| refine strB strOf1 ?_| refine callE_ev hx ?_| refine strC (by simp) ?_| (refine condD ?_ ?_ <;> intro hq_ <;> first | (exfalso; omega) | skip)| (refine idxS (by omega) ?_; intro b_ hb_; have hl_ := b_.toNat_lt)| refine wrA (by omega) ?_| refine wrS (by omega) (by omega) ?_| refine wrI (by omega) (by omega) ?_| refine wrBA (by omega) ?_| refine wrB (by omega) (by omega) ?_| refine strC (by omega) ?_| refine nilB rfl ?_))
 all_goals first
  | (rw [if_pos (by simp only [Bool.or_eq_true, Bool.and_eq_true, beq_iff_eq, decide_eq_true_eq]; omega)]; exact ⟨rfl, rfl⟩)
  | (rw [if_neg (by simp only [Bool.or_eq_true, Bool.and_eq_true, beq_iff_eq, decide_eq_true_eq]; omega)]; exact ⟨rfl, rfl⟩)
end
theorem eqSame {n : Nat} {k : Bool → Prop} (hn : n < 2 ^ 256) (h : k true) : EqcE clsK (clsC n) (clsC n) k := eqcB ((clsEq_cells n n).trans (congrArg some ((clsEq_iff hn hn).2 rfl))) h
theorem idx0 {r : Re} {l : List Re} {c : List D → Prop} (h' : c (reD r)) : IdxL 7 ((r :: l).map reD) (0 : Nat) c := idxReC (t := r :: l) rfl h'
theorem idx1 {q r : Re} {l : List Re} {c : List D → Prop} (h' : c (reD r)) : IdxL 7 ((q :: r :: l).map reD) (1 : Nat) c := idxReC (t := q :: r :: l) rfl h'
theorem idx2 {p q r : Re} {l : List Re} {c : List D → Prop} (h' : c (reD r)) : IdxL 7 ((p :: q :: r :: l).map reD) (2 : Nat) c := idxReC (t := p :: q :: r :: l) rfl h'
theorem RegexSigns_ev (c : Nat) (hc : c < 256) : Ev T1 f_law05_RegexSigns [u8 c] [] (.ret (bl true)) [] := by
 have r1 := rRd_ev (T := T1) (plainS c) (by have := plainS_length c; omega)
 have r2 := rRd_ev (T := T1) (plainS c ++ [42]) (by have := plainS_length c; simp; omega)
 have r3 := rRd_ev (T := T1) (plainS c ++ [43, 63]) (by have := plainS_length c; simp; omega)
 rw [sign_one c hc] at r1
 rw [sign_star c hc] at r2
 rw [sign_two c hc] at r3
 have rT := Text_ev (.set (spanN c 1)) (spanN_lt c 1 (by omega)) (by simp [Tr.size])
 rw [show textT (.set (spanN c 1)) = plainS c from sign_text c hc] at rT
 have hl := plainS_length c
 have hp := rPlain_ev (T := T1) c hc
 have hO := rOne_ev (T := T1) c hc
 have hn : spanN c 1 < 2 ^ 256 := spanN_lt c 1 (by omega)
 generalize plainS c = s at *
 generalize spanN c 1 = n at *
 refine ev_fn rfl rfl ?_
 (repeat' (first| (intro (u_ : Unit); clear u_)| refine condT ?_| refine condF ?_| refine condp (by assumption) ?_| refine condn (by assumption) ?_| refine condN ?_| refine idxSb (by assumption) ?_| refine callE_ev shown_ev ?_| refine callE_ev (hp _) ?_| refine callE_ev (r1 _) ?_| refine callE_ev (r2 _) ?_| refine callE_ev (r3 _) ?_| refine callE_ev (rT _) ?_| refine callE_ev (hO _) ?_| refine eqSame hn ?_| refine idx0 ?_| refine idx1 ?_| refine idx2 ?_| refine strC (by simp only [List.length_cons, List.length_nil, List.length_append]; omega) ?_| (refine condD ?_ ?_ <;> intro hq_ <;> first | (exfalso; omega) | skip)| (refine idxS (by omega) ?_; intro b_ hb_; have hl_ := b_.toNat_lt)| refine wrA (by omega) ?_| refine wrS (by omega) (by omega) ?_| refine wrI (by omega) (by omega) ?_| refine wrBA (by omega) ?_| refine wrB (by omega) (by omega) ?_| refine strC (by omega) ?_| refine nilB rfl ?_))
 all_goals first
  | exact absurd rfl hq_
  | exact ⟨rfl, rfl⟩
end Go.Ab.R05
namespace Go.Ab.R05
set_option maxRecDepth 100000
set_option linter.all false
set_option maxHeartbeats 4000000
theorem pop0 : ∀ (k n : Nat), n < 2 ^ k → pop k n = 0 → n = 0
 | 0, n, h, _ => by simpa using h
 | k + 1, n, h, hp => by
   simp only [pop] at hp
   have := pop0 k (n / 2) (by rw [Nat.pow_succ] at h; omega) (by omega)
   omega
theorem pop1 : ∀ (k n : Nat), n < 2 ^ k → pop k n = 1 → ∃ c, c < k ∧ n = 2 ^ c
 | 0, n, _, h => by simp [pop] at h
 | k + 1, n, h, hp => by
   simp only [pop] at hp
   have hk : n / 2 < 2 ^ k := by rw [Nat.pow_succ] at h; omega
   by_cases hm : n % 2 = 1
   ·have := pop0 k (n / 2) hk (by omega)
    exact ⟨0, by omega, by simp; omega⟩
   ·obtain ⟨c, hc, e⟩ := pop1 k (n / 2) hk (by omega)
    exact ⟨c + 1, by omega, by rw [Nat.pow_succ]; omega⟩
theorem spanN1 (c : Nat) : spanN c 1 = 2 ^ c := by simp [spanN]
def headP (x : UInt8) : Bool := x.toNat != 40 && x.toNat != 46 && x.toNat != 94 && x.toNat != 36 && x.toNat != 91 && !(badP.contains x)
theorem plainS_headP : ∀ c, c < 256 → ∃ x r, plainS c = x :: r ∧ headP x = true := fun c hc => by
 rcases plainS_len c with ⟨hw, h⟩ | h
 ·refine ⟨_, _, h, ?_⟩
  have : ∀ c : Nat, c < 256 → isWordB c = true → headP (UInt8.ofNat c) = true := by decide +kernel
  exact this c hc hw
 ·exact ⟨_, _, h, by decide⟩
theorem dot_lt : dotN < 2 ^ 256 := by decide +kernel
theorem none_eq : notN (uni 0 [(0, 255)] ||| spanN 10 1) = 0 := by decide +kernel
section
variable {S q : List UInt8} {G : Nat → Nat → List Re → R} {i d n : Nat} {t : List Re}
theorem get0 {x : UInt8} {r : List UInt8} (h : S.drop i = x :: r) : S[i]? = some x := by
 have h1 : (S.drop i)[0]? = some x := by rw [h]; rfl
 rwa [List.getElem?_drop, Nat.add_zero] at h1
theorem readS_none {W : List UInt8} (h : W = [91, 94, 92, 120, 48, 48, 45, 92, 120, 102, 102, 93] ++ q) : readS W = some (0, 12) := by
 have hd : W.drop 2 = itT (0, 255) ++ (([] : List (Nat × Nat)).flatMap itT ++ 93 :: q) := by rw [h]; rfl
 have hI := itms_text (S := W) (q := q) [] (0, 255) 2 W.length 0 (by intro x hx; simp only [List.mem_singleton] at hx; subst hx; decide) hd (by rw [h]; simp)
 unfold readS
 rw [hit_drop (S := W) (i := 0) (x := 91) (by rw [h]; rfl), if_pos (by decide), hit_drop (S := W) (i := 1) (x := 94) (by rw [h]; rfl), if_pos (by decide), hI]
 simp only
 rw [if_pos (by decide), none_eq]
 rfl
theorem atom_set (hn : n < 2 ^ 256) (h : S.drop i = setTextS n ++ q) : atomM S G i d t = putM ⟨1, n, 0, 0⟩ (i + (setTextS n).length) d t := by
 unfold setTextS at h ⊢
 by_cases h1 : clsEq n dotN = true
 ·rw [if_pos h1] at h ⊢
  have := (clsEq_iff hn dot_lt).1 h1
  subst this
  unfold atomM
  rw [get0 h]
  simp only
  rw [if_neg (by decide), if_pos (by decide)]
  rfl
 rw [if_neg h1] at h ⊢
 by_cases h2 : pop 256 n = 0
 ·rw [if_pos h2] at h ⊢
  have := pop0 256 n hn h2
  subst this
  have hR := readS_none h
  unfold atomM
  rw [get0 h]
  simp only
  rw [if_neg (by decide), if_neg (by decide), if_neg (by decide), if_neg (by decide), if_pos (by decide), hR]
  rfl
 rw [if_neg h2] at h ⊢
 by_cases h3 : pop 256 n = 1
 ·obtain ⟨c, hc, e⟩ := pop1 256 n hn h3
  rw [if_neg (by simpa using h3)] at h ⊢
  have hst := sign_text c hc
  have e2 : n = spanN c 1 := by rw [spanN1]; exact e
  unfold setTextS at hst
  rw [← e2, if_neg h1, if_neg h2, if_neg (by simpa using h3)] at hst
  rw [hst] at h ⊢
  obtain ⟨x, r, hx, hh⟩ := plainS_headP c hc
  have hsg := sign_plain c hc q
  have hg : S[i]? = some x := get0 (r := r ++ q) (by rw [h, hx]; rfl)
  simp only [headP, Bool.and_eq_true, bne_iff_ne, ne_eq, Bool.not_eq_true', List.contains_eq_mem, decide_eq_false_iff_not] at hh
  obtain ⟨⟨⟨⟨⟨a1, a2⟩, a3⟩, a4⟩, a5⟩, a6⟩ := hh
  unfold atomM
  rw [hg]
  simp only
  rw [if_neg a1, if_neg a2, if_neg a3, if_neg a4, if_neg a5, if_neg a6, h, hsg]
  simp only
  rw [← e2]
 ·rw [if_pos (by simpa using h3)] at h ⊢
  have h0 : n ≠ 0 := fun e => h2 (by rw [e]; decide +kernel)
  have hR := readS_text hn h0 h
  have hg : S[i]? = some 91 := get0 (r := (Tx.runs n 257 0).flatMap pieceS ++ [93] ++ q) (by rw [h]; simp [textS, tells])
  unfold atomM
  rw [hg]
  simp only
  rw [if_neg (by decide), if_neg (by decide), if_neg (by decide), if_neg (by decide), if_pos (by decide), hR]
end
end Go.Ab.R05
namespace Go.Ab.R05
set_option maxRecDepth 100000
set_option linter.all false
set_option maxHeartbeats 4000000
def grp (S : List UInt8) (n : Nat) : Nat → Nat → List Re → R := grpM S (allM S n)
def tl (a : Tr) : Nat := (textT a).length
def headT (x : UInt8) : Bool := x.toNat != 124 && x.toNat != 41 && x.toNat != 42 && x.toNat != 43 && x.toNat != 63
theorem plainS_headT : ∀ c, c < 256 → ∃ x r, plainS c = x :: r ∧ headT x = true := fun c hc => by
 rcases plainS_len c with ⟨hw, h⟩ | h
 ·refine ⟨_, _, h, ?_⟩
  have : ∀ c : Nat, c < 256 → isWordB c = true → headT (UInt8.ofNat c) = true := by decide +kernel
  exact this c hc hw
 ·exact ⟨_, _, h, by decide⟩
theorem set_headT {n : Nat} (hn : n < 2 ^ 256) : ∃ x r, setTextS n = x :: r ∧ headT x = true := by
 unfold setTextS
 by_cases h1 : clsEq n dotN = true
 ·rw [if_pos h1]; exact ⟨46, [], rfl, by decide⟩
 rw [if_neg h1]
 by_cases h2 : pop 256 n = 0
 ·rw [if_pos h2]; exact ⟨91, _, rfl, by decide⟩
 rw [if_neg h2]
 by_cases h3 : pop 256 n = 1
 ·obtain ⟨c, hc, e⟩ := pop1 256 n hn h3
  have hst := sign_text c hc
  have e2 : n = spanN c 1 := by rw [spanN1]; exact e
  unfold setTextS at hst
  rw [← e2, if_neg h1, if_neg h2, if_neg (by simpa using h3)] at hst
  rw [if_neg (by simpa using h3), hst]
  exact plainS_headT c hc
 ·rw [if_pos (by simpa using h3)]
  exact ⟨91, (Tx.runs n 257 0).flatMap pieceS ++ [93], by simp [textS, tells], by decide⟩
theorem par_head {b : Bool} {s : List UInt8} (h : ∃ x r, s = x :: r ∧ headT x = true) : ∃ x r, par b s = x :: r ∧ headT x = true := by
 unfold par
 cases b
 ·exact h
 ·exact ⟨40, s ++ [41], by simp, by decide⟩
theorem app_head {s u : List UInt8} (h : ∃ x r, s = x :: r ∧ headT x = true) : ∃ x r, s ++ u = x :: r ∧ headT x = true := by
 obtain ⟨x, r, rfl, h⟩ := h; exact ⟨x, r ++ u, rfl, h⟩
theorem text_head : ∀ a : Tr, a.ok → ∃ x r, textT a = x :: r ∧ headT x = true
 | .none, _ => ⟨40, [41], rfl, by decide⟩
 | .set n, h => set_headT h
 | .beg, _ => ⟨94, [], rfl, by decide⟩
 | .fin, _ => ⟨36, [], rfl, by decide⟩
 | .post k a, h => app_head (par_head (text_head a h.2))
 | .cat a b, h => app_head (par_head (text_head a h.1))
 | .alt a b, h => by simp only [textT, List.append_assoc]; exact app_head (text_head a h.1)
section
variable {S q : List UInt8} {i : Nat}
theorem hit_head {s : List UInt8} (hh : ∃ x r, s = x :: r ∧ headT x = true) (h : S.drop i = s ++ q) : hit S i 124 = false ∧ hit S i 41 = false ∧ hit S i 42 = false ∧ hit S i 43 = false ∧ hit S i 63 = false ∧ i < S.length := by
 obtain ⟨x, r, rfl, hx⟩ := hh
 rw [List.cons_append] at h
 have hg := get0 h
 simp only [headT, Bool.and_eq_true, bne_iff_ne, ne_eq] at hx
 obtain ⟨⟨⟨⟨a1, a2⟩, a3⟩, a4⟩, a5⟩ := hx
 simp only [hit_some hg]
 exact ⟨decide_eq_false a1, decide_eq_false a2, decide_eq_false a3, decide_eq_false a4, decide_eq_false a5, (List.getElem?_eq_some_iff.1 hg).1⟩
theorem nostop {s : List UInt8} (hh : ∃ x r, s = x :: r ∧ headT x = true) (h : S.drop i = s ++ q) : stop S i = false := by
 obtain ⟨h1, h2, _, _, _, h6⟩ := hit_head hh h
 unfold stop
 rw [h1, h2, decide_eq_false (by omega)]; rfl
end
def NP (S : List UInt8) (i : Nat) : Prop := hit S i 42 = false ∧ hit S i 43 = false ∧ hit S i 63 = false
theorem np_head {S q s : List UInt8} {i : Nat} (hh : ∃ x r, s = x :: r ∧ headT x = true) (h : S.drop i = s ++ q) : NP S i := by
 obtain ⟨_, _, h3, h4, h5, _⟩ := hit_head hh h
 exact ⟨h3, h4, h5⟩
theorem np_stop {S : List UInt8} {i : Nat} (h : stop S i = true) : NP S i := by
 unfold stop at h
 simp only [Bool.or_eq_true, decide_eq_true_eq] at h
 rcases h with (h | h) | h
 ·exact ⟨hit_none h, hit_none h, hit_none h⟩
 ·unfold hit at h
  cases hg : S[i]? with
  | none => rw [hg] at h; cases h
  | some c => rw [hg] at h; have := of_decide_eq_true h; simp only [NP, hit_some hg, this]; decide
 ·unfold hit at h
  cases hg : S[i]? with
  | none => rw [hg] at h; cases h
  | some c => rw [hg] at h; have := of_decide_eq_true h; simp only [NP, hit_some hg, this]; decide
theorem postL_np {S : List UInt8} {f a i d : Nat} {t : List Re} (h : NP S i) : postL S f a i d t = .ok a i d t := by
 cases f with
 | zero => rfl
 | succ f =>
   unfold postL
   rw [if_neg (by rw [h.1]; decide), if_neg (by rw [h.2.1]; decide), if_neg (by rw [h.2.2]; decide)]
theorem catL_stop' {S : List UInt8} {G : Nat → Nat → List Re → R} {f a i d : Nat} {t : List Re} (h : stop S i = true) : catL S G f a i d t = .ok a i d t := by
 cases f with
 | zero => rfl
 | succ f => unfold catL; rw [if_pos h]
theorem altL_no {S : List UInt8} {G : Nat → Nat → List Re → R} {f a i d : Nat} {t : List Re} (h : hit S i 124 = false) : altL S G f a i d t = .ok a i d t := by
 cases f with
 | zero => rfl
 | succ f => unfold altL; rw [if_neg (by rw [h]; decide)]
theorem putM_lt {r : Re} {i d : Nat} {t : List Re} (h : t.length < 2000) : putM r i d t = .ok t.length i d (t ++ [r]) := by
 unfold putM; rw [if_neg (by omega)]
def PS (n : Nat) (a : Tr) : Prop := ∀ S i d t q, S.drop i = textT a ++ q → t.length + a.size ≤ 2000 → ∃ F, S.length < i + tl a + F ∧ (pieceM S (grp S n) i d t = .err 7 ∨ pieceM S (grp S n) i d t = postL S F (t.length + a.size - 1) (i + tl a) d (t ++ flat t.length a))
def CS (n : Nat) (a : Tr) : Prop := ∀ S i d t q, S.drop i = textT a ++ q → t.length + a.size ≤ 2000 → NP S (i + tl a) → ∃ F, S.length < i + tl a + F ∧ (catM S (grp S n) i d t = .err 7 ∨ catM S (grp S n) i d t = catL S (grp S n) F (t.length + a.size - 1) (i + tl a) d (t ++ flat t.length a))
def AS (n : Nat) (a : Tr) : Prop := ∀ S i d t q, S.drop i = textT a ++ q → t.length + a.size ≤ 2000 → stop S (i + tl a) = true → ∃ F, S.length < i + tl a + F ∧ (allB S (grp S n) i d t = .err 7 ∨ allB S (grp S n) i d t = altL S (grp S n) F (t.length + a.size - 1) (i + tl a) d (t ++ flat t.length a))
def BS (n : Nat) (a : Tr) : Prop := ∀ S i d t q, S.drop i = [40] ++ textT a ++ [41] ++ q → t.length + a.size ≤ 2000 → pieceM S (grp S n) i d t = .err 7 ∨ pieceM S (grp S n) i d t = postL S (S.length + 1) (t.length + a.size - 1) (i + tl a + 2) d (t ++ flat t.length a)
theorem bs_of (n : Nat) (a : Tr) (h : ∀ m, AS m a) : BS n a := by
 intro S i d t q hd ht
 have hg : S[i]? = some 40 := get0 (r := textT a ++ [41] ++ q) (by rw [hd]; simp)
 have hd1 : S.drop (i + 1) = textT a ++ (41 :: q) := by rw [← List.drop_drop, hd]; simp
 have hd2 := dropApp hd1
 have h41 : hit S (i + 1 + tl a) 41 = true := by rw [tl, hit_drop hd2]; decide
 have h124 : hit S (i + 1 + tl a) 124 = false := by rw [tl, hit_drop hd2]; decide
 have hst : stop S (i + 1 + tl a) = true := by unfold stop; rw [h41]; simp
 have hat : atomM S (grp S n) i d t = grp S n i d t := by
  unfold atomM; rw [hg]; simp only; rw [if_pos (by decide)]
 unfold pieceM
 rw [hat]
 unfold grp grpM
 by_cases h30 : 30 ≤ d
 ·rw [if_pos h30]; exact .inl rfl
 rw [if_neg h30]
 cases n with
 | zero => exact .inl rfl
 | succ m =>
   obtain ⟨F, _, h | h⟩ := h m S (i + 1) (d + 1) t (41 :: q) hd1 ht hst
   ·left
    show ((allB S (grp S m) (i + 1) (d + 1) t).bind _).bind _ = _
    rw [h]; rfl
   ·right
    show ((allB S (grp S m) (i + 1) (d + 1) t).bind _).bind _ = _
    rw [h, altL_no h124]
    simp only [R.bind]
    rw [if_pos h41]
    simp only [R.bind, Nat.add_sub_cancel]
    rw [show i + 1 + tl a + 1 = i + tl a + 2 by omega]
theorem flat_len' (o : Nat) (a : Tr) (t : List Re) : (t ++ flat o a).length = t.length + a.size := by rw [List.length_append, flat_length]
theorem postL_succ {S : List UInt8} {f a i d : Nat} {t : List Re} : postL S (f + 1) a i d t = if hit S i 42 then (putM ⟨4, 0, a, 0⟩ (i + 1) d t).bind (postL S f)
  else if hit S i 43 then (putM ⟨5, 0, a, 0⟩ (i + 1) d t).bind (postL S f)
  else if hit S i 63 then (putM ⟨6, 0, a, 0⟩ (i + 1) d t).bind (postL S f)
  else .ok a i d t := rfl
theorem catL_succ {S : List UInt8} {G : Nat → Nat → List Re → R} {f a i d : Nat} {t : List Re} : catL S G (f + 1) a i d t = if stop S i then .ok a i d t else (pieceM S G i d t).bind fun b i d t => (putM ⟨2, 0, a, b⟩ i d t).bind (catL S G f) := rfl
theorem altL_succ {S : List UInt8} {G : Nat → Nat → List Re → R} {f a i d : Nat} {t : List Re} : altL S G (f + 1) a i d t = if hit S i 124 then (catM S G (i + 1) d t).bind fun b i d t => (putM ⟨3, 0, a, b⟩ i d t).bind (altL S G f) else .ok a i d t := rfl
theorem post_step {S : List UInt8} {k F b i d : Nat} {t : List Re} {q : List UInt8} (hk : k ≤ 2) (h : S.drop i = postC k :: q) (hF : S.length < i + F) (ht : t.length < 2000) :
  ∃ F', S.length < i + 1 + F' ∧ postL S F b i d t = postL S F' t.length (i + 1) d (t ++ [⟨4 + k, 0, b, 0⟩]) := by
 have hlt : i < S.length := (List.getElem?_eq_some_iff.1 (get0 h)).1
 cases F with
 | zero => omega
 | succ F =>
   refine ⟨F, by omega, ?_⟩
   rw [postL_succ]
   simp only [hit_drop h, putM_lt ht]
   obtain rfl | rfl | rfl : k = 0 ∨ k = 1 ∨ k = 2 := by omega
   ·rw [if_pos (by decide)]; rfl
   ·rw [if_neg (by decide), if_pos (by decide)]; rfl
   ·rw [if_neg (by decide), if_neg (by decide), if_pos (by decide)]; rfl
theorem par_t (s : List UInt8) : par true s = [40] ++ s ++ [41] := rfl
theorem par_f (s : List UInt8) : par false s = s := rfl
theorem ps_of (n : Nat) : ∀ (a : Tr), a.ok → kindT a ≠ 2 → kindT a ≠ 3 → (∀ b : Tr, b.size < a.size → b.ok → BS n b ∧ (kindT b ≠ 2 → kindT b ≠ 3 → PS n b)) → PS n a
 | .none, _, _, _, _ => fun S i d t q hd ht => by
   simp only [textT] at hd
   have hg := get0 (x := 40) (r := 41 :: q) hd
   have hd1 : S.drop (i + 1) = 41 :: q := by rw [← List.drop_drop, hd]; rfl
   have h41 : hit S (i + 1) 41 = true := by rw [hit_drop hd1]; decide
   have h124 : hit S (i + 1) 124 = false := by rw [hit_drop hd1]; decide
   have hst : stop S (i + 1) = true := by unfold stop; rw [h41]; simp
   have hat : atomM S (grp S n) i d t = grp S n i d t := by
    unfold atomM; rw [hg]; simp only; rw [if_pos (by decide)]
   refine ⟨S.length + 1, by omega, ?_⟩
   unfold pieceM
   rw [hat]
   unfold grp grpM
   by_cases h30 : 30 ≤ d
   ·rw [if_pos h30]; exact .inl rfl
   rw [if_neg h30]
   cases n with
   | zero => exact .inl rfl
   | succ m =>
     right
     show ((allB S (grp S m) (i + 1) (d + 1) t).bind _).bind _ = _
     simp only [Tr.size] at ht ⊢
     unfold allB catM
     rw [if_pos hst, putM_lt (by omega)]
     simp only [R.bind, altL_no h124]
     rw [if_pos h41]
     rfl
 | .set n0, hok, _, _, _ => fun S i d t q hd ht => by
   simp only [Tr.size] at ht ⊢
   refine ⟨S.length + 1, by omega, .inr ?_⟩
   unfold pieceM
   rw [atom_set hok hd, putM_lt (by omega)]
   rfl
 | .beg, _, _, _, _ => fun S i d t q hd ht => by
   simp only [textT] at hd
   simp only [Tr.size] at ht ⊢
   refine ⟨S.length + 1, by omega, .inr ?_⟩
   unfold pieceM atomM
   rw [get0 (x := 94) (r := q) hd]
   simp only
   rw [if_neg (by decide), if_neg (by decide), if_pos (by decide), putM_lt (by omega)]
   rfl
 | .fin, _, _, _, _ => fun S i d t q hd ht => by
   simp only [textT] at hd
   simp only [Tr.size] at ht ⊢
   refine ⟨S.length + 1, by omega, .inr ?_⟩
   unfold pieceM atomM
   rw [get0 (x := 36) (r := q) hd]
   simp only
   rw [if_neg (by decide), if_neg (by decide), if_neg (by decide), if_pos (by decide), putM_lt (by omega)]
   rfl
 | .post k b, hok, _, _, ih => fun S i d t q hd ht => by
   obtain ⟨hB, hP⟩ := ih b (by simp [Tr.size]) hok.2
   have hbp := b.size_pos
   simp only [Tr.size] at ht ⊢
   have fin : ∀ F j, S.length < j + F → S.drop j = postC k :: q → i + tl (.post k b) = j + 1 → ∃ F', S.length < i + tl (.post k b) + F' ∧ postL S F (t.length + b.size - 1) j d (t ++ flat t.length b) = postL S F' (t.length + (b.size + 1) - 1) (i + tl (.post k b)) d (t ++ flat t.length (.post k b)) := fun F j h1 h2 h3 => by
    obtain ⟨F', h4, h5⟩ := post_step (b := t.length + b.size - 1) (d := d) (t := t ++ flat t.length b) hok.1 h2 h1 (by rw [flat_len']; omega)
    refine ⟨F', by omega, ?_⟩
    rw [h5, h3, flat_len', flat, List.append_assoc]
    rfl
   cases hb : decide (kindT b ∈ [(3 : Int), 2])
   ·have hk := of_decide_eq_false hb
    simp only [List.mem_cons, List.not_mem_nil, or_false, not_or] at hk
    simp only [textT, hb, par_f, List.append_assoc, List.singleton_append] at hd
    have htl : tl (.post k b) = tl b + 1 := by simp only [tl, textT, hb, par_f, List.length_append, List.length_cons, List.length_nil]
    obtain ⟨F, h1, h2 | h2⟩ := hP hk.2 hk.1 S i d t _ hd (by omega)
    ·exact ⟨S.length + 1, by omega, .inl h2⟩
    ·obtain ⟨F', h3, h4⟩ := fin F (i + tl b) h1 (dropApp hd) (by omega)
     exact ⟨F', h3, .inr (h2.trans h4)⟩
   ·simp only [textT, hb, par_t, List.append_assoc] at hd
    have htl : tl (.post k b) = tl b + 3 := by simp only [tl, textT, hb, par_t, List.length_append, List.length_cons, List.length_nil]; omega
    have hd' : S.drop i = [40] ++ textT b ++ [41] ++ (postC k :: q) := by rw [hd]; simp
    have hde : S.drop (i + tl b + 2) = postC k :: q := by
     have := dropApp (a := [40] ++ textT b ++ [41]) hd'
     rw [show i + tl b + 2 = i + ([40] ++ textT b ++ [41]).length by simp [tl]; omega]; exact this
    rcases hB S i d t _ hd' (by omega) with h2 | h2
    ·exact ⟨S.length + 1, by omega, .inl h2⟩
    ·obtain ⟨F', h3, h4⟩ := fin (S.length + 1) (i + tl b + 2) (by omega) hde (by omega)
     exact ⟨F', h3, .inr (h2.trans h4)⟩
 | .cat _ _, _, h, _, _ => absurd rfl h
 | .alt _ _, _, _, h, _ => absurd rfl h
end Go.Ab.R05
namespace Go.Ab.R05
set_option maxRecDepth 100000
set_option linter.all false
set_option maxHeartbeats 4000000
theorem kid_of {n : Nat} {b : Tr} (hB : BS n b) (l : List Int) (hP : kindT b ∉ l → PS n b) {S q : List UInt8} {i d : Nat} {t : List Re} (hd : S.drop i = par (decide (kindT b ∈ l)) (textT b) ++ q) (ht : t.length + b.size ≤ 2000) :
  ∃ F, S.length < i + (par (decide (kindT b ∈ l)) (textT b)).length + F ∧ (pieceM S (grp S n) i d t = .err 7 ∨ pieceM S (grp S n) i d t = postL S F (t.length + b.size - 1) (i + (par (decide (kindT b ∈ l)) (textT b)).length) d (t ++ flat t.length b)) := by
 cases hb : decide (kindT b ∈ l)
 ·rw [hb, par_f] at hd
  rw [par_f]
  exact hP (of_decide_eq_false hb) S i d t q hd ht
 ·rw [hb, par_t] at hd
  rw [par_t]
  have hl : ([40] ++ textT b ++ [41]).length = tl b + 2 := by simp [tl]
  rw [hl]
  refine ⟨S.length + 1, by omega, ?_⟩
  have := hB S i d t q hd ht
  rwa [show i + (tl b + 2) = i + tl b + 2 by omega]
theorem cs_of (n : Nat) (a : Tr) (hok : a.ok) (h3 : kindT a ≠ 3) (hP : kindT a ≠ 2 → PS n a) (ih : ∀ b : Tr, b.size < a.size → b.ok → BS n b ∧ (kindT b ≠ 2 → kindT b ≠ 3 → PS n b) ∧ (kindT b ≠ 3 → CS n b)) : CS n a := by
 by_cases h2 : kindT a = 2
 ·cases a with
  | cat x y =>
    intro S i d t q hd ht hnp
    have hxp := x.size_pos
    have hyp := y.size_pos
    obtain ⟨hBx, hPx, hCx⟩ := ih x (by simp [Tr.size]; omega) hok.1
    obtain ⟨hBy, hPy, _⟩ := ih y (by simp [Tr.size]; omega) hok.2
    simp only [Tr.size] at ht ⊢
    simp only [textT, List.append_assoc] at hd
    have hhy := par_head (b := decide (kindT y ∈ [(3 : Int), 2])) (text_head y hok.2)
    have hhx := par_head (b := decide (kindT x ∈ [(3 : Int)])) (text_head x hok.1)
    have hdy := dropApp hd
    have htl : tl (.cat x y) = (par (decide (kindT x ∈ [(3 : Int)])) (textT x)).length + (par (decide (kindT y ∈ [(3 : Int), 2])) (textT y)).length := by simp only [tl, textT, List.length_append]
    rw [htl] at hnp ⊢
    have hly1 : 1 ≤ (par (decide (kindT y ∈ [(3 : Int), 2])) (textT y)).length := by obtain ⟨_, _, e, _⟩ := hhy; rw [e]; simp
    generalize hlx : (par (decide (kindT x ∈ [(3 : Int)])) (textT x)).length = lx at *
    have hnpy := np_head hhy hdy
    have hnsy := nostop hhy hdy
    have hly := (hit_head hhy hdy).2.2.2.2.2
    have first : ∃ F, S.length < i + lx + F ∧ (catM S (grp S n) i d t = .err 7 ∨ catM S (grp S n) i d t = catL S (grp S n) F (t.length + x.size - 1) (i + lx) d (t ++ flat t.length x)) := by
     by_cases hx3 : kindT x = 3
     ·obtain ⟨F, hF, h | h⟩ := kid_of hBx [(3 : Int)] (fun h => absurd (by simp [hx3]) h) hd (t := t) (by omega) (d := d)
      ·refine ⟨S.length + 1, by omega, .inl ?_⟩
       unfold catM; rw [if_neg (by rw [nostop hhx hd]; decide), h]; rfl
      ·refine ⟨S.length + 1, by omega, .inr ?_⟩
       rw [hlx, postL_np hnpy] at h
       unfold catM; rw [if_neg (by rw [nostop hhx hd]; decide), h]; rfl
     ·have hpf : par (decide (kindT x ∈ [(3 : Int)])) (textT x) = textT x := by rw [decide_eq_false (by simpa using hx3), par_f]
      have hlx' : tl x = lx := by rw [← hlx, hpf]; rfl
      rw [hpf] at hd
      have := hCx hx3 S i d t _ hd (by omega) (by rw [hlx']; exact hnpy)
      rwa [hlx'] at this
    obtain ⟨F, hF, h | h⟩ := first
    ·exact ⟨S.length + 1, by omega, .inl h⟩
    ·cases F with
     | zero => omega
     | succ F =>
       have hP2 : kindT y ∉ [(3 : Int), 2] → PS n y := fun hk => by
        simp only [List.mem_cons, List.not_mem_nil, or_false, not_or] at hk
        exact hPy hk.2 hk.1
       obtain ⟨F2, _, hp | hp⟩ := kid_of hBy [(3 : Int), 2] hP2 hdy (t := t ++ flat t.length x) (d := d) (by rw [flat_len']; omega)
       ·refine ⟨S.length + 1, by omega, .inl ?_⟩
        rw [h, catL_succ, if_neg (by rw [hnsy]; decide), hp]; rfl
       ·rw [postL_np (by rw [Nat.add_assoc]; exact hnp)] at hp
        refine ⟨F, by omega, .inr ?_⟩
        rw [h, catL_succ, if_neg (by rw [hnsy]; decide), hp]
        simp only [R.bind]
        rw [putM_lt (by rw [flat_len', flat_len']; omega)]
        simp only [R.bind, flat_len', flat]
        rw [show t.length + (x.size + y.size + 1) - 1 = t.length + x.size + y.size by omega]
        simp only [List.append_assoc, Nat.add_assoc]
  | post k b => exfalso; simp only [kindT] at h2; omega
  | alt x y => exact absurd rfl h3
  | none => exact absurd h2 (by decide)
  | set m => exact absurd (show (1 : Int) = 2 from h2) (by decide)
  | beg => exact absurd h2 (by decide)
  | fin => exact absurd h2 (by decide)
 ·intro S i d t q hd ht hnp
  obtain ⟨F, hF, h | h⟩ := hP h2 S i d t q hd ht
  ·refine ⟨S.length + 1, by omega, .inl ?_⟩
   unfold catM; rw [if_neg (by rw [nostop (text_head a hok) hd]; decide), h]; rfl
  ·refine ⟨S.length + 1, by omega, .inr ?_⟩
   rw [postL_np hnp] at h
   unfold catM; rw [if_neg (by rw [nostop (text_head a hok) hd]; decide), h]; rfl
theorem as_of (n : Nat) (a : Tr) (hok : a.ok) (hC : kindT a ≠ 3 → CS n a) (ih : ∀ b : Tr, b.size < a.size → b.ok → BS n b ∧ (kindT b ≠ 3 → CS n b) ∧ AS n b) : AS n a := by
 by_cases h3 : kindT a = 3
 ·cases a with
  | alt x y =>
    intro S i d t q hd ht hst
    have hxp := x.size_pos
    have hyp := y.size_pos
    obtain ⟨_, _, hAx⟩ := ih x (by simp [Tr.size]; omega) hok.1
    obtain ⟨hBy, hCy, _⟩ := ih y (by simp [Tr.size]; omega) hok.2
    simp only [Tr.size] at ht ⊢
    simp only [textT, List.append_assoc] at hd
    have hhy := par_head (b := decide (kindT y ∈ [(3 : Int)])) (text_head y hok.2)
    have hd1 := dropApp hd
    have hd2 : S.drop (i + tl x + 1) = par (decide (kindT y ∈ [(3 : Int)])) (textT y) ++ q := by rw [← List.drop_drop]; show List.drop 1 (List.drop (i + (textT x).length) S) = _; rw [hd1]; rfl
    have h124 : hit S (i + tl x) 124 = true := by rw [tl, hit_drop hd1]; decide
    have hsx : stop S (i + tl x) = true := by unfold stop; rw [h124]; simp
    have htl : tl (.alt x y) = tl x + 1 + (par (decide (kindT y ∈ [(3 : Int)])) (textT y)).length := by simp only [tl, textT, List.length_append, List.length_cons, List.length_nil]
    have hly1 : 1 ≤ (par (decide (kindT y ∈ [(3 : Int)])) (textT y)).length := by obtain ⟨_, _, e, _⟩ := hhy; rw [e]; simp
    have hlt := (hit_head hhy hd2).2.2.2.2.2
    rw [htl] at hst ⊢
    obtain ⟨F, hF, h | h⟩ := hAx S i d t _ hd (by omega) hsx
    ·exact ⟨S.length + 1, by omega, .inl h⟩
    ·cases F with
     | zero => have : (textT x).length = tl x := rfl; omega
     | succ F =>
       have hnp := np_stop hst
       have second : catM S (grp S n) (i + tl x + 1) d (t ++ flat t.length x) = .err 7 ∨ catM S (grp S n) (i + tl x + 1) d (t ++ flat t.length x) = .ok (t.length + x.size + y.size - 1) (i + (tl x + 1 + (par (decide (kindT y ∈ [(3 : Int)])) (textT y)).length)) d (t ++ flat t.length x ++ flat (t.length + x.size) y) := by
        generalize hly : (par (decide (kindT y ∈ [(3 : Int)])) (textT y)).length = ly at *
        by_cases hy3 : kindT y = 3
        ·obtain ⟨F2, _, hp | hp⟩ := kid_of hBy [(3 : Int)] (fun h => absurd (by simp [hy3]) h) hd2 (t := t ++ flat t.length x) (by rw [flat_len']; omega) (d := d)
         ·left; unfold catM; rw [if_neg (by rw [nostop hhy hd2]; decide)]; rw [hp]; rfl
         ·right
          rw [hly, postL_np (by rw [show i + tl x + 1 + ly = i + (tl x + 1 + ly) by omega]; exact hnp)] at hp
          unfold catM; rw [if_neg (by rw [nostop hhy hd2]; decide)]; rw [hp]
          simp only [R.bind]
          rw [catL_stop' (by rw [show i + tl x + 1 + ly = i + (tl x + 1 + ly) by omega]; exact hst), flat_len']
          rw [show i + tl x + 1 + ly = i + (tl x + 1 + ly) by omega]
        ·have hpf : par (decide (kindT y ∈ [(3 : Int)])) (textT y) = textT y := by rw [decide_eq_false (by simpa using hy3), par_f]
         have hly' : tl y = ly := by rw [← hly, hpf]; rfl
         rw [hpf] at hd2
         have e : i + tl x + 1 + tl y = i + (tl x + 1 + ly) := by omega
         obtain ⟨F2, _, hp | hp⟩ := hCy hy3 S (i + tl x + 1) d (t ++ flat t.length x) q hd2 (by rw [flat_len']; omega) (by rw [e]; exact hnp)
         ·exact .inl hp
         ·right
          rw [catL_stop' (by rw [e]; exact hst), flat_len', e] at hp
          exact hp
       rcases second with hp | hp
       ·refine ⟨S.length + 1, by omega, .inl ?_⟩
        rw [h, altL_succ, if_pos h124, hp]; rfl
       ·refine ⟨F, by have : (textT x).length = tl x := rfl; omega, .inr ?_⟩
        rw [h, altL_succ, if_pos h124, hp]
        simp only [R.bind]
        rw [putM_lt (by rw [List.length_append, flat_len', flat_length]; omega)]
        simp only [R.bind, List.length_append, flat_length, flat]
        rw [show t.length + (x.size + y.size + 1) - 1 = t.length + x.size + y.size by omega]
        simp only [List.append_assoc]
  | post k b => exfalso; simp only [kindT] at h3; omega
  | cat x y => exact absurd h3 (by simp [kindT])
  | none => exact absurd h3 (by decide)
  | set m => exact absurd (show (1 : Int) = 3 from h3) (by decide)
  | beg => exact absurd h3 (by decide)
  | fin => exact absurd h3 (by decide)
 ·intro S i d t q hd ht hst
  obtain ⟨F, hF, h | h⟩ := hC h3 S i d t q hd ht (np_stop hst)
  ·refine ⟨S.length + 1, by omega, .inl ?_⟩
   unfold allB; rw [h]; rfl
  ·refine ⟨S.length + 1, by omega, .inr ?_⟩
   rw [catL_stop' hst] at h
   unfold allB; rw [h]; rfl
theorem all_of : ∀ (k : Nat) (a : Tr), a.size = k → a.ok → ∀ n, BS n a ∧ (kindT a ≠ 2 → kindT a ≠ 3 → PS n a) ∧ (kindT a ≠ 3 → CS n a) ∧ AS n a := by
 intro k
 induction k using Nat.strongRecOn with
 | _ k ih =>
   intro a ha hok
   have ih' : ∀ b : Tr, b.size < a.size → b.ok → ∀ n, BS n b ∧ (kindT b ≠ 2 → kindT b ≠ 3 → PS n b) ∧ (kindT b ≠ 3 → CS n b) ∧ AS n b := fun b hb hbo => ih b.size (by omega) b rfl hbo
   have hP : ∀ n, kindT a ≠ 2 → kindT a ≠ 3 → PS n a := fun n h2 h3 => ps_of n a hok h2 h3 fun b hb hbo => ⟨(ih' b hb hbo n).1, (ih' b hb hbo n).2.1⟩
   have hC : ∀ n, kindT a ≠ 3 → CS n a := fun n h3 => cs_of n a hok h3 (fun h2 => hP n h2 h3) fun b hb hbo => ⟨(ih' b hb hbo n).1, (ih' b hb hbo n).2.1, (ih' b hb hbo n).2.2.1⟩
   have hA : ∀ n, AS n a := fun n => as_of n a hok (hC n) fun b hb hbo => ⟨(ih' b hb hbo n).1, (ih' b hb hbo n).2.2.1, (ih' b hb hbo n).2.2.2⟩
   exact fun n => ⟨bs_of n a hA, hP n, hC n, hA n⟩
theorem parse_text {a : Tr} (hok : a.ok) (hs : a.size ≤ 2000) : parse (textT a) = .error 7 ∨ parse (textT a) = .ok (flat 0 a) := by
 have hA := (all_of a.size a rfl hok 30).2.2.2
 have hst : stop (textT a) (0 + tl a) = true := by unfold stop; rw [decide_eq_true (by simp [tl])]; rfl
 have h124 : hit (textT a) (0 + tl a) 124 = false := hit_none (by simp [tl])
 obtain ⟨F, _, h | h⟩ := hA (textT a) 0 0 [] [] (by simp) (by simpa using hs) hst
 ·left
  unfold parse
  rw [show allM (textT a) 31 0 0 [] = allB (textT a) (grp (textT a) 30) 0 0 [] from rfl, h]
 ·right
  rw [altL_no h124] at h
  unfold parse
  rw [show allM (textT a) 31 0 0 [] = allB (textT a) (grp (textT a) 30) 0 0 [] from rfl, h]
  simp only
  rw [if_neg (by simp [tl])]
  rfl
end Go.Ab.R05
namespace Go.Ab.R05
set_option maxRecDepth 100000
set_option linter.all false
set_option maxHeartbeats 4000000
theorem err_nz {s : List UInt8} (hs : s.length ≤ 2 ^ 30) {e : Nat} (h : parse s = .error e) : e ≠ 0 := by
 cases hr : allM s 31 0 0 [] with
 | err e' =>
   rw [parse_err hr] at h
   cases h
   obtain ⟨o, rf, _, hp⟩ := rallM_ev (T := T1) s hs 30 0 0 [] rfl (Nat.zero_le _) (by simp)
   rw [show 30 + 1 = 31 from rfl, hr] at hp
   obtain ⟨_, _, _, _, _, h1, _⟩ := hp
   exact h1
 | ok a i d t =>
   by_cases hi : i < s.length
   ·rw [parse_9 hr hi] at h; cases h; decide
   ·rw [parse_ok hr hi] at h; cases h
theorem rdE {s : List UInt8} {rf : Refs} {k : Out → Refs → Prop} {T : Tb} [Base T] (hs : s.length ≤ 2 ^ 30) (h0 : ∀ e, parse s = .error e → e ≠ 0 → k (.ret (.tup [lst [], i64 e])) rf) (h1 : ∀ t, parse s = .ok t → t.length ≤ 2000 → k (.ret (.tup [lst (t.map reD), i64 (0 : Nat)])) rf) : CallE T f_regex_Read [str s] rf k := by
 refine callE_ev (rRd_ev s hs rf) ?_
 cases h : parse s with
 | error e => exact h0 e h (err_nz hs h)
 | ok t => exact h1 t h (by obtain ⟨_, _, _, h3⟩ := parse_run h; exact h3)
theorem small_flat : ∀ (o : Nat) (a : Tr) (r : Re), r ∈ flat o a → 0 ≤ r.k0 ∧ r.k0 ≤ o + a.size ∧ 0 ≤ r.k1 ∧ r.k1 ≤ o + a.size
 | o, .none, r, h | o, .set _, r, h | o, .beg, r, h | o, .fin, r, h => by simp [flat] at h; subst h; simp [Tr.size]; omega
 | o, .post k a, r, h => by
   simp only [flat, List.mem_append, List.mem_singleton] at h
   rcases h with h | rfl
   ·have := small_flat o a r h; simp only [Tr.size]; omega
   ·simp only [Tr.size]; omega
 | o, .cat a b, r, h => by
   simp only [flat, List.mem_append, List.mem_singleton] at h
   rcases h with (h | h) | rfl
   ·have := small_flat o a r h; simp only [Tr.size]; omega
   ·have := small_flat _ b r h; simp only [Tr.size]; omega
   ·simp only [Tr.size]; omega
 | o, .alt a b, r, h => by
   simp only [flat, List.mem_append, List.mem_singleton] at h
   rcases h with (h | h) | rfl
   ·have := small_flat o a r h; simp only [Tr.size]; omega
   ·have := small_flat _ b r h; simp only [Tr.size]; omega
   ·simp only [Tr.size]; omega
theorem parse_tree {s : List UInt8} {t : List Re} (h : parse s = .ok t) : ∃ a : Tr, a.ok ∧ t = flat 0 a ∧ a.size ≤ 2000 := by
 obtain ⟨x, h1, h2, h3⟩ := parse_run h
 obtain ⟨a, ha, rfl, _⟩ := yld_allM _ _ _ _ _ _ _ _ h1
 refine ⟨a, ha, rfl, ?_⟩
 simpa [flat_length] using h3
theorem parse_small {s : List UInt8} {t : List Re} (h : parse s = .ok t) : Small t := by
 obtain ⟨a, _, rfl, hl⟩ := parse_tree h
 intro r hr
 have := small_flat 0 a r hr
 omega
theorem RegexWraps_ev (s : List UInt8) (h1 : s.length ≤ 2 ^ 47) (t : List UInt8) (h2 : t.length ≤ 2 ^ 47) : Ev T1 f_law05_RegexWraps [str s, str t] [] (.ret (bl true)) [] := by
 by_cases hs : s.length + t.length ≤ 900
 ·have h1 : s.length ≤ 2 ^ 30 := by omega
  have h2 : t.length ≤ 2 ^ 30 := by omega
  have hw1 : ([40] ++ s ++ [41] : List UInt8) = 40 :: (s ++ [41]) := by simp
  have hw2 : ([40] ++ s ++ [41, 124, 40] ++ t ++ [41] : List UInt8) = both s t := by simp [both]
  have r1 := rRd_ev (T := T1) s h1 []
  have r2 := rRd_ev (T := T1) t h2 []
  have r3 := rRd_ev (T := T1) ([40] ++ s ++ [41]) (by simp; omega) []
  have r4 := rRd_ev (T := T1) ([40] ++ s ++ [41, 124, 40] ++ t ++ [41]) (by simp; omega) []
  cases hps : parse s with
  | error e =>
    have he := err_nz h1 hps
    rw [hps] at r1
    refine ev_fn rfl rfl ?_
    (repeat' (first| (intro (u_ : Unit); clear u_)| refine condT ?_| refine condF ?_| refine condp (by assumption) ?_| refine condn (by assumption) ?_| refine condN ?_| refine idxSb (by assumption) ?_| refine callE_ev shown_ev ?_| refine strC (by simp; omega) ?_| refine callE_ev r1 ?_| refine rdE (by simp; omega) (fun e_ he_ hn_ => ?_) (fun t_ ht_ hl_ => ?_)| (refine condD ?_ ?_ <;> intro hq_ <;> first | (exfalso; omega) | skip)| (refine idxS (by omega) ?_; intro b_ hb_; have hl_ := b_.toNat_lt)| refine wrA (by omega) ?_| refine wrS (by omega) (by omega) ?_| refine wrI (by omega) (by omega) ?_| refine wrBA (by omega) ?_| refine wrB (by omega) (by omega) ?_| refine strC (by omega) ?_| refine nilB rfl ?_))
    all_goals exact ⟨rfl, rfl⟩
  | ok ts =>
  cases hpt : parse t with
  | error e =>
    have he := err_nz h2 hpt
    rw [hps] at r1
    rw [hpt] at r2
    refine ev_fn rfl rfl ?_
    (repeat' (first| (intro (u_ : Unit); clear u_)| refine condT ?_| refine condF ?_| refine condp (by assumption) ?_| refine condn (by assumption) ?_| refine condN ?_| refine idxSb (by assumption) ?_| refine callE_ev shown_ev ?_| refine strC (by simp; omega) ?_| refine callE_ev r1 ?_| refine callE_ev r2 ?_| refine rdE (by simp; omega) (fun e_ he_ hn_ => ?_) (fun t_ ht_ hl_ => ?_)| (refine condD ?_ ?_ <;> intro hq_ <;> first | (exfalso; omega) | skip)| (refine idxS (by omega) ?_; intro b_ hb_; have hl_ := b_.toNat_lt)| refine wrA (by omega) ?_| refine wrS (by omega) (by omega) ?_| refine wrI (by omega) (by omega) ?_| refine wrBA (by omega) ?_| refine wrB (by omega) (by omega) ?_| refine strC (by omega) ?_| refine nilB rfl ?_))
    all_goals exact ⟨rfl, rfl⟩
  | ok tt =>
  rw [hps] at r1
  rw [hpt] at r2
  obtain ⟨_, _, _, ls⟩ := parse_run hps
  obtain ⟨_, _, _, lt⟩ := parse_run hpt
  have hS := Same_ev (T := T1) ts ts [] (by omega)
  rw [sameT_self] at hS
  rcases wrap1 hps with hq1 | hq1
  ·have hJ := rJoin_ev (T := T1) ts tt 3 [] (by omega) (by omega) (parse_small hpt)
   rw [hw1, hq1] at r3
   by_cases hsz : ts.length + tt.length < 2000
   ·rcases wrap2 hps hpt hsz with hq2 | hq2
    ·have hj : joinM ts tt 3 = .ok (ts ++ tt.map (up ts.length) ++ [⟨3, 0, ts.length - 1, ((ts.length + tt.length : Nat) : Int) - 1⟩]) := by
      unfold joinM; rw [if_neg (by omega), if_neg (by omega)]
     rw [hj] at hJ hq2
     rw [hw2, hq2] at r4
     generalize hU : ts ++ tt.map (up ts.length) ++ [⟨3, 0, ts.length - 1, ((ts.length + tt.length : Nat) : Int) - 1⟩] = w at *
     have hS2 := Same_ev (T := T1) w w [] (by rw [← hU]; simp; omega)
     rw [sameT_self] at hS2
     refine ev_fn rfl rfl ?_
     (repeat' (first| (intro (u_ : Unit); clear u_)| refine condT ?_| refine condF ?_| refine condp (by assumption) ?_| refine condn (by assumption) ?_| refine condN ?_| refine idxSb (by assumption) ?_| refine callE_ev shown_ev ?_| refine strC (by simp; omega) ?_| refine callE_ev r1 ?_| refine callE_ev r2 ?_| (rw [hw1]; refine callE_ev r3 ?_)| (rw [hw2]; refine callE_ev r4 ?_)| refine callE_ev hJ ?_| refine callE_ev hS ?_| refine callE_ev hS2 ?_| (refine condD ?_ ?_ <;> intro hq_ <;> first | (exfalso; omega) | skip)| (refine idxS (by omega) ?_; intro b_ hb_; have hl_ := b_.toNat_lt)| refine wrA (by omega) ?_| refine wrS (by omega) (by omega) ?_| refine wrI (by omega) (by omega) ?_| refine wrBA (by omega) ?_| refine wrB (by omega) (by omega) ?_| refine strC (by omega) ?_| refine nilB rfl ?_))
     all_goals exact ⟨rfl, rfl⟩
    ·rw [hw2, hq2] at r4
     refine ev_fn rfl rfl ?_
     (repeat' (first| (intro (u_ : Unit); clear u_)| refine condT ?_| refine condF ?_| refine condp (by assumption) ?_| refine condn (by assumption) ?_| refine condN ?_| refine idxSb (by assumption) ?_| refine callE_ev shown_ev ?_| refine strC (by simp; omega) ?_| refine callE_ev r1 ?_| refine callE_ev r2 ?_| (rw [hw1]; refine callE_ev r3 ?_)| (rw [hw2]; refine callE_ev r4 ?_)| (refine condD ?_ ?_ <;> intro hq_ <;> first | (exfalso; omega) | skip)| (refine idxS (by omega) ?_; intro b_ hb_; have hl_ := b_.toNat_lt)| refine wrA (by omega) ?_| refine wrS (by omega) (by omega) ?_| refine wrI (by omega) (by omega) ?_| refine wrBA (by omega) ?_| refine wrB (by omega) (by omega) ?_| refine strC (by omega) ?_| refine nilB rfl ?_))
     all_goals exact ⟨rfl, rfl⟩
   ·have hj : joinM ts tt 3 = .error 6 := by
     unfold joinM; rw [if_neg (by omega), if_pos (by omega)]
    rw [hj] at hJ
    refine ev_fn rfl rfl ?_
    (repeat' (first| (intro (u_ : Unit); clear u_)| refine condT ?_| refine condF ?_| refine condp (by assumption) ?_| refine condn (by assumption) ?_| refine condN ?_| refine idxSb (by assumption) ?_| refine callE_ev shown_ev ?_| refine strC (by simp; omega) ?_| refine callE_ev r1 ?_| refine callE_ev r2 ?_| (rw [hw1]; refine callE_ev r3 ?_)| refine rdE (by simp; omega) (fun e_ he_ hn_ => ?_) (fun t_ ht_ hl_ => ?_)| refine callE_ev hJ ?_| refine callE_ev hS ?_| (refine condD ?_ ?_ <;> intro hq_ <;> first | (exfalso; omega) | skip)| (refine idxS (by omega) ?_; intro b_ hb_; have hl_ := b_.toNat_lt)| refine wrA (by omega) ?_| refine wrS (by omega) (by omega) ?_| refine wrI (by omega) (by omega) ?_| refine wrBA (by omega) ?_| refine wrB (by omega) (by omega) ?_| refine strC (by omega) ?_| refine nilB rfl ?_))
    all_goals exact ⟨rfl, rfl⟩
  ·rw [hw1, hq1] at r3
   refine ev_fn rfl rfl ?_
   (repeat' (first| (intro (u_ : Unit); clear u_)| refine condT ?_| refine condF ?_| refine condp (by assumption) ?_| refine condn (by assumption) ?_| refine condN ?_| refine idxSb (by assumption) ?_| refine callE_ev shown_ev ?_| refine strC (by simp; omega) ?_| refine callE_ev r1 ?_| refine callE_ev r2 ?_| (rw [hw1]; refine callE_ev r3 ?_)| refine rdE (by simp; omega) (fun e_ he_ hn_ => ?_) (fun t_ ht_ hl_ => ?_)| (refine condD ?_ ?_ <;> intro hq_ <;> first | (exfalso; omega) | skip)| (refine idxS (by omega) ?_; intro b_ hb_; have hl_ := b_.toNat_lt)| refine wrA (by omega) ?_| refine wrS (by omega) (by omega) ?_| refine wrI (by omega) (by omega) ?_| refine wrBA (by omega) ?_| refine wrB (by omega) (by omega) ?_| refine strC (by omega) ?_| refine nilB rfl ?_))
   all_goals exact ⟨rfl, rfl⟩
 ·refine ev_fn rfl rfl ?_
  (repeat' (first| (intro (u_ : Unit); clear u_)| refine condT ?_| refine condF ?_| refine condp (by assumption) ?_| refine condn (by assumption) ?_| refine condN ?_| refine idxSb (by assumption) ?_| refine callE_ev shown_ev ?_| (refine condD ?_ ?_ <;> intro hq_ <;> first | (exfalso; omega) | skip)| (refine idxS (by omega) ?_; intro b_ hb_; have hl_ := b_.toNat_lt)| refine wrA (by omega) ?_| refine wrS (by omega) (by omega) ?_| refine wrI (by omega) (by omega) ?_| refine wrBA (by omega) ?_| refine wrB (by omega) (by omega) ?_| refine strC (by omega) ?_| refine nilB rfl ?_))
  exact ⟨rfl, rfl⟩
end Go.Ab.R05
namespace Go.Ab.R05
set_option maxRecDepth 100000
set_option linter.all false
set_option maxHeartbeats 4000000
theorem RegexBack_ev (s : List UInt8) : Ev T1 f_law05_RegexBack [str s] [] (.ret (bl true)) [] := by
 by_cases hs : s.length ≤ 1500
 ·have h1 := rRd_ev (T := T1) s (by omega) []
  cases hp : parse s with
  | error e =>
    have he := err_nz (by omega) hp
    rw [hp] at h1
    have l0 : ([] : List (List D)).length = 0 := rfl
    refine ev_fn rfl rfl ?_
    (repeat' (first| (intro (u_ : Unit); clear u_)| refine condT ?_| refine condF ?_| refine condp (by assumption) ?_| refine condn (by assumption) ?_| refine condN ?_| refine idxSb (by assumption) ?_| refine callE_ev shown_ev ?_| refine callE_ev h1 ?_| (refine condD ?_ ?_ <;> intro hq_ <;> first | (exfalso; omega) | skip)| (refine idxS (by omega) ?_; intro b_ hb_; have hl_ := b_.toNat_lt)| refine wrA (by omega) ?_| refine wrS (by omega) (by omega) ?_| refine wrI (by omega) (by omega) ?_| refine wrBA (by omega) ?_| refine wrB (by omega) (by omega) ?_| refine strC (by omega) ?_| refine nilB rfl ?_))
    all_goals exact ⟨by simp, rfl⟩
  | ok t =>
    obtain ⟨a, ha, rfl, hsz⟩ := parse_tree hp
    rw [hp] at h1
    have hT := Text_ev a ha hsz []
    have hlen := textT_length a
    have h2 := rRd_ev (T := T1) (textT a) (by omega) []
    have hR := Right_ev (T := T1) (flat 0 a) (by rw [flat_length]; omega) []
    rw [right_flat ha hsz] at hR
    rcases parse_text ha hsz with hq | hq
    ·rw [hq] at h2
     generalize textT a = w at *
     generalize flat 0 a = u at *
     refine ev_fn rfl rfl ?_
     (repeat' (first| (intro (u_ : Unit); clear u_)| refine condT ?_| refine condF ?_| refine condp (by assumption) ?_| refine condn (by assumption) ?_| refine condN ?_| refine idxSb (by assumption) ?_| refine callE_ev shown_ev ?_| refine callE_ev h1 ?_| refine callE_ev hT ?_| refine callE_ev h2 ?_| refine callE_ev hR ?_| (refine condD ?_ ?_ <;> intro hq_ <;> first | (exfalso; omega) | skip)| (refine idxS (by omega) ?_; intro b_ hb_; have hl_ := b_.toNat_lt)| refine wrA (by omega) ?_| refine wrS (by omega) (by omega) ?_| refine wrI (by omega) (by omega) ?_| refine wrBA (by omega) ?_| refine wrB (by omega) (by omega) ?_| refine strC (by omega) ?_| refine nilB rfl ?_))
     all_goals exact ⟨rfl, rfl⟩
    ·have hS := Same_ev (T := T1) (flat 0 a) (flat 0 a) [] (by rw [flat_length]; omega)
     rw [sameT_self] at hS
     rw [hq] at h2
     generalize textT a = w at *
     generalize flat 0 a = u at *
     refine ev_fn rfl rfl ?_
     (repeat' (first| (intro (u_ : Unit); clear u_)| refine condT ?_| refine condF ?_| refine condp (by assumption) ?_| refine condn (by assumption) ?_| refine condN ?_| refine idxSb (by assumption) ?_| refine callE_ev shown_ev ?_| refine callE_ev h1 ?_| refine callE_ev hT ?_| refine callE_ev h2 ?_| refine callE_ev hR ?_| refine callE_ev hS ?_| (refine condD ?_ ?_ <;> intro hq_ <;> first | (exfalso; omega) | skip)| (refine idxS (by omega) ?_; intro b_ hb_; have hl_ := b_.toNat_lt)| refine wrA (by omega) ?_| refine wrS (by omega) (by omega) ?_| refine wrI (by omega) (by omega) ?_| refine wrBA (by omega) ?_| refine wrB (by omega) (by omega) ?_| refine strC (by omega) ?_| refine nilB rfl ?_))
     all_goals exact ⟨rfl, rfl⟩
 ·refine ev_fn rfl rfl ?_
  (repeat' (first| (intro (u_ : Unit); clear u_)| refine condT ?_| refine condF ?_| refine condp (by assumption) ?_| refine condn (by assumption) ?_| refine condN ?_| refine idxSb (by assumption) ?_| refine callE_ev shown_ev ?_| (refine condD ?_ ?_ <;> intro hq_ <;> first | (exfalso; omega) | skip)| (refine idxS (by omega) ?_; intro b_ hb_; have hl_ := b_.toNat_lt)| refine wrA (by omega) ?_| refine wrS (by omega) (by omega) ?_| refine wrI (by omega) (by omega) ?_| refine wrBA (by omega) ?_| refine wrB (by omega) (by omega) ?_| refine strC (by omega) ?_| refine nilB rfl ?_))
  all_goals exact ⟨rfl, rfl⟩
end Go.Ab.R05
