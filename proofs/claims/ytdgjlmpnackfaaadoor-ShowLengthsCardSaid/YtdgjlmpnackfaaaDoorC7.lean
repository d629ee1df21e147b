/- A part of the proof: tools. No condition. -/
import Derived.WalkKit
import Derived.Lib.Walk
import Derived.Test.YtdgjlmpnackfaaaDoorProg
import Derived.Test.YtdgjlmpnackfaaaDoorC5
import Derived.Test.YtdgjlmpnackfaaaDoorL3
import Derived.Test.YtdgjlmpnackfaaaDoorC6
import Derived.Test.YtdgjlmpnackfaaaDoorC4
import Derived.Test.YtdgjlmpnackfaaaDoorL2
set_option linter.all false
namespace Go.Ab.R12
open Go.RowKit Go.Shelf Go.Proofs
set_option linter.all false
set_option maxHeartbeats 4000000 in
set_option maxRecDepth 100000 in
theorem word_nil (a : Option Addr) (c : Nat) (w : World) : Calls Tryd.prog 14 #[.agg #[.slice a 0 c]] w fun e w' => e = .returned (.string ⟨#[]⟩) ∧ Below w.heap.size w w' := by
 have hz : (w.alloc (.cells #[.slice a 0 c] 35)).heap.size = w.heap.size + 1 := Array.size_push _
 have hz2 : ((w.alloc (.cells #[.slice a 0 c] 35)).alloc (.cells #[.pointer none, .slice none 0 0] 53)).heap.size = w.heap.size + 1 + 1 := (Array.size_push _).trans (congrArg (· + 1) hz)
 have e24 : ∀ args w, (callFunc 24 args).run Tryd.prog w = .ok (.enter 24 args) w := enters_of Tryd.func24 (by kernel_rfl) rfl
 go_enter Tryd.func14, Tryd.ntmps14
 go_wp2
 refine wp_loop_once ?_
 go_wp2_with (go_at_fn 24; refine (Tryd.Builder_String_empty (w.heap.size + 1) (w.heap.size + 1) _ ?_ ?_).mono ?_)
 ·have := Lib.fresh_isBuilder 53 5 (w.alloc (.cells #[.slice a 0 c] 35))
  rwa [hz] at this
 ·rw [hz2]; exact Nat.le_succ _
 rintro e w1 ⟨rfl, hb⟩
 go_wp2
 go_ret
 refine ⟨rfl, ?_⟩
 exact (((Below.refl w.heap.size w).alloc (Nat.le_refl _) _).alloc (by rw [hz]; exact Nat.le_succ _) _).trans (hb.mono (Nat.le_succ _))
def wordO : List AV → Option AV
 | [.agg [.d (.lst [])]] => some (.d (.str []))
 | _ => none
variable [Glb]
set_option maxRecDepth 100000
theorem orcWord : OrcAt Tryd.prog f_show_Word wordO := by
 intro args v hv
 unfold wordO at hv
 split at hv
 ·simp only [Option.some.injEq] at hv
  subst hv
  refine ⟨rfl, fun es e => (by cases e), fun E K st tm w vs hs _ hr => ?_⟩
  simp only [RepL, Rep, RepD] at hr
  obtain ⟨v1, r1, e1, ⟨vs2, rfl, v2, r2, e2, ⟨a, n, rfl, _⟩, rfl⟩, rfl⟩ := hr
  have h2 : vs2 = #[.slice a 0 n] := by apply Array.toList_inj.1; rw [e2]; rfl
  subst h2
  have hvs : vs = #[.agg #[.slice a 0 n]] := by apply Array.toList_inj.1; rw [e1]
  subst hvs
  unfold Does
  rw [enters_of Tryd.func14 (by kernel_rfl) rfl]
  simp only
  refine (word_nil a n w).mono ?_
  rintro e w' ⟨rfl, hb⟩
  exact ⟨K, _, hs.below hb, Up.refl _ _, rfl, by simp [Rep, RepD]⟩
 ·cases hv
theorem orcRepl (m : Int) : @OrcAt (glbInt 0 m) Tryd.prog f_strings_ReplaceAll replO :=
 @replO_ok (glbInt 0 m) Tryd.prog f_strings_ReplaceAll 0 m (enters_of Tryd.func19 (by kernel_rfl) rfl)
  (fun s old new m w hs hm h1 hl => Tryd.strings_ReplaceAll s old new m w hs hm h1 hl) (glbInt_at 0 m)
end Go.Ab.R12
namespace Go.Ab.R12
open Go.RowKit Go.Proofs
set_option maxRecDepth 100000
set_option linter.all false
set_option maxHeartbeats 4000000
abbrev i64 (n : Int) : AV := .d (.int .i64 n)
abbrev u8 (n : Nat) : AV := .nat .u8 n
abbrev str (s : List UInt8) : AV := .d (.str s)
abbrev bl (b : Bool) : AV := .d (.bool b)
theorem wordO_pl {a : List AV} {v : AV} (h : wordO a = some v) : v.refB = 0 ∧ AV.refBs a = 0 := by
 unfold wordO at h
 split at h
 ·cases h; exact ⟨rfl, rfl⟩
 ·cases h
theorem replO_pl {a : List AV} {v : AV} (h : replO a = some v) : v.refB = 0 ∧ AV.refBs a = 0 := by
 unfold replO at h
 split at h
 ·split at h
  ·cases h; exact ⟨rfl, rfl⟩
  ·cases h
 ·cases h
def orcL : List (Nat × (List AV → Option AV)) := [(f_show_Word, wordO), (f_strings_ReplaceAll, replO)]
def T2 : Tb := ⟨lookupF tabl, lookupF tabD, orcOf orcL⟩
theorem fitN : FitN Tryd.prog (lookupF tabl) := fitN_of (by decide +kernel)
theorem fitD : FitD Tryd.prog (lookupF tabD) := fitD_of (by decide +kernel)
theorem orcL_pl {a : List AV} {v : AV} {f : FuncId} (h : orcOf orcL f a = some v) : v.refB = 0 ∧ AV.refBs a = 0 := by
 simp only [orcL, orcOf] at h
 split at h
 ·exact wordO_pl h
 ·split at h
  ·exact replO_pl h
  ·cases h
instance : TOK T2 where
 tab := fun f af h => let ⟨_, _, hf, _⟩ := fitN f af h; hf.cok
 tabD := fun f af h => let ⟨_, _, hf, _⟩ := fitD f af h; hf.cok
 orc := fun f a v h => orcL_pl h
theorem t2_none {f : FuncId} (args : List AV) (h1 : ([f_show_Word, f_strings_ReplaceAll] : List Nat).contains f = false) : T2.orc f args = none := orcOf_none (fun p hp e => by
  simp only [orcL, List.mem_cons, List.not_mem_nil, or_false] at hp
  rcases hp with rfl | rfl <;> (subst e; exact absurd h1 (by decide)))
theorem ev_fn {f : FuncId} {args : List AV} {rf : Refs} {o : Out} {rf' : Refs} {af : AFn} (hne : ([f_show_Word, f_strings_ReplaceAll] : List Nat).contains f = false) (hf : lookupF tabl f = some af)
  (h : lenK rf 0 fun nb => entK args 0 fun sl => vc T2 nb af.body (endN T2 af nb (fun a b => EndE a b o rf')) (endX T2 af nb (fun a b => EndE a b o rf')) sl rf [] none) : Ev T2 f args rf o rf' := by
 exact ev_vc (t2_none args hne) hf h
theorem shown_ev0 : Ev T2 f_law12_shown [] [] (.ret (bl true)) [] := ⟨60, by kernel_rfl⟩
theorem shown_ev (rf : Refs) : Ev T2 f_law12_shown [] rf (.ret (bl true)) rf := Ev.any shown_ev0 rfl rf
def quoteM (s : List UInt8) : List UInt8 := [39] ++ escA q4 s ++ [39]
theorem quoteM_length (s : List UInt8) : (quoteM s).length = s.length + 2 + 3 * s.count 39 := by
 have := escA_length q4 s
 simp only [quoteM, List.length_append, List.length_cons, List.length_nil]
 have h4 : q4.length = 4 := rfl
 rw [h4] at this
 omega
theorem replE {s : List UInt8} {rf : Refs} {k : Out → Refs → Prop} (hs : s.length ≤ 2 ^ 20) (h : k (.ret (str (escA q4 s))) rf) : CallE T2 f_strings_ReplaceAll [str s, str [39], str [39, 92, 39, 39]] rf k := by
 have e : replO [str s, str [39], str [39, 92, 39, 39]] = some (str (escA q4 s)) := ?_
 ·exact callE_ev (ev_orc (f := f_strings_ReplaceAll) (T := T2) e) h
 simp only [replO]
 have := List.count_le_length (a := (39 : UInt8)) (l := s)
 rw [if_pos (by rw [Lib.count_one]; simp only [List.length_cons, List.length_nil]; omega)]
 rw [show [39, 92, 39, 39] = q4 from rfl, replaceAll_esc (by decide)]
theorem Quote_ev (s : List UInt8) (hs : s.length ≤ 2 ^ 20) (rf : Refs) : Ev T2 f_show_Quote [str s] rf (.ret (str (quoteM s))) rf := by
 refine Ev.any ?_ rfl rf
 have h1 := quoteM_length s
 have h2 := List.count_le_length (a := (39 : UInt8)) (l := s)
 have h3 := escA_length q4 s
 have h4 : q4.length = 4 := rfl
 rw [h4] at h3
 refine ev_fn rfl rfl ?_
 (repeat' (first| (intro (u_ : Unit); clear u_)| refine condT ?_| refine condF ?_| refine condp (by assumption) ?_| refine condn (by assumption) ?_| refine condN ?_| refine idxSb (by assumption) ?_| refine replE hs ?_| refine strC (by simp only [List.length_cons, List.length_nil, List.length_append]; omega) ?_| (refine condD ?_ ?_ <;> intro hq_ <;> first | (exfalso; omega) | skip)| (refine idxS (by omega) ?_; intro b_ hb_; have hl_ := b_.toNat_lt)| refine wrA (by omega) ?_| refine wrS (by omega) (by omega) ?_| refine wrI (by omega) (by omega) ?_| refine wrBA (by omega) ?_| refine wrB (by omega) (by omega) ?_| refine strC (by omega) ?_| refine nilB rfl ?_))
 exact ⟨rfl, rfl⟩
theorem escA_append (new s t : List UInt8) : escA new (s ++ t) = escA new s ++ escA new t := by
 induction s with
 | nil => rfl
 | cons c s ih => simp [escA, ih]
theorem take_snoc {s : List UInt8} {i : Nat} {c : UInt8} (h : s[i]? = some c) : s.take (i + 1) = s.take i ++ [c] := by
 rw [List.take_add_one, h]; rfl
theorem subE {l x : List UInt8} {i j : Nat} {c : List UInt8 → Prop} (e : (l.take j).drop i = x) (h1 : i ≤ j) (h2 : j ≤ l.length) (h : c x) : SubE l (some (i : Int)) (some (j : Int)) c := subBo h1 h2 (by rw [e]; exact h)
theorem rQuote_ev (s : List UInt8) (hs : s.length ≤ 2 ^ 20) (rf : Refs) : Ev T2 f_ref12_Quote [str s] rf (.ret (str (quoteM s))) rf := by
 refine Ev.any ?_ rfl rf
 have hlen : ∀ i, (escA q4 (s.take i)).length ≤ 4 * 2 ^ 20 := fun i => by
  have h2 := List.count_le_length (a := (39 : UInt8)) (l := s.take i)
  have h3 := escA_length q4 (s.take i)
  have h4 : q4.length = 4 := rfl
  have h5 : (s.take i).length ≤ s.length := by rw [List.length_take]; omega
  rw [h4] at h3
  omega
 refine ev_fn rfl rfl ?_
 (repeat' (first| (intro (u_ : Unit); clear u_)| refine condT ?_| refine condF ?_| refine condp (by assumption) ?_| refine condn (by assumption) ?_| refine condN ?_| refine idxSb (by assumption) ?_| (refine condD ?_ ?_ <;> intro hq_ <;> first | (exfalso; omega) | skip)| (refine idxS (by omega) ?_; intro b_ hb_; have hl_ := b_.toNat_lt)| refine wrA (by omega) ?_| refine wrS (by omega) (by omega) ?_| refine wrI (by omega) (by omega) ?_| refine wrBA (by omega) ?_| refine wrB (by omega) (by omega) ?_| refine strC (by omega) ?_| refine nilB rfl ?_))
 refine loopR (fun (i : Nat) => [(3, str ([39] ++ escA q4 (s.take i))), (4, i64 i)]) (fun _ => []) (fun i => s.length - i) (fun i => i ≤ s.length) 0 (by omega) (by simp [escA]; rfl) (by rfl) ?_
 intro i hi
 have hl := hlen i
 by_cases hil : i < s.length
 ·obtain ⟨c, hc⟩ : ∃ c, s[i]? = some c := ⟨s[i], List.getElem?_eq_getElem hil⟩
  have e1 : escA q4 (s.take (i + 1)) = escA q4 (s.take i) ++ escA q4 [c] := by rw [take_snoc hc, escA_append]
  have e2 : (s.take (i + 1)).drop i = [c] := by rw [take_snoc hc, List.drop_left' (by rw [List.length_take]; omega)]
  have hl1 := hlen (i + 1)
  by_cases h39 : c = 39
  ·subst h39
   have e3 : [39] ++ escA q4 (s.take i) ++ [39, 92, 39, 39] = [39] ++ escA q4 (s.take (i + 1)) := by rw [e1]; simp [escA, q4]
   (repeat' (first| (intro (u_ : Unit); clear u_)| refine condT ?_| refine condF ?_| refine condp (by assumption) ?_| refine condn (by assumption) ?_| refine condN ?_| refine idxSb (by assumption) ?_| refine idxSb hc ?_| refine strC (by simp only [List.length_cons, List.length_nil, List.length_append]; omega) ?_| (refine condD ?_ ?_ <;> intro hq_ <;> first | (exfalso; omega) | skip)| (refine idxS (by omega) ?_; intro b_ hb_; have hl_ := b_.toNat_lt)| refine wrA (by omega) ?_| refine wrS (by omega) (by omega) ?_| refine wrI (by omega) (by omega) ?_| refine wrBA (by omega) ?_| refine wrB (by omega) (by omega) ?_| refine strC (by omega) ?_| refine nilB rfl ?_))
   rw [e3]
   exact ⟨i + 1, by omega, by omega, rfl, rfl, rfl, rfl⟩
  ·have hc39 : c.toNat ≠ 39 := fun e => h39 (UInt8.toNat_inj.1 e)
   have e3 : [39] ++ escA q4 (s.take i) ++ [c] = [39] ++ escA q4 (s.take (i + 1)) := by rw [e1]; simp [escA, h39]
   (repeat' (first| (intro (u_ : Unit); clear u_)| refine condT ?_| refine condF ?_| refine condp (by assumption) ?_| refine condn (by assumption) ?_| refine condN ?_| refine idxSb (by assumption) ?_| refine idxSb hc ?_| refine strC (by simp only [List.length_cons, List.length_nil, List.length_append]; omega) ?_| refine subE e2 (by omega) (by omega) ?_| (refine condD ?_ ?_ <;> intro hq_ <;> first | (exfalso; omega) | skip)| (refine idxS (by omega) ?_; intro b_ hb_; have hl_ := b_.toNat_lt)| refine wrA (by omega) ?_| refine wrS (by omega) (by omega) ?_| refine wrI (by omega) (by omega) ?_| refine wrBA (by omega) ?_| refine wrB (by omega) (by omega) ?_| refine strC (by omega) ?_| refine nilB rfl ?_))
   rw [e3]
   exact ⟨i + 1, by omega, by omega, rfl, rfl, rfl, rfl⟩
 ·have e4 : s.take i = s := List.take_of_length_le (by omega)
  rw [e4] at hl
  have hi' : i = s.length := by omega
  subst hi'
  rw [e4]
  (repeat' (first| (intro (u_ : Unit); clear u_)| refine condT ?_| refine condF ?_| refine condp (by assumption) ?_| refine condn (by assumption) ?_| refine condN ?_| refine idxSb (by assumption) ?_| refine strC (by simp only [List.length_cons, List.length_nil, List.length_append]; omega) ?_| (refine condD ?_ ?_ <;> intro hq_ <;> first | (exfalso; omega) | skip)| (refine idxS (by omega) ?_; intro b_ hb_; have hl_ := b_.toNat_lt)| refine wrA (by omega) ?_| refine wrS (by omega) (by omega) ?_| refine wrI (by omega) (by omega) ?_| refine wrBA (by omega) ?_| refine wrB (by omega) (by omega) ?_| refine strC (by omega) ?_| refine nilB rfl ?_))
  exact ⟨rfl, rfl⟩
theorem ShowLengths_ev (s : List UInt8) (hs : s.length ≤ 2 ^ 47) (t : List UInt8) (ht : t.length ≤ 2 ^ 47) (rf : Refs) : Ev T2 f_law12_ShowLengths [str s, str t] rf (.ret (bl true)) rf := by
 refine Ev.any ?_ rfl rf
 by_cases hlen : s.length + t.length > 2000
 ·refine ev_fn rfl rfl ?_
  (repeat' (first| (intro (u_ : Unit); clear u_)| refine condT ?_| refine condF ?_| refine condp (by assumption) ?_| refine condn (by assumption) ?_| refine condN ?_| refine idxSb (by assumption) ?_| refine callE_ev (shown_ev _) ?_| (refine condD ?_ ?_ <;> intro hq_ <;> first | (exfalso; omega) | skip)| (refine idxS (by omega) ?_; intro b_ hb_; have hl_ := b_.toNat_lt)| refine wrA (by omega) ?_| refine wrS (by omega) (by omega) ?_| refine wrI (by omega) (by omega) ?_| refine wrBA (by omega) ?_| refine wrB (by omega) (by omega) ?_| refine strC (by omega) ?_| refine nilB rfl ?_))
  exact ⟨rfl, rfl⟩
 have h1 := quoteM_length s
 have hq : (decide (quoteM s = quoteM t) == decide (s = t)) = true := by
  rw [beq_iff_eq, decide_eq_decide]
  refine ⟨fun e => escA_inj s t ?_, fun e => by rw [e]⟩
  simp only [quoteM, List.append_assoc] at e
  exact List.append_cancel_left e
 have hc := List.count_le_length (a := (39 : UInt8)) (l := s)
 have hcnt : ∀ i, (s.take i).count 39 ≤ s.length := fun i => by
  have := List.count_le_length (a := (39 : UInt8)) (l := s.take i)
  have h5 : (s.take i).length ≤ s.length := by rw [List.length_take]; omega
  omega
 refine ev_fn rfl rfl ?_
 (repeat' (first| (intro (u_ : Unit); clear u_)| refine condT ?_| refine condF ?_| refine condp (by assumption) ?_| refine condn (by assumption) ?_| refine condN ?_| refine idxSb (by assumption) ?_| refine callE_ev (shown_ev _) ?_| (refine condD ?_ ?_ <;> intro hq_ <;> first | (exfalso; omega) | skip)| (refine idxS (by omega) ?_; intro b_ hb_; have hl_ := b_.toNat_lt)| refine wrA (by omega) ?_| refine wrS (by omega) (by omega) ?_| refine wrI (by omega) (by omega) ?_| refine wrBA (by omega) ?_| refine wrB (by omega) (by omega) ?_| refine strC (by omega) ?_| refine nilB rfl ?_))
 refine loopR (fun (i : Nat) => [(6, i64 ((s.take i).count 39 : Nat)), (7, i64 i)]) (fun _ => []) (fun i => s.length - i) (fun i => i ≤ s.length) 0 (by omega) (by rfl) (by rfl) ?_
 intro i hi
 have hn := hcnt i
 by_cases hil : i < s.length
 ·obtain ⟨c, hc⟩ : ∃ c, s[i]? = some c := ⟨s[i], List.getElem?_eq_getElem hil⟩
  have hn1 := hcnt (i + 1)
  by_cases h39 : c = 39
  ·subst h39
   have e1 : (s.take (i + 1)).count 39 = (s.take i).count 39 + 1 := by rw [take_snoc hc, List.count_append]; rfl
   (repeat' (first| (intro (u_ : Unit); clear u_)| refine condT ?_| refine condF ?_| refine condp (by assumption) ?_| refine condn (by assumption) ?_| refine condN ?_| refine idxSb (by assumption) ?_| refine idxSb hc ?_| (refine condD ?_ ?_ <;> intro hq_ <;> first | (exfalso; omega) | skip)| (refine idxS (by omega) ?_; intro b_ hb_; have hl_ := b_.toNat_lt)| refine wrA (by omega) ?_| refine wrS (by omega) (by omega) ?_| refine wrI (by omega) (by omega) ?_| refine wrBA (by omega) ?_| refine wrB (by omega) (by omega) ?_| refine strC (by omega) ?_| refine nilB rfl ?_))
   rw [← e1]
   exact ⟨i + 1, by omega, by omega, rfl, rfl, rfl, rfl⟩
  ·have hc39 : c.toNat ≠ 39 := fun e => h39 (UInt8.toNat_inj.1 e)
   have e1 : (s.take (i + 1)).count 39 = (s.take i).count 39 := by rw [take_snoc hc, List.count_append]; simp [h39]
   (repeat' (first| (intro (u_ : Unit); clear u_)| refine condT ?_| refine condF ?_| refine condp (by assumption) ?_| refine condn (by assumption) ?_| refine condN ?_| refine idxSb (by assumption) ?_| refine idxSb hc ?_| (refine condD ?_ ?_ <;> intro hq_ <;> first | (exfalso; omega) | skip)| (refine idxS (by omega) ?_; intro b_ hb_; have hl_ := b_.toNat_lt)| refine wrA (by omega) ?_| refine wrS (by omega) (by omega) ?_| refine wrI (by omega) (by omega) ?_| refine wrBA (by omega) ?_| refine wrB (by omega) (by omega) ?_| refine strC (by omega) ?_| refine nilB rfl ?_))
   rw [← e1]
   exact ⟨i + 1, by omega, by omega, rfl, rfl, rfl, rfl⟩
 ·have e4 : s.take i = s := List.take_of_length_le (by omega)
  have hi' : i = s.length := by omega
  subst hi'
  rw [e4]
  (repeat' (first| (intro (u_ : Unit); clear u_)| refine condT ?_| refine condF ?_| refine condp (by assumption) ?_| refine condn (by assumption) ?_| refine condN ?_| refine idxSb (by assumption) ?_| refine callE_ev (Quote_ev s (by omega) _) ?_| refine callE_ev (Quote_ev t (by omega) _) ?_| refine callE_ev (rQuote_ev s (by omega) _) ?_| refine condn (p := (decide (quoteM s = quoteM t) == decide (s = t)) = false) (by rw [hq]; decide) ?_| refine condt hq ?_| (refine condD ?_ ?_ <;> intro hq_ <;> first | (exfalso; omega) | skip)| (refine idxS (by omega) ?_; intro b_ hb_; have hl_ := b_.toNat_lt)| refine wrA (by omega) ?_| refine wrS (by omega) (by omega) ?_| refine wrI (by omega) (by omega) ?_| refine wrBA (by omega) ?_| refine wrB (by omega) (by omega) ?_| refine strC (by omega) ?_| refine nilB rfl ?_))
  simp only [decide_true]
  exact ⟨rfl, rfl⟩
end Go.Ab.R12
namespace Go.Ab.R12
open Go.RowKit Go.Proofs
set_option linter.all false
theorem orcOK (m : Int) : @OrcOK (glbInt 0 m) Tryd.prog T2.orc := @orcOK_of (glbInt 0 m) _ _ fun p hp => by
 simp only [orcL, List.mem_cons, List.not_mem_nil, or_false] at hp
 rcases hp with rfl | rfl
 ·exact @orcWord (glbInt 0 m)
 ·exact orcRepl m
theorem law_calls {f : FuncId} {args : List AV} (he : Ev T2 f args [] (.ret (bl true)) []) (hf : ∃ af, lookupF tabl f = some af) (ha : AV.refBs args = 0) (hno : ∀ y ∈ args, ∀ es, y ≠ .own es) {vs : Array Value} (hr : RepL (@K0 Glb.none) args vs.toList) (W : World) (hsh : W.ShapedOpen Tryd.prog) :
  Calls Tryd.prog f vs W fun e W' => e = .returned (.bool true) ∧ Below W.heap.size W W' := by
 obtain ⟨m, hm⟩ := Tryd.laysM155.s1_3 W hsh
 refine @calls_of_evG (glbInt 0 m) Tryd.prog T2 fitN fitD (orcOK m) f args (.bool true) (.bool true) [] he rfl hf ha hno vs ?_ W (glbInt_in hm)
 exact RepL.mono (K := @K0 Glb.none) (K' := @K0 (glbInt 0 m)) (n := AV.refBs args) (fun _ _ _ h => nomatch h) (fun _ _ => rfl) _ _ (Nat.le_refl _) hr
end Go.Ab.R12
