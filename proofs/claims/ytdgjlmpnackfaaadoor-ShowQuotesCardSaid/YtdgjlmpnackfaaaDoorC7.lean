/- A part of the proof: tools. No condition. -/
import Derived.WalkKit
import Derived.Lib.Walk
import Derived.Test.YtdgjlmpnackfaaaDoorProg
import Derived.Test.YtdgjlmpnackfaaaDoorC5
import Derived.Test.YtdgjlmpnackfaaaDoorL3
import Derived.Test.YtdgjlmpnackfaaaDoorC6
import Derived.Test.YtdgjlmpnackfaaaDoorC4
import Derived.Test.YtdgjlmpnackfaaaDoorL2
set_option linter.all false
namespace Go.Ab.R12
open Go.RowKit Go.Shelf Go.Proofs
set_option linter.all false
set_option maxHeartbeats 4000000 in
set_option maxRecDepth 100000 in
theorem word_nil (a : Option Addr) (c : Nat) (w : World) : Calls Tryd.prog 14 #[.agg #[.slice a 0 c]] w fun e w' => e = .returned (.string ⟨#[]⟩) ∧ Below w.heap.size w w' := by
 have hz : (w.alloc (.cells #[.slice a 0 c] 35)).heap.size = w.heap.size + 1 := Array.size_push _
 have hz2 : ((w.alloc (.cells #[.slice a 0 c] 35)).alloc (.cells #[.pointer none, .slice none 0 0] 53)).heap.size = w.heap.size + 1 + 1 := (Array.size_push _).trans (congrArg (· + 1) hz)
 have e24 : ∀ args w, (callFunc 24 args).run Tryd.prog w = .ok (.enter 24 args) w := enters_of Tryd.func24 (by kernel_rfl) rfl
 go_enter Tryd.func14, Tryd.ntmps14
 go_wp2
 refine wp_loop_once ?_
 go_wp2_with (go_at_fn 24; refine (Tryd.Builder_String_empty (w.heap.size + 1) (w.heap.size + 1) _ ?_ ?_).mono ?_)
 ·have := Lib.fresh_isBuilder 53 5 (w.alloc (.cells #[.slice a 0 c] 35))
  rwa [hz] at this
 ·rw [hz2]; exact Nat.le_succ _
 rintro e w1 ⟨rfl, hb⟩
 go_wp2
 go_ret
 refine ⟨rfl, ?_⟩
 exact (((Below.refl w.heap.size w).alloc (Nat.le_refl _) _).alloc (by rw [hz]; exact Nat.le_succ _) _).trans (hb.mono (Nat.le_succ _))
def wordO : List AV → Option AV
 | [.agg [.d (.lst [])]] => some (.d (.str []))
 | _ => none
variable [Glb]
set_option maxRecDepth 100000
theorem orcWord : OrcAt Tryd.prog f_show_Word wordO := by
 intro args v hv
 unfold wordO at hv
 split at hv
 ·simp only [Option.some.injEq] at hv
  subst hv
  refine ⟨rfl, fun es e => (by cases e), fun E K st tm w vs hs _ hr => ?_⟩
  simp only [RepL, Rep, RepD] at hr
  obtain ⟨v1, r1, e1, ⟨vs2, rfl, v2, r2, e2, ⟨a, n, rfl, _⟩, rfl⟩, rfl⟩ := hr
  have h2 : vs2 = #[.slice a 0 n] := by apply Array.toList_inj.1; rw [e2]; rfl
  subst h2
  have hvs : vs = #[.agg #[.slice a 0 n]] := by apply Array.toList_inj.1; rw [e1]
  subst hvs
  unfold Does
  rw [enters_of Tryd.func14 (by kernel_rfl) rfl]
  simp only
  refine (word_nil a n w).mono ?_
  rintro e w' ⟨rfl, hb⟩
  exact ⟨K, _, hs.below hb, Up.refl _ _, rfl, by simp [Rep, RepD]⟩
 ·cases hv
theorem orcRepl (m : Int) : @OrcAt (glbInt 0 m) Tryd.prog f_strings_ReplaceAll replO :=
 @replO_ok (glbInt 0 m) Tryd.prog f_strings_ReplaceAll 0 m (enters_of Tryd.func19 (by kernel_rfl) rfl)
  (fun s old new m w hs hm h1 hl => Tryd.strings_ReplaceAll s old new m w hs hm h1 hl) (glbInt_at 0 m)
end Go.Ab.R12
namespace Go.Ab.R12
open Go.RowKit Go.Proofs
set_option maxRecDepth 100000
set_option linter.all false
set_option maxHeartbeats 4000000
abbrev i64 (n : Int) : AV := .d (.int .i64 n)
abbrev u8 (n : Nat) : AV := .nat .u8 n
abbrev str (s : List UInt8) : AV := .d (.str s)
abbrev bl (b : Bool) : AV := .d (.bool b)
theorem wordO_pl {a : List AV} {v : AV} (h : wordO a = some v) : v.refB = 0 ∧ AV.refBs a = 0 := by
 unfold wordO at h
 split at h
 ·cases h; exact ⟨rfl, rfl⟩
 ·cases h
theorem replO_pl {a : List AV} {v : AV} (h : replO a = some v) : v.refB = 0 ∧ AV.refBs a = 0 := by
 unfold replO at h
 split at h
 ·split at h
  ·cases h; exact ⟨rfl, rfl⟩
  ·cases h
 ·cases h
def orcL : List (Nat × (List AV → Option AV)) := [(f_show_Word, wordO), (f_strings_ReplaceAll, replO)]
def T2 : Tb := ⟨lookupF tabl, lookupF tabD, orcOf orcL⟩
theorem fitN : FitN Tryd.prog (lookupF tabl) := fitN_of (by decide +kernel)
theorem fitD : FitD Tryd.prog (lookupF tabD) := fitD_of (by decide +kernel)
theorem orcL_pl {a : List AV} {v : AV} {f : FuncId} (h : orcOf orcL f a = some v) : v.refB = 0 ∧ AV.refBs a = 0 := by
 simp only [orcL, orcOf] at h
 split at h
 ·exact wordO_pl h
 ·split at h
  ·exact replO_pl h
  ·cases h
instance : TOK T2 where
 tab := fun f af h => let ⟨_, _, hf, _⟩ := fitN f af h; hf.cok
 tabD := fun f af h => let ⟨_, _, hf, _⟩ := fitD f af h; hf.cok
 orc := fun f a v h => orcL_pl h
theorem t2_none {f : FuncId} (args : List AV) (h1 : ([f_show_Word, f_strings_ReplaceAll] : List Nat).contains f = false) : T2.orc f args = none := orcOf_none (fun p hp e => by
  simp only [orcL, List.mem_cons, List.not_mem_nil, or_false] at hp
  rcases hp with rfl | rfl <;> (subst e; exact absurd h1 (by decide)))
theorem ev_fn {f : FuncId} {args : List AV} {rf : Refs} {o : Out} {rf' : Refs} {af : AFn} (hne : ([f_show_Word, f_strings_ReplaceAll] : List Nat).contains f = false) (hf : lookupF tabl f = some af)
  (h : lenK rf 0 fun nb => entK args 0 fun sl => vc T2 nb af.body (endN T2 af nb (fun a b => EndE a b o rf')) (endX T2 af nb (fun a b => EndE a b o rf')) sl rf [] none) : Ev T2 f args rf o rf' := by
 exact ev_vc (t2_none args hne) hf h
theorem shown_ev0 : Ev T2 f_law12_shown [] [] (.ret (bl true)) [] := ⟨60, by kernel_rfl⟩
theorem shown_ev (rf : Refs) : Ev T2 f_law12_shown [] rf (.ret (bl true)) rf := Ev.any shown_ev0 rfl rf
def quoteM (s : List UInt8) : List UInt8 := [39] ++ escA q4 s ++ [39]
theorem quoteM_length (s : List UInt8) : (quoteM s).length = s.length + 2 + 3 * s.count 39 := by
 have := escA_length q4 s
 simp only [quoteM, List.length_append, List.length_cons, List.length_nil]
 have h4 : q4.length = 4 := rfl
 rw [h4] at this
 omega
theorem replE {s : List UInt8} {rf : Refs} {k : Out → Refs → Prop} (hs : s.length ≤ 2 ^ 20) (h : k (.ret (str (escA q4 s))) rf) : CallE T2 f_strings_ReplaceAll [str s, str [39], str [39, 92, 39, 39]] rf k := by
 have e : replO [str s, str [39], str [39, 92, 39, 39]] = some (str (escA q4 s)) := ?_
 ·exact callE_ev (ev_orc (f := f_strings_ReplaceAll) (T := T2) e) h
 simp only [replO]
 have := List.count_le_length (a := (39 : UInt8)) (l := s)
 rw [if_pos (by rw [Lib.count_one]; simp only [List.length_cons, List.length_nil]; omega)]
 rw [show [39, 92, 39, 39] = q4 from rfl, replaceAll_esc (by decide)]
theorem Quote_ev (s : List UInt8) (hs : s.length ≤ 2 ^ 20) (rf : Refs) : Ev T2 f_show_Quote [str s] rf (.ret (str (quoteM s))) rf := by
 refine Ev.any ?_ rfl rf
 have h1 := quoteM_length s
 have h2 := List.count_le_length (a := (39 : UInt8)) (l := s)
 have h3 := escA_length q4 s
 have h4 : q4.length = 4 := rfl
 rw [h4] at h3
 refine ev_fn rfl rfl ?_
 (repeat' (first| (intro (u_ : Unit); clear u_)| refine condT ?_| refine condF ?_| refine condp (by assumption) ?_| refine condn (by assumption) ?_| refine condN ?_| refine idxSb (by assumption) ?_| refine replE hs ?_| refine strC (by simp only [List.length_cons, List.length_nil, List.length_append]; omega) ?_| (refine condD ?_ ?_ <;> intro hq_ <;> first | (exfalso; omega) | skip)| (refine idxS (by omega) ?_; intro b_ hb_; have hl_ := b_.toNat_lt)| refine wrA (by omega) ?_| refine wrS (by omega) (by omega) ?_| refine wrI (by omega) (by omega) ?_| refine wrBA (by omega) ?_| refine wrB (by omega) (by omega) ?_| refine strC (by omega) ?_| refine nilB rfl ?_))
 exact ⟨rfl, rfl⟩
theorem escA_append (new s t : List UInt8) : escA new (s ++ t) = escA new s ++ escA new t := by
 induction s with
 | nil => rfl
 | cons c s ih => simp [escA, ih]
theorem take_snoc {s : List UInt8} {i : Nat} {c : UInt8} (h : s[i]? = some c) : s.take (i + 1) = s.take i ++ [c] := by
 rw [List.take_add_one, h]; rfl
theorem subE {l x : List UInt8} {i j : Nat} {c : List UInt8 → Prop} (e : (l.take j).drop i = x) (h1 : i ≤ j) (h2 : j ≤ l.length) (h : c x) : SubE l (some (i : Int)) (some (j : Int)) c := subBo h1 h2 (by rw [e]; exact h)
theorem rQuote_ev (s : List UInt8) (hs : s.length ≤ 2 ^ 20) (rf : Refs) : Ev T2 f_ref12_Quote [str s] rf (.ret (str (quoteM s))) rf := by
 refine Ev.any ?_ rfl rf
 have hlen : ∀ i, (escA q4 (s.take i)).length ≤ 4 * 2 ^ 20 := fun i => by
  have h2 := List.count_le_length (a := (39 : UInt8)) (l := s.take i)
  have h3 := escA_length q4 (s.take i)
  have h4 : q4.length = 4 := rfl
  have h5 : (s.take i).length ≤ s.length := by rw [List.length_take]; omega
  rw [h4] at h3
  omega
 refine ev_fn rfl rfl ?_
 (repeat' (first| (intro (u_ : Unit); clear u_)| refine condT ?_| refine condF ?_| refine condp (by assumption) ?_| refine condn (by assumption) ?_| refine condN ?_| refine idxSb (by assumption) ?_| (refine condD ?_ ?_ <;> intro hq_ <;> first | (exfalso; omega) | skip)| (refine idxS (by omega) ?_; intro b_ hb_; have hl_ := b_.toNat_lt)| refine wrA (by omega) ?_| refine wrS (by omega) (by omega) ?_| refine wrI (by omega) (by omega) ?_| refine wrBA (by omega) ?_| refine wrB (by omega) (by omega) ?_| refine strC (by omega) ?_| refine nilB rfl ?_))
 refine loopR (fun (i : Nat) => [(3, str ([39] ++ escA q4 (s.take i))), (4, i64 i)]) (fun _ => []) (fun i => s.length - i) (fun i => i ≤ s.length) 0 (by omega) (by simp [escA]; rfl) (by rfl) ?_
 intro i hi
 have hl := hlen i
 by_cases hil : i < s.length
 ·obtain ⟨c, hc⟩ : ∃ c, s[i]? = some c := ⟨s[i], List.getElem?_eq_getElem hil⟩
  have e1 : escA q4 (s.take (i + 1)) = escA q4 (s.take i) ++ escA q4 [c] := by rw [take_snoc hc, escA_append]
  have e2 : (s.take (i + 1)).drop i = [c] := by rw [take_snoc hc, List.drop_left' (by rw [List.length_take]; omega)]
  have hl1 := hlen (i + 1)
  by_cases h39 : c = 39
  ·subst h39
   have e3 : [39] ++ escA q4 (s.take i) ++ [39, 92, 39, 39] = [39] ++ escA q4 (s.take (i + 1)) := by rw [e1]; simp [escA, q4]
   (repeat' (first| (intro (u_ : Unit); clear u_)| refine condT ?_| refine condF ?_| refine condp (by assumption) ?_| refine condn (by assumption) ?_| refine condN ?_| refine idxSb (by assumption) ?_| refine idxSb hc ?_| refine strC (by simp only [List.length_cons, List.length_nil, List.length_append]; omega) ?_| (refine condD ?_ ?_ <;> intro hq_ <;> first | (exfalso; omega) | skip)| (refine idxS (by omega) ?_; intro b_ hb_; have hl_ := b_.toNat_lt)| refine wrA (by omega) ?_| refine wrS (by omega) (by omega) ?_| refine wrI (by omega) (by omega) ?_| refine wrBA (by omega) ?_| refine wrB (by omega) (by omega) ?_| refine strC (by omega) ?_| refine nilB rfl ?_))
   rw [e3]
   exact ⟨i + 1, by omega, by omega, rfl, rfl, rfl, rfl⟩
  ·have hc39 : c.toNat ≠ 39 := fun e => h39 (UInt8.toNat_inj.1 e)
   have e3 : [39] ++ escA q4 (s.take i) ++ [c] = [39] ++ escA q4 (s.take (i + 1)) := by rw [e1]; simp [escA, h39]
   (repeat' (first| (intro (u_ : Unit); clear u_)| refine condT ?_| refine condF ?_| refine condp (by assumption) ?_| refine condn (by assumption) ?_| refine condN ?_| refine idxSb (by assumption) ?_| refine idxSb hc ?_| refine strC (by simp only [List.length_cons, List.length_nil, List.length_append]; omega) ?_| refine subE e2 (by omega) (by omega) ?_| (refine condD ?_ ?_ <;> intro hq_ <;> first | (exfalso; omega) | skip)| (refine idxS (by omega) ?_; intro b_ hb_; have hl_ := b_.toNat_lt)| refine wrA (by omega) ?_| refine wrS (by omega) (by omega) ?_| refine wrI (by omega) (by omega) ?_| refine wrBA (by omega) ?_| refine wrB (by omega) (by omega) ?_| refine strC (by omega) ?_| refine nilB rfl ?_))
   rw [e3]
   exact ⟨i + 1, by omega, by omega, rfl, rfl, rfl, rfl⟩
 ·have e4 : s.take i = s := List.take_of_length_le (by omega)
  rw [e4] at hl
  have hi' : i = s.length := by omega
  subst hi'
  rw [e4]
  (repeat' (first| (intro (u_ : Unit); clear u_)| refine condT ?_| refine condF ?_| refine condp (by assumption) ?_| refine condn (by assumption) ?_| refine condN ?_| refine idxSb (by assumption) ?_| refine strC (by simp only [List.length_cons, List.length_nil, List.length_append]; omega) ?_| (refine condD ?_ ?_ <;> intro hq_ <;> first | (exfalso; omega) | skip)| (refine idxS (by omega) ?_; intro b_ hb_; have hl_ := b_.toNat_lt)| refine wrA (by omega) ?_| refine wrS (by omega) (by omega) ?_| refine wrI (by omega) (by omega) ?_| refine wrBA (by omega) ?_| refine wrB (by omega) (by omega) ?_| refine strC (by omega) ?_| refine nilB rfl ?_))
  exact ⟨rfl, rfl⟩
theorem ShowLengths_ev (s : List UInt8) (hs : s.length ≤ 2 ^ 47) (t : List UInt8) (ht : t.length ≤ 2 ^ 47) (rf : Refs) : Ev T2 f_law12_ShowLengths [str s, str t] rf (.ret (bl true)) rf := by
 refine Ev.any ?_ rfl rf
 by_cases hlen : s.length + t.length > 2000
 ·refine ev_fn rfl rfl ?_
  (repeat' (first| (intro (u_ : Unit); clear u_)| refine condT ?_| refine condF ?_| refine condp (by assumption) ?_| refine condn (by assumption) ?_| refine condN ?_| refine idxSb (by assumption) ?_| refine callE_ev (shown_ev _) ?_| (refine condD ?_ ?_ <;> intro hq_ <;> first | (exfalso; omega) | skip)| (refine idxS (by omega) ?_; intro b_ hb_; have hl_ := b_.toNat_lt)| refine wrA (by omega) ?_| refine wrS (by omega) (by omega) ?_| refine wrI (by omega) (by omega) ?_| refine wrBA (by omega) ?_| refine wrB (by omega) (by omega) ?_| refine strC (by omega) ?_| refine nilB rfl ?_))
  exact ⟨rfl, rfl⟩
 have h1 := quoteM_length s
 have hq : (decide (quoteM s = quoteM t) == decide (s = t)) = true := by
  rw [beq_iff_eq, decide_eq_decide]
  refine ⟨fun e => escA_inj s t ?_, fun e => by rw [e]⟩
  simp only [quoteM, List.append_assoc] at e
  exact List.append_cancel_left e
 have hc := List.count_le_length (a := (39 : UInt8)) (l := s)
 have hcnt : ∀ i, (s.take i).count 39 ≤ s.length := fun i => by
  have := List.count_le_length (a := (39 : UInt8)) (l := s.take i)
  have h5 : (s.take i).length ≤ s.length := by rw [List.length_take]; omega
  omega
 refine ev_fn rfl rfl ?_
 (repeat' (first| (intro (u_ : Unit); clear u_)| refine condT ?_| refine condF ?_| refine condp (by assumption) ?_| refine condn (by assumption) ?_| refine condN ?_| refine idxSb (by assumption) ?_| refine callE_ev (shown_ev _) ?_| (refine condD ?_ ?_ <;> intro hq_ <;> first | (exfalso; omega) | skip)| (refine idxS (by omega) ?_; intro b_ hb_; have hl_ := b_.toNat_lt)| refine wrA (by omega) ?_| refine wrS (by omega) (by omega) ?_| refine wrI (by omega) (by omega) ?_| refine wrBA (by omega) ?_| refine wrB (by omega) (by omega) ?_| refine strC (by omega) ?_| refine nilB rfl ?_))
 refine loopR (fun (i : Nat) => [(6, i64 ((s.take i).count 39 : Nat)), (7, i64 i)]) (fun _ => []) (fun i => s.length - i) (fun i => i ≤ s.length) 0 (by omega) (by rfl) (by rfl) ?_
 intro i hi
 have hn := hcnt i
 by_cases hil : i < s.length
 ·obtain ⟨c, hc⟩ : ∃ c, s[i]? = some c := ⟨s[i], List.getElem?_eq_getElem hil⟩
  have hn1 := hcnt (i + 1)
  by_cases h39 : c = 39
  ·subst h39
   have e1 : (s.take (i + 1)).count 39 = (s.take i).count 39 + 1 := by rw [take_snoc hc, List.count_append]; rfl
   (repeat' (first| (intro (u_ : Unit); clear u_)| refine condT ?_| refine condF ?_| refine condp (by assumption) ?_| refine condn (by assumption) ?_| refine condN ?_| refine idxSb (by assumption) ?_| refine idxSb hc ?_| (refine condD ?_ ?_ <;> intro hq_ <;> first | (exfalso; omega) | skip)| (refine idxS (by omega) ?_; intro b_ hb_; have hl_ := b_.toNat_lt)| refine wrA (by omega) ?_| refine wrS (by omega) (by omega) ?_| refine wrI (by omega) (by omega) ?_| refine wrBA (by omega) ?_| refine wrB (by omega) (by omega) ?_| refine strC (by omega) ?_| refine nilB rfl ?_))
   rw [← e1]
   exact ⟨i + 1, by omega, by omega, rfl, rfl, rfl, rfl⟩
  ·have hc39 : c.toNat ≠ 39 := fun e => h39 (UInt8.toNat_inj.1 e)
   have e1 : (s.take (i + 1)).count 39 = (s.take i).count 39 := by rw [take_snoc hc, List.count_append]; simp [h39]
   (repeat' (first| (intro (u_ : Unit); clear u_)| refine condT ?_| refine condF ?_| refine condp (by assumption) ?_| refine condn (by assumption) ?_| refine condN ?_| refine idxSb (by assumption) ?_| refine idxSb hc ?_| (refine condD ?_ ?_ <;> intro hq_ <;> first | (exfalso; omega) | skip)| (refine idxS (by omega) ?_; intro b_ hb_; have hl_ := b_.toNat_lt)| refine wrA (by omega) ?_| refine wrS (by omega) (by omega) ?_| refine wrI (by omega) (by omega) ?_| refine wrBA (by omega) ?_| refine wrB (by omega) (by omega) ?_| refine strC (by omega) ?_| refine nilB rfl ?_))
   rw [← e1]
   exact ⟨i + 1, by omega, by omega, rfl, rfl, rfl, rfl⟩
 ·have e4 : s.take i = s := List.take_of_length_le (by omega)
  have hi' : i = s.length := by omega
  subst hi'
  rw [e4]
  (repeat' (first| (intro (u_ : Unit); clear u_)| refine condT ?_| refine condF ?_| refine condp (by assumption) ?_| refine condn (by assumption) ?_| refine condN ?_| refine idxSb (by assumption) ?_| refine callE_ev (Quote_ev s (by omega) _) ?_| refine callE_ev (Quote_ev t (by omega) _) ?_| refine callE_ev (rQuote_ev s (by omega) _) ?_| refine condn (p := (decide (quoteM s = quoteM t) == decide (s = t)) = false) (by rw [hq]; decide) ?_| refine condt hq ?_| (refine condD ?_ ?_ <;> intro hq_ <;> first | (exfalso; omega) | skip)| (refine idxS (by omega) ?_; intro b_ hb_; have hl_ := b_.toNat_lt)| refine wrA (by omega) ?_| refine wrS (by omega) (by omega) ?_| refine wrI (by omega) (by omega) ?_| refine wrBA (by omega) ?_| refine wrB (by omega) (by omega) ?_| refine strC (by omega) ?_| refine nilB rfl ?_))
  simp only [decide_true]
  exact ⟨rfl, rfl⟩
end Go.Ab.R12
namespace Go.Ab.R12
set_option maxRecDepth 100000
set_option linter.all false
set_option maxHeartbeats 4000000
def runL (p : UInt8 → Bool) : List UInt8 → Nat
 | [] => 0
 | c :: l => if p c then runL p l + 1 else 0
def runA (p : UInt8 → Bool) (s : List UInt8) (i : Nat) : Nat := runL p (s.drop i)
section
variable {p : UInt8 → Bool} {s : List UInt8} {i : Nat} {c : UInt8}
theorem drop_get (h : s[i]? = some c) : s.drop i = c :: s.drop (i + 1) := by
 obtain ⟨h1, h2⟩ := List.getElem?_eq_some_iff.1 h
 rw [← List.getElem_cons_drop (h := h1), h2]
theorem get_drop {r : List UInt8} (h : s.drop i = c :: r) : s[i]? = some c ∧ s.drop (i + 1) = r := by
 have h1 : (s.drop i)[0]? = some c := by rw [h]; rfl
 rw [List.getElem?_drop, Nat.add_zero] at h1
 exact ⟨h1, by rw [drop_get h1] at h; exact (List.cons.inj h).2⟩
theorem get_lt (h : s[i]? = some c) : i < s.length := (List.getElem?_eq_some_iff.1 h).1
theorem runA_end (h : s.length ≤ i) : runA p s i = 0 := by unfold runA; rw [List.drop_eq_nil_of_le h]; rfl
theorem runA_no (h : s[i]? = some c) (hp : p c = false) : runA p s i = 0 := by unfold runA; rw [drop_get h]; simp [runL, hp]
theorem runA_go (h : s[i]? = some c) (hp : p c = true) : runA p s i = runA p s (i + 1) + 1 := by unfold runA; rw [drop_get h]; simp [runL, hp]
theorem runL_le : ∀ l : List UInt8, runL p l ≤ l.length
 | [] => Nat.le_refl _
 | c :: l => by have := runL_le l; simp only [runL, List.length_cons]; split <;> omega
theorem runA_le (h : i ≤ s.length) : i + runA p s i ≤ s.length := by
 have := runL_le (p := p) (s.drop i)
 rw [List.length_drop] at this
 unfold runA; omega
end
theorem at0 {f : FuncId} {more : List AV} {c c' : List AV} {X : Refs} {o : Out} (hm : AV.refBs more = 0) (hc : AV.refBs c = 0) (hc' : AV.refBs c' = 0) (ho : o.val.refB = 0) (h : Ev T2 f (.ptr 0 0 :: more) [c] o [c']) :
  Ev T2 f (.ptr 0 0 :: more) (c :: X) o (c' :: X) := by
 have hl : okL [0] (c :: X).length = true := rfl
 have h1 := h.at [0] (RF := c :: X) hl rfl rfl (by simp only [List.map_cons, List.map_nil, mvs_clean _ hc]; rfl)
 rw [Out.mv_clean ho] at h1
 simp only [List.map_cons, List.map_nil, mvs_clean _ hc', AV.mvs, mvs_clean _ hm, scat, List.set_cons_zero] at h1
 exact h1
def tr (s : List UInt8) (i : Nat) : List AV := [str s, i64 i, i64 0, i64 0]
theorem tr_b (s : List UInt8) (i : Nat) : AV.refBs (tr s i) = 0 := by simp [tr, AV.refBs, AV.refB]
section
variable {s : List UInt8} {i : Nat} {c : UInt8} {X : Refs} {k : Out → Refs → Prop}
theorem end_ev (s : List UInt8) (i : Nat) : Ev T2 f_ref11_tree_end [.ptr 0 0] [tr s i] (.ret (bl (decide (s.length ≤ i)))) [tr s i] := by
 refine ev_fn rfl rfl ?_
 (repeat' (first| (intro (u_ : Unit); clear u_)| refine condT ?_| refine condF ?_| refine condp (by assumption) ?_| refine condn (by assumption) ?_| refine condN ?_| refine idxSb (by assumption) ?_| (refine condD ?_ ?_ <;> intro hq_ <;> first | (exfalso; omega) | skip)| (refine idxS (by omega) ?_; intro b_ hb_; have hl_ := b_.toNat_lt)| refine wrA (by omega) ?_| refine wrS (by omega) (by omega) ?_| refine wrI (by omega) (by omega) ?_| refine wrBA (by omega) ?_| refine wrB (by omega) (by omega) ?_| refine strC (by omega) ?_| refine nilB rfl ?_))
 rw [show decide ((s.length : Int) ≤ (i : Int)) = decide (s.length ≤ i) by rw [decide_eq_decide]; omega]
 exact ⟨rfl, rfl⟩
theorem endE (h1 : i < s.length → k (.ret (bl false)) (tr s i :: X)) (h2 : s.length ≤ i → k (.ret (bl true)) (tr s i :: X)) : CallE T2 f_ref11_tree_end [.ptr 0 0] (tr s i :: X) k := by
 refine ⟨_, _, at0 rfl (tr_b _ _) (tr_b _ _) rfl (end_ev s i), ?_⟩
 by_cases h : s.length ≤ i
 ·rw [decide_eq_true h]; exact h2 h
 ·rw [decide_eq_false h]; exact h1 (by omega)
theorem c_ev (h : s[i]? = some c) : Ev T2 f_ref11_tree_c [.ptr 0 0] [tr s i] (.ret (u8 c.toNat)) [tr s i] := by
 have hl := get_lt h
 refine ev_fn rfl rfl ?_
 (repeat' (first| (intro (u_ : Unit); clear u_)| refine condT ?_| refine condF ?_| refine condp (by assumption) ?_| refine condn (by assumption) ?_| refine condN ?_| refine idxSb (by assumption) ?_| refine idxSb h ?_| (refine condD ?_ ?_ <;> intro hq_ <;> first | (exfalso; omega) | skip)| (refine idxS (by omega) ?_; intro b_ hb_; have hl_ := b_.toNat_lt)| refine wrA (by omega) ?_| refine wrS (by omega) (by omega) ?_| refine wrI (by omega) (by omega) ?_| refine wrBA (by omega) ?_| refine wrB (by omega) (by omega) ?_| refine strC (by omega) ?_| refine nilB rfl ?_))
 exact ⟨rfl, rfl⟩
theorem cE (h : s[i]? = some c) (h' : k (.ret (u8 c.toNat)) (tr s i :: X)) : CallE T2 f_ref11_tree_c [.ptr 0 0] (tr s i :: X) k := ⟨_, _, at0 rfl (tr_b _ _) (tr_b _ _) rfl (c_ev h), h'⟩
theorem in_ev (c : UInt8) (l : List UInt8) (hl : l.length ≤ 2 ^ 30) (rf : Refs) : Ev T2 f_ref11_in [u8 c.toNat, str l] rf (.ret (bl (l.contains c))) rf := by
 refine Ev.any ?_ rfl rf
 refine ev_fn rfl rfl ?_
 (repeat' (first| (intro (u_ : Unit); clear u_)| refine condT ?_| refine condF ?_| refine condp (by assumption) ?_| refine condn (by assumption) ?_| refine condN ?_| refine idxSb (by assumption) ?_| (refine condD ?_ ?_ <;> intro hq_ <;> first | (exfalso; omega) | skip)| (refine idxS (by omega) ?_; intro b_ hb_; have hl_ := b_.toNat_lt)| refine wrA (by omega) ?_| refine wrS (by omega) (by omega) ?_| refine wrI (by omega) (by omega) ?_| refine wrBA (by omega) ?_| refine wrB (by omega) (by omega) ?_| refine strC (by omega) ?_| refine nilB rfl ?_))
 refine loopR (fun i : Nat => [(5, i64 i)]) (fun _ => []) (fun i => l.length - i) (fun i => i ≤ l.length ∧ (l.drop i).contains c = l.contains c) 0 ⟨by omega, by simp⟩ (by rfl) (by rfl) ?_
 rintro i ⟨hi, hP⟩
 by_cases hil : i < l.length
 ·obtain ⟨b, hb⟩ : ∃ b, l[i]? = some b := ⟨l[i], List.getElem?_eq_getElem hil⟩
  rw [drop_get hb, List.contains_cons] at hP
  by_cases hbc : b = c
  ·subst hbc
   (repeat' (first| (intro (u_ : Unit); clear u_)| refine condT ?_| refine condF ?_| refine condp (by assumption) ?_| refine condn (by assumption) ?_| refine condN ?_| refine idxSb (by assumption) ?_| refine idxSb hb ?_| (refine condD ?_ ?_ <;> intro hq_ <;> first | (exfalso; omega) | skip)| (refine idxS (by omega) ?_; intro b_ hb_; have hl_ := b_.toNat_lt)| refine wrA (by omega) ?_| refine wrS (by omega) (by omega) ?_| refine wrI (by omega) (by omega) ?_| refine wrBA (by omega) ?_| refine wrB (by omega) (by omega) ?_| refine strC (by omega) ?_| refine nilB rfl ?_))
   rw [← hP]; simp
   exact ⟨rfl, rfl⟩
  ·have hn : b.toNat ≠ c.toNat := fun e => hbc (UInt8.toNat_inj.1 e)
   (repeat' (first| (intro (u_ : Unit); clear u_)| refine condT ?_| refine condF ?_| refine condp (by assumption) ?_| refine condn (by assumption) ?_| refine condN ?_| refine idxSb (by assumption) ?_| refine idxSb hb ?_| (refine condD ?_ ?_ <;> intro hq_ <;> first | (exfalso; omega) | skip)| (refine idxS (by omega) ?_; intro b_ hb_; have hl_ := b_.toNat_lt)| refine wrA (by omega) ?_| refine wrS (by omega) (by omega) ?_| refine wrI (by omega) (by omega) ?_| refine wrBA (by omega) ?_| refine wrB (by omega) (by omega) ?_| refine strC (by omega) ?_| refine nilB rfl ?_))
   refine ⟨i + 1, ⟨by omega, ?_⟩, by omega, rfl, rfl, rfl, rfl⟩
   rw [← hP, show (c == b) = false by simpa using fun e => hbc e.symm]; rfl
 ·rw [List.drop_eq_nil_of_le (by omega)] at hP
  (repeat' (first| (intro (u_ : Unit); clear u_)| refine condT ?_| refine condF ?_| refine condp (by assumption) ?_| refine condn (by assumption) ?_| refine condN ?_| refine idxSb (by assumption) ?_| (refine condD ?_ ?_ <;> intro hq_ <;> first | (exfalso; omega) | skip)| (refine idxS (by omega) ?_; intro b_ hb_; have hl_ := b_.toNat_lt)| refine wrA (by omega) ?_| refine wrS (by omega) (by omega) ?_| refine wrI (by omega) (by omega) ?_| refine wrBA (by omega) ?_| refine wrB (by omega) (by omega) ?_| refine strC (by omega) ?_| refine nilB rfl ?_))
  rw [← hP]
  exact ⟨rfl, rfl⟩
def plL : List UInt8 := [32, 9, 10, 59, 124, 38, 60, 62, 40, 41, 34, 39, 96, 36, 92, 42, 63, 91, 93, 123, 125, 126]
def plain (c : UInt8) : Bool := !(plL.contains c)
theorem plain_ev (c : UInt8) (rf : Refs) : Ev T2 f_ref11_plain [u8 c.toNat] rf (.ret (bl (plain c))) rf := by
 refine Ev.any ?_ rfl rf
 refine ev_fn rfl rfl ?_
 (repeat' (first| (intro (u_ : Unit); clear u_)| refine condT ?_| refine condF ?_| refine condp (by assumption) ?_| refine condn (by assumption) ?_| refine condN ?_| refine idxSb (by assumption) ?_| refine callE_ev (in_ev c plL (by decide) _) ?_| (refine condD ?_ ?_ <;> intro hq_ <;> first | (exfalso; omega) | skip)| (refine idxS (by omega) ?_; intro b_ hb_; have hl_ := b_.toNat_lt)| refine wrA (by omega) ?_| refine wrS (by omega) (by omega) ?_| refine wrI (by omega) (by omega) ?_| refine wrBA (by omega) ?_| refine wrB (by omega) (by omega) ?_| refine strC (by omega) ?_| refine nilB rfl ?_))
 exact ⟨rfl, rfl⟩
def blk (c : UInt8) : Bool := c == 32 || c == 9
theorem blk_t {c : UInt8} (h : c.toNat = 32 ∨ c.toNat = 9) : blk c = true := by
 rcases h with h | h
 ·rw [show c = 32 from UInt8.toNat_inj.1 h]; rfl
 ·rw [show c = 9 from UInt8.toNat_inj.1 h]; rfl
theorem blk_f {c : UInt8} (h1 : c.toNat ≠ 32) (h2 : c.toNat ≠ 9) : blk c = false := by
 unfold blk
 rw [Bool.or_eq_false_iff]
 exact ⟨by simpa using fun e => h1 (by rw [e]; rfl), by simpa using fun e => h2 (by rw [e]; rfl)⟩
def cmt (c : UInt8) : Bool := !(c == 10)
theorem cmt_t {c : UInt8} (h : c.toNat ≠ 10) : cmt c = true := by
 unfold cmt; simpa using fun e => h (by rw [e]; rfl)
theorem cmt_f {c : UInt8} (h : c.toNat = 10) : cmt c = false := by
 rw [show c = 10 from UInt8.toNat_inj.1 h]; rfl
def whM (s : List UInt8) (i : Nat) : Nat :=
 let j := i + runA blk s i
 if s[j]? = some 35 then j + runA cmt s j else j
end
end Go.Ab.R12
namespace Go.Ab.R12
set_option maxRecDepth 100000
set_option linter.all false
set_option maxHeartbeats 4000000
section
variable {s : List UInt8} {i : Nat} {c : UInt8} {X : Refs} {k : Out → Refs → Prop}
theorem get_some {i : Nat} (h : i < s.length) : ∃ c, s[i]? = some c := ⟨s[i], List.getElem?_eq_getElem h⟩
theorem cE' (h : ∀ c, s[i]? = some c → k (.ret (u8 c.toNat)) (tr s i :: X)) (hi : i < s.length) : CallE T2 f_ref11_tree_c [.ptr 0 0] (tr s i :: X) k := by
 obtain ⟨c, hc⟩ := get_some hi
 exact cE hc (h c hc)
theorem white_ev (s : List UInt8) (i : Nat) (hi : i ≤ s.length) (hs : s.length ≤ 2 ^ 30) : Ev T2 f_ref11_tree_white [.ptr 0 0] [tr s i] (.ret (.tup [])) [tr s (whM s i)] := by
 generalize hR : i + runA blk s i = R
 have hRl : R ≤ s.length := by have := runA_le (p := blk) hi; omega
 refine ev_fn rfl rfl ?_
 (repeat' (first| (intro (u_ : Unit); clear u_)| refine condT ?_| refine condF ?_| refine condp (by assumption) ?_| refine condn (by assumption) ?_| refine condN ?_| refine idxSb (by assumption) ?_| (refine condD ?_ ?_ <;> intro hq_ <;> first | (exfalso; omega) | skip)| (refine idxS (by omega) ?_; intro b_ hb_; have hl_ := b_.toNat_lt)| refine wrA (by omega) ?_| refine wrS (by omega) (by omega) ?_| refine wrI (by omega) (by omega) ?_| refine wrBA (by omega) ?_| refine wrB (by omega) (by omega) ?_| refine strC (by omega) ?_| refine nilB rfl ?_))
 refine loopR (fun _ : Nat => []) (fun j => [(0, tr s j)]) (fun j => s.length - j) (fun j => j ≤ s.length ∧ j + runA blk s j = R) i ⟨hi, hR⟩ (by rfl) (by rfl) ?_
 rintro j ⟨hj, hP⟩
 by_cases hb : ∃ c, s[j]? = some c ∧ blk c = true
 ·obtain ⟨c, hc, hbc⟩ := hb
  have hl := get_lt hc
  have hcc : c.toNat = 32 ∨ c.toNat = 9 := by
   unfold blk at hbc
   rw [Bool.or_eq_true, beq_iff_eq, beq_iff_eq] at hbc
   rcases hbc with h | h <;> (subst h; first | exact .inl rfl | exact .inr rfl)
  (repeat' (first| (intro (u_ : Unit); clear u_)| refine condT ?_| refine condF ?_| refine condp (by assumption) ?_| refine condn (by assumption) ?_| refine condN ?_| refine idxSb (by assumption) ?_| refine endE (fun h_ => ?_) (fun h_ => absurd h_ (by omega))| refine cE hc ?_| (refine condD ?_ ?_ <;> intro hq_ <;> first | (exfalso; omega) | skip)| (refine idxS (by omega) ?_; intro b_ hb_; have hl_ := b_.toNat_lt)| refine wrA (by omega) ?_| refine wrS (by omega) (by omega) ?_| refine wrI (by omega) (by omega) ?_| refine wrBA (by omega) ?_| refine wrB (by omega) (by omega) ?_| refine strC (by omega) ?_| refine nilB rfl ?_))
  all_goals exact ⟨j + 1, ⟨by omega, by rw [runA_go hc hbc] at hP; omega⟩, by omega, rfl, rfl, rfl, rfl⟩
 ·have hjR : j = R := by
   rcases Nat.lt_or_ge j s.length with h | h
   ·obtain ⟨c, hc⟩ := get_some h
    rw [runA_no hc (by simpa using fun h => hb ⟨c, hc, h⟩)] at hP
    exact hP
   ·rw [runA_end h] at hP; exact hP
  clear hP
  subst hjR
  by_cases hjl : j < s.length
  ·obtain ⟨c, hc⟩ := get_some hjl
   have hn : c.toNat ≠ 32 ∧ c.toNat ≠ 9 := ⟨fun h => hb ⟨c, hc, blk_t (.inl h)⟩, fun h => hb ⟨c, hc, blk_t (.inr h)⟩⟩
   have hn1 := hn.1
   have hn2 := hn.2
   by_cases h35 : c = 35
   ·subst h35
    have hw : whM s i = j + runA cmt s j := by unfold whM; simp only [hR]; rw [if_pos hc]
    rw [hw]
    generalize hQ : j + runA cmt s j = Q
    (repeat' (first| (intro (u_ : Unit); clear u_)| refine condT ?_| refine condF ?_| refine condp (by assumption) ?_| refine condn (by assumption) ?_| refine condN ?_| refine idxSb (by assumption) ?_| refine endE (fun h_ => ?_) (fun h_ => absurd h_ (by omega))| refine cE hc ?_| (refine condD ?_ ?_ <;> intro hq_ <;> first | (exfalso; omega) | skip)| (refine idxS (by omega) ?_; intro b_ hb_; have hl_ := b_.toNat_lt)| refine wrA (by omega) ?_| refine wrS (by omega) (by omega) ?_| refine wrI (by omega) (by omega) ?_| refine wrBA (by omega) ?_| refine wrB (by omega) (by omega) ?_| refine strC (by omega) ?_| refine nilB rfl ?_))
    refine loopR (fun _ : Nat => []) (fun j => [(0, tr s j)]) (fun j => s.length - j) (fun j => j ≤ s.length ∧ j + runA cmt s j = Q) j ⟨hj, hQ⟩ (by rfl) (by rfl) ?_
    rintro n ⟨hn, hP⟩
    (repeat' (first| (intro (u_ : Unit); clear u_)| refine condT ?_| refine condF ?_| refine condp (by assumption) ?_| refine condn (by assumption) ?_| refine condN ?_| refine idxSb (by assumption) ?_| refine endE (fun h_ => ?_) (fun h_ => ?_)| (refine cE' (fun c' hc' => ?_) (by assumption); have := c'.toNat_lt)| (refine condD ?_ ?_ <;> intro hq_ <;> first | (exfalso; omega) | skip)| (refine idxS (by omega) ?_; intro b_ hb_; have hl_ := b_.toNat_lt)| refine wrA (by omega) ?_| refine wrS (by omega) (by omega) ?_| refine wrI (by omega) (by omega) ?_| refine wrBA (by omega) ?_| refine wrB (by omega) (by omega) ?_| refine strC (by omega) ?_| refine nilB rfl ?_))
    all_goals first
     | exact ⟨n + 1, ⟨by omega, by rw [runA_go (by assumption) (cmt_t (by omega))] at hP; omega⟩, by omega, rfl, rfl, rfl, rfl⟩
     | (rw [runA_no (by assumption) (cmt_f (by omega))] at hP; subst hP; exact ⟨rfl, rfl⟩)
     | (rw [runA_end (by assumption)] at hP; subst hP; exact ⟨rfl, rfl⟩)
   ·have hw : whM s i = j := by unfold whM; simp only [hR]; rw [if_neg (by rw [hc]; simpa using h35)]
    have h35' : c.toNat ≠ 35 := fun e => h35 (UInt8.toNat_inj.1 e)
    rw [hw]
    (repeat' (first| (intro (u_ : Unit); clear u_)| refine condT ?_| refine condF ?_| refine condp (by assumption) ?_| refine condn (by assumption) ?_| refine condN ?_| refine idxSb (by assumption) ?_| refine endE (fun h_ => ?_) (fun h_ => absurd h_ (by omega))| refine cE hc ?_| (refine condD ?_ ?_ <;> intro hq_ <;> first | (exfalso; omega) | skip)| (refine idxS (by omega) ?_; intro b_ hb_; have hl_ := b_.toNat_lt)| refine wrA (by omega) ?_| refine wrS (by omega) (by omega) ?_| refine wrI (by omega) (by omega) ?_| refine wrBA (by omega) ?_| refine wrB (by omega) (by omega) ?_| refine strC (by omega) ?_| refine nilB rfl ?_))
    all_goals exact ⟨rfl, rfl⟩
  ·have hw : whM s i = j := by unfold whM; simp only [hR]; rw [if_neg (by rw [List.getElem?_eq_none (by omega)]; simp)]
   rw [hw]
   (repeat' (first| (intro (u_ : Unit); clear u_)| refine condT ?_| refine condF ?_| refine condp (by assumption) ?_| refine condn (by assumption) ?_| refine condN ?_| refine idxSb (by assumption) ?_| refine endE (fun h_ => absurd h_ (by omega)) (fun h_ => ?_)| (refine condD ?_ ?_ <;> intro hq_ <;> first | (exfalso; omega) | skip)| (refine idxS (by omega) ?_; intro b_ hb_; have hl_ := b_.toNat_lt)| refine wrA (by omega) ?_| refine wrS (by omega) (by omega) ?_| refine wrI (by omega) (by omega) ?_| refine wrBA (by omega) ?_| refine wrB (by omega) (by omega) ?_| refine strC (by omega) ?_| refine nilB rfl ?_))
   all_goals exact ⟨rfl, rfl⟩
theorem whM_le (hi : i ≤ s.length) : whM s i ≤ s.length := by
 unfold whM
 have h1 := runA_le (p := blk) hi
 have h2 := runA_le (p := cmt) h1
 simp only
 split <;> omega
theorem whiteE {j : Nat} (hi : i ≤ s.length) (hs : s.length ≤ 2 ^ 30) (hj : whM s i = j) (h : k (.ret (.tup [])) (tr s j :: X)) : CallE T2 f_ref11_tree_white [.ptr 0 0] (tr s i :: X) k :=
 ⟨_, _, at0 rfl (tr_b _ _) (tr_b _ _) rfl (white_ev s i hi hs), by rw [hj]; exact h⟩
theorem whM_stay (h : s[i]? = some c) (h1 : blk c = false) (h2 : c ≠ 35) : whM s i = i := by
 unfold whM
 simp only [runA_no h h1, Nat.add_zero, h]
 rw [if_neg (by simpa using h2)]
theorem whM_end (h : s.length ≤ i) : whM s i = i := by
 unfold whM
 simp only [runA_end h, Nat.add_zero, List.getElem?_eq_none h]
 rw [if_neg (by simp)]
theorem whM_one {d : UInt8} (h0 : s[i]? = some 32) (h : s[i + 1]? = some d) (h1 : blk d = false) (h2 : d ≠ 35) : whM s i = i + 1 := by
 unfold whM
 simp only [runA_go h0 (show blk 32 = true from rfl), runA_no h h1, Nat.zero_add, h]
 rw [if_neg (by simpa using h2)]
theorem seps_ev (s : List UInt8) (i j : Nat) (b : Bool) (hi : i ≤ s.length) (hs : s.length ≤ 2 ^ 30) (hw : whM s i = j) (hn : ∀ c, s[j]? = some c → c.toNat ≠ 10 ∧ c.toNat ≠ 59) : Ev T2 f_ref11_tree_seps [.ptr 0 0, bl b] [tr s i] (.ret (bl false)) [tr s j] := by
 have hj : j ≤ s.length := hw ▸ whM_le hi
 by_cases hjl : j < s.length
 ·obtain ⟨c, hc⟩ := get_some hjl
  have h1 := (hn c hc).1
  have h2 := (hn c hc).2
  refine ev_fn rfl rfl ?_
  (repeat' (first| (intro (u_ : Unit); clear u_)| refine condT ?_| refine condF ?_| refine condp (by assumption) ?_| refine condn (by assumption) ?_| refine condN ?_| refine idxSb (by assumption) ?_| refine whiteE (X := []) hi hs hw ?_| (refine condD ?_ ?_ <;> intro hq_ <;> first | (exfalso; omega) | skip)| (refine idxS (by omega) ?_; intro b_ hb_; have hl_ := b_.toNat_lt)| refine wrA (by omega) ?_| refine wrS (by omega) (by omega) ?_| refine wrI (by omega) (by omega) ?_| refine wrBA (by omega) ?_| refine wrB (by omega) (by omega) ?_| refine strC (by omega) ?_| refine nilB rfl ?_))
  refine loopR (fun _ : Unit => []) (fun _ => []) (fun _ => 0) (fun _ => True) () trivial (by rfl) (by rfl) ?_
  intro _ _
  (repeat' (first| (intro (u_ : Unit); clear u_)| refine condT ?_| refine condF ?_| refine condp (by assumption) ?_| refine condn (by assumption) ?_| refine condN ?_| refine idxSb (by assumption) ?_| refine endE (fun h_ => ?_) (fun h_ => absurd h_ (by omega))| refine cE hc ?_| (refine condD ?_ ?_ <;> intro hq_ <;> first | (exfalso; omega) | skip)| (refine idxS (by omega) ?_; intro b_ hb_; have hl_ := b_.toNat_lt)| refine wrA (by omega) ?_| refine wrS (by omega) (by omega) ?_| refine wrI (by omega) (by omega) ?_| refine wrBA (by omega) ?_| refine wrB (by omega) (by omega) ?_| refine strC (by omega) ?_| refine nilB rfl ?_))
  all_goals exact ⟨rfl, rfl⟩
 ·refine ev_fn rfl rfl ?_
  (repeat' (first| (intro (u_ : Unit); clear u_)| refine condT ?_| refine condF ?_| refine condp (by assumption) ?_| refine condn (by assumption) ?_| refine condN ?_| refine idxSb (by assumption) ?_| refine whiteE (X := []) hi hs hw ?_| (refine condD ?_ ?_ <;> intro hq_ <;> first | (exfalso; omega) | skip)| (refine idxS (by omega) ?_; intro b_ hb_; have hl_ := b_.toNat_lt)| refine wrA (by omega) ?_| refine wrS (by omega) (by omega) ?_| refine wrI (by omega) (by omega) ?_| refine wrBA (by omega) ?_| refine wrB (by omega) (by omega) ?_| refine strC (by omega) ?_| refine nilB rfl ?_))
  refine loopR (fun _ : Unit => []) (fun _ => []) (fun _ => 0) (fun _ => True) () trivial (by rfl) (by rfl) ?_
  intro _ _
  (repeat' (first| (intro (u_ : Unit); clear u_)| refine condT ?_| refine condF ?_| refine condp (by assumption) ?_| refine condn (by assumption) ?_| refine condN ?_| refine idxSb (by assumption) ?_| refine endE (fun h_ => absurd h_ (by omega)) (fun h_ => ?_)| (refine condD ?_ ?_ <;> intro hq_ <;> first | (exfalso; omega) | skip)| (refine idxS (by omega) ?_; intro b_ hb_; have hl_ := b_.toNat_lt)| refine wrA (by omega) ?_| refine wrS (by omega) (by omega) ?_| refine wrI (by omega) (by omega) ?_| refine wrBA (by omega) ?_| refine wrB (by omega) (by omega) ?_| refine strC (by omega) ?_| refine nilB rfl ?_))
  all_goals exact ⟨rfl, rfl⟩
theorem sepsE {j : Nat} {b : Bool} (hi : i ≤ s.length) (hs : s.length ≤ 2 ^ 30) (hw : whM s i = j) (hn : ∀ c, s[j]? = some c → c.toNat ≠ 10 ∧ c.toNat ≠ 59) (h : k (.ret (bl false)) (tr s j :: X)) : CallE T2 f_ref11_tree_seps [.ptr 0 0, bl b] (tr s i :: X) k :=
 ⟨_, _, at0 rfl (tr_b _ _) (tr_b _ _) rfl (seps_ev s i j b hi hs hw hn), h⟩
theorem byte1_ev (h : s[i]? = some c) (hs : s.length ≤ 2 ^ 30) : Ev T2 f_ref11_tree_byte1 [.ptr 0 0, u8 c.toNat] [tr s i] (.ret (.tup [])) [tr s (i + 1)] := by
 have hl := get_lt h
 refine ev_fn rfl rfl ?_
 (repeat' (first| (intro (u_ : Unit); clear u_)| refine condT ?_| refine condF ?_| refine condp (by assumption) ?_| refine condn (by assumption) ?_| refine condN ?_| refine idxSb (by assumption) ?_| refine endE (X := []) (fun h_ => ?_) (fun h_ => absurd h_ (by omega))| refine cE (X := []) h ?_| (refine condD ?_ ?_ <;> intro hq_ <;> first | (exfalso; omega) | skip)| (refine idxS (by omega) ?_; intro b_ hb_; have hl_ := b_.toNat_lt)| refine wrA (by omega) ?_| refine wrS (by omega) (by omega) ?_| refine wrI (by omega) (by omega) ?_| refine wrBA (by omega) ?_| refine wrB (by omega) (by omega) ?_| refine strC (by omega) ?_| refine nilB rfl ?_))
 all_goals exact ⟨rfl, rfl⟩
theorem byte1E (h : s[i]? = some c) (hs : s.length ≤ 2 ^ 30) (h' : k (.ret (.tup [])) (tr s (i + 1) :: X)) : CallE T2 f_ref11_tree_byte1 [.ptr 0 0, u8 c.toNat] (tr s i :: X) k :=
 ⟨_, _, at0 rfl (tr_b _ _) (tr_b _ _) rfl (byte1_ev h hs), h'⟩
end
end Go.Ab.R12
namespace Go.Ab.R12
set_option maxRecDepth 100000
set_option linter.all false
set_option maxHeartbeats 4000000
abbrev lst (es : List (List D)) : AV := .d (.lst es)
section
variable {i : Nat} {X : Refs} {k : Out → Refs → Prop}
theorem nm1 : Ev T2 f_ref01_IsName [str [101]] [] (.ret (bl true)) [] := ⟨30, by kernel_rfl⟩
theorem nm2 : Ev T2 f_ref01_IsName [str [101, 99]] [] (.ret (bl true)) [] := ⟨30, by kernel_rfl⟩
theorem nm3 : Ev T2 f_ref01_IsName [str [101, 99, 104]] [] (.ret (bl true)) [] := ⟨30, by kernel_rfl⟩
theorem nm4 : Ev T2 f_ref01_IsName [str [101, 99, 104, 111]] [] (.ret (bl true)) [] := ⟨30, by kernel_rfl⟩
theorem nm5 : Ev T2 f_ref01_IsName [str [101, 99, 104, 111, 32]] [] (.ret (bl false)) [] := ⟨30, by kernel_rfl⟩
theorem named_ev (R : List UInt8) (hs : R.length ≤ 2 ^ 30) : Ev T2 f_ref11_tree_named [.ptr 0 0, i64 (0 : Nat)] [tr (101 :: 99 :: 104 :: 111 :: 32 :: R) 0] (.ret (i64 (4 : Nat))) [tr (101 :: 99 :: 104 :: 111 :: 32 :: R) 0] := by
 generalize hS : (101 :: 99 :: 104 :: 111 :: 32 :: R) = S
 have hl : S.length = R.length + 5 := by rw [← hS]; rfl
 have e1 : (S.take (0 + 0 + 1)).drop 0 = [101] := by rw [← hS]; rfl
 have e2 : (S.take (0 + 1 + 1)).drop 0 = [101, 99] := by rw [← hS]; rfl
 have e3 : (S.take (0 + 2 + 1)).drop 0 = [101, 99, 104] := by rw [← hS]; rfl
 have e4 : (S.take (0 + 3 + 1)).drop 0 = [101, 99, 104, 111] := by rw [← hS]; rfl
 have e5 : (S.take (0 + 4 + 1)).drop 0 = [101, 99, 104, 111, 32] := by rw [← hS]; rfl
 clear hS
 refine ev_fn rfl rfl ?_
 (repeat' (first| (intro (u_ : Unit); clear u_)| refine condT ?_| refine condF ?_| refine condp (by assumption) ?_| refine condn (by assumption) ?_| refine condN ?_| refine idxSb (by assumption) ?_| (refine condD ?_ ?_ <;> intro hq_ <;> first | (exfalso; omega) | skip)| (refine idxS (by omega) ?_; intro b_ hb_; have hl_ := b_.toNat_lt)| refine wrA (by omega) ?_| refine wrS (by omega) (by omega) ?_| refine wrI (by omega) (by omega) ?_| refine wrBA (by omega) ?_| refine wrB (by omega) (by omega) ?_| refine strC (by omega) ?_| refine nilB rfl ?_))
 refine loopR (fun n : Nat => [(5, i64 n)]) (fun _ => []) (fun n => 4 - n) (fun n => n ≤ 4) 0 (by omega) (by rfl) (by rfl) ?_
 intro n hn
 obtain rfl | rfl | rfl | rfl | rfl : n = 0 ∨ n = 1 ∨ n = 2 ∨ n = 3 ∨ n = 4 := by omega
 ·(repeat' (first
   | (intro (u_ : Unit); clear u_)
   | refine condT ?_
   | refine condF ?_
   | refine condp (by assumption) ?_
   | refine condn (by assumption) ?_
   | refine condN ?_
   | refine idxSb (by assumption) ?_
   | refine subE e1 (by omega) (by omega) ?_
   | refine callE_ev (nm1.any rfl _) ?_
   | (refine condD ?_ ?_ <;> intro hq_ <;> first | (exfalso; omega) | skip)
   | (refine idxS (by omega) ?_; intro b_ hb_; have hl_ := b_.toNat_lt)
   | refine wrA (by omega) ?_
   | refine wrS (by omega) (by omega) ?_
   | refine wrI (by omega) (by omega) ?_
   | refine wrBA (by omega) ?_
   | refine wrB (by omega) (by omega) ?_
   | refine strC (by omega) ?_
   | refine nilB rfl ?_))
  exact ⟨1, by omega, by omega, rfl, rfl, rfl, rfl⟩
 ·(repeat' (first
   | (intro (u_ : Unit); clear u_)
   | refine condT ?_
   | refine condF ?_
   | refine condp (by assumption) ?_
   | refine condn (by assumption) ?_
   | refine condN ?_
   | refine idxSb (by assumption) ?_
   | refine subE e2 (by omega) (by omega) ?_
   | refine callE_ev (nm2.any rfl _) ?_
   | (refine condD ?_ ?_ <;> intro hq_ <;> first | (exfalso; omega) | skip)
   | (refine idxS (by omega) ?_; intro b_ hb_; have hl_ := b_.toNat_lt)
   | refine wrA (by omega) ?_
   | refine wrS (by omega) (by omega) ?_
   | refine wrI (by omega) (by omega) ?_
   | refine wrBA (by omega) ?_
   | refine wrB (by omega) (by omega) ?_
   | refine strC (by omega) ?_
   | refine nilB rfl ?_))
  exact ⟨2, by omega, by omega, rfl, rfl, rfl, rfl⟩
 ·(repeat' (first
   | (intro (u_ : Unit); clear u_)
   | refine condT ?_
   | refine condF ?_
   | refine condp (by assumption) ?_
   | refine condn (by assumption) ?_
   | refine condN ?_
   | refine idxSb (by assumption) ?_
   | refine subE e3 (by omega) (by omega) ?_
   | refine callE_ev (nm3.any rfl _) ?_
   | (refine condD ?_ ?_ <;> intro hq_ <;> first | (exfalso; omega) | skip)
   | (refine idxS (by omega) ?_; intro b_ hb_; have hl_ := b_.toNat_lt)
   | refine wrA (by omega) ?_
   | refine wrS (by omega) (by omega) ?_
   | refine wrI (by omega) (by omega) ?_
   | refine wrBA (by omega) ?_
   | refine wrB (by omega) (by omega) ?_
   | refine strC (by omega) ?_
   | refine nilB rfl ?_))
  exact ⟨3, by omega, by omega, rfl, rfl, rfl, rfl⟩
 ·(repeat' (first
   | (intro (u_ : Unit); clear u_)
   | refine condT ?_
   | refine condF ?_
   | refine condp (by assumption) ?_
   | refine condn (by assumption) ?_
   | refine condN ?_
   | refine idxSb (by assumption) ?_
   | refine subE e4 (by omega) (by omega) ?_
   | refine callE_ev (nm4.any rfl _) ?_
   | (refine condD ?_ ?_ <;> intro hq_ <;> first | (exfalso; omega) | skip)
   | (refine idxS (by omega) ?_; intro b_ hb_; have hl_ := b_.toNat_lt)
   | refine wrA (by omega) ?_
   | refine wrS (by omega) (by omega) ?_
   | refine wrI (by omega) (by omega) ?_
   | refine wrBA (by omega) ?_
   | refine wrB (by omega) (by omega) ?_
   | refine strC (by omega) ?_
   | refine nilB rfl ?_))
  exact ⟨4, by omega, by omega, rfl, rfl, rfl, rfl⟩
 ·(repeat' (first
   | (intro (u_ : Unit); clear u_)
   | refine condT ?_
   | refine condF ?_
   | refine condp (by assumption) ?_
   | refine condn (by assumption) ?_
   | refine condN ?_
   | refine idxSb (by assumption) ?_
   | refine subE e5 (by omega) (by omega) ?_
   | refine callE_ev (nm5.any rfl _) ?_
   | (refine condD ?_ ?_ <;> intro hq_ <;> first | (exfalso; omega) | skip)
   | (refine idxS (by omega) ?_; intro b_ hb_; have hl_ := b_.toNat_lt)
   | refine wrA (by omega) ?_
   | refine wrS (by omega) (by omega) ?_
   | refine wrI (by omega) (by omega) ?_
   | refine wrBA (by omega) ?_
   | refine wrB (by omega) (by omega) ?_
   | refine strC (by omega) ?_
   | refine nilB rfl ?_))
  exact ⟨rfl, rfl⟩
theorem namedE {R : List UInt8} (hs : R.length ≤ 2 ^ 30) (h : k (.ret (i64 (4 : Nat))) (tr (101 :: 99 :: 104 :: 111 :: 32 :: R) 0 :: X)) : CallE T2 f_ref11_tree_named [.ptr 0 0, i64 (0 : Nat)] (tr (101 :: 99 :: 104 :: 111 :: 32 :: R) 0 :: X) k :=
 ⟨_, _, at0 rfl (tr_b _ _) (tr_b _ _) rfl (named_ev R hs), h⟩
theorem key_ev (R : List UInt8) (hs : R.length ≤ 2 ^ 30) : Ev T2 f_ref11_tree_key [.ptr 0 0] [tr (101 :: 99 :: 104 :: 111 :: 32 :: R) 0] (.ret (str [])) [tr (101 :: 99 :: 104 :: 111 :: 32 :: R) 0] := by
 generalize hS : (101 :: 99 :: 104 :: 111 :: 32 :: R) = S
 have hl : S.length = R.length + 5 := by rw [← hS]; rfl
 have g0 : S[0]? = some 101 := by rw [← hS]; rfl
 have g1 : S[1]? = some 99 := by rw [← hS]; rfl
 have g2 : S[2]? = some 104 := by rw [← hS]; rfl
 have g3 : S[3]? = some 111 := by rw [← hS]; rfl
 have g4 : S[4]? = some 32 := by rw [← hS]; rfl
 have e4 : (S.take 4).drop 0 = [101, 99, 104, 111] := by rw [← hS]; rfl
 clear hS
 refine ev_fn rfl rfl ?_
 (repeat' (first| (intro (u_ : Unit); clear u_)| refine condT ?_| refine condF ?_| refine condp (by assumption) ?_| refine condn (by assumption) ?_| refine condN ?_| refine idxSb (by assumption) ?_| (refine condD ?_ ?_ <;> intro hq_ <;> first | (exfalso; omega) | skip)| (refine idxS (by omega) ?_; intro b_ hb_; have hl_ := b_.toNat_lt)| refine wrA (by omega) ?_| refine wrS (by omega) (by omega) ?_| refine wrI (by omega) (by omega) ?_| refine wrBA (by omega) ?_| refine wrB (by omega) (by omega) ?_| refine strC (by omega) ?_| refine nilB rfl ?_))
 refine loopR (fun n : Nat => [(3, i64 n)]) (fun _ => []) (fun n => 4 - n) (fun n => n ≤ 4) 0 (by omega) (by rfl) (by rfl) ?_
 intro n hn
 obtain rfl | rfl | rfl | rfl | rfl : n = 0 ∨ n = 1 ∨ n = 2 ∨ n = 3 ∨ n = 4 := by omega
 ·(repeat' (first
   | (intro (u_ : Unit); clear u_)
   | refine condT ?_
   | refine condF ?_
   | refine condp (by assumption) ?_
   | refine condn (by assumption) ?_
   | refine condN ?_
   | refine idxSb (by assumption) ?_
   | refine idxSb g0 ?_
   | refine callE_ev (plain_ev 101 _) ?_
   | refine condt (b := plain _) (by decide) ?_
   | (refine condD ?_ ?_ <;> intro hq_ <;> first | (exfalso; omega) | skip)
   | (refine idxS (by omega) ?_; intro b_ hb_; have hl_ := b_.toNat_lt)
   | refine wrA (by omega) ?_
   | refine wrS (by omega) (by omega) ?_
   | refine wrI (by omega) (by omega) ?_
   | refine wrBA (by omega) ?_
   | refine wrB (by omega) (by omega) ?_
   | refine strC (by omega) ?_
   | refine nilB rfl ?_))
  exact ⟨1, by omega, by omega, rfl, rfl, rfl, rfl⟩
 ·(repeat' (first
   | (intro (u_ : Unit); clear u_)
   | refine condT ?_
   | refine condF ?_
   | refine condp (by assumption) ?_
   | refine condn (by assumption) ?_
   | refine condN ?_
   | refine idxSb (by assumption) ?_
   | refine idxSb g1 ?_
   | refine callE_ev (plain_ev 99 _) ?_
   | refine condt (b := plain _) (by decide) ?_
   | (refine condD ?_ ?_ <;> intro hq_ <;> first | (exfalso; omega) | skip)
   | (refine idxS (by omega) ?_; intro b_ hb_; have hl_ := b_.toNat_lt)
   | refine wrA (by omega) ?_
   | refine wrS (by omega) (by omega) ?_
   | refine wrI (by omega) (by omega) ?_
   | refine wrBA (by omega) ?_
   | refine wrB (by omega) (by omega) ?_
   | refine strC (by omega) ?_
   | refine nilB rfl ?_))
  exact ⟨2, by omega, by omega, rfl, rfl, rfl, rfl⟩
 ·(repeat' (first
   | (intro (u_ : Unit); clear u_)
   | refine condT ?_
   | refine condF ?_
   | refine condp (by assumption) ?_
   | refine condn (by assumption) ?_
   | refine condN ?_
   | refine idxSb (by assumption) ?_
   | refine idxSb g2 ?_
   | refine callE_ev (plain_ev 104 _) ?_
   | refine condt (b := plain _) (by decide) ?_
   | (refine condD ?_ ?_ <;> intro hq_ <;> first | (exfalso; omega) | skip)
   | (refine idxS (by omega) ?_; intro b_ hb_; have hl_ := b_.toNat_lt)
   | refine wrA (by omega) ?_
   | refine wrS (by omega) (by omega) ?_
   | refine wrI (by omega) (by omega) ?_
   | refine wrBA (by omega) ?_
   | refine wrB (by omega) (by omega) ?_
   | refine strC (by omega) ?_
   | refine nilB rfl ?_))
  exact ⟨3, by omega, by omega, rfl, rfl, rfl, rfl⟩
 ·(repeat' (first
   | (intro (u_ : Unit); clear u_)
   | refine condT ?_
   | refine condF ?_
   | refine condp (by assumption) ?_
   | refine condn (by assumption) ?_
   | refine condN ?_
   | refine idxSb (by assumption) ?_
   | refine idxSb g3 ?_
   | refine callE_ev (plain_ev 111 _) ?_
   | refine condt (b := plain _) (by decide) ?_
   | (refine condD ?_ ?_ <;> intro hq_ <;> first | (exfalso; omega) | skip)
   | (refine idxS (by omega) ?_; intro b_ hb_; have hl_ := b_.toNat_lt)
   | refine wrA (by omega) ?_
   | refine wrS (by omega) (by omega) ?_
   | refine wrI (by omega) (by omega) ?_
   | refine wrBA (by omega) ?_
   | refine wrB (by omega) (by omega) ?_
   | refine strC (by omega) ?_
   | refine nilB rfl ?_))
  exact ⟨4, by omega, by omega, rfl, rfl, rfl, rfl⟩
 ·(repeat' (first
   | (intro (u_ : Unit); clear u_)
   | refine condT ?_
   | refine condF ?_
   | refine condp (by assumption) ?_
   | refine condn (by assumption) ?_
   | refine condN ?_
   | refine idxSb (by assumption) ?_
   | refine idxSb g4 ?_
   | refine callE_ev (plain_ev 32 _) ?_
   | refine condf (b := plain _) (by decide) ?_
   | refine callE_ev (in_ev 32 _ (by decide) _) ?_
   | refine condf (b := List.contains _ _) (by decide) ?_
   | refine subE e4 (by omega) (by omega) ?_
   | refine condn (by decide) ?_
   | (refine condD ?_ ?_ <;> intro hq_ <;> first | (exfalso; omega) | skip)
   | (refine idxS (by omega) ?_; intro b_ hb_; have hl_ := b_.toNat_lt)
   | refine wrA (by omega) ?_
   | refine wrS (by omega) (by omega) ?_
   | refine wrI (by omega) (by omega) ?_
   | refine wrBA (by omega) ?_
   | refine wrB (by omega) (by omega) ?_
   | refine strC (by omega) ?_
   | refine nilB rfl ?_))
  exact ⟨rfl, rfl⟩
theorem keyE {R : List UInt8} (hs : R.length ≤ 2 ^ 30) (h : k (.ret (str [])) (tr (101 :: 99 :: 104 :: 111 :: 32 :: R) 0 :: X)) : CallE T2 f_ref11_tree_key [.ptr 0 0] (tr (101 :: 99 :: 104 :: 111 :: 32 :: R) 0 :: X) k :=
 ⟨_, _, at0 rfl (tr_b _ _) (tr_b _ _) rfl (key_ev R hs), h⟩
def ptD (q : Bool) (a : List UInt8) : List D := [.int .i64 1, .bool q, .str a, .str [], .lst []]
def ptA (q : Bool) (a : List UInt8) : AV := .agg [i64 1, bl q, str a, str [], lst []]
theorem with0_ev (q : Bool) (a : List UInt8) (rf : Refs) : Ev T2 f_ref11_with [.nil, ptA q a] rf (.ret (lst [ptD q a])) rf := by
 refine Ev.any ?_ rfl rf
 refine ev_fn rfl rfl ?_
 (repeat' (first| (intro (u_ : Unit); clear u_)| refine condT ?_| refine condF ?_| refine condp (by assumption) ?_| refine condn (by assumption) ?_| refine condN ?_| refine idxSb (by assumption) ?_| refine appN1 (by simp) rfl ?_| (refine condD ?_ ?_ <;> intro hq_ <;> first | (exfalso; omega) | skip)| (refine idxS (by omega) ?_; intro b_ hb_; have hl_ := b_.toNat_lt)| refine wrA (by omega) ?_| refine wrS (by omega) (by omega) ?_| refine wrI (by omega) (by omega) ?_| refine wrBA (by omega) ?_| refine wrB (by omega) (by omega) ?_| refine strC (by omega) ?_| refine nilB rfl ?_))
 exact ⟨rfl, rfl⟩
theorem with1_ev (q : Bool) (a b : List UInt8) (hl : a.length + b.length ≤ 2 ^ 30) (rf : Refs) : Ev T2 f_ref11_with [lst [ptD q a], ptA q b] rf (.ret (lst [ptD q (a ++ b)])) rf := by
 refine Ev.any ?_ rfl rf
 have h1 : ([ptD q a] : List (List D)).length = 1 := rfl
 have hq : ¬ ((q == q) = false) := by simp
 refine ev_fn rfl rfl ?_
 (repeat' (first| (intro (u_ : Unit); clear u_)| refine condT ?_| refine condF ?_| refine condp (by assumption) ?_| refine condn (by assumption) ?_| refine condN ?_| refine idxSb (by assumption) ?_| refine idxLb (cs := ptD q a) rfl rfl ?_| refine condn hq ?_| refine condX ?_| refine condt (b := q == q) (by simp) ?_| refine subLHi (l := [ptD q a]) (i := [ptD q a].length - 1) (by omega) rfl ?_| refine appL (by simp) rfl rfl ?_| (refine condD ?_ ?_ <;> intro hq_ <;> first | (exfalso; omega) | skip)| (refine idxS (by omega) ?_; intro b_ hb_; have hl_ := b_.toNat_lt)| refine wrA (by omega) ?_| refine wrS (by omega) (by omega) ?_| refine wrI (by omega) (by omega) ?_| refine wrBA (by omega) ?_| refine wrB (by omega) (by omega) ?_| refine strC (by omega) ?_| refine nilB rfl ?_))
 exact ⟨rfl, rfl⟩
end
end Go.Ab.R12
namespace Go.Ab.R12
set_option maxRecDepth 100000
set_option linter.all false
set_option maxHeartbeats 4000000
section
variable {i : Nat} {X : Refs} {k : Out → Refs → Prop}
theorem word0_ev (R : List UInt8) (hs : R.length ≤ 2 ^ 29) : Ev T2 f_ref11_tree_word [.ptr 0 0] [tr (101 :: 99 :: 104 :: 111 :: 32 :: R) 0] (.ret (lst [ptD false [101, 99, 104, 111]])) [tr (101 :: 99 :: 104 :: 111 :: 32 :: R) 4] := by
 generalize hS : (101 :: 99 :: 104 :: 111 :: 32 :: R) = S
 have hl : S.length = R.length + 5 := by rw [← hS]; rfl
 have g0 : S[0]? = some 101 := by rw [← hS]; rfl
 have g1 : S[1]? = some 99 := by rw [← hS]; rfl
 have g2 : S[2]? = some 104 := by rw [← hS]; rfl
 have g3 : S[3]? = some 111 := by rw [← hS]; rfl
 have g4 : S[4]? = some 32 := by rw [← hS]; rfl
 clear hS
 have p0 : plain 101 = true := by decide
 have p1 : plain 99 = true := by decide
 have p2 : plain 104 = true := by decide
 have p3 : plain 111 = true := by decide
 have p4 : plain 32 = false := by decide
 refine ev_fn rfl rfl ?_
 (repeat' (first| (intro (u_ : Unit); clear u_)| refine condT ?_| refine condF ?_| refine condp (by assumption) ?_| refine condn (by assumption) ?_| refine condN ?_| refine idxSb (by assumption) ?_| (refine condD ?_ ?_ <;> intro hq_ <;> first | (exfalso; omega) | skip)| (refine idxS (by omega) ?_; intro b_ hb_; have hl_ := b_.toNat_lt)| refine wrA (by omega) ?_| refine wrS (by omega) (by omega) ?_| refine wrI (by omega) (by omega) ?_| refine wrBA (by omega) ?_| refine wrB (by omega) (by omega) ?_| refine strC (by omega) ?_| refine nilB rfl ?_))
 refine loopR (fun n : Nat => [(3, if n = 0 then .nil else lst [ptD false ([101, 99, 104, 111].take n)])]) (fun n => [(0, tr S n)]) (fun n => 4 - n) (fun n => n ≤ 4) 0 (by omega) (by rfl) (by rfl) ?_
 intro n hn
 obtain rfl | rfl | rfl | rfl | rfl : n = 0 ∨ n = 1 ∨ n = 2 ∨ n = 3 ∨ n = 4 := by omega
 ·(repeat' (first
   | (intro (u_ : Unit); clear u_)
   | refine condT ?_
   | refine condF ?_
   | refine condp (by assumption) ?_
   | refine condn (by assumption) ?_
   | refine condN ?_
   | refine idxSb (by assumption) ?_
   | refine endE (fun h_ => ?_) (fun h_ => absurd h_ (by omega))
   | refine cE g0 ?_
   | refine callE_ev (plain_ev 101 _) ?_
   | refine condt (b := plain _) (by assumption) ?_
   | refine strB (l := [101]) rfl ?_
   | refine callE_ev (with0_ev false [101] _) ?_
   | (refine condD ?_ ?_ <;> intro hq_ <;> first | (exfalso; omega) | skip)
   | (refine idxS (by omega) ?_; intro b_ hb_; have hl_ := b_.toNat_lt)
   | refine wrA (by omega) ?_
   | refine wrS (by omega) (by omega) ?_
   | refine wrI (by omega) (by omega) ?_
   | refine wrBA (by omega) ?_
   | refine wrB (by omega) (by omega) ?_
   | refine strC (by omega) ?_
   | refine nilB rfl ?_))
  exact ⟨1, by omega, by omega, rfl, rfl, rfl, rfl⟩
 ·(repeat' (first
   | (intro (u_ : Unit); clear u_)
   | refine condT ?_
   | refine condF ?_
   | refine condp (by assumption) ?_
   | refine condn (by assumption) ?_
   | refine condN ?_
   | refine idxSb (by assumption) ?_
   | refine endE (fun h_ => ?_) (fun h_ => absurd h_ (by omega))
   | refine cE g1 ?_
   | refine callE_ev (plain_ev 99 _) ?_
   | refine condt (b := plain _) (by assumption) ?_
   | refine strB (l := [99]) rfl ?_
   | refine callE_ev (with1_ev false [101] [99] (by decide) _) ?_
   | (refine condD ?_ ?_ <;> intro hq_ <;> first | (exfalso; omega) | skip)
   | (refine idxS (by omega) ?_; intro b_ hb_; have hl_ := b_.toNat_lt)
   | refine wrA (by omega) ?_
   | refine wrS (by omega) (by omega) ?_
   | refine wrI (by omega) (by omega) ?_
   | refine wrBA (by omega) ?_
   | refine wrB (by omega) (by omega) ?_
   | refine strC (by omega) ?_
   | refine nilB rfl ?_))
  exact ⟨2, by omega, by omega, rfl, rfl, rfl, rfl⟩
 ·(repeat' (first
   | (intro (u_ : Unit); clear u_)
   | refine condT ?_
   | refine condF ?_
   | refine condp (by assumption) ?_
   | refine condn (by assumption) ?_
   | refine condN ?_
   | refine idxSb (by assumption) ?_
   | refine endE (fun h_ => ?_) (fun h_ => absurd h_ (by omega))
   | refine cE g2 ?_
   | refine callE_ev (plain_ev 104 _) ?_
   | refine condt (b := plain _) (by assumption) ?_
   | refine strB (l := [104]) rfl ?_
   | refine callE_ev (with1_ev false [101, 99] [104] (by decide) _) ?_
   | (refine condD ?_ ?_ <;> intro hq_ <;> first | (exfalso; omega) | skip)
   | (refine idxS (by omega) ?_; intro b_ hb_; have hl_ := b_.toNat_lt)
   | refine wrA (by omega) ?_
   | refine wrS (by omega) (by omega) ?_
   | refine wrI (by omega) (by omega) ?_
   | refine wrBA (by omega) ?_
   | refine wrB (by omega) (by omega) ?_
   | refine strC (by omega) ?_
   | refine nilB rfl ?_))
  exact ⟨3, by omega, by omega, rfl, rfl, rfl, rfl⟩
 ·(repeat' (first
   | (intro (u_ : Unit); clear u_)
   | refine condT ?_
   | refine condF ?_
   | refine condp (by assumption) ?_
   | refine condn (by assumption) ?_
   | refine condN ?_
   | refine idxSb (by assumption) ?_
   | refine endE (fun h_ => ?_) (fun h_ => absurd h_ (by omega))
   | refine cE g3 ?_
   | refine callE_ev (plain_ev 111 _) ?_
   | refine condt (b := plain _) (by assumption) ?_
   | refine strB (l := [111]) rfl ?_
   | refine callE_ev (with1_ev false [101, 99, 104] [111] (by decide) _) ?_
   | (refine condD ?_ ?_ <;> intro hq_ <;> first | (exfalso; omega) | skip)
   | (refine idxS (by omega) ?_; intro b_ hb_; have hl_ := b_.toNat_lt)
   | refine wrA (by omega) ?_
   | refine wrS (by omega) (by omega) ?_
   | refine wrI (by omega) (by omega) ?_
   | refine wrBA (by omega) ?_
   | refine wrB (by omega) (by omega) ?_
   | refine strC (by omega) ?_
   | refine nilB rfl ?_))
  exact ⟨4, by omega, by omega, rfl, rfl, rfl, rfl⟩
 ·(repeat' (first
   | (intro (u_ : Unit); clear u_)
   | refine condT ?_
   | refine condF ?_
   | refine condp (by assumption) ?_
   | refine condn (by assumption) ?_
   | refine condN ?_
   | refine idxSb (by assumption) ?_
   | refine endE (fun h_ => ?_) (fun h_ => absurd h_ (by omega))
   | refine cE g4 ?_
   | refine callE_ev (plain_ev 32 _) ?_
   | refine condf (b := plain _) (by assumption) ?_
   | (refine condD ?_ ?_ <;> intro hq_ <;> first | (exfalso; omega) | skip)
   | (refine idxS (by omega) ?_; intro b_ hb_; have hl_ := b_.toNat_lt)
   | refine wrA (by omega) ?_
   | refine wrS (by omega) (by omega) ?_
   | refine wrI (by omega) (by omega) ?_
   | refine wrBA (by omega) ?_
   | refine wrB (by omega) (by omega) ?_
   | refine strC (by omega) ?_
   | refine nilB rfl ?_))
  exact ⟨rfl, rfl⟩
theorem word0E {R : List UInt8} (hs : R.length ≤ 2 ^ 29) (h : k (.ret (lst [ptD false [101, 99, 104, 111]])) (tr (101 :: 99 :: 104 :: 111 :: 32 :: R) 4 :: X)) : CallE T2 f_ref11_tree_word [.ptr 0 0] (tr (101 :: 99 :: 104 :: 111 :: 32 :: R) 0 :: X) k :=
 ⟨_, _, at0 rfl (tr_b _ _) (tr_b _ _) rfl (word0_ev R hs), h⟩
theorem wordN_ev (S : List UInt8) (i : Nat) (hi : S.length ≤ i) : Ev T2 f_ref11_tree_word [.ptr 0 0] [tr S i] (.ret (lst [])) [tr S i] := by
 refine ev_fn rfl rfl ?_
 (repeat' (first| (intro (u_ : Unit); clear u_)| refine condT ?_| refine condF ?_| refine condp (by assumption) ?_| refine condn (by assumption) ?_| refine condN ?_| refine idxSb (by assumption) ?_| (refine condD ?_ ?_ <;> intro hq_ <;> first | (exfalso; omega) | skip)| (refine idxS (by omega) ?_; intro b_ hb_; have hl_ := b_.toNat_lt)| refine wrA (by omega) ?_| refine wrS (by omega) (by omega) ?_| refine wrI (by omega) (by omega) ?_| refine wrBA (by omega) ?_| refine wrB (by omega) (by omega) ?_| refine strC (by omega) ?_| refine nilB rfl ?_))
 refine loopR (fun _ : Unit => []) (fun _ => []) (fun _ => 0) (fun _ => True) () trivial (by rfl) (by rfl) ?_
 intro _ _
 (repeat' (first| (intro (u_ : Unit); clear u_)| refine condT ?_| refine condF ?_| refine condp (by assumption) ?_| refine condn (by assumption) ?_| refine condN ?_| refine idxSb (by assumption) ?_| refine endE (fun h_ => absurd h_ (by omega)) (fun h_ => ?_)| (refine condD ?_ ?_ <;> intro hq_ <;> first | (exfalso; omega) | skip)| (refine idxS (by omega) ?_; intro b_ hb_; have hl_ := b_.toNat_lt)| refine wrA (by omega) ?_| refine wrS (by omega) (by omega) ?_| refine wrI (by omega) (by omega) ?_| refine wrBA (by omega) ?_| refine wrB (by omega) (by omega) ?_| refine strC (by omega) ?_| refine nilB rfl ?_))
 exact ⟨rfl, rfl⟩
theorem wordNE {S : List UInt8} (hi : S.length ≤ i) (h : k (.ret (lst [])) (tr S i :: X)) : CallE T2 f_ref11_tree_word [.ptr 0 0] (tr S i :: X) k :=
 ⟨_, _, at0 rfl (tr_b _ _) (tr_b _ _) rfl (wordN_ev S i hi), h⟩
end
inductive QW where
 | opn (L : AV) (a b : List UInt8) (j : Nat)
 | cls (a b : List UInt8) (j : Nat)
def QW.ch : QW → Slots
 | .opn L _ _ _ => [(3, L)]
 | .cls a _ _ => [(3, lst [ptD true a])]
def QW.hc (S : List UInt8) : QW → List (Nat × List AV)
 | .opn _ _ _ j => [(0, tr S j)]
 | .cls _ _ j => [(0, tr S j)]
def QW.m : QW → Nat
 | .opn _ _ b _ => 2 * b.length + 2
 | .cls _ b _ => 2 * b.length + 1
def rest (b R : List UInt8) : List UInt8 := 39 :: (escA q4 b ++ 39 :: R)
def QW.P (S x R : List UInt8) : QW → Prop
 | .opn L a b j => (L = .nil ∧ a = [] ∨ L = lst [ptD true a]) ∧ x = a ++ b ∧ S.drop j = rest b R
 | .cls a b j => x = a ++ b ∧ j ≤ S.length ∧ ((b = [] ∧ S.drop j = R) ∨ ∃ b', b = 39 :: b' ∧ S.drop j = 92 :: 39 :: rest b' R)
theorem wordQ_ev (S x R : List UInt8) (i : Nat) (hs : S.length ≤ 2 ^ 20) (hR : R = [] ∨ ∃ R', R = 32 :: R') (hd : S.drop i = quoteM x ++ R) :
  Ev T2 f_ref11_tree_word [.ptr 0 0] [tr S i] (.ret (lst [ptD true x])) [tr S (i + (quoteM x).length)] := by
 have hd' : S.drop i = rest x R := by rw [hd]; simp [quoteM, rest]
 have hlen : S.length - i = (quoteM x).length + R.length := by rw [← List.length_drop, hd, List.length_append]
 have hq := quoteM_length x
 have hxl : x.length ≤ 2 ^ 20 := by omega
 have p39 : plain 39 = false := by decide
 have p92 : plain 92 = false := by decide
 have p32 : plain 32 = false := by decide
 refine ev_fn rfl rfl ?_
 (repeat' (first| (intro (u_ : Unit); clear u_)| refine condT ?_| refine condF ?_| refine condp (by assumption) ?_| refine condn (by assumption) ?_| refine condN ?_| refine idxSb (by assumption) ?_| (refine condD ?_ ?_ <;> intro hq_ <;> first | (exfalso; omega) | skip)| (refine idxS (by omega) ?_; intro b_ hb_; have hl_ := b_.toNat_lt)| refine wrA (by omega) ?_| refine wrS (by omega) (by omega) ?_| refine wrI (by omega) (by omega) ?_| refine wrBA (by omega) ?_| refine wrB (by omega) (by omega) ?_| refine strC (by omega) ?_| refine nilB rfl ?_))
 refine loopR QW.ch (QW.hc S) QW.m (QW.P S x R) (.opn .nil [] x i) ⟨.inl ⟨rfl, rfl⟩, rfl, hd'⟩ (by rfl) (by rfl) ?_
 rintro (⟨L, a, b, j⟩ | ⟨a, b, j⟩) hP
 ·obtain ⟨hL, hx, hj⟩ := hP
  obtain ⟨g1, hj1⟩ := get_drop hj
  have hjl := get_lt g1
  have hxa : x.length = a.length + b.length := by rw [hx, List.length_append]
  rcases hL with ⟨rfl, rfl⟩ | rfl
  all_goals (
   (repeat' (first| (intro (u_ : Unit); clear u_)| refine condT ?_| refine condF ?_| refine condp (by assumption) ?_| refine condn (by assumption) ?_| refine condN ?_| refine idxSb (by assumption) ?_| refine endE (fun h_ => ?_) (fun h_ => absurd h_ (by omega))| refine cE g1 ?_| refine callE_ev (plain_ev 39 _) ?_| refine condf (b := plain _) (by assumption) ?_| (refine condD ?_ ?_ <;> intro hq_ <;> first | (exfalso; omega) | skip)| (refine idxS (by omega) ?_; intro b_ hb_; have hl_ := b_.toNat_lt)| refine wrA (by omega) ?_| refine wrS (by omega) (by omega) ?_| refine wrI (by omega) (by omega) ?_| refine wrBA (by omega) ?_| refine wrB (by omega) (by omega) ?_| refine strC (by omega) ?_| refine nilB rfl ?_))
   refine loopR (fun _ : List UInt8 => []) (fun u => [(0, tr S (j + 1 + u.length)), (1, [i64 1, bl true, str u, str [], .nil])]) (fun u => b.length - u.length) (fun u => ∃ v, b = u ++ v ∧ S.drop (j + 1 + u.length) = escA q4 v ++ 39 :: R) [] ⟨b, rfl, hj1⟩ (by rfl) (by rfl) ?_
   rintro u ⟨v, hbv, hu⟩
   have hbl : b.length = u.length + v.length := by rw [hbv, List.length_append]
   by_cases hv : ∃ c v', v = c :: v' ∧ c ≠ 39
   ·obtain ⟨c, v', rfl, hc⟩ := hv
    have hc39 : c.toNat ≠ 39 := fun e => hc (UInt8.toNat_inj.1 e)
    simp only [escA, if_neg hc, List.singleton_append, List.cons_append] at hu
    obtain ⟨g2, hu2⟩ := get_drop hu
    have hl2 := get_lt g2
    simp only [List.length_cons] at hbl
    (repeat' (first| (intro (u_ : Unit); clear u_)| refine condT ?_| refine condF ?_| refine condp (by assumption) ?_| refine condn (by assumption) ?_| refine condN ?_| refine idxSb (by assumption) ?_| refine endE (fun h_ => ?_) (fun h_ => absurd h_ (by omega))| refine cE g2 ⟨rfl, ?_⟩| refine cE g2 ?_| refine strB (strOf_bytesOf [c]) ?_| refine strC (by simp only [List.length_cons, List.length_nil]; omega) ?_| (refine condD ?_ ?_ <;> intro hq_ <;> first | (exfalso; omega) | skip)| (refine idxS (by omega) ?_; intro b_ hb_; have hl_ := b_.toNat_lt)| refine wrA (by omega) ?_| refine wrS (by omega) (by omega) ?_| refine wrI (by omega) (by omega) ?_| refine wrBA (by omega) ?_| refine wrB (by omega) (by omega) ?_| refine strC (by omega) ?_| refine nilB rfl ?_))
    refine ⟨u ++ [c], ⟨v', by rw [hbv]; simp, by rw [List.length_append]; exact hu2⟩, by rw [List.length_append]; simp only [List.length_cons, List.length_nil]; omega, rfl, ?_, rfl, rfl⟩
    rw [List.length_append]; rfl
   ·have hu39 : S[j + 1 + u.length]? = some 39 ∧ ((v = [] ∧ S.drop (j + 1 + u.length + 1) = R) ∨ ∃ v', v = 39 :: v' ∧ S.drop (j + 1 + u.length + 1) = 92 :: 39 :: rest v' R) := by
     cases v with
     | nil => exact ⟨(get_drop hu).1, .inl ⟨rfl, (get_drop hu).2⟩⟩
     | cons c v' =>
       have : c = 39 := Classical.byContradiction fun h => hv ⟨c, v', rfl, h⟩
       subst this
       simp only [escA, if_true, q4, List.cons_append, List.nil_append] at hu
       exact ⟨(get_drop hu).1, .inr ⟨v', rfl, (get_drop hu).2⟩⟩
    obtain ⟨g2, hu2⟩ := hu39
    have hl2 := get_lt g2
    (repeat' (first| (intro (u_ : Unit); clear u_)| refine condT ?_| refine condF ?_| refine condp (by assumption) ?_| refine condn (by assumption) ?_| refine condN ?_| refine idxSb (by assumption) ?_| refine endE (fun h_ => ?_) (fun h_ => absurd h_ (by omega))| refine cE g2 ?_| refine byte1E (c := 39) g2 (by omega) ?_| refine callE_ev (with0_ev true u _) ?_| refine callE_ev (with1_ev true a u (by omega) _) ?_| (refine condD ?_ ?_ <;> intro hq_ <;> first | (exfalso; omega) | skip)| (refine idxS (by omega) ?_; intro b_ hb_; have hl_ := b_.toNat_lt)| refine wrA (by omega) ?_| refine wrS (by omega) (by omega) ?_| refine wrI (by omega) (by omega) ?_| refine wrBA (by omega) ?_| refine wrB (by omega) (by omega) ?_| refine strC (by omega) ?_| refine nilB rfl ?_))
    first
     | exact ⟨.cls ([] ++ u) v (j + 1 + u.length + 1), ⟨by rw [hx, hbv]; simp, by omega, hu2⟩, by simp only [QW.m]; omega, rfl, rfl, rfl, rfl⟩
     | exact ⟨.cls (a ++ u) v (j + 1 + u.length + 1), ⟨by rw [hx, hbv]; simp, by omega, hu2⟩, by simp only [QW.m]; omega, rfl, rfl, rfl, rfl⟩)
 ·obtain ⟨hx, hjS, hP⟩ := hP
  have hxa : x.length = a.length + b.length := by rw [hx, List.length_append]
  rcases hP with ⟨rfl, hj⟩ | ⟨b', rfl, hj⟩
  ·have hji : j = i + (quoteM x).length := by
    have h1 : (S.drop j).length = R.length := by rw [hj]
    rw [List.length_drop] at h1
    omega
   rw [← hji]
   rw [List.append_nil] at hx
   subst hx
   rcases hR with rfl | ⟨R', rfl⟩
   ·have hjl : S.length ≤ j := by
     have h1 : (S.drop j).length = 0 := by rw [hj]; rfl
     rw [List.length_drop] at h1
     omega
    (repeat' (first| (intro (u_ : Unit); clear u_)| refine condT ?_| refine condF ?_| refine condp (by assumption) ?_| refine condn (by assumption) ?_| refine condN ?_| refine idxSb (by assumption) ?_| refine endE (fun h_ => absurd h_ (by omega)) (fun h_ => ?_)| (refine condD ?_ ?_ <;> intro hq_ <;> first | (exfalso; omega) | skip)| (refine idxS (by omega) ?_; intro b_ hb_; have hl_ := b_.toNat_lt)| refine wrA (by omega) ?_| refine wrS (by omega) (by omega) ?_| refine wrI (by omega) (by omega) ?_| refine wrBA (by omega) ?_| refine wrB (by omega) (by omega) ?_| refine strC (by omega) ?_| refine nilB rfl ?_))
    exact ⟨rfl, rfl⟩
   ·obtain ⟨g1, hj1⟩ := get_drop hj
    have hjl := get_lt g1
    (repeat' (first| (intro (u_ : Unit); clear u_)| refine condT ?_| refine condF ?_| refine condp (by assumption) ?_| refine condn (by assumption) ?_| refine condN ?_| refine idxSb (by assumption) ?_| refine endE (fun h_ => ?_) (fun h_ => absurd h_ (by omega))| refine cE g1 ?_| refine callE_ev (plain_ev 32 _) ?_| refine condf (b := plain _) (by assumption) ?_| (refine condD ?_ ?_ <;> intro hq_ <;> first | (exfalso; omega) | skip)| (refine idxS (by omega) ?_; intro b_ hb_; have hl_ := b_.toNat_lt)| refine wrA (by omega) ?_| refine wrS (by omega) (by omega) ?_| refine wrI (by omega) (by omega) ?_| refine wrBA (by omega) ?_| refine wrB (by omega) (by omega) ?_| refine strC (by omega) ?_| refine nilB rfl ?_))
    exact ⟨rfl, rfl⟩
  ·obtain ⟨g1, hj1⟩ := get_drop hj
   obtain ⟨g2, hj2⟩ := get_drop hj1
   have hjl := get_lt g2
   simp only [List.length_cons] at hxa
   (repeat' (first| (intro (u_ : Unit); clear u_)| refine condT ?_| refine condF ?_| refine condp (by assumption) ?_| refine condn (by assumption) ?_| refine condN ?_| refine idxSb (by assumption) ?_| refine endE (fun h_ => ?_) (fun h_ => absurd h_ (by omega))| refine cE g1 ?_| refine cE g2 ?_| refine callE_ev (plain_ev 92 _) ?_| refine condf (b := plain _) (by assumption) ?_| refine strB (l := [39]) rfl ?_| refine callE_ev (with1_ev true a [39] (by simp only [List.length_cons, List.length_nil]; omega) _) ?_| (refine condD ?_ ?_ <;> intro hq_ <;> first | (exfalso; omega) | skip)| (refine idxS (by omega) ?_; intro b_ hb_; have hl_ := b_.toNat_lt)| refine wrA (by omega) ?_| refine wrS (by omega) (by omega) ?_| refine wrI (by omega) (by omega) ?_| refine wrBA (by omega) ?_| refine wrB (by omega) (by omega) ?_| refine strC (by omega) ?_| refine nilB rfl ?_))
   exact ⟨.opn (lst [ptD true (a ++ [39])]) (a ++ [39]) b' (j + 1 + 1), ⟨.inr rfl, by rw [hx]; simp, hj2⟩, by simp only [QW.m, List.length_cons]; omega, rfl, rfl, rfl, rfl⟩
section
variable {X : Refs} {k : Out → Refs → Prop}
theorem wordQE {S x R : List UInt8} {i j : Nat} (hs : S.length ≤ 2 ^ 20) (hR : R = [] ∨ ∃ R', R = 32 :: R') (hd : S.drop i = quoteM x ++ R) (hj : i + (quoteM x).length = j) (h : k (.ret (lst [ptD true x])) (tr S j :: X)) :
  CallE T2 f_ref11_tree_word [.ptr 0 0] (tr S i :: X) k :=
 ⟨_, _, at0 rfl (tr_b _ _) (tr_b _ _) rfl (wordQ_ev S x R i hs hR hd), by rw [hj]; exact h⟩
end
end Go.Ab.R12
namespace Go.Ab.R12
set_option maxRecDepth 100000
set_option linter.all false
set_option maxHeartbeats 4000000
def echo : List UInt8 := [101, 99, 104, 111]
def scr (s t : List UInt8) : List UInt8 := 101 :: 99 :: 104 :: 111 :: 32 :: (quoteM s ++ 32 :: quoteM t)
theorem quoteM_head (s : List UInt8) : ∃ r, quoteM s = 39 :: r := ⟨escA q4 s ++ [39], by simp [quoteM]⟩
structure Scr (S s t : List UInt8) (p2 p3 : Nat) : Prop where
 len : S.length ≤ 2 ^ 20
 h0 : S[0]? = some 101
 h4 : S[4]? = some 32
 d5 : S.drop 5 = quoteM s ++ 32 :: quoteM t
 g5 : S[5]? = some 39
 e2 : 5 + (quoteM s).length = p2
 g2 : S[p2]? = some 32
 g21 : S[p2 + 1]? = some 39
 d2 : S.drop (p2 + 1) = quoteM t ++ []
 e3 : p2 + 1 + (quoteM t).length = p3
 l3 : S.length = p3
theorem scr_ok {s t : List UInt8} (hl : s.length + t.length ≤ 2000) : ∃ p2 p3, Scr (scr s t) s t p2 p3 := by
 have h1 := quoteM_length s
 have h2 := quoteM_length t
 have c1 := List.count_le_length (a := (39 : UInt8)) (l := s)
 have c2 := List.count_le_length (a := (39 : UInt8)) (l := t)
 have hlen : (scr s t).length = 5 + (quoteM s).length + 1 + (quoteM t).length := by
  simp only [scr, List.length_cons, List.length_append]; omega
 have d2 : (scr s t).drop (5 + (quoteM s).length) = 32 :: quoteM t := by
  rw [← List.drop_drop]
  show List.drop (quoteM s).length (quoteM s ++ 32 :: quoteM t) = _
  rw [List.drop_left]
 obtain ⟨r, hr⟩ := quoteM_head s
 obtain ⟨r2, hr2⟩ := quoteM_head t
 refine ⟨5 + (quoteM s).length, 5 + (quoteM s).length + 1 + (quoteM t).length, by omega, rfl, rfl, rfl, ?_, rfl, (get_drop d2).1, ?_, ?_, rfl, hlen⟩
 ·have : (scr s t).drop 5 = 39 :: (r ++ 32 :: quoteM t) := by show quoteM s ++ 32 :: quoteM t = _; rw [hr]; rfl
  exact (get_drop this).1
 ·have := (get_drop d2).2
  rw [hr2] at this
  exact (get_drop this).1
 ·rw [List.append_nil]; exact (get_drop d2).2
def wsD (s t : List UInt8) : List (List D) := [[.lst [ptD false echo]], [.lst [ptD true s]], [.lst [ptD true t]]]
def cmdD (s t : List UInt8) : List D := [.int .i64 1, .lst [], .lst [], .lst (wsD s t), .lst [], .lst [], .lst []]
def cmdA (s t : List UInt8) : AV := .agg [i64 1, lst [], lst [], lst (wsD s t), lst [], lst [], lst []]
section
variable {s t : List UInt8} {p2 p3 : Nat} {X : Refs} {k : Out → Refs → Prop}
theorem words_ev (h : Scr (scr s t) s t p2 p3) : Ev T2 f_ref11_tree_words [.ptr 0 0] [tr (scr s t) 0] (.ret (lst (wsD s t))) [tr (scr s t) p3] := by
 have w0 := whM_stay h.h0 (by decide) (by decide)
 have w4 := whM_one h.h4 h.g5 (by decide) (by decide)
 have w2 := whM_one h.g2 h.g21 (by decide) (by decide)
 have w3 := whM_end (Nat.le_of_eq h.l3)
 have hl := h.len
 have hl3 := h.l3
 have he2 := h.e2
 have he3 := h.e3
 have hR : (quoteM s ++ 32 :: quoteM t).length ≤ 2 ^ 29 := by
  have : (scr s t).length = (quoteM s ++ 32 :: quoteM t).length + 5 := rfl
  omega
 have hr : ∀ S, (101 :: 99 :: 104 :: 111 :: 32 :: (quoteM s ++ 32 :: quoteM t)) = S → scr s t = S := fun S h => h
 refine ev_fn rfl rfl ?_
 (repeat' (first| (intro (u_ : Unit); clear u_)| refine condT ?_| refine condF ?_| refine condp (by assumption) ?_| refine condn (by assumption) ?_| refine condN ?_| refine idxSb (by assumption) ?_| (refine condD ?_ ?_ <;> intro hq_ <;> first | (exfalso; omega) | skip)| (refine idxS (by omega) ?_; intro b_ hb_; have hl_ := b_.toNat_lt)| refine wrA (by omega) ?_| refine wrS (by omega) (by omega) ?_| refine wrI (by omega) (by omega) ?_| refine wrBA (by omega) ?_| refine wrB (by omega) (by omega) ?_| refine strC (by omega) ?_| refine nilB rfl ?_))
 refine loopR (fun n : Nat => [(3, match n with | 0 => .nil | n + 1 => .own ((wsD s t).take (n + 1)))]) (fun n => [(0, tr (scr s t) (match n with | 0 => 0 | 1 => 4 | 2 => p2 | _ => p3))]) (fun n => 3 - n) (fun n => n ≤ 3) 0 (by omega) (by rfl) (by rfl) ?_
 intro n hn
 obtain rfl | rfl | rfl | rfl : n = 0 ∨ n = 1 ∨ n = 2 ∨ n = 3 := by omega
 ·(repeat' (first
   | (intro (u_ : Unit); clear u_)
   | refine condT ?_
   | refine condF ?_
   | refine condp (by assumption) ?_
   | refine condn (by assumption) ?_
   | refine condN ?_
   | refine idxSb (by assumption) ?_
   | refine whiteE (i := 0) (by omega) (by omega) w0 ?_
   | refine word0E (R := quoteM s ++ 32 :: quoteM t) hR ?_
   | refine condn (by simp; done) ?_
   | refine appN1 (by simp) rfl ?_
   | (refine condD ?_ ?_ <;> intro hq_ <;> first | (exfalso; omega) | skip)
   | (refine idxS (by omega) ?_; intro b_ hb_; have hl_ := b_.toNat_lt)
   | refine wrA (by omega) ?_
   | refine wrS (by omega) (by omega) ?_
   | refine wrI (by omega) (by omega) ?_
   | refine wrBA (by omega) ?_
   | refine wrB (by omega) (by omega) ?_
   | refine strC (by omega) ?_
   | refine nilB rfl ?_))
  exact ⟨1, by omega, by omega, rfl, rfl, rfl, rfl⟩
 ·(repeat' (first
   | (intro (u_ : Unit); clear u_)
   | refine condT ?_
   | refine condF ?_
   | refine condp (by assumption) ?_
   | refine condn (by assumption) ?_
   | refine condN ?_
   | refine idxSb (by assumption) ?_
   | refine whiteE (i := 4) (by omega) (by omega) w4 ?_
   | refine wordQE (by omega) (.inr ⟨_, rfl⟩) h.d5 h.e2 ?_
   | refine condn (by simp; done) ?_
   | refine appL (by simp [wsD]; done) rfl rfl ?_
   | (refine condD ?_ ?_ <;> intro hq_ <;> first | (exfalso; omega) | skip)
   | (refine idxS (by omega) ?_; intro b_ hb_; have hl_ := b_.toNat_lt)
   | refine wrA (by omega) ?_
   | refine wrS (by omega) (by omega) ?_
   | refine wrI (by omega) (by omega) ?_
   | refine wrBA (by omega) ?_
   | refine wrB (by omega) (by omega) ?_
   | refine strC (by omega) ?_
   | refine nilB rfl ?_))
  exact ⟨2, by omega, by omega, rfl, rfl, rfl, rfl⟩
 ·(repeat' (first
   | (intro (u_ : Unit); clear u_)
   | refine condT ?_
   | refine condF ?_
   | refine condp (by assumption) ?_
   | refine condn (by assumption) ?_
   | refine condN ?_
   | refine idxSb (by assumption) ?_
   | refine whiteE (i := p2) (by omega) (by omega) w2 ?_
   | refine wordQE (by omega) (.inl rfl) h.d2 h.e3 ?_
   | refine condn (by simp; done) ?_
   | refine appL (by simp [wsD]; done) rfl rfl ?_
   | (refine condD ?_ ?_ <;> intro hq_ <;> first | (exfalso; omega) | skip)
   | (refine idxS (by omega) ?_; intro b_ hb_; have hl_ := b_.toNat_lt)
   | refine wrA (by omega) ?_
   | refine wrS (by omega) (by omega) ?_
   | refine wrI (by omega) (by omega) ?_
   | refine wrBA (by omega) ?_
   | refine wrB (by omega) (by omega) ?_
   | refine strC (by omega) ?_
   | refine nilB rfl ?_))
  exact ⟨3, by omega, by omega, rfl, rfl, rfl, rfl⟩
 ·(repeat' (first
   | (intro (u_ : Unit); clear u_)
   | refine condT ?_
   | refine condF ?_
   | refine condp (by assumption) ?_
   | refine condn (by assumption) ?_
   | refine condN ?_
   | refine idxSb (by assumption) ?_
   | refine whiteE (i := p3) (by omega) (by omega) w3 ?_
   | refine wordNE (by omega) ?_
   | refine condp (by simp; done) ?_
   | (refine condD ?_ ?_ <;> intro hq_ <;> first | (exfalso; omega) | skip)
   | (refine idxS (by omega) ?_; intro b_ hb_; have hl_ := b_.toNat_lt)
   | refine wrA (by omega) ?_
   | refine wrS (by omega) (by omega) ?_
   | refine wrI (by omega) (by omega) ?_
   | refine wrBA (by omega) ?_
   | refine wrB (by omega) (by omega) ?_
   | refine strC (by omega) ?_
   | refine nilB rfl ?_))
  exact ⟨rfl, rfl⟩
theorem wordsE (h : Scr (scr s t) s t p2 p3) (h' : k (.ret (lst (wsD s t))) (tr (scr s t) p3 :: X)) : CallE T2 f_ref11_tree_words [.ptr 0 0] (tr (scr s t) 0 :: X) k :=
 ⟨_, _, at0 rfl (tr_b _ _) (tr_b _ _) rfl (words_ev h), h'⟩
theorem simple_ev (h : Scr (scr s t) s t p2 p3) : Ev T2 f_ref11_tree_simple [.ptr 0 0] [tr (scr s t) 0] (.ret (cmdA s t)) [tr (scr s t) p3] := by
 have hl := h.len
 have hl3 := h.l3
 have he2 := h.e2
 have he3 := h.e3
 have hR : (quoteM s ++ 32 :: quoteM t).length ≤ 2 ^ 29 := by
  have : (scr s t).length = (quoteM s ++ 32 :: quoteM t).length + 5 := rfl
  omega
 refine ev_fn rfl rfl ?_
 (repeat' (first| (intro (u_ : Unit); clear u_)| refine condT ?_| refine condF ?_| refine condp (by assumption) ?_| refine condn (by assumption) ?_| refine condN ?_| refine idxSb (by assumption) ?_| (refine condD ?_ ?_ <;> intro hq_ <;> first | (exfalso; omega) | skip)| (refine idxS (by omega) ?_; intro b_ hb_; have hl_ := b_.toNat_lt)| refine wrA (by omega) ?_| refine wrS (by omega) (by omega) ?_| refine wrI (by omega) (by omega) ?_| refine wrBA (by omega) ?_| refine wrB (by omega) (by omega) ?_| refine strC (by omega) ?_| refine nilB rfl ?_))
 refine loopR (fun _ : Unit => []) (fun _ => []) (fun _ => 0) (fun _ => True) () trivial (by rfl) (by rfl) ?_
 intro _ _
 (repeat' (first| (intro (u_ : Unit); clear u_)| refine condT ?_| refine condF ?_| refine condp (by assumption) ?_| refine condn (by assumption) ?_| refine condN ?_| refine idxSb (by assumption) ?_| refine endE (i := 0) (fun h_ => ?_) (fun h_ => absurd h_ (by omega))| refine namedE (R := quoteM s ++ 32 :: quoteM t) (by omega) ?_| refine keyE (R := quoteM s ++ 32 :: quoteM t) (by omega) ?_| refine wrA (a := 0) (b := 4) (by decide) ?_| refine wrA (a := ([] : List (List D)).length) (b := (wsD s t).length) (by simp [wsD]; done) ?_| refine idxSb (i := 0 + 4) h.h4 ?_| refine wordsE h ?_| refine condn (by simp [wsD]; done) ?_| (refine condD ?_ ?_ <;> intro hq_ <;> first | (exfalso; omega) | skip)| (refine idxS (by omega) ?_; intro b_ hb_; have hl_ := b_.toNat_lt)| refine wrA (by omega) ?_| refine wrS (by omega) (by omega) ?_| refine wrI (by omega) (by omega) ?_| refine wrBA (by omega) ?_| refine wrB (by omega) (by omega) ?_| refine strC (by omega) ?_| refine nilB rfl ?_))
 exact ⟨rfl, rfl⟩
theorem simpleE (h : Scr (scr s t) s t p2 p3) (h' : k (.ret (cmdA s t)) (tr (scr s t) p3 :: X)) : CallE T2 f_ref11_tree_simple [.ptr 0 0] (tr (scr s t) 0 :: X) k :=
 ⟨_, _, at0 rfl (tr_b _ _) (tr_b _ _) rfl (simple_ev h), h'⟩
theorem command_ev (h : Scr (scr s t) s t p2 p3) : Ev T2 f_ref11_tree_command [.ptr 0 0] [tr (scr s t) 0] (.ret (cmdA s t)) [tr (scr s t) p3] := by
 have w0 := whM_stay h.h0 (by decide) (by decide)
 have hl := h.len
 have hR : (quoteM s ++ 32 :: quoteM t).length ≤ 2 ^ 29 := by
  have : (scr s t).length = (quoteM s ++ 32 :: quoteM t).length + 5 := rfl
  omega
 refine ev_fn rfl rfl ?_
 (repeat' (first| (intro (u_ : Unit); clear u_)| refine condT ?_| refine condF ?_| refine condp (by assumption) ?_| refine condn (by assumption) ?_| refine condN ?_| refine idxSb (by assumption) ?_| refine whiteE (i := 0) (X := [_]) (by omega) (by omega) w0 ?_| refine keyE (R := quoteM s ++ 32 :: quoteM t) (by omega) ?_| refine simpleE h ?_| refine condp (by rfl) ?_| (refine condD ?_ ?_ <;> intro hq_ <;> first | (exfalso; omega) | skip)| (refine idxS (by omega) ?_; intro b_ hb_; have hl_ := b_.toNat_lt)| refine wrA (by omega) ?_| refine wrS (by omega) (by omega) ?_| refine wrI (by omega) (by omega) ?_| refine wrBA (by omega) ?_| refine wrB (by omega) (by omega) ?_| refine strC (by omega) ?_| refine nilB rfl ?_))
 exact ⟨rfl, rfl⟩
theorem commandE (h : Scr (scr s t) s t p2 p3) (h' : k (.ret (cmdA s t)) (tr (scr s t) p3 :: X)) : CallE T2 f_ref11_tree_command [.ptr 0 0] (tr (scr s t) 0 :: X) k :=
 ⟨_, _, at0 rfl (tr_b _ _) (tr_b _ _) rfl (command_ev h), h'⟩
theorem bars_ev (h : Scr (scr s t) s t p2 p3) (b : Bool) : Ev T2 f_ref11_tree_bars [.ptr 0 0, bl b] [tr (scr s t) p3] (.ret (bl false)) [tr (scr s t) p3] := by
 have w3 := whM_end (Nat.le_of_eq h.l3)
 have hl := h.len
 have hl3 := h.l3
 refine ev_fn rfl rfl ?_
 (repeat' (first| (intro (u_ : Unit); clear u_)| refine condT ?_| refine condF ?_| refine condp (by assumption) ?_| refine condn (by assumption) ?_| refine condN ?_| refine idxSb (by assumption) ?_| refine whiteE (i := p3) (X := []) (by omega) (by omega) w3 ?_| refine endE (X := []) (fun h_ => absurd h_ (by omega)) (fun h_ => ?_)| (refine condD ?_ ?_ <;> intro hq_ <;> first | (exfalso; omega) | skip)| (refine idxS (by omega) ?_; intro b_ hb_; have hl_ := b_.toNat_lt)| refine wrA (by omega) ?_| refine wrS (by omega) (by omega) ?_| refine wrI (by omega) (by omega) ?_| refine wrBA (by omega) ?_| refine wrB (by omega) (by omega) ?_| refine strC (by omega) ?_| refine nilB rfl ?_))
 exact ⟨rfl, rfl⟩
theorem barsE {b : Bool} (h : Scr (scr s t) s t p2 p3) (h' : k (.ret (bl false)) (tr (scr s t) p3 :: X)) : CallE T2 f_ref11_tree_bars [.ptr 0 0, bl b] (tr (scr s t) p3 :: X) k :=
 ⟨_, _, at0 rfl (tr_b _ _) (tr_b _ _) rfl (bars_ev h b), h'⟩
theorem pipe_ev (h : Scr (scr s t) s t p2 p3) : Ev T2 f_ref11_tree_pipe [.ptr 0 0] [tr (scr s t) 0] (.ret (cmdA s t)) [tr (scr s t) p3] := by
 refine ev_fn rfl rfl ?_
 (repeat' (first| (intro (u_ : Unit); clear u_)| refine condT ?_| refine condF ?_| refine condp (by assumption) ?_| refine condn (by assumption) ?_| refine condN ?_| refine idxSb (by assumption) ?_| refine commandE h ?_| (refine condD ?_ ?_ <;> intro hq_ <;> first | (exfalso; omega) | skip)| (refine idxS (by omega) ?_; intro b_ hb_; have hl_ := b_.toNat_lt)| refine wrA (by omega) ?_| refine wrS (by omega) (by omega) ?_| refine wrI (by omega) (by omega) ?_| refine wrBA (by omega) ?_| refine wrB (by omega) (by omega) ?_| refine strC (by omega) ?_| refine nilB rfl ?_))
 refine loopR (fun _ : Unit => []) (fun _ => []) (fun _ => 0) (fun _ => True) () trivial (by rfl) (by rfl) ?_
 intro _ _
 (repeat' (first| (intro (u_ : Unit); clear u_)| refine condT ?_| refine condF ?_| refine condp (by assumption) ?_| refine condn (by assumption) ?_| refine condN ?_| refine idxSb (by assumption) ?_| refine barsE h ?_| refine condp (by simp; done) ?_| refine idxLb (i := 0) (cs := cmdD s t) rfl rfl ?_| (refine condD ?_ ?_ <;> intro hq_ <;> first | (exfalso; omega) | skip)| (refine idxS (by omega) ?_; intro b_ hb_; have hl_ := b_.toNat_lt)| refine wrA (by omega) ?_| refine wrS (by omega) (by omega) ?_| refine wrI (by omega) (by omega) ?_| refine wrBA (by omega) ?_| refine wrB (by omega) (by omega) ?_| refine strC (by omega) ?_| refine nilB rfl ?_))
 exact ⟨rfl, rfl⟩
theorem pipeE (h : Scr (scr s t) s t p2 p3) (h' : k (.ret (cmdA s t)) (tr (scr s t) p3 :: X)) : CallE T2 f_ref11_tree_pipe [.ptr 0 0] (tr (scr s t) 0 :: X) k :=
 ⟨_, _, at0 rfl (tr_b _ _) (tr_b _ _) rfl (pipe_ev h), h'⟩
theorem line_ev (h : Scr (scr s t) s t p2 p3) : Ev T2 f_ref11_tree_line [.ptr 0 0] [tr (scr s t) 0] (.ret (cmdA s t)) [tr (scr s t) p3] := by
 refine ev_fn rfl rfl ?_
 (repeat' (first| (intro (u_ : Unit); clear u_)| refine condT ?_| refine condF ?_| refine condp (by assumption) ?_| refine condn (by assumption) ?_| refine condN ?_| refine idxSb (by assumption) ?_| refine pipeE h ?_| (refine condD ?_ ?_ <;> intro hq_ <;> first | (exfalso; omega) | skip)| (refine idxS (by omega) ?_; intro b_ hb_; have hl_ := b_.toNat_lt)| refine wrA (by omega) ?_| refine wrS (by omega) (by omega) ?_| refine wrI (by omega) (by omega) ?_| refine wrBA (by omega) ?_| refine wrB (by omega) (by omega) ?_| refine strC (by omega) ?_| refine nilB rfl ?_))
 refine loopR (fun _ : Unit => []) (fun _ => []) (fun _ => 0) (fun _ => True) () trivial (by rfl) (by rfl) ?_
 intro _ _
 (repeat' (first| (intro (u_ : Unit); clear u_)| refine condT ?_| refine condF ?_| refine condp (by assumption) ?_| refine condn (by assumption) ?_| refine condN ?_| refine idxSb (by assumption) ?_| refine barsE h ?_| refine condp (by simp; done) ?_| refine idxLb (i := 0) (cs := cmdD s t) rfl rfl ?_| (refine condD ?_ ?_ <;> intro hq_ <;> first | (exfalso; omega) | skip)| (refine idxS (by omega) ?_; intro b_ hb_; have hl_ := b_.toNat_lt)| refine wrA (by omega) ?_| refine wrS (by omega) (by omega) ?_| refine wrI (by omega) (by omega) ?_| refine wrBA (by omega) ?_| refine wrB (by omega) (by omega) ?_| refine strC (by omega) ?_| refine nilB rfl ?_))
 exact ⟨rfl, rfl⟩
theorem lineE (h : Scr (scr s t) s t p2 p3) (h' : k (.ret (cmdA s t)) (tr (scr s t) p3 :: X)) : CallE T2 f_ref11_tree_line [.ptr 0 0] (tr (scr s t) 0 :: X) k :=
 ⟨_, _, at0 rfl (tr_b _ _) (tr_b _ _) rfl (line_ev h), h'⟩
theorem list_ev (h : Scr (scr s t) s t p2 p3) : Ev T2 f_ref11_tree_list [.ptr 0 0] [tr (scr s t) 0] (.ret (lst [cmdD s t])) [tr (scr s t) p3] := by
 have w0 := whM_stay h.h0 (by decide) (by decide)
 have w3 := whM_end (Nat.le_of_eq h.l3)
 have hl := h.len
 have hl3 := h.l3
 have he2 := h.e2
 have he3 := h.e3
 have hR : (quoteM s ++ 32 :: quoteM t).length ≤ 2 ^ 29 := by
  have : (scr s t).length = (quoteM s ++ 32 :: quoteM t).length + 5 := rfl
  omega
 have n0 : ∀ c, (scr s t)[0]? = some c → c.toNat ≠ 10 ∧ c.toNat ≠ 59 := fun c hc => by rw [h.h0] at hc; cases hc; decide
 have n3 : ∀ c, (scr s t)[p3]? = some c → c.toNat ≠ 10 ∧ c.toNat ≠ 59 := fun c hc => by have := get_lt hc; omega
 refine ev_fn rfl rfl ?_
 (repeat' (first| (intro (u_ : Unit); clear u_)| refine condT ?_| refine condF ?_| refine condp (by assumption) ?_| refine condn (by assumption) ?_| refine condN ?_| refine idxSb (by assumption) ?_| refine sepsE (i := 0) (X := []) (by omega) (by omega) w0 n0 ?_| (refine condD ?_ ?_ <;> intro hq_ <;> first | (exfalso; omega) | skip)| (refine idxS (by omega) ?_; intro b_ hb_; have hl_ := b_.toNat_lt)| refine wrA (by omega) ?_| refine wrS (by omega) (by omega) ?_| refine wrI (by omega) (by omega) ?_| refine wrBA (by omega) ?_| refine wrB (by omega) (by omega) ?_| refine strC (by omega) ?_| refine nilB rfl ?_))
 refine loopR (fun _ : Unit => []) (fun _ => []) (fun _ => 0) (fun _ => True) () trivial (by rfl) (by rfl) ?_
 intro _ _
 (repeat' (first| (intro (u_ : Unit); clear u_)| refine condT ?_| refine condF ?_| refine condp (by assumption) ?_| refine condn (by assumption) ?_| refine condN ?_| refine idxSb (by assumption) ?_| refine endE (i := 0) (fun h_ => ?_) (fun h_ => absurd h_ (by omega))| refine cE h.h0 ?_| refine keyE (R := quoteM s ++ 32 :: quoteM t) (by omega) ?_| refine condn (by simp; done) ?_| refine lineE h ?_| refine appN1 (by simp) rfl ?_| refine sepsE (i := p3) (by omega) (by omega) w3 n3 ?_| (refine condD ?_ ?_ <;> intro hq_ <;> first | (exfalso; omega) | skip)| (refine idxS (by omega) ?_; intro b_ hb_; have hl_ := b_.toNat_lt)| refine wrA (by omega) ?_| refine wrS (by omega) (by omega) ?_| refine wrI (by omega) (by omega) ?_| refine wrBA (by omega) ?_| refine wrB (by omega) (by omega) ?_| refine strC (by omega) ?_| refine nilB rfl ?_))
 exact ⟨rfl, rfl⟩
theorem Read_ev (h : Scr (scr s t) s t p2 p3) (rf : Refs) : Ev T2 f_ref11_Read [str (scr s t)] rf (.ret (.tup [lst [cmdD s t], i64 0])) rf := by
 refine Ev.any ?_ rfl rf
 have hl := h.len
 have hl3 := h.l3
 have hls : CallE T2 f_ref11_tree_list [.ptr 0 0] [tr (scr s t) 0] (fun o r => o = .ret (lst [cmdD s t]) ∧ r = [tr (scr s t) p3]) := ⟨_, _, list_ev h, rfl, rfl⟩
 refine ev_fn rfl rfl ?_
 (repeat' (first| (intro (u_ : Unit); clear u_)| refine condT ?_| refine condF ?_| refine condp (by assumption) ?_| refine condn (by assumption) ?_| refine condN ?_| refine idxSb (by assumption) ?_| refine callE_ev (rf' := [tr (scr s t) p3]) (list_ev h) ?_| (refine condD ?_ ?_ <;> intro hq_ <;> first | (exfalso; omega) | skip)| (refine idxS (by omega) ?_; intro b_ hb_; have hl_ := b_.toNat_lt)| refine wrA (by omega) ?_| refine wrS (by omega) (by omega) ?_| refine wrI (by omega) (by omega) ?_| refine wrBA (by omega) ?_| refine wrB (by omega) (by omega) ?_| refine strC (by omega) ?_| refine nilB rfl ?_))
 exact ⟨rfl, rfl⟩
end
end Go.Ab.R12
namespace Go.Ab.R12
open Go.RowKit Go.Proofs
set_option linter.all false
theorem orcOK (m : Int) : @OrcOK (glbInt 0 m) Tryd.prog T2.orc := @orcOK_of (glbInt 0 m) _ _ fun p hp => by
 simp only [orcL, List.mem_cons, List.not_mem_nil, or_false] at hp
 rcases hp with rfl | rfl
 ·exact @orcWord (glbInt 0 m)
 ·exact orcRepl m
theorem law_calls {f : FuncId} {args : List AV} (he : Ev T2 f args [] (.ret (bl true)) []) (hf : ∃ af, lookupF tabl f = some af) (ha : AV.refBs args = 0) (hno : ∀ y ∈ args, ∀ es, y ≠ .own es) {vs : Array Value} (hr : RepL (@K0 Glb.none) args vs.toList) (W : World) (hsh : W.ShapedOpen Tryd.prog) :
  Calls Tryd.prog f vs W fun e W' => e = .returned (.bool true) ∧ Below W.heap.size W W' := by
 obtain ⟨m, hm⟩ := Tryd.laysM155.s1_3 W hsh
 refine @calls_of_evG (glbInt 0 m) Tryd.prog T2 fitN fitD (orcOK m) f args (.bool true) (.bool true) [] he rfl hf ha hno vs ?_ W (glbInt_in hm)
 exact RepL.mono (K := @K0 Glb.none) (K' := @K0 (glbInt 0 m)) (n := AV.refBs args) (fun _ _ _ h => nomatch h) (fun _ _ => rfl) _ _ (Nat.le_refl _) hr
end Go.Ab.R12
namespace Go.Ab.R12
set_option maxRecDepth 100000
set_option linter.all false
set_option maxHeartbeats 4000000
theorem readE {s t x : List UInt8} {rf : Refs} {k : Out → Refs → Prop} (e : x = scr s t) (hl : s.length + t.length ≤ 2000) (h : k (.ret (.tup [lst [cmdD s t], i64 0])) rf) : CallE T2 f_ref11_Read [str x] rf k := by
 subst e
 obtain ⟨p2, p3, hs⟩ := scr_ok hl
 exact callE_ev (Read_ev hs rf) h
theorem ShowQuotes_ev (s : List UInt8) (hs : s.length ≤ 2 ^ 47) (t : List UInt8) (ht : t.length ≤ 2 ^ 47) (rf : Refs) : Ev T2 f_law12_ShowQuotes [str s, str t] rf (.ret (bl true)) rf := by
 refine Ev.any ?_ rfl rf
 by_cases hlen : s.length + t.length > 2000
 ·refine ev_fn rfl rfl ?_
  (repeat' (first| (intro (u_ : Unit); clear u_)| refine condT ?_| refine condF ?_| refine condp (by assumption) ?_| refine condn (by assumption) ?_| refine condN ?_| refine idxSb (by assumption) ?_| refine callE_ev (shown_ev _) ?_| (refine condD ?_ ?_ <;> intro hq_ <;> first | (exfalso; omega) | skip)| (refine idxS (by omega) ?_; intro b_ hb_; have hl_ := b_.toNat_lt)| refine wrA (by omega) ?_| refine wrS (by omega) (by omega) ?_| refine wrI (by omega) (by omega) ?_| refine wrBA (by omega) ?_| refine wrB (by omega) (by omega) ?_| refine strC (by omega) ?_| refine nilB rfl ?_))
  exact ⟨rfl, rfl⟩
 have h1 := quoteM_length s
 have h2 := quoteM_length t
 have c1 := List.count_le_length (a := (39 : UInt8)) (l := s)
 have c2 := List.count_le_length (a := (39 : UInt8)) (l := t)
 have l1 : ([cmdD s t] : List (List D)).length = 1 := rfl
 have l3 : (wsD s t).length = 3 := rfl
 have la : ([ptD true s] : List (List D)).length = 1 := rfl
 have lb : ([ptD true t] : List (List D)).length = 1 := rfl
 have e : [101, 99, 104, 111, 32] ++ quoteM s ++ [32] ++ quoteM t = scr s t := by simp [scr]
 refine ev_fn rfl rfl ?_
 (repeat' (first| (intro (u_ : Unit); clear u_)| refine condT ?_| refine condF ?_| refine condp (by assumption) ?_| refine condn (by assumption) ?_| refine condN ?_| refine idxSb (by assumption) ?_| refine callE_ev (shown_ev _) ?_| refine callE_ev (Quote_ev s (by omega) _) ?_| refine callE_ev (Quote_ev t (by omega) _) ?_| refine strC (by simp only [List.length_cons, List.length_nil, List.length_append]; omega) ?_| refine readE e (by omega) ?_| refine idxLb (i := 0) (cs := cmdD s t) rfl rfl ?_| refine idxLb (i := 1) (cs := [.lst [ptD true s]]) rfl rfl ?_| refine idxLb (i := 2) (cs := [.lst [ptD true t]]) rfl rfl ?_| refine idxLb (i := 0) (cs := ptD true s) rfl rfl ?_| refine idxLb (i := 0) (cs := ptD true t) rfl rfl ?_| refine condp (p := s = s) rfl ?_| refine condp (p := t = t) rfl ?_| (refine condD ?_ ?_ <;> intro hq_ <;> first | (exfalso; omega) | skip)| (refine idxS (by omega) ?_; intro b_ hb_; have hl_ := b_.toNat_lt)| refine wrA (by omega) ?_| refine wrS (by omega) (by omega) ?_| refine wrI (by omega) (by omega) ?_| refine wrBA (by omega) ?_| refine wrB (by omega) (by omega) ?_| refine strC (by omega) ?_| refine nilB rfl ?_))
 exact ⟨rfl, rfl⟩
end Go.Ab.R12
