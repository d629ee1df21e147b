/- A part of the proof: tools. No condition. -/
import Derived.Test.YtmpdgijnoekfmaaGreatDoorC9
import Derived.Test.YtmpdgijnoekfmaaGreatDoorL2
import Derived.Test.YtmpdgijnoekfmaaGreatDoorProg
set_option linter.all false
namespace Go.Ab.R15z
open Go.RowKit Go.Proofs
set_option maxRecDepth 100000
set_option linter.all false
set_option maxHeartbeats 4000000
theorem idxByte_pl {a : List AV} {v : AV} (h : idxByte a = some v) : v.refB = 0 ∧ AV.refBs a = 0 := by
 unfold idxByte at h
 split at h
 ·cases h; exact ⟨rfl, rfl⟩
 ·cases h
theorem splitO_pl {a : List AV} {v : AV} (h : splitO a = some v) : v.refB = 0 ∧ AV.refBs a = 0 := by
 unfold splitO at h
 split at h
 ·split at h
  ·cases h; exact ⟨rfl, rfl⟩
  ·cases h
 ·cases h
theorem mul64O_pl {a : List AV} {v : AV} (h : mul64O a = some v) : v.refB = 0 ∧ AV.refBs a = 0 := by
 unfold mul64O at h
 split at h
 ·split at h
  ·cases h; exact ⟨rfl, rfl⟩
  ·cases h
 ·cases h
theorem add64O_pl {a : List AV} {v : AV} (h : add64O a = some v) : v.refB = 0 ∧ AV.refBs a = 0 := by
 unfold add64O at h
 split at h
 ·split at h
  ·cases h; exact ⟨rfl, rfl⟩
  ·cases h
 ·cases h
def orcL : List (Nat × (List AV → Option AV)) := [(f_bytealg_IndexByteString, idxByte), (f_strings_Split, splitO), (f_bits_Mul64, mul64O), (f_bits_Add64, add64O)]
def T2 : Tb := ⟨lookupF tabl, lookupF tabD, orcOf orcL⟩
theorem fitN : FitN Tryz.prog (lookupF tabl) := fitN_of (by decide +kernel)
theorem fitD : FitD Tryz.prog (lookupF tabD) := fitD_of (by decide +kernel)
theorem orcL_pl {a : List AV} {v : AV} {f : FuncId} (h : orcOf orcL f a = some v) : v.refB = 0 ∧ AV.refBs a = 0 := by
 simp only [orcL, orcOf] at h
 split at h
 ·exact idxByte_pl h
 ·split at h
  ·exact splitO_pl h
  ·split at h
   ·exact mul64O_pl h
   ·split at h
    ·exact add64O_pl h
    ·cases h
instance : ScanB T2 where
 tab := fun f af h => let ⟨_, _, hf, _⟩ := fitN f af h; hf.cok
 tabD := fun f af h => let ⟨_, _, hf, _⟩ := fitD f af h; hf.cok
 orc := fun f a v h => orcL_pl h
 tb := rfl
 td := rfl
 idx := fun args => rfl
 none := fun f args h1 => orcOf_none (fun p hp e => by
  simp only [orcL, List.mem_cons, List.not_mem_nil, or_false] at hp
  rcases hp with rfl | rfl | rfl | rfl <;> (subst e; exact absurd h1 (by decide)))
 mul := fun args => rfl
 add := fun args => rfl
 spl := fun args => rfl
theorem orcIdx [Glb] : OrcAt Tryz.prog f_bytealg_IndexByteString idxByte := idxByte_ok (fn := Tryz.f71) Tryz.func71 (by decide +kernel) (by decide +kernel) (by rfl) (by rfl)
theorem orcAdd [Glb] : OrcAt Tryz.prog f_bits_Add64 add64O := add64O_ok (fn := Tryz.f54) Tryz.func54 (by decide +kernel) (by decide +kernel) (by rfl) (by rfl)
section
variable {T : Tb} [hS : ScanB T] {rf : Refs} {k : Out → Refs → Prop}
theorem tokE {s : List UInt8} {X : Ts} (hs : s.length ≤ 2 ^ 60) (hX : toksM s = X) (h : k (.ret (toksA X)) rf) : CallE T f_scan_Tokens [str s] rf k := callE_ev (Tokens_ev s hs rf) (by rw [hX]; exact h)
theorem idxTk {l : List Tok} {i : Nat} {t : Tok} {c : List D → Prop} (h : l[i]? = some t) (h' : c (tokD t)) : IdxL 4 (l.map tokD) (i : Int) c := idxLb (by rw [List.getElem?_map, h]; rfl) rfl h'
end
def shA : List Tok := [⟨5, 0, [97], 0⟩, ⟨7, 2, [47], 0⟩, ⟨5, 3, [98], 0⟩, ⟨7, 4, [47], 0⟩, ⟨2, 6, [], 2000000⟩, ⟨0, 7, [], 0⟩]
def shB : List Tok := [⟨7, 0, [126], 0⟩, ⟨4, 2, [98], 0⟩, ⟨0, 5, [], 0⟩]
theorem shA_eq : toksM [97, 32, 47, 98, 47, 32, 50] = .ok shA := by decide +kernel
theorem shB_eq : toksM [126, 32, 47, 98, 47] = .ok shB := by decide +kernel
theorem shown_ev {T : Tb} [hS : ScanB T] (rf : Refs) : Ev T f_law15_shown [] rf (.ret (bl true)) rf := by
 refine Ev.any ?_ rfl rf
 refine ev_fn rfl rfl ?_
 (repeat' (first| (intro (u_ : Unit); clear u_)| refine condT ?_| refine condF ?_| refine condp (by assumption) ?_| refine condn (by assumption) ?_| refine condN ?_| refine idxSb (by assumption) ?_| refine tokE (by decide) shA_eq ?_| refine tokE (by decide) shB_eq ?_| refine idxTk (l := shA) (i := 1) rfl ?_| refine idxTk (l := shA) (i := 4) rfl ?_| refine idxTk (l := shB) (i := 1) rfl ?_| refine condt (by decide) ?_| (refine condD ?_ ?_ <;> intro hq_ <;> first | (exfalso; omega) | skip)| (refine idxS (by omega) ?_; intro b_ hb_; have hl_ := b_.toNat_lt)| refine wrA (by omega) ?_| refine wrS (by omega) (by omega) ?_| refine wrI (by omega) (by omega) ?_| refine wrBA (by omega) ?_| refine wrB (by omega) (by omega) ?_| refine strC (by omega) ?_| refine nilB rfl ?_))
 exact ⟨rfl, rfl⟩
end Go.Ab.R15z
namespace Go.Ab.R15z
set_option maxRecDepth 100000
set_option linter.all false
set_option maxHeartbeats 4000000
section
variable {T : Tb} [hS : ScanB T]
theorem idxTk2 {l : List Tok} {n : Int} {i : Nat} {t : Tok} {c : List D → Prop} (hn : n = i) (h : l[i]? = some t) (h' : c (tokD t)) : IdxL 4 (l.map tokD) n c := by subst hn; exact idxTk h h'
theorem rOperand_ev (t : Tok) (rf : Refs) : Ev T f_ref15_Operand [.agg (tokC t)] rf (.ret (bl (opM t))) rf := by
 refine Ev.any ?_ rfl rf
 obtain ⟨k, p, x, n⟩ := t
 refine ev_fn rfl rfl ?_
 (repeat' (first| (intro (u_ : Unit); clear u_)| refine condT ?_| refine condF ?_| refine condp (by assumption) ?_| refine condn (by assumption) ?_| refine condN ?_| refine idxSb (by assumption) ?_| (refine condD ?_ ?_ <;> intro hq_ <;> first | (exfalso; omega) | skip)| (refine idxS (by omega) ?_; intro b_ hb_; have hl_ := b_.toNat_lt)| refine wrA (by omega) ?_| refine wrS (by omega) (by omega) ?_| refine wrI (by omega) (by omega) ?_| refine wrBA (by omega) ?_| refine wrB (by omega) (by omega) ?_| refine strC (by omega) ?_| refine nilB rfl ?_))
 all_goals (simp only at *; refine ⟨?_, rfl⟩; congr 3; rw [Bool.eq_iff_iff]; by_cases x1 : x = [41] <;> by_cases x2 : x = [93] <;> simp [opM, x1, x2] at * <;> omega)
def opL (l : List Tok) : Bool := match l.getLast? with
 | some t => opM t
 | none => false
theorem opL_snoc (l : List Tok) (t : Tok) : opL (l ++ [t]) = opM t := by simp [opL]
theorem rTokens_ev (s : List UInt8) (hs : s.length ≤ 2 ^ 60) (rf : Refs) : Ev T f_ref15_Tokens [str s] rf (.ret (toksA (toksM s))) rf := by
 refine Ev.any ?_ rfl rf
 unfold toksM
 by_cases hbig : 8192 < s.length
 ·rw [if_pos hbig]
  refine ev_fn rfl rfl ?_
  (repeat' (first| (intro (u_ : Unit); clear u_)| refine condT ?_| refine condF ?_| refine condp (by assumption) ?_| refine condn (by assumption) ?_| refine condN ?_| refine idxSb (by assumption) ?_| (refine condD ?_ ?_ <;> intro hq_ <;> first | (exfalso; omega) | skip)| (refine idxS (by omega) ?_; intro b_ hb_; have hl_ := b_.toNat_lt)| refine wrA (by omega) ?_| refine wrS (by omega) (by omega) ?_| refine wrI (by omega) (by omega) ?_| refine wrBA (by omega) ?_| refine wrB (by omega) (by omega) ?_| refine strC (by omega) ?_| refine nilB rfl ?_))
  exact ⟨rfl, rfl⟩
 rw [if_neg hbig]
 generalize hR : toksL s (s.length + 1) 0 false [] = R
 refine ev_fn rfl rfl ?_
 (repeat' (first| (intro (u_ : Unit); clear u_)| refine condT ?_| refine condF ?_| refine condp (by assumption) ?_| refine condn (by assumption) ?_| refine condN ?_| refine idxSb (by assumption) ?_| (refine condD ?_ ?_ <;> intro hq_ <;> first | (exfalso; omega) | skip)| (refine idxS (by omega) ?_; intro b_ hb_; have hl_ := b_.toNat_lt)| refine wrA (by omega) ?_| refine wrS (by omega) (by omega) ?_| refine wrI (by omega) (by omega) ?_| refine wrBA (by omega) ?_| refine wrB (by omega) (by omega) ?_| refine strC (by omega) ?_| refine nilB rfl ?_))
 refine loopR2 (fun (i : Nat) l => [(5, tcT l), (6, i64 i)]) (fun _ _ => []) (fun i _ => s.length - i) (fun i l => (i ≤ s.length ∧ l.length ≤ 2000) ∧ ∃ f, s.length < i + f ∧ toksL s f i (opL l) l = R) 0 [] ⟨by simp, s.length + 1, by omega, hR⟩ (by rfl) (by rfl) ?_
 rintro i l ⟨⟨hi, hl⟩, f, hf, hP⟩
 obtain ⟨g, rfl⟩ : ∃ g, f = g + 1 := ⟨f - 1, by omega⟩
 rw [toks_go] at hP
 have hj0 := skipA_le (b := false) hi
 have hij : i ≤ i + skipA false s i := by omega
 generalize hj : i + skipA false s i = j at *
 have hml : (l.map tokD).length = l.length := by simp
 have hlast : ∀ t, l[l.length - 1]? = some t → opL l = opM t := fun t h => by
  unfold opL; rw [List.getLast?_eq_getElem?, h]
 have hnil : l = [] → opL l = false := fun h => by rw [h]; rfl
 have hgo : j < s.length → ∀ rf, Ev T f_ref15_one [str s, i64 j, bl (opL l)] rf (.ret (oneA j (nextM (s.drop j) (opL l)))) rf := fun h rf => one_ev s j (opL l) h (by omega) rf
 have hsz := sizesT l
 have hsn := fun t => tcT_snoc l t
 have hl1 : l ≠ [] → ∃ t, l[l.length - 1]? = some t ∧ opL l = opM t := fun h => by
  have hp := List.length_pos_iff.2 h
  exact ⟨l[l.length - 1], List.getElem?_eq_getElem (by omega), hlast _ (List.getElem?_eq_getElem (by omega))⟩
 clear hlast
 rcases l with _ | ⟨t0, l⟩
 ·rw [hnil rfl] at hP hgo
  clear hnil hl1
  (repeat' (first| (intro (u_ : Unit); clear u_)| refine condT ?_| refine condF ?_| refine condp (by assumption) ?_| refine condn (by assumption) ?_| refine condN ?_| refine idxSb (by assumption) ?_| (refine condD ?_ ?_ <;> intro hq_ <;> first | (exfalso; omega) | skip)| (refine idxS (by omega) ?_; intro b_ hb_; have hl_ := b_.toNat_lt)| refine wrA (by omega) ?_| refine wrS (by omega) (by omega) ?_| refine wrI (by omega) (by omega) ?_| refine wrBA (by omega) ?_| refine wrB (by omega) (by omega) ?_| refine strC (by omega) ?_| refine nilB rfl ?_))
  refine loopR (fun k : Nat => [(6, i64 k)]) (fun _ => []) (fun k => s.length - k) (fun k => k ≤ s.length ∧ k + skipA false s k = j) i ⟨hi, hj⟩ (by rfl) (by rfl) ?_
  rintro k ⟨hk, hK⟩
  by_cases hst : skipA false s k = 0
  ·obtain rfl : k = j := by omega
   by_cases hlt : k < s.length
   ·rw [if_pos hlt] at hP
    have hgo := hgo hlt
    obtain ⟨c, hc⟩ := getS hlt
    have hcb : c.toNat ≠ 32 ∧ c.toNat ≠ 9 ∧ c.toNat ≠ 35 := by
     refine ⟨fun h => ?_, fun h => ?_, fun h => ?_⟩
     ·rw [skip_blank hc (blank_t (.inl h))] at hst; omega
     ·rw [skip_blank hc (blank_t (.inr h))] at hst; omega
     ·rw [skip_mark hc h, skip_in hc (by omega)] at hst; omega
    cases hx : nextM (s.drop k) false with
    | over =>
      rw [hx] at hgo hP
      simp only at hP
      subst hP
      (repeat' (first| (intro (u_ : Unit); clear u_)| refine condT ?_| refine condF ?_| refine condp (by assumption) ?_| refine condn (by assumption) ?_| refine condN ?_| refine idxSb (by assumption) ?_| refine callE_ev (hgo _) ?_| (refine condD ?_ ?_ <;> intro hq_ <;> first | (exfalso; omega) | skip)| (refine idxS (by omega) ?_; intro b_ hb_; have hl_ := b_.toNat_lt)| refine wrA (by omega) ?_| refine wrS (by omega) (by omega) ?_| refine wrI (by omega) (by omega) ?_| refine wrBA (by omega) ?_| refine wrB (by omega) (by omega) ?_| refine strC (by omega) ?_| refine nilB rfl ?_))
      exact ⟨rfl, rfl⟩
    | bad e =>
      rw [hx] at hgo hP
      simp only at hP
      subst hP
      (repeat' (first| (intro (u_ : Unit); clear u_)| refine condT ?_| refine condF ?_| refine condp (by assumption) ?_| refine condn (by assumption) ?_| refine condN ?_| refine idxSb (by assumption) ?_| refine callE_ev (hgo _) ?_| (refine condD ?_ ?_ <;> intro hq_ <;> first | (exfalso; omega) | skip)| (refine idxS (by omega) ?_; intro b_ hb_; have hl_ := b_.toNat_lt)| refine wrA (by omega) ?_| refine wrS (by omega) (by omega) ?_| refine wrI (by omega) (by omega) ?_| refine wrBA (by omega) ?_| refine wrB (by omega) (by omega) ?_| refine strC (by omega) ?_| refine nilB rfl ?_))
      exact ⟨rfl, rfl⟩
    | ok t n =>
      rw [hx] at hgo hP
      obtain ⟨n1, n2, k1, k2, _⟩ := next_ok hx
      rw [List.length_drop] at n2
      simp only at hP
      rw [if_neg (by simp)] at hP
      have hP' : (k + n ≤ s.length ∧ ([(⟨t.kind, k, t.text, t.num⟩ : Tok)] : List Tok).length ≤ 2000) ∧ ∃ f, s.length < k + n + f ∧ toksL s f (k + n) (opL [⟨t.kind, k, t.text, t.num⟩]) [⟨t.kind, k, t.text, t.num⟩] = R := ⟨⟨by omega, by simp⟩, g, by omega, hP⟩
      (repeat' (first| (intro (u_ : Unit); clear u_)| refine condT ?_| refine condF ?_| refine condp (by assumption) ?_| refine condn (by assumption) ?_| refine condN ?_| refine idxSb (by assumption) ?_| refine callE_ev (hgo _) ?_| refine appN1 (by simp) rfl ?_| (refine condD ?_ ?_ <;> intro hq_ <;> first | (exfalso; omega) | skip)| (refine idxS (by omega) ?_; intro b_ hb_; have hl_ := b_.toNat_lt)| refine wrA (by omega) ?_| refine wrS (by omega) (by omega) ?_| refine wrI (by omega) (by omega) ?_| refine wrBA (by omega) ?_| refine wrB (by omega) (by omega) ?_| refine strC (by omega) ?_| refine nilB rfl ?_))
      exact ⟨k + n, [⟨t.kind, k, t.text, t.num⟩], hP', by omega, rfl, rfl, rfl, rfl⟩
   ·rw [if_neg hlt, if_neg (by simp)] at hP
    subst hP
    (repeat' (first| (intro (u_ : Unit); clear u_)| refine condT ?_| refine condF ?_| refine condp (by assumption) ?_| refine condn (by assumption) ?_| refine condN ?_| refine idxSb (by assumption) ?_| refine appN1 (by simp) rfl ?_| (refine condD ?_ ?_ <;> intro hq_ <;> first | (exfalso; omega) | skip)| (refine idxS (by omega) ?_; intro b_ hb_; have hl_ := b_.toNat_lt)| refine wrA (by omega) ?_| refine wrS (by omega) (by omega) ?_| refine wrI (by omega) (by omega) ?_| refine wrBA (by omega) ?_| refine wrB (by omega) (by omega) ?_| refine strC (by omega) ?_| refine nilB rfl ?_))
    exact ⟨rfl, rfl⟩
  ·have hlt : k < s.length := by
    by_cases h : k < s.length
    ·exact h
    ·exact absurd (skipA_end (by omega)) hst
   obtain ⟨c, hc⟩ := getS hlt
   (repeat' (first| (intro (u_ : Unit); clear u_)| refine condT ?_| refine condF ?_| refine condp (by assumption) ?_| refine condn (by assumption) ?_| refine condN ?_| refine idxSb (by assumption) ?_| (refine condD ?_ ?_ <;> intro hq_ <;> first | (exfalso; omega) | skip)| (refine idxS (by omega) ?_; intro b_ hb_; have hl_ := b_.toNat_lt)| refine wrA (by omega) ?_| refine wrS (by omega) (by omega) ?_| refine wrI (by omega) (by omega) ?_| refine wrBA (by omega) ?_| refine wrB (by omega) (by omega) ?_| refine strC (by omega) ?_| refine nilB rfl ?_))
   all_goals first
    | exact ⟨k + 1, ⟨by omega, by rw [skip_blank (by assumption) (blank_t (by omega))] at hK; omega⟩, by omega, rfl, rfl, rfl, rfl⟩
    | exact absurd (skip_stop (by assumption) (blank_f (by omega) (by omega)) (by omega)) hst
    | skip
   rw [skip_mark (by assumption) (by omega)] at hK
   refine loopR (fun m : Nat => [(6, i64 m)]) (fun _ => []) (fun m => s.length - m) (fun m => k ≤ m ∧ m ≤ s.length ∧ (m = k → s[m]? = some c) ∧ m + skipA true s m = j) k ⟨by omega, by omega, fun _ => hc, hK⟩ (by rfl) (by rfl) ?_
   rintro m ⟨hkm, hm, hb, hQ⟩
   (repeat' (first| (intro (u_ : Unit); clear u_)| refine condT ?_| refine condF ?_| refine condp (by assumption) ?_| refine condn (by assumption) ?_| refine condN ?_| refine idxSb (by assumption) ?_| (refine condD ?_ ?_ <;> intro hq_ <;> first | (exfalso; omega) | skip)| (refine idxS (by omega) ?_; intro b_ hb_; have hl_ := b_.toNat_lt)| refine wrA (by omega) ?_| refine wrS (by omega) (by omega) ?_| refine wrI (by omega) (by omega) ?_| refine wrBA (by omega) ?_| refine wrB (by omega) (by omega) ?_| refine strC (by omega) ?_| refine nilB rfl ?_))
   ·exact ⟨m + 1, ⟨by omega, by omega, by omega, by rw [skip_in (by assumption) (by omega)] at hQ; omega⟩, by omega, rfl, rfl, rfl, rfl⟩
   ·have hne : m ≠ k := fun e => by
     have h1 := (hb e).symm.trans hb_
     cases h1
     omega
    refine ⟨m, ⟨by omega, ?_⟩, by omega, rfl, rfl, rfl, rfl⟩
    rw [skip_nl (by assumption) (by omega)] at hQ ⊢
    exact hQ
   ·have hne : m ≠ k := fun e => by omega
    refine ⟨m, ⟨by omega, ?_⟩, by omega, rfl, rfl, rfl, rfl⟩
    rw [skipA_end (by omega)] at hQ ⊢
    exact hQ
 ·obtain ⟨tl, htl, hop⟩ := hl1 (by simp)
  have hmp : 0 < ((t0 :: l).map tokD).length := by simp
  have hO := rOperand_ev (T := T) tl
  rw [← hop] at hO
  clear hnil hl1 hop
  generalize opL (t0 :: l) = q at *
  (repeat' (first| (intro (u_ : Unit); clear u_)| refine condT ?_| refine condF ?_| refine condp (by assumption) ?_| refine condn (by assumption) ?_| refine condN ?_| refine idxSb (by assumption) ?_| (refine condD ?_ ?_ <;> intro hq_ <;> first | (exfalso; omega) | skip)| (refine idxS (by omega) ?_; intro b_ hb_; have hl_ := b_.toNat_lt)| refine wrA (by omega) ?_| refine wrS (by omega) (by omega) ?_| refine wrI (by omega) (by omega) ?_| refine wrBA (by omega) ?_| refine wrB (by omega) (by omega) ?_| refine strC (by omega) ?_| refine nilB rfl ?_))
  refine loopR (fun k : Nat => [(6, i64 k)]) (fun _ => []) (fun k => s.length - k) (fun k => k ≤ s.length ∧ k + skipA false s k = j) i ⟨hi, hj⟩ (by rfl) (by rfl) ?_
  rintro k ⟨hk, hK⟩
  by_cases hst : skipA false s k = 0
  ·obtain rfl : k = j := by omega
   by_cases hlt : k < s.length
   ·rw [if_pos hlt] at hP
    have hgo := hgo hlt
    obtain ⟨c, hc⟩ := getS hlt
    have hcb : c.toNat ≠ 32 ∧ c.toNat ≠ 9 ∧ c.toNat ≠ 35 := by
     refine ⟨fun h => ?_, fun h => ?_, fun h => ?_⟩
     ·rw [skip_blank hc (blank_t (.inl h))] at hst; omega
     ·rw [skip_blank hc (blank_t (.inr h))] at hst; omega
     ·rw [skip_mark hc h, skip_in hc (by omega)] at hst; omega
    cases hx : nextM (s.drop k) q with
    | over =>
      rw [hx] at hgo hP
      simp only at hP
      subst hP
      (repeat' (first| (intro (u_ : Unit); clear u_)| refine condT ?_| refine condF ?_| refine condp (by assumption) ?_| refine condn (by assumption) ?_| refine condN ?_| refine idxSb (by assumption) ?_| refine idxTk2 (i := (t0 :: l).length - 1) (by simp only [List.length_cons] at *; omega) htl ?_| refine callE_ev (hO _) ?_| refine callE_ev (hgo _) ?_| (refine condD ?_ ?_ <;> intro hq_ <;> first | (exfalso; omega) | skip)| (refine idxS (by omega) ?_; intro b_ hb_; have hl_ := b_.toNat_lt)| refine wrA (by omega) ?_| refine wrS (by omega) (by omega) ?_| refine wrI (by omega) (by omega) ?_| refine wrBA (by omega) ?_| refine wrB (by omega) (by omega) ?_| refine strC (by omega) ?_| refine nilB rfl ?_))
      exact ⟨rfl, rfl⟩
    | bad e =>
      rw [hx] at hgo hP
      simp only at hP
      subst hP
      (repeat' (first| (intro (u_ : Unit); clear u_)| refine condT ?_| refine condF ?_| refine condp (by assumption) ?_| refine condn (by assumption) ?_| refine condN ?_| refine idxSb (by assumption) ?_| refine idxTk2 (i := (t0 :: l).length - 1) (by simp only [List.length_cons] at *; omega) htl ?_| refine callE_ev (hO _) ?_| refine callE_ev (hgo _) ?_| (refine condD ?_ ?_ <;> intro hq_ <;> first | (exfalso; omega) | skip)| (refine idxS (by omega) ?_; intro b_ hb_; have hl_ := b_.toNat_lt)| refine wrA (by omega) ?_| refine wrS (by omega) (by omega) ?_| refine wrI (by omega) (by omega) ?_| refine wrBA (by omega) ?_| refine wrB (by omega) (by omega) ?_| refine strC (by omega) ?_| refine nilB rfl ?_))
      exact ⟨rfl, rfl⟩
    | ok t n =>
      rw [hx] at hgo hP
      obtain ⟨n1, n2, k1, k2, _⟩ := next_ok hx
      rw [List.length_drop] at n2
      simp only at hP
      by_cases hfull : 2000 ≤ (t0 :: l).length
      ·rw [if_pos hfull] at hP
       subst hP
       (repeat' (first| (intro (u_ : Unit); clear u_)| refine condT ?_| refine condF ?_| refine condp (by assumption) ?_| refine condn (by assumption) ?_| refine condN ?_| refine idxSb (by assumption) ?_| refine idxTk2 (i := (t0 :: l).length - 1) (by simp only [List.length_cons] at *; omega) htl ?_| refine callE_ev (hO _) ?_| refine callE_ev (hgo _) ?_| (refine condD ?_ ?_ <;> intro hq_ <;> first | (exfalso; omega) | skip)| (refine idxS (by omega) ?_; intro b_ hb_; have hl_ := b_.toNat_lt)| refine wrA (by omega) ?_| refine wrS (by omega) (by omega) ?_| refine wrI (by omega) (by omega) ?_| refine wrBA (by omega) ?_| refine wrB (by omega) (by omega) ?_| refine strC (by omega) ?_| refine nilB rfl ?_))
       exact ⟨rfl, rfl⟩
      ·rw [if_neg hfull] at hP
       have hsn := hsn ⟨t.kind, k, t.text, t.num⟩
       have hP' : (k + n ≤ s.length ∧ (t0 :: l ++ [(⟨t.kind, k, t.text, t.num⟩ : Tok)]).length ≤ 2000) ∧ ∃ f, s.length < k + n + f ∧ toksL s f (k + n) (opL (t0 :: l ++ [⟨t.kind, k, t.text, t.num⟩])) (t0 :: l ++ [⟨t.kind, k, t.text, t.num⟩]) = R := ⟨⟨by omega, by simp only [List.length_append, List.length_cons, List.length_nil] at *; omega⟩, g, by omega, by rw [opL_snoc]; exact hP⟩
       (repeat' (first| (intro (u_ : Unit); clear u_)| refine condT ?_| refine condF ?_| refine condp (by assumption) ?_| refine condn (by assumption) ?_| refine condN ?_| refine idxSb (by assumption) ?_| refine idxTk2 (i := (t0 :: l).length - 1) (by simp only [List.length_cons] at *; omega) htl ?_| refine callE_ev (hO _) ?_| refine callE_ev (hgo _) ?_| refine appL (by rw [hml]; simp only [List.length_cons, List.length_nil] at *; omega) hsz rfl ?_| (refine condD ?_ ?_ <;> intro hq_ <;> first | (exfalso; omega) | skip)| (refine idxS (by omega) ?_; intro b_ hb_; have hl_ := b_.toNat_lt)| refine wrA (by omega) ?_| refine wrS (by omega) (by omega) ?_| refine wrI (by omega) (by omega) ?_| refine wrBA (by omega) ?_| refine wrB (by omega) (by omega) ?_| refine strC (by omega) ?_| refine nilB rfl ?_))
       refine ⟨k + n, t0 :: l ++ [⟨t.kind, k, t.text, t.num⟩], hP', by omega, ?_, rfl, rfl, rfl⟩
       rw [hsn]; rfl
   ·rw [if_neg hlt] at hP
    by_cases hfull : 2000 ≤ (t0 :: l).length
    ·rw [if_pos hfull] at hP
     subst hP
     (repeat' (first| (intro (u_ : Unit); clear u_)| refine condT ?_| refine condF ?_| refine condp (by assumption) ?_| refine condn (by assumption) ?_| refine condN ?_| refine idxSb (by assumption) ?_| (refine condD ?_ ?_ <;> intro hq_ <;> first | (exfalso; omega) | skip)| (refine idxS (by omega) ?_; intro b_ hb_; have hl_ := b_.toNat_lt)| refine wrA (by omega) ?_| refine wrS (by omega) (by omega) ?_| refine wrI (by omega) (by omega) ?_| refine wrBA (by omega) ?_| refine wrB (by omega) (by omega) ?_| refine strC (by omega) ?_| refine nilB rfl ?_))
     exact ⟨rfl, rfl⟩
    ·rw [if_neg hfull] at hP
     subst hP
     (repeat' (first| (intro (u_ : Unit); clear u_)| refine condT ?_| refine condF ?_| refine condp (by assumption) ?_| refine condn (by assumption) ?_| refine condN ?_| refine idxSb (by assumption) ?_| refine appL (by rw [hml]; simp only [List.length_cons, List.length_nil] at *; omega) hsz rfl ?_| (refine condD ?_ ?_ <;> intro hq_ <;> first | (exfalso; omega) | skip)| (refine idxS (by omega) ?_; intro b_ hb_; have hl_ := b_.toNat_lt)| refine wrA (by omega) ?_| refine wrS (by omega) (by omega) ?_| refine wrI (by omega) (by omega) ?_| refine wrBA (by omega) ?_| refine wrB (by omega) (by omega) ?_| refine strC (by omega) ?_| refine nilB rfl ?_))
     refine ⟨?_, rfl⟩
     simp [toksA, tokD]
  ·have hlt : k < s.length := by
    by_cases h : k < s.length
    ·exact h
    ·exact absurd (skipA_end (by omega)) hst
   obtain ⟨c, hc⟩ := getS hlt
   (repeat' (first| (intro (u_ : Unit); clear u_)| refine condT ?_| refine condF ?_| refine condp (by assumption) ?_| refine condn (by assumption) ?_| refine condN ?_| refine idxSb (by assumption) ?_| (refine condD ?_ ?_ <;> intro hq_ <;> first | (exfalso; omega) | skip)| (refine idxS (by omega) ?_; intro b_ hb_; have hl_ := b_.toNat_lt)| refine wrA (by omega) ?_| refine wrS (by omega) (by omega) ?_| refine wrI (by omega) (by omega) ?_| refine wrBA (by omega) ?_| refine wrB (by omega) (by omega) ?_| refine strC (by omega) ?_| refine nilB rfl ?_))
   all_goals first
    | exact ⟨k + 1, ⟨by omega, by rw [skip_blank (by assumption) (blank_t (by omega))] at hK; omega⟩, by omega, rfl, rfl, rfl, rfl⟩
    | exact absurd (skip_stop (by assumption) (blank_f (by omega) (by omega)) (by omega)) hst
    | skip
   rw [skip_mark (by assumption) (by omega)] at hK
   refine loopR (fun m : Nat => [(6, i64 m)]) (fun _ => []) (fun m => s.length - m) (fun m => k ≤ m ∧ m ≤ s.length ∧ (m = k → s[m]? = some c) ∧ m + skipA true s m = j) k ⟨by omega, by omega, fun _ => hc, hK⟩ (by rfl) (by rfl) ?_
   rintro m ⟨hkm, hm, hb, hQ⟩
   (repeat' (first| (intro (u_ : Unit); clear u_)| refine condT ?_| refine condF ?_| refine condp (by assumption) ?_| refine condn (by assumption) ?_| refine condN ?_| refine idxSb (by assumption) ?_| (refine condD ?_ ?_ <;> intro hq_ <;> first | (exfalso; omega) | skip)| (refine idxS (by omega) ?_; intro b_ hb_; have hl_ := b_.toNat_lt)| refine wrA (by omega) ?_| refine wrS (by omega) (by omega) ?_| refine wrI (by omega) (by omega) ?_| refine wrBA (by omega) ?_| refine wrB (by omega) (by omega) ?_| refine strC (by omega) ?_| refine nilB rfl ?_))
   ·exact ⟨m + 1, ⟨by omega, by omega, by omega, by rw [skip_in (by assumption) (by omega)] at hQ; omega⟩, by omega, rfl, rfl, rfl, rfl⟩
   ·have hne : m ≠ k := fun e => by
     have h1 := (hb e).symm.trans hb_
     cases h1
     omega
    refine ⟨m, ⟨by omega, ?_⟩, by omega, rfl, rfl, rfl, rfl⟩
    rw [skip_nl (by assumption) (by omega)] at hQ ⊢
    exact hQ
   ·have hne : m ≠ k := fun e => by omega
    refine ⟨m, ⟨by omega, ?_⟩, by omega, rfl, rfl, rfl, rfl⟩
    rw [skipA_end (by omega)] at hQ ⊢
    exact hQ
/-! the same -/
def tokK2 : List PK := [.int .i64, .int .i64, .str, .int .i64]
theorem tokEq2 (t : Tok) : eqCells tokK2 (tokC t) (tokC t) = some true := by simp [eqCells, tokK2, tokC, D.kind?, D.eqP]
theorem eqTk2 {t : Tok} {a b : List AV} {c : Bool → Prop} (ha : a = tokC t) (hb : b = tokC t) (h : c true) : EqcE tokK2 a b c := by
 subst ha hb; exact eqcB (tokEq2 t) h
theorem SameT_ev (l : List Tok) (hl : l.length ≤ 2 ^ 30) (rf : Refs) : Ev T f_ref15_Same [lst (l.map tokD), lst (l.map tokD)] rf (.ret (bl true)) rf := by
 refine Ev.any ?_ rfl rf
 have hml : (l.map tokD).length = l.length := by simp
 refine ev_fn rfl rfl ?_
 (repeat' (first| (intro (u_ : Unit); clear u_)| refine condT ?_| refine condF ?_| refine condp (by assumption) ?_| refine condn (by assumption) ?_| refine condN ?_| refine idxSb (by assumption) ?_| (refine condD ?_ ?_ <;> intro hq_ <;> first | (exfalso; omega) | skip)| (refine idxS (by omega) ?_; intro b_ hb_; have hl_ := b_.toNat_lt)| refine wrA (by omega) ?_| refine wrS (by omega) (by omega) ?_| refine wrI (by omega) (by omega) ?_| refine wrBA (by omega) ?_| refine wrB (by omega) (by omega) ?_| refine strC (by omega) ?_| refine nilB rfl ?_))
 refine loopR (fun i : Nat => [(5, i64 i)]) (fun _ => []) (fun i => l.length - i) (fun i => i ≤ l.length) 0 (by omega) (by rfl) (by rfl) ?_
 intro i hi
 by_cases hlt : i < l.length
 ·obtain ⟨t, ht⟩ : ∃ t, l[i]? = some t := ⟨_, List.getElem?_eq_getElem hlt⟩
  (repeat' (first| (intro (u_ : Unit); clear u_)| refine condT ?_| refine condF ?_| refine condp (by assumption) ?_| refine condn (by assumption) ?_| refine condN ?_| refine idxSb (by assumption) ?_| refine idxTk ht ?_| refine eqTk2 (t := t) rfl rfl ?_| refine condf (by rfl) ?_| (refine condD ?_ ?_ <;> intro hq_ <;> first | (exfalso; omega) | skip)| (refine idxS (by omega) ?_; intro b_ hb_; have hl_ := b_.toNat_lt)| refine wrA (by omega) ?_| refine wrS (by omega) (by omega) ?_| refine wrI (by omega) (by omega) ?_| refine wrBA (by omega) ?_| refine wrB (by omega) (by omega) ?_| refine strC (by omega) ?_| refine nilB rfl ?_))
  exact ⟨i + 1, by omega, by omega, rfl, rfl, rfl, rfl⟩
 ·(repeat' (first
   | (intro (u_ : Unit); clear u_)
   | refine condT ?_
   | refine condF ?_
   | refine condp (by assumption) ?_
   | refine condn (by assumption) ?_
   | refine condN ?_
   | refine idxSb (by assumption) ?_
   | (refine condD ?_ ?_ <;> intro hq_ <;> first | (exfalso; omega) | skip)
   | (refine idxS (by omega) ?_; intro b_ hb_; have hl_ := b_.toNat_lt)
   | refine wrA (by omega) ?_
   | refine wrS (by omega) (by omega) ?_
   | refine wrI (by omega) (by omega) ?_
   | refine wrBA (by omega) ?_
   | refine wrB (by omega) (by omega) ?_
   | refine strC (by omega) ?_
   | refine nilB rfl ?_))
  exact ⟨rfl, rfl⟩
theorem Same7_ev (l : List (List UInt8)) (hl : l.length ≤ 2 ^ 30) (rf : Refs) : Ev T f_ref07_Same [lst (rowsS l), lst (rowsS l)] rf (.ret (bl true)) rf := by
 refine Ev.any ?_ rfl rf
 have hml := rowsS_length l
 refine ev_fn rfl rfl ?_
 (repeat' (first| (intro (u_ : Unit); clear u_)| refine condT ?_| refine condF ?_| refine condp (by assumption) ?_| refine condn (by assumption) ?_| refine condN ?_| refine idxSb (by assumption) ?_| (refine condD ?_ ?_ <;> intro hq_ <;> first | (exfalso; omega) | skip)| (refine idxS (by omega) ?_; intro b_ hb_; have hl_ := b_.toNat_lt)| refine wrA (by omega) ?_| refine wrS (by omega) (by omega) ?_| refine wrI (by omega) (by omega) ?_| refine wrBA (by omega) ?_| refine wrB (by omega) (by omega) ?_| refine strC (by omega) ?_| refine nilB rfl ?_))
 refine loopR (fun i : Nat => [(5, i64 i)]) (fun _ => []) (fun i => l.length - i) (fun i => i ≤ l.length) 0 (by omega) (by rfl) (by rfl) ?_
 intro i hi
 by_cases hlt : i < l.length
 ·obtain ⟨t, ht⟩ : ∃ t, l[i]? = some t := ⟨_, List.getElem?_eq_getElem hlt⟩
  (repeat' (first| (intro (u_ : Unit); clear u_)| refine condT ?_| refine condF ?_| refine condp (by assumption) ?_| refine condn (by assumption) ?_| refine condN ?_| refine idxSb (by assumption) ?_| refine idxSt ht ?_| refine condf (decide_eq_false (fun h => h rfl)) ?_| (refine condD ?_ ?_ <;> intro hq_ <;> first | (exfalso; omega) | skip)| (refine idxS (by omega) ?_; intro b_ hb_; have hl_ := b_.toNat_lt)| refine wrA (by omega) ?_| refine wrS (by omega) (by omega) ?_| refine wrI (by omega) (by omega) ?_| refine wrBA (by omega) ?_| refine wrB (by omega) (by omega) ?_| refine strC (by omega) ?_| refine nilB rfl ?_))
  exact ⟨i + 1, by omega, by omega, rfl, rfl, rfl, rfl⟩
 ·(repeat' (first
   | (intro (u_ : Unit); clear u_)
   | refine condT ?_
   | refine condF ?_
   | refine condp (by assumption) ?_
   | refine condn (by assumption) ?_
   | refine condN ?_
   | refine idxSb (by assumption) ?_
   | (refine condD ?_ ?_ <;> intro hq_ <;> first | (exfalso; omega) | skip)
   | (refine idxS (by omega) ?_; intro b_ hb_; have hl_ := b_.toNat_lt)
   | refine wrA (by omega) ?_
   | refine wrS (by omega) (by omega) ?_
   | refine wrI (by omega) (by omega) ?_
   | refine wrBA (by omega) ?_
   | refine wrB (by omega) (by omega) ?_
   | refine strC (by omega) ?_
   | refine nilB rfl ?_))
  exact ⟨rfl, rfl⟩
theorem Texts_ev (l : List (List UInt8)) (hl : l.length ≤ 2 ^ 30) (rf : Refs) : Ev T f_ref15_Texts [lst (rowsS l), lst (rowsS l)] rf (.ret (bl true)) rf := by
 refine Ev.any ?_ rfl rf
 refine ev_fn rfl rfl ?_
 (repeat' (first| (intro (u_ : Unit); clear u_)| refine condT ?_| refine condF ?_| refine condp (by assumption) ?_| refine condn (by assumption) ?_| refine condN ?_| refine idxSb (by assumption) ?_| refine callE_ev (Same7_ev l hl _) ?_| (refine condD ?_ ?_ <;> intro hq_ <;> first | (exfalso; omega) | skip)| (refine idxS (by omega) ?_; intro b_ hb_; have hl_ := b_.toNat_lt)| refine wrA (by omega) ?_| refine wrS (by omega) (by omega) ?_| refine wrI (by omega) (by omega) ?_| refine wrBA (by omega) ?_| refine wrB (by omega) (by omega) ?_| refine strC (by omega) ?_| refine nilB rfl ?_))
 exact ⟨rfl, rfl⟩
theorem toksL_le {s : List UInt8} : ∀ (f i : Nat) (op : Bool) (l r : List Tok), toksL s f i op l = .ok r → r.length ≤ 2000
 | 0, i, op, l, r, h => by cases h
 | f + 1, i, op, l, r, h => by
   rw [toks_go] at h
   split at h
   ·split at h
    ·cases h
    ·cases h
    ·split at h
     ·cases h
     ·exact toksL_le _ _ _ _ _ h
   ·split at h
    ·cases h
    ·cases h; simp; omega
theorem toksM_le {s : List UInt8} {r : List Tok} (h : toksM s = .ok r) : r.length ≤ 2000 := by
 unfold toksM at h
 split at h
 ·cases h
 ·exact toksL_le _ _ _ _ _ h
theorem ScanTokens_ev (s : List UInt8) (hs : s.length ≤ 2 ^ 47) : Ev T f_law15_ScanTokens [str s] [] (.ret (bl true)) [] := by
 have h1 := Tokens_ev (T := T) s (by omega)
 have h2 := rTokens_ev (T := T) s (by omega)
 have k1 := Keys_ev (T := T)
 have k2 := rKeys_ev (T := T)
 have k3 := Texts_ev (T := T) keysL (by decide)
 have m1 := Marks_ev (T := T)
 have m2 := rMarks_ev (T := T)
 have m3 := Texts_ev (T := T) marksL (by decide)
 generalize keysL = K at *
 generalize marksL = M at *
 cases hx : toksM s with
 | err e j =>
   rw [hx] at h1 h2
   have h3 := SameT_ev (T := T) [] (by simp)
   refine ev_fn rfl rfl ?_
   (repeat' (first| (intro (u_ : Unit); clear u_)| refine condT ?_| refine condF ?_| refine condp (by assumption) ?_| refine condn (by assumption) ?_| refine condN ?_| refine idxSb (by assumption) ?_| refine callE_ev (shown_ev _) ?_| refine callE_ev (h1 _) ?_| refine callE_ev (h2 _) ?_| refine callE_ev (h3 _) ?_| refine callE_ev (k1 _) ?_| refine callE_ev (k2 _) ?_| refine callE_ev (k3 _) ?_| refine callE_ev (m1 _) ?_| refine callE_ev (m2 _) ?_| refine callE_ev (m3 _) ?_| refine condt (decide_eq_true rfl) ?_| (refine condD ?_ ?_ <;> intro hq_ <;> first | (exfalso; omega) | skip)| (refine idxS (by omega) ?_; intro b_ hb_; have hl_ := b_.toNat_lt)| refine wrA (by omega) ?_| refine wrS (by omega) (by omega) ?_| refine wrI (by omega) (by omega) ?_| refine wrBA (by omega) ?_| refine wrB (by omega) (by omega) ?_| refine strC (by omega) ?_| refine nilB rfl ?_))
   all_goals exact ⟨rfl, rfl⟩
 | ok l =>
   have hle := toksM_le hx
   rw [hx] at h1 h2
   have h3 := SameT_ev (T := T) l (by omega)
   refine ev_fn rfl rfl ?_
   (repeat' (first| (intro (u_ : Unit); clear u_)| refine condT ?_| refine condF ?_| refine condp (by assumption) ?_| refine condn (by assumption) ?_| refine condN ?_| refine idxSb (by assumption) ?_| refine callE_ev (shown_ev _) ?_| refine callE_ev (h1 _) ?_| refine callE_ev (h2 _) ?_| refine callE_ev (h3 _) ?_| refine callE_ev (k1 _) ?_| refine callE_ev (k2 _) ?_| refine callE_ev (k3 _) ?_| refine callE_ev (m1 _) ?_| refine callE_ev (m2 _) ?_| refine callE_ev (m3 _) ?_| refine condt (decide_eq_true rfl) ?_| (refine condD ?_ ?_ <;> intro hq_ <;> first | (exfalso; omega) | skip)| (refine idxS (by omega) ?_; intro b_ hb_; have hl_ := b_.toNat_lt)| refine wrA (by omega) ?_| refine wrS (by omega) (by omega) ?_| refine wrI (by omega) (by omega) ?_| refine wrBA (by omega) ?_| refine wrB (by omega) (by omega) ?_| refine strC (by omega) ?_| refine nilB rfl ?_))
   all_goals exact ⟨rfl, rfl⟩
end
end Go.Ab.R15z
