/- A part of the proof: tools. No condition. -/
import Derived.RangeFuncNested
import Derived.RangeFuncBound
import Derived.RangeFuncCalls
import Derived.RangeFuncLeaves
import Derived.Shelf.Abstract
import Derived.Shelf.RegionOpen
import Derived.WalkKit
import Derived.OwnWalkIn
import Derived.TacticsInMore
import Derived.LoopNIn
import Derived.LoopIn
import Derived.Test.YtghchmemjjpcbaaProg
import Derived.Test.YtghchmemjjpcbaaL3
import Derived.Test.YtghchmemjjpcbaaC7
set_option linter.all false
namespace Go.Ab.R05j
open Go.RowKit Go.Shelf Go.Proofs
attribute [local go_sem] Oper.semAt_some
def Tx.encs (p : UInt8 × UInt8) : Array Value := #[.int .u8 p.1.toNat, .int .u8 p.2.toNat]
def Tx.endOf (n : Nat) : Nat → Nat → Nat
 | 0, c => c
 | k + 1, c => if c < 256 ∧ n.testBit c = true then Tx.endOf n k (c + 1) else c
def Tx.runs (n : Nat) : Nat → Nat → List (UInt8 × UInt8)
 | 0, _ => []
 | k + 1, c => if c < 256 then (let e := Tx.endOf n 256 c; if c < e then (UInt8.ofNat c, UInt8.ofNat (e - 1)) :: Tx.runs n k (e + 1) else Tx.runs n k (e + 1)) else []
theorem Tx.u8 {c : Nat} (hc : c < 256) : (UInt8.ofNat c).toNat = c := by rw [UInt8.toNat_ofNat']; omega
theorem Tx.runs_length (n : Nat) : ∀ k c, (Tx.runs n k c).length ≤ k
 | 0, c => by simp [Tx.runs]
 | k + 1, c => by
   simp only [Tx.runs]
   split
   ·split
    ·have := Tx.runs_length n k (Tx.endOf n 256 c + 1); simp; omega
    ·have := Tx.runs_length n k (Tx.endOf n 256 c + 1); omega
   ·simp
theorem Tx.grown_of_below {w w' : World} (h : Below w.heap.size w w') : w.grownBy w' none := ⟨h.os, h.tape, h.output, h.size, fun i hi _ => h.block i hi⟩
theorem Tx.endOf_stop {n k c : Nat} (h : ¬ (c < 256 ∧ n.testBit c = true)) : Tx.endOf n k c = c := by
 cases k with
 | zero => rfl
 | succ k => simp only [Tx.endOf]; rw [if_neg h]
def Tx.Box (b : Nat) (k0 k1 k2 k3 : Value) (W : World) : Prop := W.cell? ⟨b, 0, none⟩ = some k0 ∧ W.cell? ⟨b, 1, none⟩ = some k1 ∧ W.cell? ⟨b, 2, none⟩ = some k2 ∧ W.cell? ⟨b, 3, none⟩ = some k3
theorem Tx.Box.below {b B : Nat} {k0 k1 k2 k3 : Value} {W W' : World} (h : Tx.Box b k0 k1 k2 k3 W) (hb : Below B W W') (hlt : b < B) : Tx.Box b k0 k1 k2 k3 W' :=
 ⟨(hb.cell (p := ⟨b, 0, none⟩) hlt).trans h.1, (hb.cell (p := ⟨b, 1, none⟩) hlt).trans h.2.1, (hb.cell (p := ⟨b, 2, none⟩) hlt).trans h.2.2.1, (hb.cell (p := ⟨b, 3, none⟩) hlt).trans h.2.2.2⟩
theorem Tx.Box.lt {b : Nat} {k0 k1 k2 k3 : Value} {W : World} (h : Tx.Box b k0 k1 k2 k3 W) : b < W.heap.size := cell_lt h.1
set_option maxHeartbeats 4000000 in
set_option maxRecDepth 100000 in
theorem Tx.runs1_in (F : Fence) (m : Nat) (h34 : F.fn 66) (h15 : F.fn 67) (hro : F.round = none) (hm : 1 ≤ m) (k0 k1 k2 k3 : Value) (n : Nat)
  (hHas : ∀ (c : Nat) (W : World), c < 256 → CallsIn F (m - 1) Try.prog 67 #[.agg #[k0, k1, k2, k3], .int .u8 c] W fun e W' => e = .returned (.bool (n.testBit c)) ∧ Below W.heap.size W W')
  (l Bn B : Nat) (J Jx : List (UInt8 × UInt8) → World → Prop)
  (hY : ∀ pre x W, J pre W → pre.length < 300 → YieldAt F (m - 1) Try.prog l (Tx.encs x) W fun e W' =>
   (e = .returned (.bool true) ∧ J (pre ++ [x]) W' ∧ (Tx.Box Bn k0 k1 k2 k3 W → Tx.Box Bn k0 k1 k2 k3 W')) ∨ (e = .returned (.bool false) ∧ Jx (pre ++ [x]) W'))
  (hJ : AbidesFrom B J) (W : World) (hBx : Tx.Box Bn k0 k1 k2 k3 W) (h0 : J [] W) :
  CallsIn F m Try.prog 66 #[.func (.yield l) #[] #[], .pointer (some ⟨Bn, 0, none⟩)] W fun e W' => (∃ v, e = .returned v) ∧
   ((∃ ys, ys = Tx.runs n 257 0 ∧ J ys W') ∨ (∃ pre, pre <+: Tx.runs n 257 0 ∧ Jx pre W')) := by
 refine callsIn_of_wp Try.func66 rfl h34 ?_ hro
 simp only [Try.ntmps66, List.size_toArray, List.length_cons, List.length_nil, Nat.reduceAdd, Nat.reduceSub, Array.replicate_succ, Array.replicate_zero, List.push_toArray, List.append_toArray, List.nil_append, List.cons_append]
 have hJb : ∀ pre W W', J pre W → Below W.heap.size W W' → J pre W' := fun pre W W' h hb => hJ pre W W' none h (Tx.grown_of_below hb) (fun r e => by cases e)
 gi_wp2
 gi_loopw [3] (fun p wr => ∃ (pre rest : List (UInt8 × UInt8)) (c k : Nat), p = .int .i64 c ∧ Tx.runs n 257 0 = pre ++ rest ∧ rest = Tx.runs n k c ∧ 257 ≤ k + c ∧ c ≤ 257 ∧ J pre wr ∧ Tx.Box Bn k0 k1 k2 k3 wr)
  (fun p wr => 300 - (intOf p).toNat)
 case atStart =>
  exact ⟨[], _, 0, 257, rfl, rfl, rfl, by omega, by omega, h0, hBx⟩
 case round =>
  obtain ⟨pre, rest, c, k, rfl, hx, hr, hk, hc7, hJs, hBs⟩ := hrel
  by_cases hc : c < 256
  ·obtain ⟨k, rfl⟩ : ∃ j, k = j + 1 := ⟨k - 1, by omega⟩
   gi_wp2
   simp only [show decide ((c : Int) < 256) = true by simp; omega]
   gi_loopw [3] (fun p w2 => ∃ (c2 q : Nat), p = .int .i64 c2 ∧ c ≤ c2 ∧ c2 ≤ 256 ∧ Tx.endOf n q c2 = Tx.endOf n 256 c ∧ 256 ≤ q + c2 ∧ J pre w2 ∧ Tx.Box Bn k0 k1 k2 k3 w2)
    (fun p w2 => 300 - (intOf p).toNat)
   case atStart =>
    exact ⟨c, 256, rfl, Nat.le_refl _, by omega, rfl, by omega, hJs, hBs⟩
   case round =>
    obtain ⟨c2, q, rfl, h1, h2, h3, h4, hJ2, hB2⟩ := hrel
    obtain ⟨e0, e1, e2, e3⟩ := id hB2
    by_cases hgo : c2 < 256 ∧ n.testBit c2 = true
    ·obtain ⟨hc2, htb⟩ := hgo
     obtain ⟨q, rfl⟩ : ∃ j, q = j + 1 := ⟨q - 1, by omega⟩
     rw [Tx.endOf, if_pos ⟨hc2, htb⟩] at h3
     gi_wp2_with (gi_at_call 67; refine (hHas c2 _ hc2).mono ?_; rintro e W' ⟨rfl, hB'⟩; rw [htb])
     go_roundw
     case rel => exact ⟨c2 + 1, q, by simp, by omega, by omega, h3, by omega, hJb _ _ _ hJ2 hB', hB2.below hB' hB2.lt⟩
     case measure => simp [intOf]; omega
    ·have hen : Tx.endOf n 256 c = c2 := by rw [← h3]; exact Tx.endOf_stop hgo
     by_cases hcc : c < c2
     ·rw [Tx.runs, if_pos hc, hen] at hr
      simp only [if_pos hcc] at hr
      have hlen : pre.length < 300 := by
       have := Tx.runs_length n 257 0
       rw [hx, hr] at this
       simp at this; omega
      have hcast : ((c2 - 1 : Nat) : Int) = (c2 : Int) - 1 := by omega
      by_cases hc2 : c2 < 256
      ·have htb : n.testBit c2 = false := by
        cases h : n.testBit c2
        ·rfl
        ·exact absurd ⟨hc2, h⟩ hgo
       gi_wp2_with (gi_at_call 67; refine (hHas c2 _ hc2).mono ?_; rintro e W' ⟨rfl, hB'⟩; rw [htb]; obtain ⟨fn, tmps, assign, body, hy, hR⟩ := hY pre (UInt8.ofNat c, UInt8.ofNat (c2 - 1)) W' (hJb _ _ _ hJ2 hB') hlen; dsimp only [Tx.encs] at hy; rw [Tx.u8 (by omega), Tx.u8 (by omega), hcast] at hy)
       refine hR.mono ?_
       rintro e W3 (⟨rfl, hJ3, hk3⟩ | ⟨rfl, hJx3⟩)
       ·gi_wp2
        go_roundw
        case rel => exact ⟨pre ++ [(UInt8.ofNat c, UInt8.ofNat (c2 - 1))], Tx.runs n k (c2 + 1), c2 + 1, k, by simp, by rw [hx, hr]; simp, rfl, by omega, by omega, hJ3, hk3 (hB2.below hB' hB2.lt)⟩
        case measure => simp [intOf]; omega
       ·gi_wp2
        refine bodyPost_ret (results_none rfl _ _ _) rfl ?_
        exact ⟨⟨_, rfl⟩, .inr ⟨pre ++ [(UInt8.ofNat c, UInt8.ofNat (c2 - 1))], ⟨Tx.runs n k (c2 + 1), by rw [hx, hr]; simp⟩, hJx3⟩⟩
      ·obtain ⟨fn, tmps, assign, body, hy, hR⟩ := hY pre (UInt8.ofNat c, UInt8.ofNat (c2 - 1)) wr hJ2 hlen
       dsimp only [Tx.encs] at hy; rw [Tx.u8 (by omega), Tx.u8 (by omega), hcast] at hy
       gi_wp2
       refine hR.mono ?_
       rintro e W3 (⟨rfl, hJ3, hk3⟩ | ⟨rfl, hJx3⟩)
       ·gi_wp2
        go_roundw
        case rel => exact ⟨pre ++ [(UInt8.ofNat c, UInt8.ofNat (c2 - 1))], Tx.runs n k (c2 + 1), c2 + 1, k, by simp, by rw [hx, hr]; simp, rfl, by omega, by omega, hJ3, hk3 hB2⟩
        case measure => simp [intOf]; omega
       ·gi_wp2
        refine bodyPost_ret (results_none rfl _ _ _) rfl ?_
        exact ⟨⟨_, rfl⟩, .inr ⟨pre ++ [(UInt8.ofNat c, UInt8.ofNat (c2 - 1))], ⟨Tx.runs n k (c2 + 1), by rw [hx, hr]; simp⟩, hJx3⟩⟩
     ·have hce : c = c2 := by omega
      subst hce
      have htb : n.testBit c = false := by
       cases h : n.testBit c
       ·rfl
       ·exact absurd ⟨hc, h⟩ hgo
      rw [Tx.runs, if_pos hc, hen] at hr
      simp only [if_neg hcc] at hr
      gi_wp2_with (gi_at_call 67; refine (hHas c _ hc).mono ?_; rintro e W' ⟨rfl, hB'⟩; rw [htb])
      refine ⟨fun _ h => (by cases h), ?_⟩
      gi_wp2
      go_roundw
      case rel => exact ⟨pre, rest, c + 1, k, by simp, hx, hr, by omega, by omega, hJb _ _ _ hJ2 hB', hB2.below hB' hB2.lt⟩
      case measure => simp [intOf]; omega
  ·gi_wp2
   go_end0
   have hrn : rest = [] := by
    rw [hr]
    cases k with
    | zero => rfl
    | succ k => simp only [Tx.runs]; rw [if_neg hc]
   exact ⟨⟨_, rfl⟩, .inl ⟨pre, by rw [hx, hrn]; simp, hJs⟩⟩
theorem Tx.stops (F : Fence) (m : Nat) (h34 : F.fn 66) (h15 : F.fn 67) (hro : F.round = none) (hm : 1 ≤ m) (k0 k1 k2 k3 : Value) (n : Nat)
  (hHas : ∀ (c : Nat) (W : World), c < 256 → CallsIn F (m - 1) Try.prog 67 #[.agg #[k0, k1, k2, k3], .int .u8 c] W fun e W' => e = .returned (.bool (n.testBit c)) ∧ Below W.heap.size W W')
  (Bn : Nat) (w : World) (hb : Tx.Box Bn k0 k1 k2 k3 w) :
  SeqStopsK F m Try.prog 66 #[.pointer (some ⟨Bn, 0, none⟩)] Tx.encs (fun W W' => Tx.Box Bn k0 k1 k2 k3 W → Tx.Box Bn k0 k1 k2 k3 W') (fun ys => ys = Tx.runs n 257 0) (fun pre => pre <+: Tx.runs n 257 0) 300 w := fun l J Jx W hW hJ _ hY h0 =>
 Tx.runs1_in F m h34 h15 hro hm k0 k1 k2 k3 n hHas l Bn _ J Jx hY hJ W (hb.below hW hb.lt) h0
set_option maxHeartbeats 1000000 in
theorem Tx.runs_in (F : Fence) (m : Nat) (h31 : F.fn 60) (hro : F.round = none) (k0 k1 k2 k3 : Value) (w : World) :
  CallsIn F m Try.prog 60 #[.agg #[k0, k1, k2, k3]] w fun e w' => e = .returned (.func (.func 66) #[] #[.pointer (some ⟨w.heap.size, 0, none⟩)]) ∧ w' = w.alloc (.cells #[k0, k1, k2, k3] 38) := by
 refine callsIn_of_wp Try.func60 rfl h31 ?_ hro
 simp only [Try.ntmps60, List.size_toArray, List.length_cons, List.length_nil, Nat.reduceAdd, Nat.reduceSub, Array.replicate_succ, Array.replicate_zero, List.push_toArray, List.append_toArray, List.nil_append, List.cons_append]
 gi_wp2
 exact bodyPost_ret (results_tmp rfl _ _ _) rfl ⟨rfl, rfl⟩
end Go.Ab.R05j
namespace Go.Ab.R05j
open Go.RowKit Go.Shelf Go.Proofs
attribute [local go_sem] Oper.semAt_some
set_option linter.all false
def tells (l : List (UInt8 × UInt8)) : List UInt8 := 91 :: l.flatMap pieceS
def textS (n : Nat) : List UInt8 := tells (Tx.runs n 257 0) ++ [93]
theorem pieceS_length (p : UInt8 × UInt8) : (pieceS p).length ≤ 9 := by
 have h1 := plainS_length p.1.toNat
 have h2 := plainS_length p.2.toNat
 unfold pieceS
 split
 ·simp; omega
 ·split
  ·simp; omega
  ·simp; omega
theorem tells_length : ∀ l : List (UInt8 × UInt8), (tells l).length ≤ 1 + 9 * l.length
 | [] => by simp [tells]
 | p :: l => by
   have := tells_length l
   have := pieceS_length p
   simp only [tells, List.flatMap_cons, List.length_cons, List.length_append] at *
   omega
theorem tells_snoc (l : List (UInt8 × UInt8)) (p : UInt8 × UInt8) : tells (l ++ [p]) = tells l ++ pieceS p := by simp [tells]
def T0 : Tb := ⟨lookupF tabl, lookupF tabD, orcOf [(f_bytealg_IndexByteString, idxByte)]⟩
theorem fitN : FitN Try.prog (lookupF tabl) := fitN_of (by decide +kernel)
theorem fitD : FitD Try.prog (lookupF tabD) := fitD_of (by decide +kernel)
theorem idxByte_pl {a : List AV} {v : AV} (h : idxByte a = some v) : v.refB = 0 ∧ AV.refBs a = 0 := by
 unfold idxByte at h
 split at h
 ·cases h; exact ⟨rfl, rfl⟩
 ·cases h
instance : Base T0 where
 tab := fun f af h => let ⟨_, _, hf, _⟩ := fitN f af h; hf.cok
 tabD := fun f af h => let ⟨_, _, hf, _⟩ := fitD f af h; hf.cok
 orc := fun f a v h => by
  simp only [T0, orcOf] at h
  split at h
  ·exact idxByte_pl h
  ·cases h
 tb := rfl
 td := rfl
 idx := fun args => rfl
 none := fun f args h1 => orcOf_none (fun p hp e => by
  simp only [List.mem_singleton] at hp
  subst hp; subst e; exact absurd h1 (by decide))
theorem orcIdx [Glb] : OrcAt Try.prog f_bytealg_IndexByteString idxByte := idxByte_ok (fn := Try.f79) Try.func79 (by decide +kernel) (by decide +kernel) (by rfl) (by rfl)
theorem orc0OK : OrcOK Try.prog T0.orc := orcOK_of fun p hp => by
 simp only [List.mem_singleton] at hp
 subst hp
 exact orcIdx
def kv (n i : Nat) : Value := .int .u64 (wd n i : Nat)
theorem rep_cls {K : Ctx} (n : Nat) : Rep K (cls n) (.agg #[kv n 0, kv n 1, kv n 2, kv n 3]) := by
 simp only [cls, Rep]
 exact ⟨_, rfl, by simp [clsC, RepL, Rep, RepD, wdv, kv]⟩
theorem has_calls (n c : Nat) (W : World) (hc : c < 256) : Calls Try.prog 67 #[.agg #[kv n 0, kv n 1, kv n 2, kv n 3], .int .u8 c] W fun e W' => e = .returned (.bool (n.testBit c)) ∧ Below W.heap.size W W' :=
 calls_of_ev (T := T0) fitN fitD orc0OK (Has_ev n c hc []) rfl ⟨_, rfl⟩ (by rfl) (by intro y hy es e; subst e; simp [cls] at hy)
  (by simp only [RepL]; exact ⟨_, _, rfl, rep_cls n, _, _, rfl, by simp [Rep, RepD], rfl⟩) W
def TI (w : World) (pre : List (UInt8 × UInt8)) (W : World) : Prop := (∃ el, W.heap[w.heap.size + 1]? = some (.cells #[.string ⟨(tells pre).toArray⟩] el)) ∧ Below w.heap.size w W
set_option maxRecDepth 100000 in
set_option maxHeartbeats 2000000 in
theorem text_in (n : Nat) (w : World) :
  CallsIn (FW none) 10 Try.prog 48 #[.agg #[kv n 0, kv n 1, kv n 2, kv n 3]] w fun e W' => e = .returned (.string ⟨(textS n).toArray⟩) ∧ Below w.heap.size w W' := by
 generalize hk0 : kv n 0 = k0
 generalize hk1 : kv n 1 = k1
 generalize hk2 : kv n 2 = k2
 generalize hk3 : kv n 3 = k3
 have hHas : ∀ (j : Nat) (c : Nat) (W : World), c < 256 → CallsIn (FW none) j Try.prog 67 #[.agg #[k0, k1, k2, k3], .int .u8 c] W fun e W' => e = .returned (.bool (n.testBit c)) ∧ Below W.heap.size W W' := fun j c W hc => by
  rw [← hk0, ← hk1, ← hk2, ← hk3]
  exact callsIn_FW (has_calls n c W hc)
 have h19 : (FW none).fn 48 := trivial
 have h31 : (FW none).fn 60 := trivial
 have h34 : (FW none).fn 66 := trivial
 have h15 : (FW none).fn 67 := trivial
 have hro : (FW none).round = none := rfl
 refine callsIn_of_wp_marks Try.func48 rfl h19 ?_ hro
 simp only [Try.ntmps48, List.size_toArray, List.length_cons, List.length_nil, Nat.reduceAdd, Nat.reduceSub, Array.replicate_succ, Array.replicate_zero, List.push_toArray, List.append_toArray, List.nil_append, List.cons_append]
 gi_wp2_with (gi_at_call 60; refine (Tx.runs_in (FW none) _ h31 hro _ _ _ _ _).mono ?_; rintro e w' ⟨rfl, rfl⟩)
 have hB0 : Below w.heap.size w (((w.alloc (.cells #[k0, k1, k2, k3] 38)).alloc (.cells #[.string ⟨#[91]⟩] 9)).alloc (.cells #[k0, k1, k2, k3] 38)) := (((Below.refl _ w).alloc (Nat.le_refl _) _).alloc (by simp) _).alloc (by simp; omega) _
 refine wpIn_rangeFunc_ownF hro (by omega) (gf := 66) (lb := #[.pointer (some ⟨w.heap.size + 1 + 1, 0, none⟩)]) rfl h34 (enters_of Try.func66 (by kernel_rfl) rfl)
  (Tx.stops (FW none) _ h34 h15 hro (by omega) k0 k1 k2 k3 n (hHas _) (w.heap.size + 1 + 1) _ ?box) (fun h k x => k (h x)) ?kb (Below.refl _ _) (fun _ => rfl)
  (TI w) (fun _ _ _ => False) ?hI (fun _ _ _ _ _ hs _ _ => hs) ?h0
  (fun x => { tmps := #[.agg #[k0, k1, k2, k3], .pointer (some ⟨w.heap.size, 0, none⟩), .string ⟨#[]⟩, .pointer (some ⟨w.heap.size + 1, 0, none⟩), .int .u8 x.1.toNat, .int .u8 x.2.toNat, .agg #[k0, k1, k2, k3], .func (.func 66) #[] #[.pointer (some ⟨w.heap.size + 1 + 1, 0, none⟩)], .int .u8 x.1.toNat, .int .u8 x.2.toNat, undef, undef, undef, undef, undef, undef, undef, undef, undef, undef, undef, undef, undef, undef, undef, undef, undef, undef, undef, undef, undef, undef, undef, undef, undef, undef], defers := [] }) ?assign ?body ?done ?stop
 case box =>
  have hn : ∀ W : World, ∀ i, i < 4 → (W.alloc (.cells #[k0, k1, k2, k3] 38)).cell? ⟨W.heap.size, i, none⟩ = (#[k0, k1, k2, k3] : Array Value)[i]? := fun W i _ => cell_of (alloc_new _ _)
  have h := hn ((w.alloc (.cells #[k0, k1, k2, k3] 38)).alloc (.cells #[.string ⟨#[91]⟩] 9))
  simp only [World.size_alloc] at h
  exact ⟨h 0 (by omega), h 1 (by omega), h 2 (by omega), h 3 (by omega)⟩
 case kb =>
  intro W l o o' _ hl ho _ hx
  have hne : l ≠ w.heap.size + 1 + 1 := fun e => by
   subst e
   have := hx.1
   simp only [World.cell?, hl] at this
   cases o <;> simp [Obj.isCells] at ho this
  have hb : (W.putObj l o').heap[w.heap.size + 1 + 1]? = W.heap[w.heap.size + 1 + 1]? := World.putObj_heap_other (fun e => hne e.symm)
  exact ⟨(World.cell?_of_block hb).trans hx.1, (World.cell?_of_block hb).trans hx.2.1, (World.cell?_of_block hb).trans hx.2.2.1, (World.cell?_of_block hb).trans hx.2.2.2⟩
 case hI =>
  refine OwnFrom.and (fun s A B row hs hg hr => ?_) (ownFrom_below (Nat.le_refl _) (by simp; omega))
  obtain ⟨el, hs⟩ := hs
  refine ⟨el, ?_⟩
  rw [hg.block _ (heap_lt hs) (fun e => ?_)]
  ·exact hs
  ·obtain ⟨_, o, ho, hc⟩ := hr _ e.symm
   rw [hs] at ho
   cases ho
   simp [Obj.isCells] at hc
 case h0 =>
  refine ⟨⟨9, ?_⟩, hB0⟩
  rw [alloc_old (by simp)]
  have := alloc_new (w.alloc (.cells #[k0, k1, k2, k3] 38)) (.cells #[.string ⟨#[91]⟩] 9)
  simpa [tells] using this
 case assign =>
  intro l x W K hK
  dsimp only [Tx.encs]
  gi_wp2
  exact hK
 case body =>
  rintro l pre x W ⟨⟨el, hW⟩, hB⟩ hlen
  refine round_of_wp (T := T0) (c := r_class_Text_0) (N := 36) (sl := [(3, .ptr 0 0), (4, u8 x.1.toNat), (5, u8 x.2.toNat)]) (cs := [str (tells pre)]) (cs' := [str (tells pre ++ pieceS (x.1, x.2))]) fitN fitD orc0OK hW rfl rfl ?rep rfl ?no ?sl (by simp) (by decide +kernel) (by decide +kernel) (by decide +kernel) (by decide +kernel)
   (textBody_wp x.1 x.2 (tells pre) (by have := tells_length pre; omega)) ?q
  case rep => simp [RepL, Rep, RepD]
  case no => intro y hy es e; subst e; simp at hy
  case sl =>
   intro t av ht
   simp only [Slots.get] at ht
   split at ht
   ·rename_i h; subst h; cases ht
    exact ⟨by simp, by simp [Rep, K1, Array.getD], by simp [AV.refB], fun es e => by cases e⟩
   ·split at ht
    ·rename_i h; subst h; cases ht
     exact ⟨by simp, by simp [Rep, RepD, Array.getD], by simp [AV.refB], fun es e => by cases e⟩
    ·split at ht
     ·rename_i h; subst h; cases ht
      exact ⟨by simp, by simp [Rep, RepD, Array.getD], by simp [AV.refB], fun es e => by cases e⟩
     ·cases ht
  case q =>
   intro a' W' K' vs' el' h1 h2 h3 h4 h5 h6 h7
   have hv : vs' = #[.string ⟨(tells (pre ++ [x])).toArray⟩] := by
    simp only [RepL, Rep, RepD] at h2
    obtain ⟨v, r, e1, rfl, rfl⟩ := h2
    apply Array.toList_inj.1
    rw [e1, tells_snoc]
   subst hv
   have hold : ∀ k o, W.heap[k]? = some o → k ≠ w.heap.size + 1 → W'.heap[k]? = some o := fun k o hk hne => by rw [h3 k (heap_lt hk) hne]; exact hk
   refine ⟨⟨h4, fun k o hk ho => hold k o hk (fun e => ?_)⟩, fun hx => ?_, ⟨el', h1⟩, ?_⟩
   ·subst e
    rw [hW] at hk
    cases hk
    simp [Obj.isCells] at ho
   ·have hb : W'.heap[w.heap.size + 1 + 1]? = W.heap[w.heap.size + 1 + 1]? := h3 _ hx.lt (by omega)
    exact ⟨(World.cell?_of_block hb).trans hx.1, (World.cell?_of_block hb).trans hx.2.1, (World.cell?_of_block hb).trans hx.2.2.1, (World.cell?_of_block hb).trans hx.2.2.2⟩
   ·exact ⟨h5.trans hB.os, h6.trans hB.tape, h7.trans hB.output, Nat.le_trans hB.size h4, fun k hk => by rw [h3 k (Nat.lt_of_lt_of_le hk hB.size) (by omega)]; exact hB.block k hk⟩
 case done =>
  rintro D ys W hD rfl ⟨⟨el, hc⟩, hB⟩ hK
  have hl : (tells (Tx.runs n 257 0)).length ≤ 3000 := by have := tells_length (Tx.runs n 257 0); have := Tx.runs_length n 257 0; omega
  have hcc : W.cell? ⟨w.heap.size + 1, 0, none⟩ = some (.string ⟨(tells (Tx.runs n 257 0)).toArray⟩) := by rw [cell_of hc]; rfl
  gi_wp2
  refine ⟨by simp, .inl ⟨_, _, rfl, run_takeDeferred hK, ?_⟩⟩
  refine ⟨_, results_tmp rfl _ _ _, ?_, hB.trans (belowK_b (w := w) (Nat.le_refl _) W D _ _ (by simp at hD; omega) hK rfl rfl)⟩
  have he : (⟨(tells (Tx.runs n 257 0)).toArray⟩ ++ ⟨#[93]⟩ : ByteArray) = ⟨(textS n).toArray⟩ := by
   apply ByteArray.ext
   simp [textS]
  rw [← he]
  rfl
 case stop =>
  rintro D c pre W _ _ h _
  exact h.elim
end Go.Ab.R05j
namespace Go.Ab.R05j
open Go.RowKit Go.Proofs
set_option linter.all false
def ofW (a b c d : Nat) : Nat := a + b * 2 ^ 64 + c * 2 ^ 128 + d * 2 ^ 192
theorem wd_ofW {a b c d : Nat} (ha : a < 2 ^ 64) (hb : b < 2 ^ 64) (hc : c < 2 ^ 64) (hd : d < 2 ^ 64) : wd (ofW a b c d) 0 = a ∧ wd (ofW a b c d) 1 = b ∧ wd (ofW a b c d) 2 = c ∧ wd (ofW a b c d) 3 = d := by
 unfold wd ofW
 refine ⟨?_, ?_, ?_, ?_⟩ <;> omega
theorem cls_ofW {a b c d : Nat} (ha : a < 2 ^ 64) (hb : b < 2 ^ 64) (hc : c < 2 ^ 64) (hd : d < 2 ^ 64) : cls (ofW a b c d) = .agg [.d (.int .u64 a), .d (.int .u64 b), .d (.int .u64 c), .d (.int .u64 d)] := by
 obtain ⟨h0, h1, h2, h3⟩ := wd_ofW ha hb hc hd
 simp only [cls, clsC, wdv, h0, h1, h2, h3]
def textO : List AV → Option AV
 | [.agg [.d (.int .u64 a), .d (.int .u64 b), .d (.int .u64 c), .d (.int .u64 d)]] =>
   if (0 ≤ a ∧ a < 2 ^ 64) ∧ (0 ≤ b ∧ b < 2 ^ 64) ∧ (0 ≤ c ∧ c < 2 ^ 64) ∧ (0 ≤ d ∧ d < 2 ^ 64) then some (.d (.str (textS (ofW a.toNat b.toNat c.toNat d.toNat)))) else none
 | _ => none
theorem textO_ok [Glb] : OrcAt Try.prog f_class_Text textO := by
 refine orcAt_of_calls (enters_of Try.func48 (by kernel_rfl) rfl) fun args v hv => ?_
 unfold textO at hv
 split at hv
 ·rename_i a b c d
  split at hv
  ·rename_i h
   obtain ⟨⟨a0, a1⟩, ⟨b0, b1⟩, ⟨c0, c1⟩, ⟨d0, d1⟩⟩ := h
   obtain ⟨a, rfl⟩ := Int.eq_ofNat_of_zero_le a0
   obtain ⟨b, rfl⟩ := Int.eq_ofNat_of_zero_le b0
   obtain ⟨c, rfl⟩ := Int.eq_ofNat_of_zero_le c0
   obtain ⟨d, rfl⟩ := Int.eq_ofNat_of_zero_le d0
   simp only [Int.toNat_natCast, Option.some.injEq] at hv
   refine ⟨_, _, hv.symm, rfl, fun K vs hr w => ?_⟩
   have h1 : vs = #[.agg #[kv (ofW a b c d) 0, kv (ofW a b c d) 1, kv (ofW a b c d) 2, kv (ofW a b c d) 3]] := by
    obtain ⟨h0, h1, h2, h3⟩ := wd_ofW (a := a) (b := b) (c := c) (d := d) (by omega) (by omega) (by omega) (by omega)
    simp only [RepL, Rep, RepD] at hr
    obtain ⟨u, r, e1, ⟨us, rfl, u0, r0, e2, rfl, u1, r1, rfl, rfl, u2, r2, rfl, rfl, u3, r3, rfl, rfl, rfl⟩, rfl⟩ := hr
    apply Array.toList_inj.1
    rw [e1]
    simp only [kv, h0, h1, h2, h3]
    congr 2
    apply Array.toList_inj.1
    rw [e2]
   rw [h1]
   exact callsIn_wide.1 (text_in (ofW a b c d) w)
  ·cases hv
 ·cases hv
def orc1 : FuncId → List AV → Option AV := orcOf [(f_bytealg_IndexByteString, idxByte), (f_class_Text, textO)]
def T1 : Tb := ⟨lookupF tabl, lookupF tabD, orc1⟩
theorem textO_pl {a : List AV} {v : AV} (h : textO a = some v) : v.refB = 0 ∧ AV.refBs a = 0 := by
 unfold textO at h
 split at h
 ·split at h
  ·cases h; exact ⟨rfl, rfl⟩
  ·cases h
 ·cases h
instance : Base T1 where
 tab := fun f af h => let ⟨_, _, hf, _⟩ := fitN f af h; hf.cok
 tabD := fun f af h => let ⟨_, _, hf, _⟩ := fitD f af h; hf.cok
 orc := fun f a v h => by
  simp only [T1, orc1, orcOf] at h
  split at h
  ·exact idxByte_pl h
  ·split at h
   ·exact textO_pl h
   ·cases h
 tb := rfl
 td := rfl
 idx := fun args => rfl
 none := fun f args h1 => orcOf_none (fun p hp e => by
  simp only [List.mem_cons, List.not_mem_nil, or_false] at hp
  rcases hp with rfl | rfl <;> (subst e; exact absurd h1 (by decide)))
theorem orc1OK [Glb] : OrcOK Try.prog T1.orc := orcOK_of fun p hp => by
 simp only [List.mem_cons, List.not_mem_nil, or_false] at hp
 rcases hp with rfl | rfl
 ·exact orcIdx
 ·exact textO_ok
end Go.Ab.R05j
namespace Go.Ab.R05j
set_option maxRecDepth 100000
set_option linter.all false
set_option maxHeartbeats 4000000
theorem up_k0 {n : Nat} {k : Int} {st : Nat} {x y : Int} (hk : many k = 0) : up n ⟨k, st, x, y⟩ = ⟨k, st, x, y⟩ := up_kids (.inl hk)
theorem up_k1 {n : Nat} {k : Int} {st : Nat} {x y : Int} (hk : many k = 1) : up n ⟨k, st, x, y⟩ = ⟨k, st, x + n, y⟩ := by
 unfold up; rw [if_neg (by simp only; omega), if_pos hk]
theorem up_k2 {n : Nat} {k : Int} {st : Nat} {x y : Int} (hk : many k = 2) : up n ⟨k, st, x, y⟩ = ⟨k, st, x + n, y + n⟩ := by
 unfold up; rw [if_pos hk]
theorem many_post {k : Nat} (h : k ≤ 2) : many (4 + k) = 1 := by unfold many; rw [if_neg (by omega), if_pos (by omega)]
theorem flat_up (n : Nat) : ∀ (a : Tr), a.ok → ∀ o, (flat o a).map (up n) = flat (n + o) a
 | .none, _, o => by simp only [flat, List.map_cons, List.map_nil]; rw [up_k0 (by decide)]
 | .set _, _, o => by simp only [flat, List.map_cons, List.map_nil]; rw [up_k0 (by decide)]
 | .beg, _, o => by simp only [flat, List.map_cons, List.map_nil]; rw [up_k0 (by decide)]
 | .fin, _, o => by simp only [flat, List.map_cons, List.map_nil]; rw [up_k0 (by decide)]
 | .post k a, h, o => by
   have hp := a.size_pos
   simp only [flat, List.map_append, List.map_cons, List.map_nil, flat_up n a h.2]
   rw [up_k1 (many_post h.1)]
   congr 3
   omega
 | .cat a b, h, o => by
   have hp := a.size_pos
   have hq := b.size_pos
   simp only [flat, List.map_append, List.map_cons, List.map_nil, flat_up n a h.1, flat_up n b h.2]
   rw [up_k2 (by decide)]
   rw [Nat.add_assoc]
   congr 3 <;> omega
 | .alt a b, h, o => by
   have hp := a.size_pos
   have hq := b.size_pos
   simp only [flat, List.map_append, List.map_cons, List.map_nil, flat_up n a h.1, flat_up n b h.2]
   rw [up_k2 (by decide)]
   rw [Nat.add_assoc]
   congr 3 <;> omega
theorem flat_small : ∀ (a : Tr) (o m : Nat), o + a.size ≤ m → m ≤ 1000000000000 → ∀ r ∈ flat o a, 0 ≤ r.k0 ∧ r.k0 ≤ m ∧ 0 ≤ r.k1 ∧ r.k1 ≤ m
 | .none, o, m, _, _, r, hr | .set _, o, m, _, _, r, hr | .beg, o, m, _, _, r, hr | .fin, o, m, _, _, r, hr => by
   simp only [flat, List.mem_singleton] at hr; subst hr; simp
 | .post k a, o, m, h, hm, r, hr => by
   simp only [Tr.size] at h
   simp only [flat, List.mem_append, List.mem_singleton] at hr
   rcases hr with hr | hr
   ·exact flat_small a o m (by omega) hm r hr
   ·subst hr; simp only; omega
 | .cat a b, o, m, h, hm, r, hr => by
   simp only [Tr.size] at h
   simp only [flat, List.mem_append, List.mem_singleton] at hr
   rcases hr with (hr | hr) | hr
   ·exact flat_small a o m (by omega) hm r hr
   ·exact flat_small b (o + a.size) m (by omega) hm r hr
   ·subst hr; simp only; omega
 | .alt a b, o, m, h, hm, r, hr => by
   simp only [Tr.size] at h
   simp only [flat, List.mem_append, List.mem_singleton] at hr
   rcases hr with (hr | hr) | hr
   ·exact flat_small a o m (by omega) hm r hr
   ·exact flat_small b (o + a.size) m (by omega) hm r hr
   ·subst hr; simp only; omega
theorem shown_ev : Ev T1 f_law05_shown [] [] (.ret (bl true)) [] := ⟨60, by kernel_rfl⟩
theorem Lit0_ev (rf : Refs) : Ev T1 f_regex_Lit [str []] rf (.ret (.tup [lst ((flat 0 .none).map reD), i64 (0 : Nat)])) rf := by
 refine Ev.any ?_ rfl rf
 refine ev_fn rfl rfl ?_
 (repeat' (first| (intro (u_ : Unit); clear u_)| refine condT ?_| refine condF ?_| refine condp (by assumption) ?_| refine condn (by assumption) ?_| refine condN ?_| refine idxSb (by assumption) ?_| refine appN1 (by decide) rfl ?_| (refine condD ?_ ?_ <;> intro hq_ <;> first | (exfalso; omega) | skip)| (refine idxS (by omega) ?_; intro b_ hb_; have hl_ := b_.toNat_lt)| refine wrA (by omega) ?_| refine wrS (by omega) (by omega) ?_| refine wrI (by omega) (by omega) ?_| refine wrBA (by omega) ?_| refine wrB (by omega) (by omega) ?_| refine strC (by omega) ?_| refine nilB rfl ?_))
 refine ⟨?_, rfl⟩
 simp [flat, reD, wd]
theorem LitT_ev (s : List UInt8) (hs : s.length ≤ 500) (rf : Refs) : Ev T1 f_regex_Lit [str s] rf (.ret (.tup [lst ((flat 0 (litTr s)).map reD), i64 (0 : Nat)])) rf := by
 cases s with
 | nil => exact Lit0_ev rf
 | cons c l => exact Lit_ev c l (by simp at hs; omega) rf
theorem litTr_ok (s : List UInt8) : (litTr s).ok := by
 cases s with
 | nil => trivial
 | cons c l => exact litA_ok c l
theorem litTr_size (s : List UInt8) (hs : s.length ≤ 500) : (litTr s).size ≤ 1000 := by
 cases s with
 | nil => decide
 | cons c l => have := litA_size c l; simp only [litTr]; simp at hs; omega
theorem RegexJoins_ev (t u : List Re) (s : List UInt8) (ht : ∀ r ∈ t, r.set < 2 ^ 256) (hu : ∀ r ∈ u, r.set < 2 ^ 256):
  Ev T1 f_law05_RegexJoins [lst (t.map reD), lst (u.map reD), str s] [] (.ret (bl true)) [] := by
 have l1 : (t.map reD).length = t.length := by simp
 have l2 : (u.map reD).length = u.length := by simp
 by_cases hlen : t.length ≤ 300 ∧ u.length ≤ 300
 case neg =>
  refine ev_fn rfl rfl ?_
  (repeat' (first| (intro (u_ : Unit); clear u_)| refine condT ?_| refine condF ?_| refine condp (by assumption) ?_| refine condn (by assumption) ?_| refine condN ?_| refine idxSb (by assumption) ?_| refine callE_ev shown_ev ?_| (refine condD ?_ ?_ <;> intro hq_ <;> first | (exfalso; omega) | skip)| (refine idxS (by omega) ?_; intro b_ hb_; have hl_ := b_.toNat_lt)| refine wrA (by omega) ?_| refine wrS (by omega) (by omega) ?_| refine wrI (by omega) (by omega) ?_| refine wrBA (by omega) ?_| refine wrB (by omega) (by omega) ?_| refine strC (by omega) ?_| refine nilB rfl ?_))
  all_goals first | exact ⟨rfl, rfl⟩ | (exfalso; omega)
 obtain ⟨lt, lu⟩ := hlen
 have hRt := Right_ev (T := T1) t (by omega)
 have hRu := Right_ev (T := T1) u (by omega)
 by_cases hc : t.length ≤ 300 ∧ u.length ≤ 300 ∧ s.length ≤ 500 ∧ rightM t = true ∧ rightM u = true
 ·obtain ⟨h1, h2, h3, h4, h5⟩ := hc
  obtain ⟨a, ha, hta, hsa, _⟩ := flat_right ht h4
  obtain ⟨b, hb, hub, hsb, _⟩ := flat_right hu h5
  rw [h4] at hRt
  rw [h5] at hRu
  have hap := a.size_pos
  have hbp := b.size_pos
  have htn : t ≠ [] := by intro e; rw [e] at hsa; simp at hsa; omega
  have hsm : Small u := by
   intro r hr
   rw [hub] at hr
   have := flat_small b 0 b.size (by omega) (by omega) r hr
   omega
  have hJ := fun kind hk => Join_ev (T := T1) t u kind hk htn (by omega) hsm
  have hup : u.map (up t.length) = flat a.size b := by rw [hub, flat_up _ b hb, ← hsa]; rfl
  have hcat : t ++ u.map (up t.length) ++ [(⟨2, 0, (t.length : Int) - 1, ((t.length + u.length : Nat) : Int) - 1⟩ : Re)] = flat 0 (.cat a b) := by
   rw [hup, ← hsa, ← hsb]
   conv => lhs; rw [hta]
   simp only [flat, Nat.zero_add]
   congr 3 <;> omega
  have halt : t ++ u.map (up t.length) ++ [(⟨3, 0, (t.length : Int) - 1, ((t.length + u.length : Nat) : Int) - 1⟩ : Re)] = flat 0 (.alt a b) := by
   rw [hup, ← hsa, ← hsb]
   conv => lhs; rw [hta]
   simp only [flat, Nat.zero_add]
   congr 3 <;> omega
  have hJ2 := hJ 2 (.inl rfl)
  have hJ3 := hJ 3 (.inr rfl)
  rw [hcat] at hJ2
  rw [halt] at hJ3
  have hL := LitT_ev s h3
  have hls := litTr_size s h3
  have hr2 := right_flat (a := .cat a b) ⟨ha, hb⟩ (by simp only [Tr.size]; omega)
  have hr3 := right_flat (a := .alt a b) ⟨ha, hb⟩ (by simp only [Tr.size]; omega)
  have hrl := right_flat (litTr_ok s) (by omega)
  have f2 : ((flat 0 (.cat a b)).map reD).length = t.length + u.length + 1 := by rw [List.length_map, flat_length]; simp only [Tr.size]; omega
  have f3 : ((flat 0 (.alt a b)).map reD).length = t.length + u.length + 1 := by rw [List.length_map, flat_length]; simp only [Tr.size]; omega
  have hR2 := Right_ev (T := T1) (flat 0 (.cat a b)) (by rw [flat_length]; simp only [Tr.size]; omega)
  have hR3 := Right_ev (T := T1) (flat 0 (.alt a b)) (by rw [flat_length]; simp only [Tr.size]; omega)
  have hRl := Right_ev (T := T1) (flat 0 (litTr s)) (by rw [flat_length]; omega)
  rw [hr2] at hR2
  rw [hr3] at hR3
  rw [hrl] at hRl
  generalize flat 0 (.cat a b) = A2 at *
  generalize flat 0 (.alt a b) = A3 at *
  generalize flat 0 (litTr s) = AL at *
  refine ev_fn rfl rfl ?_
  (repeat' (first| (intro (u_ : Unit); clear u_)| refine condT ?_| refine condF ?_| refine condp (by assumption) ?_| refine condn (by assumption) ?_| refine condN ?_| refine idxSb (by assumption) ?_| refine callE_ev shown_ev ?_| refine callE_ev (hRt _) ?_| refine callE_ev (hRu _) ?_| refine callE_ev (hJ2 _) ?_| refine callE_ev (hJ3 _) ?_| refine callE_ev (hL _) ?_| refine callE_ev (hR2 _) ?_| refine callE_ev (hR3 _) ?_| refine callE_ev (hRl _) ?_| (refine condD ?_ ?_ <;> intro hq_ <;> first | (exfalso; omega) | skip)| (refine idxS (by omega) ?_; intro b_ hb_; have hl_ := b_.toNat_lt)| refine wrA (by omega) ?_| refine wrS (by omega) (by omega) ?_| refine wrI (by omega) (by omega) ?_| refine wrBA (by omega) ?_| refine wrB (by omega) (by omega) ?_| refine strC (by omega) ?_| refine nilB rfl ?_))
  exact ⟨rfl, rfl⟩
 ·refine ev_fn rfl rfl ?_
  (repeat' (first| (intro (u_ : Unit); clear u_)| refine condT ?_| refine condF ?_| refine condp (by assumption) ?_| refine condn (by assumption) ?_| refine condN ?_| refine idxSb (by assumption) ?_| refine callE_ev shown_ev ?_| (refine callE_ev (hRt _) ?_; cases hqt : rightM t)| (refine callE_ev (hRu _) ?_; cases hqu : rightM u)| (refine condD ?_ ?_ <;> intro hq_ <;> first | (exfalso; omega) | skip)| (refine idxS (by omega) ?_; intro b_ hb_; have hl_ := b_.toNat_lt)| refine wrA (by omega) ?_| refine wrS (by omega) (by omega) ?_| refine wrI (by omega) (by omega) ?_| refine wrBA (by omega) ?_| refine wrB (by omega) (by omega) ?_| refine strC (by omega) ?_| refine nilB rfl ?_))
  all_goals first | exact ⟨rfl, rfl⟩ | (exfalso; exact hc ⟨by omega, by omega, by omega, by assumption, by assumption⟩) | (exfalso; omega)
end Go.Ab.R05j
