import Derived.RangeFuncNested
import Derived.RangeFuncBound
import Derived.RangeFuncCalls
import Derived.RangeFuncLeaves
import Derived.Shelf.Abstract
import Derived.Shelf.RegionOpen
import Derived.WalkKit
import Derived.OwnWalkIn
import Derived.TacticsInMore
import Derived.LoopNIn
import Derived.LoopIn
import Derived.Test.YtpdfcjgehdlheaaProg
import Derived.Test.YtpdfcjgehdlheaaA35
import Derived.Test.YtpdfcjgehdlheaaClass504
set_option linter.all false
namespace Go.Ab.R04
open Go.RowKit Go.Shelf Go.Proofs
attribute [local go_sem] Oper.semAt_some

def Tx.encs (p : UInt8 × UInt8) : Array Value := #[.int .u8 p.1.toNat, .int .u8 p.2.toNat]
def Tx.endOf (n : Nat) : Nat → Nat → Nat
  | 0, c => c
  | k + 1, c => if c < 256 ∧ n.testBit c = true then Tx.endOf n k (c + 1) else c
def Tx.runs (n : Nat) : Nat → Nat → List (UInt8 × UInt8)
  | 0, _ => []
  | k + 1, c => if c < 256 then (let e := Tx.endOf n 256 c; if c < e then (UInt8.ofNat c, UInt8.ofNat (e - 1)) :: Tx.runs n k (e + 1) else Tx.runs n k (e + 1)) else []

theorem Tx.u8 {c : Nat} (hc : c < 256) : (UInt8.ofNat c).toNat = c := by rw [UInt8.toNat_ofNat']; omega

theorem Tx.runs_length (n : Nat) : ∀ k c, (Tx.runs n k c).length ≤ k
  | 0, c => by simp [Tx.runs]
  | k + 1, c => by
    simp only [Tx.runs]
    split
    · split
      · have := Tx.runs_length n k (Tx.endOf n 256 c + 1); simp; omega
      · have := Tx.runs_length n k (Tx.endOf n 256 c + 1); omega
    · simp

theorem Tx.grown_of_below {w w' : World} (h : Below w.heap.size w w') : w.grownBy w' none := ⟨h.os, h.tape, h.output, h.size, fun i hi _ => h.block i hi⟩

theorem Tx.endOf_stop {n k c : Nat} (h : ¬ (c < 256 ∧ n.testBit c = true)) : Tx.endOf n k c = c := by
  cases k with
  | zero => rfl
  | succ k => simp only [Tx.endOf]; rw [if_neg h]

def Tx.Box (b : Nat) (k0 k1 k2 k3 : Value) (W : World) : Prop := W.cell? ⟨b, 0, none⟩ = some k0 ∧ W.cell? ⟨b, 1, none⟩ = some k1 ∧ W.cell? ⟨b, 2, none⟩ = some k2 ∧ W.cell? ⟨b, 3, none⟩ = some k3

theorem Tx.Box.below {b B : Nat} {k0 k1 k2 k3 : Value} {W W' : World} (h : Tx.Box b k0 k1 k2 k3 W) (hb : Below B W W') (hlt : b < B) : Tx.Box b k0 k1 k2 k3 W' :=
  ⟨(hb.cell (p := ⟨b, 0, none⟩) hlt).trans h.1, (hb.cell (p := ⟨b, 1, none⟩) hlt).trans h.2.1, (hb.cell (p := ⟨b, 2, none⟩) hlt).trans h.2.2.1, (hb.cell (p := ⟨b, 3, none⟩) hlt).trans h.2.2.2⟩

theorem Tx.Box.lt {b : Nat} {k0 k1 k2 k3 : Value} {W : World} (h : Tx.Box b k0 k1 k2 k3 W) : b < W.heap.size := cell_lt h.1

set_option maxHeartbeats 4000000 in
set_option maxRecDepth 100000 in
theorem Tx.runs1_in (F : Fence) (m : Nat) (h34 : F.fn 34) (h15 : F.fn 15) (hro : F.round = none) (hm : 1 ≤ m) (k0 k1 k2 k3 : Value) (n : Nat)
    (hHas : ∀ (c : Nat) (W : World), c < 256 → CallsIn F (m - 1) Try.prog 15 #[.agg #[k0, k1, k2, k3], .int .u8 c] W fun e W' => e = .returned (.bool (n.testBit c)) ∧ Below W.heap.size W W')
    (l Bn B : Nat) (J Jx : List (UInt8 × UInt8) → World → Prop)
    (hY : ∀ pre x W, J pre W → pre.length < 300 → YieldAt F (m - 1) Try.prog l (Tx.encs x) W fun e W' =>
      (e = .returned (.bool true) ∧ J (pre ++ [x]) W' ∧ (Tx.Box Bn k0 k1 k2 k3 W → Tx.Box Bn k0 k1 k2 k3 W')) ∨ (e = .returned (.bool false) ∧ Jx (pre ++ [x]) W'))
    (hJ : AbidesFrom B J) (W : World) (hBx : Tx.Box Bn k0 k1 k2 k3 W) (h0 : J [] W) :
    CallsIn F m Try.prog 34 #[.func (.yield l) #[] #[], .pointer (some ⟨Bn, 0, none⟩)] W fun e W' => (∃ v, e = .returned v) ∧
      ((∃ ys, ys = Tx.runs n 257 0 ∧ J ys W') ∨ (∃ pre, pre <+: Tx.runs n 257 0 ∧ Jx pre W')) := by
  refine callsIn_of_wp Try.func34 rfl h34 ?_ hro
  simp only [Try.ntmps34, List.size_toArray, List.length_cons, List.length_nil, Nat.reduceAdd, Nat.reduceSub, Array.replicate_succ, Array.replicate_zero, List.push_toArray, List.append_toArray, List.nil_append, List.cons_append]
  have hJb : ∀ pre W W', J pre W → Below W.heap.size W W' → J pre W' := fun pre W W' h hb => hJ pre W W' none h (Tx.grown_of_below hb) (fun r e => by cases e)
  gi_wp2
  gi_loopw [3] (fun p wr => ∃ (pre rest : List (UInt8 × UInt8)) (c k : Nat), p = .int .i64 c ∧ Tx.runs n 257 0 = pre ++ rest ∧ rest = Tx.runs n k c ∧ 257 ≤ k + c ∧ c ≤ 257 ∧ J pre wr ∧ Tx.Box Bn k0 k1 k2 k3 wr)
    (fun p wr => 300 - (intOf p).toNat)
  case atStart =>
    exact ⟨[], _, 0, 257, rfl, rfl, rfl, by omega, by omega, h0, hBx⟩
  case round =>
    obtain ⟨pre, rest, c, k, rfl, hx, hr, hk, hc7, hJs, hBs⟩ := hrel
    by_cases hc : c < 256
    · obtain ⟨k, rfl⟩ : ∃ j, k = j + 1 := ⟨k - 1, by omega⟩
      gi_wp2
      simp only [show decide ((c : Int) < 256) = true by simp; omega]
      gi_loopw [3] (fun p w2 => ∃ (c2 q : Nat), p = .int .i64 c2 ∧ c ≤ c2 ∧ c2 ≤ 256 ∧ Tx.endOf n q c2 = Tx.endOf n 256 c ∧ 256 ≤ q + c2 ∧ J pre w2 ∧ Tx.Box Bn k0 k1 k2 k3 w2)
        (fun p w2 => 300 - (intOf p).toNat)
      case atStart =>
        exact ⟨c, 256, rfl, Nat.le_refl _, by omega, rfl, by omega, hJs, hBs⟩
      case round =>
        obtain ⟨c2, q, rfl, h1, h2, h3, h4, hJ2, hB2⟩ := hrel
        obtain ⟨e0, e1, e2, e3⟩ := id hB2
        by_cases hgo : c2 < 256 ∧ n.testBit c2 = true
        · obtain ⟨hc2, htb⟩ := hgo
          obtain ⟨q, rfl⟩ : ∃ j, q = j + 1 := ⟨q - 1, by omega⟩
          rw [Tx.endOf, if_pos ⟨hc2, htb⟩] at h3
          gi_wp2_with (gi_at_call 15; refine (hHas c2 _ hc2).mono ?_; rintro e W' ⟨rfl, hB'⟩; rw [htb])
          go_roundw
          case rel => exact ⟨c2 + 1, q, by simp, by omega, by omega, h3, by omega, hJb _ _ _ hJ2 hB', hB2.below hB' hB2.lt⟩
          case measure => simp [intOf]; omega
        · have hen : Tx.endOf n 256 c = c2 := by rw [← h3]; exact Tx.endOf_stop hgo
          by_cases hcc : c < c2
          · rw [Tx.runs, if_pos hc, hen] at hr
            simp only [if_pos hcc] at hr
            have hlen : pre.length < 300 := by
              have := Tx.runs_length n 257 0
              rw [hx, hr] at this
              simp at this; omega
            have hcast : ((c2 - 1 : Nat) : Int) = (c2 : Int) - 1 := by omega
            by_cases hc2 : c2 < 256
            · have htb : n.testBit c2 = false := by
                cases h : n.testBit c2
                · rfl
                · exact absurd ⟨hc2, h⟩ hgo
              gi_wp2_with (gi_at_call 15; refine (hHas c2 _ hc2).mono ?_; rintro e W' ⟨rfl, hB'⟩; rw [htb]; obtain ⟨fn, tmps, assign, body, hy, hR⟩ := hY pre (UInt8.ofNat c, UInt8.ofNat (c2 - 1)) W' (hJb _ _ _ hJ2 hB') hlen; dsimp only [Tx.encs] at hy; rw [Tx.u8 (by omega), Tx.u8 (by omega), hcast] at hy)
              refine hR.mono ?_
              rintro e W3 (⟨rfl, hJ3, hk3⟩ | ⟨rfl, hJx3⟩)
              · gi_wp2
                go_roundw
                case rel => exact ⟨pre ++ [(UInt8.ofNat c, UInt8.ofNat (c2 - 1))], Tx.runs n k (c2 + 1), c2 + 1, k, by simp, by rw [hx, hr]; simp, rfl, by omega, by omega, hJ3, hk3 (hB2.below hB' hB2.lt)⟩
                case measure => simp [intOf]; omega
              · gi_wp2
                refine bodyPost_ret (results_none rfl _ _ _) rfl ?_
                exact ⟨⟨_, rfl⟩, .inr ⟨pre ++ [(UInt8.ofNat c, UInt8.ofNat (c2 - 1))], ⟨Tx.runs n k (c2 + 1), by rw [hx, hr]; simp⟩, hJx3⟩⟩
            · obtain ⟨fn, tmps, assign, body, hy, hR⟩ := hY pre (UInt8.ofNat c, UInt8.ofNat (c2 - 1)) wr hJ2 hlen
              dsimp only [Tx.encs] at hy; rw [Tx.u8 (by omega), Tx.u8 (by omega), hcast] at hy
              gi_wp2
              refine hR.mono ?_
              rintro e W3 (⟨rfl, hJ3, hk3⟩ | ⟨rfl, hJx3⟩)
              · gi_wp2
                go_roundw
                case rel => exact ⟨pre ++ [(UInt8.ofNat c, UInt8.ofNat (c2 - 1))], Tx.runs n k (c2 + 1), c2 + 1, k, by simp, by rw [hx, hr]; simp, rfl, by omega, by omega, hJ3, hk3 hB2⟩
                case measure => simp [intOf]; omega
              · gi_wp2
                refine bodyPost_ret (results_none rfl _ _ _) rfl ?_
                exact ⟨⟨_, rfl⟩, .inr ⟨pre ++ [(UInt8.ofNat c, UInt8.ofNat (c2 - 1))], ⟨Tx.runs n k (c2 + 1), by rw [hx, hr]; simp⟩, hJx3⟩⟩
          · have hce : c = c2 := by omega
            subst hce
            have htb : n.testBit c = false := by
              cases h : n.testBit c
              · rfl
              · exact absurd ⟨hc, h⟩ hgo
            rw [Tx.runs, if_pos hc, hen] at hr
            simp only [if_neg hcc] at hr
            gi_wp2_with (gi_at_call 15; refine (hHas c _ hc).mono ?_; rintro e W' ⟨rfl, hB'⟩; rw [htb])
            refine ⟨fun _ h => (by cases h), ?_⟩
            gi_wp2
            go_roundw
            case rel => exact ⟨pre, rest, c + 1, k, by simp, hx, hr, by omega, by omega, hJb _ _ _ hJ2 hB', hB2.below hB' hB2.lt⟩
            case measure => simp [intOf]; omega
    · gi_wp2
      go_end0
      have hrn : rest = [] := by
        rw [hr]
        cases k with
        | zero => rfl
        | succ k => simp only [Tx.runs]; rw [if_neg hc]
      exact ⟨⟨_, rfl⟩, .inl ⟨pre, by rw [hx, hrn]; simp, hJs⟩⟩

theorem Tx.stops (F : Fence) (m : Nat) (h34 : F.fn 34) (h15 : F.fn 15) (hro : F.round = none) (hm : 1 ≤ m) (k0 k1 k2 k3 : Value) (n : Nat)
    (hHas : ∀ (c : Nat) (W : World), c < 256 → CallsIn F (m - 1) Try.prog 15 #[.agg #[k0, k1, k2, k3], .int .u8 c] W fun e W' => e = .returned (.bool (n.testBit c)) ∧ Below W.heap.size W W')
    (Bn : Nat) (w : World) (hb : Tx.Box Bn k0 k1 k2 k3 w) :
    SeqStopsK F m Try.prog 34 #[.pointer (some ⟨Bn, 0, none⟩)] Tx.encs (fun W W' => Tx.Box Bn k0 k1 k2 k3 W → Tx.Box Bn k0 k1 k2 k3 W') (fun ys => ys = Tx.runs n 257 0) (fun pre => pre <+: Tx.runs n 257 0) 300 w := fun l J Jx W hW hJ _ hY h0 =>
  Tx.runs1_in F m h34 h15 hro hm k0 k1 k2 k3 n hHas l Bn _ J Jx hY hJ W (hb.below hW hb.lt) h0

set_option maxHeartbeats 1000000 in
theorem Tx.runs_in (F : Fence) (m : Nat) (h31 : F.fn 31) (hro : F.round = none) (k0 k1 k2 k3 : Value) (w : World) :
    CallsIn F m Try.prog 31 #[.agg #[k0, k1, k2, k3]] w fun e w' => e = .returned (.func (.func 34) #[] #[.pointer (some ⟨w.heap.size, 0, none⟩)]) ∧ w' = w.alloc (.cells #[k0, k1, k2, k3] 30) := by
  refine callsIn_of_wp Try.func31 rfl h31 ?_ hro
  simp only [Try.ntmps31, List.size_toArray, List.length_cons, List.length_nil, Nat.reduceAdd, Nat.reduceSub, Array.replicate_succ, Array.replicate_zero, List.push_toArray, List.append_toArray, List.nil_append, List.cons_append]
  gi_wp2
  exact bodyPost_ret (results_tmp rfl _ _ _) rfl ⟨rfl, rfl⟩
end Go.Ab.R04
