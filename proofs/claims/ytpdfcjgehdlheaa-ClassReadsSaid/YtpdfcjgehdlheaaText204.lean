/- class.Text: what it tells, as an oracle. -/
import Derived.Test.YtpdfcjgehdlheaaText104
namespace Go.Ab.R04
open Go.RowKit Go.Shelf Go.Proofs
attribute [local go_sem] Oper.semAt_some
set_option linter.all false

def tells (l : List (UInt8 × UInt8)) : List UInt8 := 91 :: l.flatMap pieceS
def textS (n : Nat) : List UInt8 := tells (Tx.runs n 257 0) ++ [93]

theorem pieceS_length (p : UInt8 × UInt8) : (pieceS p).length ≤ 9 := by
  have h1 := plainS_length p.1.toNat
  have h2 := plainS_length p.2.toNat
  unfold pieceS
  split
  · simp; omega
  · split
    · simp; omega
    · simp; omega

theorem tells_length : ∀ l : List (UInt8 × UInt8), (tells l).length ≤ 1 + 9 * l.length
  | [] => by simp [tells]
  | p :: l => by
    have := tells_length l
    have := pieceS_length p
    simp only [tells, List.flatMap_cons, List.length_cons, List.length_append] at *
    omega

theorem tells_snoc (l : List (UInt8 × UInt8)) (p : UInt8 × UInt8) : tells (l ++ [p]) = tells l ++ pieceS p := by simp [tells]

/-- the table, without class.Text -/
def T0 : Tb := ⟨lookupF tabl, lookupF tabD, orcOf [(f_bytealg_IndexByteString, idxByte)]⟩
instance : Base T0 where
  tab := rfl
  idx := fun args => rfl
  none := fun f args h1 _ => by
    show orcOf [(f_bytealg_IndexByteString, idxByte)] f args = none
    simp only [orcOf]
    rw [if_neg (fun e => h1 e.symm)]

theorem fitN : FitN Try.prog (lookupF tabl) := fitN_of (by decide +kernel)
theorem fitD : FitD Try.prog (lookupF tabD) := fitD_of (by decide +kernel)
theorem orcIdx : OrcAt Try.prog f_bytealg_IndexByteString idxByte := idxByte_ok (fn := Try.f35) Try.func35 (by decide +kernel) (by decide +kernel) (by rfl) (by rfl)
theorem orc0OK : OrcOK Try.prog T0.orc := orcOK_of fun p hp => by
  simp only [List.mem_singleton] at hp
  subst hp
  exact orcIdx

def kv (n i : Nat) : Value := .int .u64 (wd n i : Nat)
theorem rep_cls {K : Ctx} (n : Nat) : Rep K (cls n) (.agg #[kv n 0, kv n 1, kv n 2, kv n 3]) := by
  simp only [cls, Rep]
  exact ⟨_, rfl, by simp [clsC, RepL, Rep, RepD, wdv, kv]⟩

theorem has_calls (n c : Nat) (W : World) (hc : c < 256) : Calls Try.prog 15 #[.agg #[kv n 0, kv n 1, kv n 2, kv n 3], .int .u8 c] W fun e W' => e = .returned (.bool (n.testBit c)) ∧ Below W.heap.size W W' :=
  calls_of_ev (T := T0) fitN fitD orc0OK (Has_ev n c hc []) rfl ⟨_, rfl⟩ (by rfl) (by intro y hy es e; subst e; simp [cls] at hy)
    (by simp only [RepL]; exact ⟨_, _, rfl, rep_cls n, _, _, rfl, by simp [Rep, RepD], rfl⟩) W


def TI (w : World) (pre : List (UInt8 × UInt8)) (W : World) : Prop := (∃ el, W.heap[w.heap.size + 1]? = some (.cells #[.string ⟨(tells pre).toArray⟩] el)) ∧ Below w.heap.size w W

set_option maxRecDepth 100000 in
set_option maxHeartbeats 2000000 in
theorem text_in (n : Nat) (w : World) :
    CallsIn (FW none) 10 Try.prog 19 #[.agg #[kv n 0, kv n 1, kv n 2, kv n 3]] w fun e W' => e = .returned (.string ⟨(textS n).toArray⟩) ∧ Below w.heap.size w W' := by
  generalize hk0 : kv n 0 = k0
  generalize hk1 : kv n 1 = k1
  generalize hk2 : kv n 2 = k2
  generalize hk3 : kv n 3 = k3
  have hHas : ∀ (j : Nat) (c : Nat) (W : World), c < 256 → CallsIn (FW none) j Try.prog 15 #[.agg #[k0, k1, k2, k3], .int .u8 c] W fun e W' => e = .returned (.bool (n.testBit c)) ∧ Below W.heap.size W W' := fun j c W hc => by
    rw [← hk0, ← hk1, ← hk2, ← hk3]
    exact callsIn_FW (has_calls n c W hc)
  have h19 : (FW none).fn 19 := trivial
  have h31 : (FW none).fn 31 := trivial
  have h34 : (FW none).fn 34 := trivial
  have h15 : (FW none).fn 15 := trivial
  have hro : (FW none).round = none := rfl
  refine callsIn_of_wp_marks Try.func19 rfl h19 ?_ hro
  simp only [Try.ntmps19, List.size_toArray, List.length_cons, List.length_nil, Nat.reduceAdd, Nat.reduceSub, Array.replicate_succ, Array.replicate_zero, List.push_toArray, List.append_toArray, List.nil_append, List.cons_append]
  gi_wp2_with (gi_at_call 31; refine (Tx.runs_in (FW none) _ h31 hro _ _ _ _ _).mono ?_; rintro e w' ⟨rfl, rfl⟩)
  have hB0 : Below w.heap.size w (((w.alloc (.cells #[k0, k1, k2, k3] 30)).alloc (.cells #[.string ⟨#[91]⟩] 9)).alloc (.cells #[k0, k1, k2, k3] 30)) := (((Below.refl _ w).alloc (Nat.le_refl _) _).alloc (by simp) _).alloc (by simp; omega) _
  refine wpIn_rangeFunc_ownF hro (by omega) (gf := 34) (lb := #[.pointer (some ⟨w.heap.size + 1 + 1, 0, none⟩)]) rfl h34 (enters_of Try.func34 (by kernel_rfl) rfl)
    (Tx.stops (FW none) _ h34 h15 hro (by omega) k0 k1 k2 k3 n (hHas _) (w.heap.size + 1 + 1) _ ?box) (fun h k x => k (h x)) ?kb (Below.refl _ _) (fun _ => rfl)
    (TI w) (fun _ _ _ => False) ?hI (fun _ _ _ _ _ hs _ _ => hs) ?h0
    (fun x => { tmps := #[.agg #[k0, k1, k2, k3], .pointer (some ⟨w.heap.size, 0, none⟩), .string ⟨#[]⟩, .pointer (some ⟨w.heap.size + 1, 0, none⟩), .int .u8 x.1.toNat, .int .u8 x.2.toNat, .agg #[k0, k1, k2, k3], .func (.func 34) #[] #[.pointer (some ⟨w.heap.size + 1 + 1, 0, none⟩)], .int .u8 x.1.toNat, .int .u8 x.2.toNat, undef, undef, undef, undef, undef, undef, undef, undef, undef, undef, undef, undef, undef, undef, undef, undef, undef, undef, undef, undef, undef, undef, undef, undef, undef, undef], defers := [] }) ?assign ?body ?done ?stop
  case box =>
    have hn : ∀ W : World, ∀ i, i < 4 → (W.alloc (.cells #[k0, k1, k2, k3] 30)).cell? ⟨W.heap.size, i, none⟩ = (#[k0, k1, k2, k3] : Array Value)[i]? := fun W i _ => cell_of (alloc_new _ _)
    have h := hn ((w.alloc (.cells #[k0, k1, k2, k3] 30)).alloc (.cells #[.string ⟨#[91]⟩] 9))
    simp only [World.size_alloc] at h
    exact ⟨h 0 (by omega), h 1 (by omega), h 2 (by omega), h 3 (by omega)⟩
  case kb =>
    intro W l o o' _ hl ho _ hx
    have hne : l ≠ w.heap.size + 1 + 1 := fun e => by
      subst e
      have := hx.1
      simp only [World.cell?, hl] at this
      cases o <;> simp [Obj.isCells] at ho this
    have hb : (W.putObj l o').heap[w.heap.size + 1 + 1]? = W.heap[w.heap.size + 1 + 1]? := World.putObj_heap_other (fun e => hne e.symm)
    exact ⟨(World.cell?_of_block hb).trans hx.1, (World.cell?_of_block hb).trans hx.2.1, (World.cell?_of_block hb).trans hx.2.2.1, (World.cell?_of_block hb).trans hx.2.2.2⟩
  case hI =>
    refine OwnFrom.and (fun s A B row hs hg hr => ?_) (ownFrom_below (Nat.le_refl _) (by simp; omega))
    obtain ⟨el, hs⟩ := hs
    refine ⟨el, ?_⟩
    rw [hg.block _ (heap_lt hs) (fun e => ?_)]
    · exact hs
    · obtain ⟨_, o, ho, hc⟩ := hr _ e.symm
      rw [hs] at ho
      cases ho
      simp [Obj.isCells] at hc
  case h0 =>
    refine ⟨⟨9, ?_⟩, hB0⟩
    rw [alloc_old (by simp)]
    have := alloc_new (w.alloc (.cells #[k0, k1, k2, k3] 30)) (.cells #[.string ⟨#[91]⟩] 9)
    simpa [tells] using this
  case assign =>
    intro l x W K hK
    dsimp only [Tx.encs]
    gi_wp2
    exact hK
  case body =>
    rintro l pre x W ⟨⟨el, hW⟩, hB⟩ hlen
    refine round_of_wp (T := T0) (c := r_class_Text_0) (N := 36) (sl := [(3, .ptr 0 0), (4, u8 x.1.toNat), (5, u8 x.2.toNat)]) (cs := [str (tells pre)]) (cs' := [str (tells pre ++ pieceS (x.1, x.2))]) fitN fitD orc0OK hW ?rep rfl ?no ?sl (by simp) (by decide +kernel) (by decide +kernel) (by decide +kernel) (by decide +kernel)
      (textBody_wp x.1 x.2 (tells pre) (by have := tells_length pre; omega)) ?q
    case rep => simp [RepL, Rep, RepD]
    case no => intro y hy es e; subst e; simp at hy
    case sl =>
      intro t av ht
      simp only [Slots.get] at ht
      split at ht
      · rename_i h; subst h; cases ht
        exact ⟨by simp, by simp [Rep, K1, Array.getD], by simp [AV.refB], fun es e => by cases e⟩
      · split at ht
        · rename_i h; subst h; cases ht
          exact ⟨by simp, by simp [Rep, RepD, Array.getD], by simp [AV.refB], fun es e => by cases e⟩
        · split at ht
          · rename_i h; subst h; cases ht
            exact ⟨by simp, by simp [Rep, RepD, Array.getD], by simp [AV.refB], fun es e => by cases e⟩
          · cases ht
    case q =>
      intro a' W' K' vs' el' h1 h2 h3 h4 h5 h6 h7
      have hv : vs' = #[.string ⟨(tells (pre ++ [x])).toArray⟩] := by
        simp only [RepL, Rep, RepD] at h2
        obtain ⟨v, r, e1, rfl, rfl⟩ := h2
        apply Array.toList_inj.1
        rw [e1, tells_snoc]
      subst hv
      have hold : ∀ k o, W.heap[k]? = some o → k ≠ w.heap.size + 1 → W'.heap[k]? = some o := fun k o hk hne => by rw [h3 k (heap_lt hk) hne]; exact hk
      refine ⟨⟨h4, fun k o hk ho => hold k o hk (fun e => ?_)⟩, fun hx => ?_, ⟨el', h1⟩, ?_⟩
      · subst e
        rw [hW] at hk
        cases hk
        simp [Obj.isCells] at ho
      · have hb : W'.heap[w.heap.size + 1 + 1]? = W.heap[w.heap.size + 1 + 1]? := h3 _ hx.lt (by omega)
        exact ⟨(World.cell?_of_block hb).trans hx.1, (World.cell?_of_block hb).trans hx.2.1, (World.cell?_of_block hb).trans hx.2.2.1, (World.cell?_of_block hb).trans hx.2.2.2⟩
      · exact ⟨h5.trans hB.os, h6.trans hB.tape, h7.trans hB.output, Nat.le_trans hB.size h4, fun k hk => by rw [h3 k (Nat.lt_of_lt_of_le hk hB.size) (by omega)]; exact hB.block k hk⟩
  case done =>
    rintro D ys W hD rfl ⟨⟨el, hc⟩, hB⟩ hK
    have hl : (tells (Tx.runs n 257 0)).length ≤ 3000 := by have := tells_length (Tx.runs n 257 0); have := Tx.runs_length n 257 0; omega
    have hcc : W.cell? ⟨w.heap.size + 1, 0, none⟩ = some (.string ⟨(tells (Tx.runs n 257 0)).toArray⟩) := by rw [cell_of hc]; rfl
    gi_wp2
    refine ⟨by simp, .inl ⟨_, _, rfl, run_takeDeferred hK, ?_⟩⟩
    refine ⟨_, results_tmp rfl _ _ _, ?_, hB.trans (belowK_b (w := w) (Nat.le_refl _) W D _ _ (by simp at hD; omega) hK rfl rfl)⟩
    have he : (⟨(tells (Tx.runs n 257 0)).toArray⟩ ++ ⟨#[93]⟩ : ByteArray) = ⟨(textS n).toArray⟩ := by
      apply ByteArray.ext
      simp [textS]
    rw [← he]
    rfl
  case stop =>
    rintro D c pre W _ _ h _
    exact h.elim

end Go.Ab.R04
