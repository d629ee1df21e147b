/- More fuel gives the same answer; calls and runs with some fuel. -/
import Derived.Test.YtpdfcjgehdlheaaA27
set_option linter.all false
namespace Go.Ab

def CLe (C C' : CallFn) : Prop := ∀ f a rf r, C f a rf = some r → C' f a rf = some r

theorem stepOp_mono {C C' : CallFn} (h : CLe C C') {s : St} {o : AOpk} {d : Did} (hs : stepOp C s o = some d) : stepOp C' s o = some d := by
  cases o with
  | call f args =>
    simp only [stepOp] at hs ⊢
    split at hs
    · rename_i id first cap vs h1 h2
      split at hs <;> rename_i hc
      · rw [h _ _ _ _ hc]; exact hs
      · rw [h _ _ _ _ hc]; exact hs
      · cases hs
    · cases hs
  | callZ f args =>
    simp only [stepOp] at hs ⊢
    split at hs
    · rename_i id first cap vs h1 h2
      split at hs
      · rename_i hz
        split at hs <;> rename_i hc
        · rw [if_pos hz, h _ _ _ _ hc]; exact hs
        · cases hs
      · cases hs
    · cases hs
  | callQ f args =>
    simp only [stepOp] at hs ⊢
    split at hs
    · rename_i id first cap vs h1 h2
      split at hs <;> rename_i hc
      · rw [h _ _ _ _ hc]; exact hs
      · cases hs
    · cases hs
  | _ => exact hs

theorem runOps_mono {C C' : CallFn} (h : CLe C C') : ∀ {l : List AOp} {s : St} {r : Ex × St}, runOps C l s = some r → runOps C' l s = some r
  | [], s, r, hr => hr
  | o :: l, s, r, hr => by
    simp only [runOps] at hr ⊢
    split at hr
    · cases hr
    · rename_i hw; exact runOps_mono h hr
    · rename_i hw
      split at hr <;> rename_i hs
      · rw [stepOp_mono h hs]; exact runOps_mono h hr
      · rw [stepOp_mono h hs]; exact runOps_mono h hr
      · rw [stepOp_mono h hs]; exact hr
      · cases hr

theorem runLoop_mono {b b' : St → Option (Ex × St)} {keep : List Nat} {n : Nat} (hb : ∀ s r, b s = some r → b' s = some r) : ∀ {k k' : Nat} {s : St} {r : Ex × St}, k ≤ k' → runLoop b keep n k s = some r → runLoop b' keep n k' s = some r
  | 0, _, _, _, _, h => by simp [runLoop] at h
  | k + 1, 0, _, _, hk, _ => by omega
  | k + 1, k' + 1, s, r, hk, h => by
    simp only [runLoop] at h ⊢
    split at h
    · rename_i s1 h1
      rw [hb _ _ h1]
      exact runLoop_mono hb (by omega) h
    · rename_i hn
      rw [hb _ _ h]
      split
      · rename_i s1 e
        cases e
        exact absurd h (hn s1)
      · rfl

theorem run_mono {C C' : CallFn} (h : CLe C C') {k k' : Nat} (hk : k ≤ k') : ∀ {c : AC} {s : St} {r : Ex × St}, run C k c s = some r → run C' k' c s = some r
  | .skip, s, r, hr => hr
  | .ops l, s, r, hr => runOps_mono h hr
  | .seq a b, s, r, hr => by
    simp only [run] at hr ⊢
    split at hr
    · rename_i s1 h1
      rw [run_mono h hk h1]; exact run_mono h hk hr
    · rename_i hn
      rw [run_mono h hk hr]
      split
      · rename_i s1 e
        cases e
        exact absurd hr (hn s1)
      · rfl
  | .cond c t e, s, r, hr => by
    simp only [run] at hr ⊢
    split at hr <;> rename_i hg
    · exact run_mono h hk hr
    · exact run_mono h hk hr
    · cases hr
  | .block i b, s, r, hr => by
    simp only [run] at hr ⊢
    split at hr
    · rename_i j s1 h1
      rw [run_mono h hk h1]; exact hr
    · rename_i hn
      rw [run_mono h hk hr]
      split
      · rename_i j s1 e
        cases e
        exact absurd hr (hn j s1)
      · rfl
  | .loop keep b, s, r, hr => by
    simp only [run] at hr ⊢
    exact runLoop_mono (fun s r => run_mono h hk) hk hr
  | .exit i, s, r, hr => hr
  | .ret, s, r, hr => hr
  | .hole, s, r, hr => by simp [run] at hr
  | .goto l, s, r, hr => hr
  | .label, s, r, hr => hr
  | .scope l b c, s, r, hr => by
    simp only [run] at hr ⊢
    split at hr
    · rename_i i s1 h1
      rw [run_mono h hk h1]
      simp only
      split at hr
      · rename_i hi
        rw [if_pos hi]
        split at hr
        · cases hr
        · rename_i hn
          rw [run_mono h hk hr]
          split
          · rename_i j s2 e
            cases e
            exact absurd hr (hn _ _)
          · rfl
      · cases hr
    · rename_i hn
      rw [run_mono h hk hr]
      split
      · rename_i j s1 e
        cases e
        exact absurd hr (hn j s1)
      · rfl
  | .trim keep b, s, r, hr => by
    simp only [run] at hr ⊢
    split at hr
    · rename_i s1 h1
      rw [run_mono h hk h1]; exact hr
    · rename_i hn
      rw [run_mono h hk hr]
      split
      · rename_i s1 e
        cases e
        exact absurd hr (hn s1)
      · rfl

theorem callD_mono {tab : FuncId → Option AFn} {C C' : CallFn} (h : CLe C C') {k k' : Nat} (hk : k ≤ k') {f : FuncId} {a : List AV} {m : Option AV} {rf : Refs} {r} (hr : callD tab C k f a m rf = some r) : callD tab C' k' f a m rf = some r := by
  unfold callD at hr ⊢
  split at hr
  · cases hr
  · split at hr <;> rename_i h1
    · rw [run_mono h hk h1]; exact hr
    · rw [run_mono h hk h1]; exact hr
    · rw [run_mono h hk h1]; exact hr
    · cases hr

theorem leave_mono {CD CD'} (h : ∀ f a m rf r, CD f a m rf = some r → CD' f a m rf = some r) {af : AFn} {n : Nat} : ∀ {l : List (AV × List AV)} {m : Option AV} {s : St} {r}, leave CD af n l m s = some r → leave CD' af n l m s = some r
  | [], some v, s, r, hr => by simpa only [leave] using hr
  | [], none, s, r, hr => by simpa only [leave] using hr
  | (f, vs) :: l, m, s, r, hr => by
    cases f with
    | fn f first cap =>
      cases f with
      | func id =>
        simp only [leave] at hr ⊢
        split at hr <;> rename_i h1
        · rw [h _ _ _ _ _ h1]; exact leave_mono h hr
        · rw [h _ _ _ _ _ h1]; exact leave_mono h hr
        · cases hr
      | _ => simp [leave] at hr
    | _ => simp [leave] at hr

theorem call_mono {tab tabD : FuncId → Option AFn} {orc : FuncId → List AV → Option AV} : ∀ (k : Nat), CLe (call tab tabD orc k) (call tab tabD orc (k + 1))
  | 0 => fun f a rf r hr => by simp [call] at hr
  | k + 1 => fun f a rf r hr => by
    have ih := call_mono (tab := tab) (tabD := tabD) (orc := orc) k
    rw [call] at hr ⊢
    split at hr
    · exact hr
    · rename_i hv
      split at hr
      · cases hr
      · rename_i af haf

        have hD : ∀ f a m rf r, callD tabD (call tab tabD orc k) k f a m rf = some r → callD tabD (call tab tabD orc (k + 1)) (k + 1) f a m rf = some r := fun f a m rf r h => callD_mono ih (Nat.le_succ k) h
        split at hr <;> rename_i h1
        · rw [run_mono ih (Nat.le_succ k) h1]; exact leave_mono hD hr
        · rw [run_mono ih (Nat.le_succ k) h1]; exact leave_mono hD hr
        · rw [run_mono ih (Nat.le_succ k) h1]; exact leave_mono hD hr
        · cases hr

theorem call_le {tab tabD : FuncId → Option AFn} {orc : FuncId → List AV → Option AV} {k k' : Nat} (hk : k ≤ k') : CLe (call tab tabD orc k) (call tab tabD orc k') := by
  induction hk with
  | refl => exact fun f a rf r h => h
  | step _ ih => exact fun f a rf r h => call_mono _ f a rf r (ih f a rf r h)

end Go.Ab
