/- class.Text: a round's body; the contracts that its walk needs. -/
import Derived.Test.YtpdfcjgehdlheaaClass404
namespace Go.Ab.R04
set_option maxRecDepth 100000
set_option linter.all false
set_option maxHeartbeats 4000000
variable {T : Tb} [hT : Base T]

def pieceS (p : UInt8 × UInt8) : List UInt8 :=
  plainS p.1.toNat ++ (if p.2.toNat > p.1.toNat + 1 then 45 :: plainS p.2.toNat else if p.2.toNat > p.1.toNat then plainS p.2.toNat else [])

theorem plainS_length (c : Nat) : (plainS c).length ≤ 4 := by unfold plainS; split <;> simp

theorem textBody_wp (a b : UInt8) (s : List UInt8) (hs : s.length ≤ 2 ^ 30) : WP T r_class_Text_0 ⟨[(3, .ptr 0 0), (4, u8 a.toNat), (5, u8 b.toNat)], [[str s]], [], none, 1⟩
    (fun st => ∃ sl, st = ⟨sl, [[str (s ++ pieceS (a, b))]], [], none, 1⟩) (fun _ _ => False) := by
  have ha := a.toNat_lt
  have hb := b.toNat_lt
  have hpa := plainS_length a.toNat
  have hpb := plainS_length b.toNat
  have hlim : lim = 17179869184 := rfl
  refine wp_keep ?_
  refine wp_block ?_
  refine wp_seq ?_
  refine wp_ops ?_
  refine o_load rfl rfl (by first | rfl | assumption | simp) (by first | rfl | assumption | simp) ?_
  first | refine o_movd rfl rfl ?_ | refine o_movp rfl rfl ?_ | refine o_mova rfl rfl ?_ | refine o_mov rfl rfl ?_
  refine o_callz rfl rfl rfl rfl (Plain_ev _ ha []) ?_
  first | refine o_addkn rfl rfl rfl (by decide) (by (first | omega | (simp only [m64, mU, m8, n64, nU, n8, b64, bU, b8]; omega))) ?_ | refine o_cat rfl rfl rfl (by (first | omega | (simp only [m64, mU, m8, n64, nU, n8, b64, bU, b8]; omega))) ?_ | refine o_add rfl rfl rfl rfl (by omega) (by omega) ?_
  first | refine o_store1 rfl rfl rfl (by first | rfl | assumption | simp) (by first | decide | simp) (by first | (simp only [List.set_cons_zero, List.set_cons_succ]; exact rfl) | exact rfl) (by first | (simp only [List.set_cons_zero, List.set_cons_succ]; exact rfl) | exact rfl) ?_ | refine o_store rfl rfl rfl (fun _ h_ => by cases h_) rfl rfl rfl (by first | rfl | assumption | simp) (by simp) (by first | (left; simp [AV.refBs, AV.refB]; done) | (right; simp; done)) rfl ?_
  refine op_nil ?_
  refine wp_keep ?_
  refine wp_block ?_
  refine wp_seq ?_
  refine wp_ops ?_
  first | refine o_movd rfl rfl ?_ | refine o_movp rfl rfl ?_ | refine o_mova rfl rfl ?_ | refine o_mov rfl rfl ?_
  refine o_toInt rfl rfl (by (first | omega | (simp only [m64, mU, m8, n64, nU, n8, b64, bU, b8]; omega))) (by (first | omega | (simp only [m64, mU, m8, n64, nU, n8, b64, bU, b8]; omega))) ?_
  first | refine o_movd rfl rfl ?_ | refine o_movp rfl rfl ?_ | refine o_mova rfl rfl ?_ | refine o_mov rfl rfl ?_
  refine o_toInt rfl rfl (by (first | omega | (simp only [m64, mU, m8, n64, nU, n8, b64, bU, b8]; omega))) (by (first | omega | (simp only [m64, mU, m8, n64, nU, n8, b64, bU, b8]; omega))) ?_
  first | refine o_addkn rfl rfl rfl (by decide) (by (first | omega | (simp only [m64, mU, m8, n64, nU, n8, b64, bU, b8]; omega))) ?_ | refine o_cat rfl rfl rfl (by (first | omega | (simp only [m64, mU, m8, n64, nU, n8, b64, bU, b8]; omega))) ?_ | refine o_add rfl rfl rfl rfl (by omega) (by omega) ?_
  first | refine o_gtrn rfl rfl rfl ?_ | refine o_bin rfl rfl rfl rfl ?_
  first | refine o_asgd rfl rfl ?_ | refine o_asgo rfl rfl ?_ | refine o_asg rfl rfl (fun _ h_ => by cases h_) ?_
  refine op_nil ?_
  first | refine wp_if rfl ?_ ?_ <;> intro hq_ | refine wp_cond rfl ?_ ?_ <;> intro hq_
  · first
    | exfalso; omega
    | skip
      refine wp_ops ?_
      refine o_load rfl rfl (by first | rfl | assumption | simp) (by first | rfl | assumption | simp) ?_
      first | refine o_movd rfl rfl ?_ | refine o_movp rfl rfl ?_ | refine o_mova rfl rfl ?_ | refine o_mov rfl rfl ?_
      refine o_callz rfl rfl rfl rfl (Plain_ev _ hb []) ?_
      refine o_cat rfl rfl rfl (by simp; omega) ?_
      refine o_cat rfl rfl rfl (by simp; omega) ?_
      first | refine o_store1 rfl rfl rfl (by first | rfl | assumption | simp) (by first | decide | simp) (by first | (simp only [List.set_cons_zero, List.set_cons_succ]; exact rfl) | exact rfl) (by first | (simp only [List.set_cons_zero, List.set_cons_succ]; exact rfl) | exact rfl) ?_ | refine o_store rfl rfl rfl (fun _ h_ => by cases h_) rfl rfl rfl (by first | rfl | assumption | simp) (by simp) (by first | (left; simp [AV.refBs, AV.refB]; done) | (right; simp; done)) rfl ?_
      refine op_nil ?_
      refine keepN (by (simp +decide only [Slots.keep, Slots.get, reduceIte]); exact rfl) ?_
      refine keepN (by (simp +decide only [Slots.keep, Slots.get, reduceIte]); exact rfl) ?_
      apply Exists.intro
      simp only [pieceS, gt_iff_lt]
      first | rw [if_pos ‹_›] | rw [if_neg ‹_›, if_pos ‹_›] | rw [if_neg ‹_›, if_neg ‹_›]
      simp only [List.append_assoc, List.append_nil, List.cons_append, List.nil_append]
      rfl
  · first
    | exfalso; omega
    | skip
      refine wp_seq ?_
      refine wp_ops ?_
      first | refine o_movd rfl rfl ?_ | refine o_movp rfl rfl ?_ | refine o_mova rfl rfl ?_ | refine o_mov rfl rfl ?_
      first | refine o_movd rfl rfl ?_ | refine o_movp rfl rfl ?_ | refine o_mova rfl rfl ?_ | refine o_mov rfl rfl ?_
      first | refine o_gtrn rfl rfl rfl ?_ | refine o_bin rfl rfl rfl rfl ?_
      first | refine o_asgd rfl rfl ?_ | refine o_asgo rfl rfl ?_ | refine o_asg rfl rfl (fun _ h_ => by cases h_) ?_
      refine op_nil ?_
      first | refine wp_if rfl ?_ ?_ <;> intro hq_ | refine wp_cond rfl ?_ ?_ <;> intro hq_
      · first
        | exfalso; omega
        | skip
          refine wp_ops ?_
          refine o_load rfl rfl (by first | rfl | assumption | simp) (by first | rfl | assumption | simp) ?_
          first | refine o_movd rfl rfl ?_ | refine o_movp rfl rfl ?_ | refine o_mova rfl rfl ?_ | refine o_mov rfl rfl ?_
          refine o_callz rfl rfl rfl rfl (Plain_ev _ hb []) ?_
          refine o_cat rfl rfl rfl (by simp; omega) ?_
          first | refine o_store1 rfl rfl rfl (by first | rfl | assumption | simp) (by first | decide | simp) (by first | (simp only [List.set_cons_zero, List.set_cons_succ]; exact rfl) | exact rfl) (by first | (simp only [List.set_cons_zero, List.set_cons_succ]; exact rfl) | exact rfl) ?_ | refine o_store rfl rfl rfl (fun _ h_ => by cases h_) rfl rfl rfl (by first | rfl | assumption | simp) (by simp) (by first | (left; simp [AV.refBs, AV.refB]; done) | (right; simp; done)) rfl ?_
          refine op_nil ?_
          refine keepN (by (simp +decide only [Slots.keep, Slots.get, reduceIte]); exact rfl) ?_
          refine keepN (by (simp +decide only [Slots.keep, Slots.get, reduceIte]); exact rfl) ?_
          apply Exists.intro
          simp only [pieceS, gt_iff_lt]
          first | rw [if_pos ‹_›] | rw [if_neg ‹_›, if_pos ‹_›] | rw [if_neg ‹_›, if_neg ‹_›]
          simp only [List.append_assoc, List.append_nil, List.cons_append, List.nil_append]
          rfl
      · first
        | exfalso; omega
        | skip
          refine wp_skip ?_
          refine keepN (by (simp +decide only [Slots.keep, Slots.get, reduceIte]); exact rfl) ?_
          refine keepN (by (simp +decide only [Slots.keep, Slots.get, reduceIte]); exact rfl) ?_
          apply Exists.intro
          simp only [pieceS, gt_iff_lt]
          first | rw [if_pos ‹_›] | rw [if_neg ‹_›, if_pos ‹_›] | rw [if_neg ‹_›, if_neg ‹_›]
          simp only [List.append_assoc, List.append_nil, List.cons_append, List.nil_append]
          rfl

end Go.Ab.R04
