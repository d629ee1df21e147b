/- The statements of chapter 4. -/
import Derived.Test.YtpdfcjgehdlheaaText304
import Derived.KernelRfl
namespace Go.Ab.R04
set_option maxRecDepth 100000
set_option linter.all false
set_option maxHeartbeats 4000000

theorem shown_ev : Ev T1 f_law04_shown [] [] (.ret (bl true)) [] := ⟨60, by kernel_rfl⟩

theorem plainS_len (c : Nat) : (isWordB c = true ∧ plainS c = [UInt8.ofNat c]) ∨ plainS c = [92, 120, hexd (c / 16), hexd (c % 16)] := by
 unfold plainS
 split
 ·rename_i h; exact .inl ⟨h, rfl⟩
 ·exact .inr rfl

theorem signs_word : ∀ c : Nat, c < 256 → isWordB c = true → (UInt8.ofNat c).toNat ≠ 92 ∧ UInt8.ofNat c ∉ badB := by decide +kernel
theorem signs_hex : ∀ c : Nat, c < 256 → digit (hexd (c / 16)).toNat = (c / 16 : Nat) ∧ digit (hexd (c % 16)).toNat = (c % 16 : Nat) := by decide +kernel
theorem named_x : (120 : UInt8) ∉ named := by decide

theorem sign_plain (c : Nat) (hc : c < 256) (more : List UInt8) : sign (plainS c ++ more) = some (c, (plainS c).length) := by
 rcases plainS_len c with ⟨hw, h⟩ | h
 ·obtain ⟨h1, h2⟩ := signs_word c hc hw
  rw [h]
  simp only [sign, List.cons_append, List.nil_append, List.getElem?_cons_zero]
  rw [if_pos h1, if_neg h2, toNat_ofNat_u8 hc]
  rfl
 ·obtain ⟨h1, h2⟩ := signs_hex c hc
  rw [h]
  have := sign_ok' (s := [92, 120, hexd (c / 16), hexd (c % 16)] ++ more) (c := 92) (e := 120) rfl (by decide) rfl named_x (by decide) rfl rfl h1 h2
  rw [this]
  congr 2
  omega


theorem fig_hex : ∀ c : Nat, c < 16 → (48 ≤ (hexd c).toNat ∧ (hexd c).toNat ≤ 57) ∨ (97 ≤ (hexd c).toNat ∧ (hexd c).toNat ≤ 102) := by decide +kernel

/-- what stands behind the first byte of a byte's text -/
theorem plain_figs (c : Nat) (hc : c < 256) : ((plainS c).length = 1 ∨ ((plainS c).length = 4 ∧ (plainS c)[0]? = some 92 ∧ (plainS c)[1]? = some 120)) ∧
  ∀ i b, 1 ≤ i → (plainS c)[i]? = some b → (48 ≤ b.toNat ∧ b.toNat ≤ 57) ∨ (97 ≤ b.toNat ∧ b.toNat ≤ 102) ∨ b.toNat = 120 := by
 rcases plainS_len c with ⟨_, h⟩ | h <;> rw [h]
 ·refine ⟨.inl rfl, fun i b hi hb => ?_⟩
  obtain ⟨i, rfl⟩ : ∃ j, i = j + 1 := ⟨i - 1, by omega⟩
  simp at hb
 ·refine ⟨.inr ⟨rfl, rfl, rfl⟩, fun i b hi hb => ?_⟩
  have h1 := fig_hex (c / 16) (by omega)
  have h2 := fig_hex (c % 16) (by omega)
  rcases i with _ | _ | _ | _ | i
  ·omega
  ·simp at hb; subst hb; exact .inr (.inr rfl)
  ·simp at hb; subst hb; omega
  ·simp at hb; subst hb; omega
  ·simp at hb

theorem ClassSigns_ev (c : Nat) (hc : c < 256) (more : List UInt8) : ∃ rf, Ev T1 f_law04_ClassSigns [u8 c, str more] [] (.ret (bl true)) rf := by
 have hS : Ev T1 f_class_Sign [str (plainS c ++ more)] [] (.ret (.tup [u8 c, i64 (plainS c).length, i64 (0 : Nat)])) [] := by
  have := Sign_ev (T := T1) (plainS c ++ more) []
  rw [sign_plain c hc] at this
  exact this
 obtain ⟨hcase, hfig⟩ := plain_figs c hc
 have hpl := plainS_length c
 have hlim : lim = 17179869184 := rfl
 have hP : Ev T1 f_class_Plain [u8 c] [] (.ret (str (plainS c))) [] := Plain_ev c hc []
 generalize plainS c = s at *
 have hcase' : ∃ e0 e1 : UInt8, s.length = 1 ∨ (s.length = 4 ∧ s[0]? = some e0 ∧ s[1]? = some e1 ∧ e0.toNat = 92 ∧ e1.toNat = 120) := by
  rcases hcase with h | ⟨h, h0, h1⟩
  ·exact ⟨0, 0, .inl h⟩
  ·exact ⟨92, 120, .inr ⟨h, h0, h1, rfl, rfl⟩⟩
 obtain ⟨e0, e1, hcase⟩ := hcase'
 have hend : s.length = 1 ∨ (s.length = 4 ∧ s[0]? = some e0 ∧ s[1]? = some e1 ∧ e0.toNat = 92 ∧ e1.toNat = 120) → Ev T1 f_law04_ClassSigns [u8 c, str more] [] (.ret (bl true)) [] := by
  rintro (hlen | ⟨hlen, h0, h1, he0, he1⟩)
  ·refine ev_callB rfl rfl ?_
   refine wp_seq ?_
   refine wp_ops ?_
   first | refine o_asgd rfl rfl ?_ | refine o_asgo rfl rfl ?_ | refine o_asg rfl rfl (fun _ h_ => by cases h_) ?_
   refine op_nil ?_
   refine wp_seq ?_
   refine wp_ops ?_
   refine o_call rfl rfl rfl (shown_ev) ?_
   first | refine o_asgd rfl rfl ?_ | refine o_asgo rfl rfl ?_ | refine o_asg rfl rfl (fun _ h_ => by cases h_) ?_
   refine op_nil ?_
   refine wp_seq ?_
   refine wp_seq ?_
   refine wp_ops ?_
   first | refine o_movd rfl rfl ?_ | refine o_movp rfl rfl ?_ | refine o_mova rfl rfl ?_ | refine o_mov rfl rfl ?_
   refine o_lenS rfl rfl ?_
   first | refine o_gtrn rfl rfl rfl ?_ | refine o_bin rfl rfl rfl rfl ?_
   refine op_nil ?_
   first | refine wp_if rfl ?_ ?_ <;> intro hq_ | refine wp_cond rfl ?_ ?_ <;> intro hq_
   ·first
    | exfalso; omega
    |skip
     refine wp_seq ?_
     refine wp_ops ?_
     first | refine o_movd rfl rfl ?_ | refine o_movp rfl rfl ?_ | refine o_mova rfl rfl ?_ | refine o_mov rfl rfl ?_
     first | refine o_asgd rfl rfl ?_ | refine o_asgo rfl rfl ?_ | refine o_asg rfl rfl (fun _ h_ => by cases h_) ?_
     refine op_nil ?_
     refine wp_ret ?_
     refine end1 rfl rfl rfl ?_ (by first | rfl | simp)
     rfl
   ·first
    | exfalso; omega
    |skip
     refine wp_skip ?_
     refine wp_seq ?_
     refine wp_ops ?_
     first | refine o_movd rfl rfl ?_ | refine o_movp rfl rfl ?_ | refine o_mova rfl rfl ?_ | refine o_mov rfl rfl ?_
     refine o_call rfl rfl rfl (hP) ?_
     first | refine o_asgd rfl rfl ?_ | refine o_asgo rfl rfl ?_ | refine o_asg rfl rfl (fun _ h_ => by cases h_) ?_
     refine op_nil ?_
     refine wp_seq ?_
     refine wp_ops ?_
     first | refine o_movd rfl rfl ?_ | refine o_movp rfl rfl ?_ | refine o_mova rfl rfl ?_ | refine o_mov rfl rfl ?_
     first | refine o_movd rfl rfl ?_ | refine o_movp rfl rfl ?_ | refine o_mova rfl rfl ?_ | refine o_mov rfl rfl ?_
     first | refine o_addkn rfl rfl rfl (by decide) (by (first | omega | (simp only [m64, mU, m8, n64, nU, n8, b64, bU, b8]; omega))) ?_ | refine o_cat rfl rfl rfl (by (first | omega | (simp only [m64, mU, m8, n64, nU, n8, b64, bU, b8]; omega))) ?_ | refine o_add rfl rfl rfl rfl (by omega) (by omega) ?_
     refine o_call rfl rfl rfl (hS) ?_
     first | refine o_movd rfl rfl ?_ | refine o_movp rfl rfl ?_ | refine o_mova rfl rfl ?_ | refine o_mov rfl rfl ?_
     refine o_extr rfl rfl rfl ?_
     refine o_extr rfl rfl rfl ?_
     refine o_extr rfl rfl rfl ?_
     first | refine o_asgd rfl rfl ?_ | refine o_asgo rfl rfl ?_ | refine o_asg rfl rfl (fun _ h_ => by cases h_) ?_
     first | refine o_asgd rfl rfl ?_ | refine o_asgo rfl rfl ?_ | refine o_asg rfl rfl (fun _ h_ => by cases h_) ?_
     first | refine o_asgd rfl rfl ?_ | refine o_asgo rfl rfl ?_ | refine o_asg rfl rfl (fun _ h_ => by cases h_) ?_
     refine op_nil ?_
     refine wp_seq ?_
     refine wp_ops ?_
     first | refine o_movd rfl rfl ?_ | refine o_movp rfl rfl ?_ | refine o_mova rfl rfl ?_ | refine o_mov rfl rfl ?_
     refine o_lenS rfl rfl ?_
     first | refine o_eqln rfl rfl rfl ?_ | refine o_eqs rfl rfl rfl ?_ | refine o_bin rfl rfl rfl rfl ?_
     first | refine o_movd rfl rfl ?_ | refine o_movp rfl rfl ?_ | refine o_mova rfl rfl ?_ | refine o_mov rfl rfl ?_
     refine o_ifp rfl ?_ ?_ <;> intro hq_ hg_ <;> simp only [hg_] <;> clear hg_
     ·first
      | exfalso; omega
      |skip
       refine o_skip rfl ?_
       refine o_skip rfl ?_
       refine o_skip rfl ?_
       refine o_skip rfl ?_
       refine o_skip rfl ?_
       refine o_skip rfl ?_
       refine o_skip rfl ?_
       refine o_skip rfl ?_
       refine o_skip rfl ?_
       refine o_skip rfl ?_
       refine o_skip rfl ?_
       refine o_skip rfl ?_
       refine o_skip rfl ?_
       refine o_pickt rfl rfl rfl ?_
       first | refine o_asgd rfl rfl ?_ | refine o_asgo rfl rfl ?_ | refine o_asg rfl rfl (fun _ h_ => by cases h_) ?_
       refine op_nil ?_
       refine wp_seq ?_
       refine wp_seq ?_
       refine wp_ops ?_
       first | refine o_asgd rfl rfl ?_ | refine o_asgo rfl rfl ?_ | refine o_asg rfl rfl (fun _ h_ => by cases h_) ?_
       refine op_nil ?_
       refine wp_keep ?_
       refine wp_block ?_
       try simp only [show decide (e1.toNat = 120) = true from decide_eq_true (by assumption)]
       refine wp_loop (m := 4) (fun m st => ∃ i : Nat, 1 ≤ i ∧ i + m = 5 ∧ st = ⟨[(0, u8 c), (5, bl true), (6, str s), (7, u8 c), (8, i64 s.length), (9, i64 (0 : Nat)), (10, bl true), (11, i64 i)], [], [], none, 0⟩) ⟨1, by omega, by omega, rfl⟩ ?_
       rintro m st ⟨i, hi, him, rfl⟩ -
       refine wp_seq ?_
       refine wp_seq ?_
       refine wp_ops ?_
       first | refine o_movd rfl rfl ?_ | refine o_movp rfl rfl ?_ | refine o_mova rfl rfl ?_ | refine o_mov rfl rfl ?_
       first | refine o_movd rfl rfl ?_ | refine o_movp rfl rfl ?_ | refine o_mova rfl rfl ?_ | refine o_mov rfl rfl ?_
       refine o_lenS rfl rfl ?_
       first | refine o_lssn rfl rfl rfl ?_ | refine o_bin rfl rfl rfl rfl ?_
       refine op_nil ?_
       first | refine wp_if rfl ?_ ?_ <;> intro hq_ | refine wp_cond rfl ?_ ?_ <;> intro hq_
       ·first
        | exfalso; first | omega | (have := hfig _ _ hi ‹_›; omega)
        |skip
         refine wp_skip ?_
         refine wp_seq ?_
         refine wp_keep ?_
         refine wp_block ?_
         refine wp_seq ?_
         refine wp_ops ?_
         first | refine o_movd rfl rfl ?_ | refine o_movp rfl rfl ?_ | refine o_mova rfl rfl ?_ | refine o_mov rfl rfl ?_
         first | refine o_movd rfl rfl ?_ | refine o_movp rfl rfl ?_ | refine o_mova rfl rfl ?_ | refine o_mov rfl rfl ?_
         first | refine o_idxS rfl rfl rfl rfl (by assumption) ?_ | (refine o_idxSx rfl rfl rfl rfl (by omega) ?_; intro b_ hb_) | refine o_idxS rfl rfl rfl rfl rfl ?_
         first | refine o_geqn rfl rfl rfl ?_ | refine o_bin rfl rfl rfl rfl ?_
         first | refine o_movd rfl rfl ?_ | refine o_movp rfl rfl ?_ | refine o_mova rfl rfl ?_ | refine o_mov rfl rfl ?_
         refine o_ifp rfl ?_ ?_ <;> intro hq_ hg_ <;> simp only [hg_] <;> clear hg_
         ·first
          | exfalso; first | omega | (have := hfig _ _ hi ‹_›; omega)
          |skip
           first | refine o_movd rfl rfl ?_ | refine o_movp rfl rfl ?_ | refine o_mova rfl rfl ?_ | refine o_mov rfl rfl ?_
           first | refine o_movd rfl rfl ?_ | refine o_movp rfl rfl ?_ | refine o_mova rfl rfl ?_ | refine o_mov rfl rfl ?_
           first | refine o_idxS rfl rfl rfl rfl (by assumption) ?_ | (refine o_idxSx rfl rfl rfl rfl (by omega) ?_; intro b_ hb_) | refine o_idxS rfl rfl rfl rfl rfl ?_
           first | refine o_leqn rfl rfl rfl ?_ | refine o_bin rfl rfl rfl rfl ?_
           refine o_pickt rfl rfl rfl ?_
           first | refine o_movd rfl rfl ?_ | refine o_movp rfl rfl ?_ | refine o_mova rfl rfl ?_ | refine o_mov rfl rfl ?_
           refine o_ifp rfl ?_ ?_ <;> intro hq_ hg_ <;> simp only [hg_] <;> clear hg_
           ·first
            | exfalso; first | omega | (have := hfig _ _ hi ‹_›; omega)
            |skip
             refine o_skip rfl ?_
             refine o_skip rfl ?_
             refine o_skip rfl ?_
             refine o_skip rfl ?_
             refine o_skip rfl ?_
             refine o_skip rfl ?_
             refine o_skip rfl ?_
             refine o_skip rfl ?_
             refine o_skip rfl ?_
             refine o_skip rfl ?_
             refine o_pickt rfl rfl rfl ?_
             first | refine o_movd rfl rfl ?_ | refine o_movp rfl rfl ?_ | refine o_mova rfl rfl ?_ | refine o_mov rfl rfl ?_
             refine o_skip rfl ?_
             refine o_skip rfl ?_
             refine o_skip rfl ?_
             refine o_skip rfl ?_
             refine o_pickt rfl rfl rfl ?_
             first | refine o_asgd rfl rfl ?_ | refine o_asgo rfl rfl ?_ | refine o_asg rfl rfl (fun _ h_ => by cases h_) ?_
             refine op_nil ?_
             refine wp_ops ?_
             first | refine o_movd rfl rfl ?_ | refine o_movp rfl rfl ?_ | refine o_mova rfl rfl ?_ | refine o_mov rfl rfl ?_
             first | refine o_movd rfl rfl ?_ | refine o_movp rfl rfl ?_ | refine o_mova rfl rfl ?_ | refine o_mov rfl rfl ?_
             first | refine o_movd rfl rfl ?_ | refine o_movp rfl rfl ?_ | refine o_mova rfl rfl ?_ | refine o_mov rfl rfl ?_
             refine o_pickt rfl rfl rfl ?_
             first | refine o_asgd rfl rfl ?_ | refine o_asgo rfl rfl ?_ | refine o_asg rfl rfl (fun _ h_ => by cases h_) ?_
             refine op_nil ?_
             refine keepN (by (simp +decide only [Slots.keep, Slots.get, reduceIte]); exact rfl) ?_
             refine wp_ops ?_
             first | refine o_movd rfl rfl ?_ | refine o_movp rfl rfl ?_ | refine o_mova rfl rfl ?_ | refine o_mov rfl rfl ?_
             first | refine o_addkn rfl rfl rfl (by decide) (by (first | omega | (simp only [m64, mU, m8, n64, nU, n8, b64, bU, b8]; omega))) ?_ | refine o_cat rfl rfl rfl (by (first | omega | (simp only [m64, mU, m8, n64, nU, n8, b64, bU, b8]; omega))) ?_ | refine o_add rfl rfl rfl rfl (by omega) (by omega) ?_
             first | refine o_asgd rfl rfl ?_ | refine o_asgo rfl rfl ?_ | refine o_asg rfl rfl (fun _ h_ => by cases h_) ?_
             refine op_nil ?_
             refine ⟨rfl, m - 1, by omega, i + 1, by omega, by omega, ?_⟩
             first | rfl | (have hf_ := hfig _ _ hi hb_; have h120_ : b_.toNat = 120 := (by omega); simp only [h120_, decide_true]; rfl)
           ·first
            | exfalso; first | omega | (have := hfig _ _ hi ‹_›; omega)
            |skip
             first | refine o_movd rfl rfl ?_ | refine o_movp rfl rfl ?_ | refine o_mova rfl rfl ?_ | refine o_mov rfl rfl ?_
             first | refine o_movd rfl rfl ?_ | refine o_movp rfl rfl ?_ | refine o_mova rfl rfl ?_ | refine o_mov rfl rfl ?_
             first | refine o_idxS rfl rfl rfl rfl (by assumption) ?_ | (refine o_idxSx rfl rfl rfl rfl (by omega) ?_; intro b_ hb_) | refine o_idxS rfl rfl rfl rfl rfl ?_
             first | refine o_geqn rfl rfl rfl ?_ | refine o_bin rfl rfl rfl rfl ?_
             first | refine o_movd rfl rfl ?_ | refine o_movp rfl rfl ?_ | refine o_mova rfl rfl ?_ | refine o_mov rfl rfl ?_
             refine o_ifp rfl ?_ ?_ <;> intro hq_ hg_ <;> simp only [hg_] <;> clear hg_
             ·first
              | exfalso; first | omega | (have := hfig _ _ hi ‹_›; omega)
              |skip
               first | refine o_movd rfl rfl ?_ | refine o_movp rfl rfl ?_ | refine o_mova rfl rfl ?_ | refine o_mov rfl rfl ?_
               first | refine o_movd rfl rfl ?_ | refine o_movp rfl rfl ?_ | refine o_mova rfl rfl ?_ | refine o_mov rfl rfl ?_
               first | refine o_idxS rfl rfl rfl rfl (by assumption) ?_ | (refine o_idxSx rfl rfl rfl rfl (by omega) ?_; intro b_ hb_) | refine o_idxS rfl rfl rfl rfl rfl ?_
               first | refine o_leqn rfl rfl rfl ?_ | refine o_bin rfl rfl rfl rfl ?_
               refine o_pickt rfl rfl rfl ?_
               refine o_pickf rfl rfl rfl ?_
               first | refine o_movd rfl rfl ?_ | refine o_movp rfl rfl ?_ | refine o_mova rfl rfl ?_ | refine o_mov rfl rfl ?_
               refine o_ifp rfl ?_ ?_ <;> intro hq_ hg_ <;> simp only [hg_] <;> clear hg_
               ·first
                | exfalso; first | omega | (have := hfig _ _ hi ‹_›; omega)
                |skip
                 refine o_skip rfl ?_
                 refine o_skip rfl ?_
                 refine o_skip rfl ?_
                 refine o_skip rfl ?_
                 refine o_pickt rfl rfl rfl ?_
                 first | refine o_asgd rfl rfl ?_ | refine o_asgo rfl rfl ?_ | refine o_asg rfl rfl (fun _ h_ => by cases h_) ?_
                 refine op_nil ?_
                 refine wp_ops ?_
                 first | refine o_movd rfl rfl ?_ | refine o_movp rfl rfl ?_ | refine o_mova rfl rfl ?_ | refine o_mov rfl rfl ?_
                 first | refine o_movd rfl rfl ?_ | refine o_movp rfl rfl ?_ | refine o_mova rfl rfl ?_ | refine o_mov rfl rfl ?_
                 first | refine o_movd rfl rfl ?_ | refine o_movp rfl rfl ?_ | refine o_mova rfl rfl ?_ | refine o_mov rfl rfl ?_
                 refine o_pickt rfl rfl rfl ?_
                 first | refine o_asgd rfl rfl ?_ | refine o_asgo rfl rfl ?_ | refine o_asg rfl rfl (fun _ h_ => by cases h_) ?_
                 refine op_nil ?_
                 refine keepN (by (simp +decide only [Slots.keep, Slots.get, reduceIte]); exact rfl) ?_
                 refine wp_ops ?_
                 first | refine o_movd rfl rfl ?_ | refine o_movp rfl rfl ?_ | refine o_mova rfl rfl ?_ | refine o_mov rfl rfl ?_
                 first | refine o_addkn rfl rfl rfl (by decide) (by (first | omega | (simp only [m64, mU, m8, n64, nU, n8, b64, bU, b8]; omega))) ?_ | refine o_cat rfl rfl rfl (by (first | omega | (simp only [m64, mU, m8, n64, nU, n8, b64, bU, b8]; omega))) ?_ | refine o_add rfl rfl rfl rfl (by omega) (by omega) ?_
                 first | refine o_asgd rfl rfl ?_ | refine o_asgo rfl rfl ?_ | refine o_asg rfl rfl (fun _ h_ => by cases h_) ?_
                 refine op_nil ?_
                 refine ⟨rfl, m - 1, by omega, i + 1, by omega, by omega, ?_⟩
                 first | rfl | (have hf_ := hfig _ _ hi hb_; have h120_ : b_.toNat = 120 := (by omega); simp only [h120_, decide_true]; rfl)
               ·first
                | exfalso; first | omega | (have := hfig _ _ hi ‹_›; omega)
                |skip
                 first | refine o_movd rfl rfl ?_ | refine o_movp rfl rfl ?_ | refine o_mova rfl rfl ?_ | refine o_mov rfl rfl ?_
                 first | refine o_movd rfl rfl ?_ | refine o_movp rfl rfl ?_ | refine o_mova rfl rfl ?_ | refine o_mov rfl rfl ?_
                 first | refine o_idxS rfl rfl rfl rfl (by assumption) ?_ | (refine o_idxSx rfl rfl rfl rfl (by omega) ?_; intro b_ hb_) | refine o_idxS rfl rfl rfl rfl rfl ?_
                 first | refine o_eqln rfl rfl rfl ?_ | refine o_eqs rfl rfl rfl ?_ | refine o_bin rfl rfl rfl rfl ?_
                 refine o_pickf rfl rfl rfl ?_
                 first | refine o_asgd rfl rfl ?_ | refine o_asgo rfl rfl ?_ | refine o_asg rfl rfl (fun _ h_ => by cases h_) ?_
                 refine op_nil ?_
                 refine wp_ops ?_
                 first | refine o_movd rfl rfl ?_ | refine o_movp rfl rfl ?_ | refine o_mova rfl rfl ?_ | refine o_mov rfl rfl ?_
                 first | refine o_movd rfl rfl ?_ | refine o_movp rfl rfl ?_ | refine o_mova rfl rfl ?_ | refine o_mov rfl rfl ?_
                 first | refine o_movd rfl rfl ?_ | refine o_movp rfl rfl ?_ | refine o_mova rfl rfl ?_ | refine o_mov rfl rfl ?_
                 refine o_pickt rfl rfl rfl ?_
                 first | refine o_asgd rfl rfl ?_ | refine o_asgo rfl rfl ?_ | refine o_asg rfl rfl (fun _ h_ => by cases h_) ?_
                 refine op_nil ?_
                 refine keepN (by (simp +decide only [Slots.keep, Slots.get, reduceIte]); exact rfl) ?_
                 refine wp_ops ?_
                 first | refine o_movd rfl rfl ?_ | refine o_movp rfl rfl ?_ | refine o_mova rfl rfl ?_ | refine o_mov rfl rfl ?_
                 first | refine o_addkn rfl rfl rfl (by decide) (by (first | omega | (simp only [m64, mU, m8, n64, nU, n8, b64, bU, b8]; omega))) ?_ | refine o_cat rfl rfl rfl (by (first | omega | (simp only [m64, mU, m8, n64, nU, n8, b64, bU, b8]; omega))) ?_ | refine o_add rfl rfl rfl rfl (by omega) (by omega) ?_
                 first | refine o_asgd rfl rfl ?_ | refine o_asgo rfl rfl ?_ | refine o_asg rfl rfl (fun _ h_ => by cases h_) ?_
                 refine op_nil ?_
                 refine ⟨rfl, m - 1, by omega, i + 1, by omega, by omega, ?_⟩
                 first | rfl | (have hf_ := hfig _ _ hi hb_; have h120_ : b_.toNat = 120 := (by omega); simp only [h120_, decide_true]; rfl)
             ·first
              | exfalso; first | omega | (have := hfig _ _ hi ‹_›; omega)
              |skip
               refine o_skip rfl ?_
               refine o_skip rfl ?_
               refine o_skip rfl ?_
               refine o_skip rfl ?_
               refine o_pickf rfl rfl rfl ?_
               refine o_pickf rfl rfl rfl ?_
               first | refine o_movd rfl rfl ?_ | refine o_movp rfl rfl ?_ | refine o_mova rfl rfl ?_ | refine o_mov rfl rfl ?_
               first | refine o_movd rfl rfl ?_ | refine o_movp rfl rfl ?_ | refine o_mova rfl rfl ?_ | refine o_mov rfl rfl ?_
               first | refine o_movd rfl rfl ?_ | refine o_movp rfl rfl ?_ | refine o_mova rfl rfl ?_ | refine o_mov rfl rfl ?_
               first | refine o_idxS rfl rfl rfl rfl (by assumption) ?_ | (refine o_idxSx rfl rfl rfl rfl (by omega) ?_; intro b_ hb_) | refine o_idxS rfl rfl rfl rfl rfl ?_
               first | refine o_eqln rfl rfl rfl ?_ | refine o_eqs rfl rfl rfl ?_ | refine o_bin rfl rfl rfl rfl ?_
               refine o_pickf rfl rfl rfl ?_
               first | refine o_asgd rfl rfl ?_ | refine o_asgo rfl rfl ?_ | refine o_asg rfl rfl (fun _ h_ => by cases h_) ?_
               refine op_nil ?_
               refine wp_ops ?_
               first | refine o_movd rfl rfl ?_ | refine o_movp rfl rfl ?_ | refine o_mova rfl rfl ?_ | refine o_mov rfl rfl ?_
               first | refine o_movd rfl rfl ?_ | refine o_movp rfl rfl ?_ | refine o_mova rfl rfl ?_ | refine o_mov rfl rfl ?_
               first | refine o_movd rfl rfl ?_ | refine o_movp rfl rfl ?_ | refine o_mova rfl rfl ?_ | refine o_mov rfl rfl ?_
               refine o_pickt rfl rfl rfl ?_
               first | refine o_asgd rfl rfl ?_ | refine o_asgo rfl rfl ?_ | refine o_asg rfl rfl (fun _ h_ => by cases h_) ?_
               refine op_nil ?_
               refine keepN (by (simp +decide only [Slots.keep, Slots.get, reduceIte]); exact rfl) ?_
               refine wp_ops ?_
               first | refine o_movd rfl rfl ?_ | refine o_movp rfl rfl ?_ | refine o_mova rfl rfl ?_ | refine o_mov rfl rfl ?_
               first | refine o_addkn rfl rfl rfl (by decide) (by (first | omega | (simp only [m64, mU, m8, n64, nU, n8, b64, bU, b8]; omega))) ?_ | refine o_cat rfl rfl rfl (by (first | omega | (simp only [m64, mU, m8, n64, nU, n8, b64, bU, b8]; omega))) ?_ | refine o_add rfl rfl rfl rfl (by omega) (by omega) ?_
               first | refine o_asgd rfl rfl ?_ | refine o_asgo rfl rfl ?_ | refine o_asg rfl rfl (fun _ h_ => by cases h_) ?_
               refine op_nil ?_
               refine ⟨rfl, m - 1, by omega, i + 1, by omega, by omega, ?_⟩
               first | rfl | (have hf_ := hfig _ _ hi hb_; have h120_ : b_.toNat = 120 := (by omega); simp only [h120_, decide_true]; rfl)
         ·first
          | exfalso; first | omega | (have := hfig _ _ hi ‹_›; omega)
          |skip
           refine o_skip rfl ?_
           refine o_skip rfl ?_
           refine o_skip rfl ?_
           refine o_skip rfl ?_
           refine o_pickf rfl rfl rfl ?_
           first | refine o_movd rfl rfl ?_ | refine o_movp rfl rfl ?_ | refine o_mova rfl rfl ?_ | refine o_mov rfl rfl ?_
           first | refine o_movd rfl rfl ?_ | refine o_movp rfl rfl ?_ | refine o_mova rfl rfl ?_ | refine o_mov rfl rfl ?_
           first | refine o_movd rfl rfl ?_ | refine o_movp rfl rfl ?_ | refine o_mova rfl rfl ?_ | refine o_mov rfl rfl ?_
           first | refine o_idxS rfl rfl rfl rfl (by assumption) ?_ | (refine o_idxSx rfl rfl rfl rfl (by omega) ?_; intro b_ hb_) | refine o_idxS rfl rfl rfl rfl rfl ?_
           first | refine o_geqn rfl rfl rfl ?_ | refine o_bin rfl rfl rfl rfl ?_
           first | refine o_movd rfl rfl ?_ | refine o_movp rfl rfl ?_ | refine o_mova rfl rfl ?_ | refine o_mov rfl rfl ?_
           refine o_ifp rfl ?_ ?_ <;> intro hq_ hg_ <;> simp only [hg_] <;> clear hg_
           ·first
            | exfalso; first | omega | (have := hfig _ _ hi ‹_›; omega)
            |skip
             first | refine o_movd rfl rfl ?_ | refine o_movp rfl rfl ?_ | refine o_mova rfl rfl ?_ | refine o_mov rfl rfl ?_
             first | refine o_movd rfl rfl ?_ | refine o_movp rfl rfl ?_ | refine o_mova rfl rfl ?_ | refine o_mov rfl rfl ?_
             first | refine o_idxS rfl rfl rfl rfl (by assumption) ?_ | (refine o_idxSx rfl rfl rfl rfl (by omega) ?_; intro b_ hb_) | refine o_idxS rfl rfl rfl rfl rfl ?_
             first | refine o_leqn rfl rfl rfl ?_ | refine o_bin rfl rfl rfl rfl ?_
             refine o_pickt rfl rfl rfl ?_
             refine o_pickf rfl rfl rfl ?_
             first | refine o_movd rfl rfl ?_ | refine o_movp rfl rfl ?_ | refine o_mova rfl rfl ?_ | refine o_mov rfl rfl ?_
             refine o_ifp rfl ?_ ?_ <;> intro hq_ hg_ <;> simp only [hg_] <;> clear hg_
             ·first
              | exfalso; first | omega | (have := hfig _ _ hi ‹_›; omega)
              |skip
               refine o_skip rfl ?_
               refine o_skip rfl ?_
               refine o_skip rfl ?_
               refine o_skip rfl ?_
               refine o_pickt rfl rfl rfl ?_
               first | refine o_asgd rfl rfl ?_ | refine o_asgo rfl rfl ?_ | refine o_asg rfl rfl (fun _ h_ => by cases h_) ?_
               refine op_nil ?_
               refine wp_ops ?_
               first | refine o_movd rfl rfl ?_ | refine o_movp rfl rfl ?_ | refine o_mova rfl rfl ?_ | refine o_mov rfl rfl ?_
               first | refine o_movd rfl rfl ?_ | refine o_movp rfl rfl ?_ | refine o_mova rfl rfl ?_ | refine o_mov rfl rfl ?_
               first | refine o_movd rfl rfl ?_ | refine o_movp rfl rfl ?_ | refine o_mova rfl rfl ?_ | refine o_mov rfl rfl ?_
               refine o_pickt rfl rfl rfl ?_
               first | refine o_asgd rfl rfl ?_ | refine o_asgo rfl rfl ?_ | refine o_asg rfl rfl (fun _ h_ => by cases h_) ?_
               refine op_nil ?_
               refine keepN (by (simp +decide only [Slots.keep, Slots.get, reduceIte]); exact rfl) ?_
               refine wp_ops ?_
               first | refine o_movd rfl rfl ?_ | refine o_movp rfl rfl ?_ | refine o_mova rfl rfl ?_ | refine o_mov rfl rfl ?_
               first | refine o_addkn rfl rfl rfl (by decide) (by (first | omega | (simp only [m64, mU, m8, n64, nU, n8, b64, bU, b8]; omega))) ?_ | refine o_cat rfl rfl rfl (by (first | omega | (simp only [m64, mU, m8, n64, nU, n8, b64, bU, b8]; omega))) ?_ | refine o_add rfl rfl rfl rfl (by omega) (by omega) ?_
               first | refine o_asgd rfl rfl ?_ | refine o_asgo rfl rfl ?_ | refine o_asg rfl rfl (fun _ h_ => by cases h_) ?_
               refine op_nil ?_
               refine ⟨rfl, m - 1, by omega, i + 1, by omega, by omega, ?_⟩
               first | rfl | (have hf_ := hfig _ _ hi hb_; have h120_ : b_.toNat = 120 := (by omega); simp only [h120_, decide_true]; rfl)
             ·first
              | exfalso; first | omega | (have := hfig _ _ hi ‹_›; omega)
              |skip
               first | refine o_movd rfl rfl ?_ | refine o_movp rfl rfl ?_ | refine o_mova rfl rfl ?_ | refine o_mov rfl rfl ?_
               first | refine o_movd rfl rfl ?_ | refine o_movp rfl rfl ?_ | refine o_mova rfl rfl ?_ | refine o_mov rfl rfl ?_
               first | refine o_idxS rfl rfl rfl rfl (by assumption) ?_ | (refine o_idxSx rfl rfl rfl rfl (by omega) ?_; intro b_ hb_) | refine o_idxS rfl rfl rfl rfl rfl ?_
               first | refine o_eqln rfl rfl rfl ?_ | refine o_eqs rfl rfl rfl ?_ | refine o_bin rfl rfl rfl rfl ?_
               refine o_pickf rfl rfl rfl ?_
               first | refine o_asgd rfl rfl ?_ | refine o_asgo rfl rfl ?_ | refine o_asg rfl rfl (fun _ h_ => by cases h_) ?_
               refine op_nil ?_
               refine wp_ops ?_
               first | refine o_movd rfl rfl ?_ | refine o_movp rfl rfl ?_ | refine o_mova rfl rfl ?_ | refine o_mov rfl rfl ?_
               first | refine o_movd rfl rfl ?_ | refine o_movp rfl rfl ?_ | refine o_mova rfl rfl ?_ | refine o_mov rfl rfl ?_
               first | refine o_movd rfl rfl ?_ | refine o_movp rfl rfl ?_ | refine o_mova rfl rfl ?_ | refine o_mov rfl rfl ?_
               refine o_pickt rfl rfl rfl ?_
               first | refine o_asgd rfl rfl ?_ | refine o_asgo rfl rfl ?_ | refine o_asg rfl rfl (fun _ h_ => by cases h_) ?_
               refine op_nil ?_
               refine keepN (by (simp +decide only [Slots.keep, Slots.get, reduceIte]); exact rfl) ?_
               refine wp_ops ?_
               first | refine o_movd rfl rfl ?_ | refine o_movp rfl rfl ?_ | refine o_mova rfl rfl ?_ | refine o_mov rfl rfl ?_
               first | refine o_addkn rfl rfl rfl (by decide) (by (first | omega | (simp only [m64, mU, m8, n64, nU, n8, b64, bU, b8]; omega))) ?_ | refine o_cat rfl rfl rfl (by (first | omega | (simp only [m64, mU, m8, n64, nU, n8, b64, bU, b8]; omega))) ?_ | refine o_add rfl rfl rfl rfl (by omega) (by omega) ?_
               first | refine o_asgd rfl rfl ?_ | refine o_asgo rfl rfl ?_ | refine o_asg rfl rfl (fun _ h_ => by cases h_) ?_
               refine op_nil ?_
               refine ⟨rfl, m - 1, by omega, i + 1, by omega, by omega, ?_⟩
               first | rfl | (have hf_ := hfig _ _ hi hb_; have h120_ : b_.toNat = 120 := (by omega); simp only [h120_, decide_true]; rfl)
           ·first
            | exfalso; first | omega | (have := hfig _ _ hi ‹_›; omega)
            |skip
             refine o_skip rfl ?_
             refine o_skip rfl ?_
             refine o_skip rfl ?_
             refine o_skip rfl ?_
             refine o_pickf rfl rfl rfl ?_
             refine o_pickf rfl rfl rfl ?_
             first | refine o_movd rfl rfl ?_ | refine o_movp rfl rfl ?_ | refine o_mova rfl rfl ?_ | refine o_mov rfl rfl ?_
             first | refine o_movd rfl rfl ?_ | refine o_movp rfl rfl ?_ | refine o_mova rfl rfl ?_ | refine o_mov rfl rfl ?_
             first | refine o_movd rfl rfl ?_ | refine o_movp rfl rfl ?_ | refine o_mova rfl rfl ?_ | refine o_mov rfl rfl ?_
             first | refine o_idxS rfl rfl rfl rfl (by assumption) ?_ | (refine o_idxSx rfl rfl rfl rfl (by omega) ?_; intro b_ hb_) | refine o_idxS rfl rfl rfl rfl rfl ?_
             first | refine o_eqln rfl rfl rfl ?_ | refine o_eqs rfl rfl rfl ?_ | refine o_bin rfl rfl rfl rfl ?_
             refine o_pickf rfl rfl rfl ?_
             first | refine o_asgd rfl rfl ?_ | refine o_asgo rfl rfl ?_ | refine o_asg rfl rfl (fun _ h_ => by cases h_) ?_
             refine op_nil ?_
             refine wp_ops ?_
             first | refine o_movd rfl rfl ?_ | refine o_movp rfl rfl ?_ | refine o_mova rfl rfl ?_ | refine o_mov rfl rfl ?_
             first | refine o_movd rfl rfl ?_ | refine o_movp rfl rfl ?_ | refine o_mova rfl rfl ?_ | refine o_mov rfl rfl ?_
             first | refine o_movd rfl rfl ?_ | refine o_movp rfl rfl ?_ | refine o_mova rfl rfl ?_ | refine o_mov rfl rfl ?_
             refine o_pickt rfl rfl rfl ?_
             first | refine o_asgd rfl rfl ?_ | refine o_asgo rfl rfl ?_ | refine o_asg rfl rfl (fun _ h_ => by cases h_) ?_
             refine op_nil ?_
             refine keepN (by (simp +decide only [Slots.keep, Slots.get, reduceIte]); exact rfl) ?_
             refine wp_ops ?_
             first | refine o_movd rfl rfl ?_ | refine o_movp rfl rfl ?_ | refine o_mova rfl rfl ?_ | refine o_mov rfl rfl ?_
             first | refine o_addkn rfl rfl rfl (by decide) (by (first | omega | (simp only [m64, mU, m8, n64, nU, n8, b64, bU, b8]; omega))) ?_ | refine o_cat rfl rfl rfl (by (first | omega | (simp only [m64, mU, m8, n64, nU, n8, b64, bU, b8]; omega))) ?_ | refine o_add rfl rfl rfl rfl (by omega) (by omega) ?_
             first | refine o_asgd rfl rfl ?_ | refine o_asgo rfl rfl ?_ | refine o_asg rfl rfl (fun _ h_ => by cases h_) ?_
             refine op_nil ?_
             refine ⟨rfl, m - 1, by omega, i + 1, by omega, by omega, ?_⟩
             first | rfl | (have hf_ := hfig _ _ hi hb_; have h120_ : b_.toNat = 120 := (by omega); simp only [h120_, decide_true]; rfl)
       ·first
        | exfalso; first | omega | (have := hfig _ _ hi ‹_›; omega)
        |skip
         refine wp_exit ?_
         refine bx_here ?_
         refine keepN (by (simp +decide only [Slots.keep, Slots.get, reduceIte]); exact rfl) ?_
         refine wp_seq ?_
         refine wp_ops ?_
         first | refine o_movd rfl rfl ?_ | refine o_movp rfl rfl ?_ | refine o_mova rfl rfl ?_ | refine o_mov rfl rfl ?_
         first | refine o_movd rfl rfl ?_ | refine o_movp rfl rfl ?_ | refine o_mova rfl rfl ?_ | refine o_mov rfl rfl ?_
         first | refine o_movd rfl rfl ?_ | refine o_movp rfl rfl ?_ | refine o_mova rfl rfl ?_ | refine o_mov rfl rfl ?_
         first | refine o_movd rfl rfl ?_ | refine o_movp rfl rfl ?_ | refine o_mova rfl rfl ?_ | refine o_mov rfl rfl ?_
         first | refine o_eqln rfl rfl rfl ?_ | refine o_eqs rfl rfl rfl ?_ | refine o_bin rfl rfl rfl rfl ?_
         refine o_pickt rfl rfl rfl ?_
         first | refine o_movd rfl rfl ?_ | refine o_movp rfl rfl ?_ | refine o_mova rfl rfl ?_ | refine o_mov rfl rfl ?_
         refine o_ifp rfl ?_ ?_ <;> intro hq_ hg_ <;> simp only [hg_] <;> clear hg_
         ·first
          | exfalso; first | omega | (have := hfig _ _ hi ‹_›; omega)
          |skip
           first | refine o_movd rfl rfl ?_ | refine o_movp rfl rfl ?_ | refine o_mova rfl rfl ?_ | refine o_mov rfl rfl ?_
           first | refine o_movd rfl rfl ?_ | refine o_movp rfl rfl ?_ | refine o_mova rfl rfl ?_ | refine o_mov rfl rfl ?_
           refine o_lenS rfl rfl ?_
           first | refine o_eqln rfl rfl rfl ?_ | refine o_eqs rfl rfl rfl ?_ | refine o_bin rfl rfl rfl rfl ?_
           refine o_pickt rfl rfl rfl ?_
           first | refine o_movd rfl rfl ?_ | refine o_movp rfl rfl ?_ | refine o_mova rfl rfl ?_ | refine o_mov rfl rfl ?_
           refine o_ifp rfl ?_ ?_ <;> intro hq_ hg_ <;> simp only [hg_] <;> clear hg_
           ·first
            | exfalso; first | omega | (have := hfig _ _ hi ‹_›; omega)
            |skip
             first | refine o_movd rfl rfl ?_ | refine o_movp rfl rfl ?_ | refine o_mova rfl rfl ?_ | refine o_mov rfl rfl ?_
             first | refine o_eqln rfl rfl rfl ?_ | refine o_eqs rfl rfl rfl ?_ | refine o_bin rfl rfl rfl rfl ?_
             refine o_pickt rfl rfl rfl ?_
             first | refine o_movd rfl rfl ?_ | refine o_movp rfl rfl ?_ | refine o_mova rfl rfl ?_ | refine o_mov rfl rfl ?_
             refine o_ifp rfl ?_ ?_ <;> intro hq_ hg_ <;> simp only [hg_] <;> clear hg_
             ·first
              | exfalso; first | omega | (have := hfig _ _ hi ‹_›; omega)
              |skip
               first | refine o_movd rfl rfl ?_ | refine o_movp rfl rfl ?_ | refine o_mova rfl rfl ?_ | refine o_mov rfl rfl ?_
               refine o_pickt rfl rfl rfl ?_
               first | refine o_asgd rfl rfl ?_ | refine o_asgo rfl rfl ?_ | refine o_asg rfl rfl (fun _ h_ => by cases h_) ?_
               refine op_nil ?_
               refine wp_ret ?_
               refine end1 rfl rfl rfl ?_ (by first | rfl | simp)
               rfl
             ·first
              | exfalso; first | omega | (have := hfig _ _ hi ‹_›; omega)
              |skip
               refine o_skip rfl ?_
               refine o_pickf rfl rfl rfl ?_
               first | refine o_asgd rfl rfl ?_ | refine o_asgo rfl rfl ?_ | refine o_asg rfl rfl (fun _ h_ => by cases h_) ?_
               refine op_nil ?_
               refine wp_ret ?_
               refine end1 rfl rfl rfl ?_ (by first | rfl | simp)
               rfl
           ·first
            | exfalso; first | omega | (have := hfig _ _ hi ‹_›; omega)
            |skip
             refine o_skip rfl ?_
             refine o_skip rfl ?_
             refine o_pickf rfl rfl rfl ?_
             first | refine o_movd rfl rfl ?_ | refine o_movp rfl rfl ?_ | refine o_mova rfl rfl ?_ | refine o_mov rfl rfl ?_
             refine o_skip rfl ?_
             refine o_pickf rfl rfl rfl ?_
             first | refine o_asgd rfl rfl ?_ | refine o_asgo rfl rfl ?_ | refine o_asg rfl rfl (fun _ h_ => by cases h_) ?_
             refine op_nil ?_
             refine wp_ret ?_
             refine end1 rfl rfl rfl ?_ (by first | rfl | simp)
             rfl
         ·first
          | exfalso; first | omega | (have := hfig _ _ hi ‹_›; omega)
          |skip
           refine o_skip rfl ?_
           refine o_skip rfl ?_
           refine o_skip rfl ?_
           refine o_skip rfl ?_
           refine o_pickf rfl rfl rfl ?_
           first | refine o_movd rfl rfl ?_ | refine o_movp rfl rfl ?_ | refine o_mova rfl rfl ?_ | refine o_mov rfl rfl ?_
           refine o_skip rfl ?_
           refine o_skip rfl ?_
           refine o_pickf rfl rfl rfl ?_
           first | refine o_movd rfl rfl ?_ | refine o_movp rfl rfl ?_ | refine o_mova rfl rfl ?_ | refine o_mov rfl rfl ?_
           refine o_skip rfl ?_
           refine o_pickf rfl rfl rfl ?_
           first | refine o_asgd rfl rfl ?_ | refine o_asgo rfl rfl ?_ | refine o_asg rfl rfl (fun _ h_ => by cases h_) ?_
           refine op_nil ?_
           refine wp_ret ?_
           refine end1 rfl rfl rfl ?_ (by first | rfl | simp)
           rfl
     ·first
      | exfalso; omega
      |skip
       first | refine o_movd rfl rfl ?_ | refine o_movp rfl rfl ?_ | refine o_mova rfl rfl ?_ | refine o_mov rfl rfl ?_
       refine o_lenS rfl rfl ?_
       first | refine o_eqln rfl rfl rfl ?_ | refine o_eqs rfl rfl rfl ?_ | refine o_bin rfl rfl rfl rfl ?_
       first | refine o_movd rfl rfl ?_ | refine o_movp rfl rfl ?_ | refine o_mova rfl rfl ?_ | refine o_mov rfl rfl ?_
       refine o_ifp rfl ?_ ?_ <;> intro hq_ hg_ <;> simp only [hg_] <;> clear hg_
       ·first
        | exfalso; omega
        |skip
         first | refine o_movd rfl rfl ?_ | refine o_movp rfl rfl ?_ | refine o_mova rfl rfl ?_ | refine o_mov rfl rfl ?_
         first | refine o_idxS rfl rfl rfl rfl (by assumption) ?_ | (refine o_idxSx rfl rfl rfl rfl (by omega) ?_; intro b_ hb_) | refine o_idxS rfl rfl rfl rfl rfl ?_
         first | refine o_eqln rfl rfl rfl ?_ | refine o_eqs rfl rfl rfl ?_ | refine o_bin rfl rfl rfl rfl ?_
         refine o_pickt rfl rfl rfl ?_
         first | refine o_movd rfl rfl ?_ | refine o_movp rfl rfl ?_ | refine o_mova rfl rfl ?_ | refine o_mov rfl rfl ?_
         refine o_ifp rfl ?_ ?_ <;> intro hq_ hg_ <;> simp only [hg_] <;> clear hg_
         ·first
          | exfalso; omega
          |skip
           first | refine o_movd rfl rfl ?_ | refine o_movp rfl rfl ?_ | refine o_mova rfl rfl ?_ | refine o_mov rfl rfl ?_
           first | refine o_idxS rfl rfl rfl rfl (by assumption) ?_ | (refine o_idxSx rfl rfl rfl rfl (by omega) ?_; intro b_ hb_) | refine o_idxS rfl rfl rfl rfl rfl ?_
           first | refine o_eqln rfl rfl rfl ?_ | refine o_eqs rfl rfl rfl ?_ | refine o_bin rfl rfl rfl rfl ?_
           refine o_pickt rfl rfl rfl ?_
           refine o_pickf rfl rfl rfl ?_
           first | refine o_asgd rfl rfl ?_ | refine o_asgo rfl rfl ?_ | refine o_asg rfl rfl (fun _ h_ => by cases h_) ?_
           refine op_nil ?_
           refine wp_seq ?_
           refine wp_seq ?_
           refine wp_ops ?_
           first | refine o_asgd rfl rfl ?_ | refine o_asgo rfl rfl ?_ | refine o_asg rfl rfl (fun _ h_ => by cases h_) ?_
           refine op_nil ?_
           refine wp_keep ?_
           refine wp_block ?_
           try simp only [show decide (e1.toNat = 120) = true from decide_eq_true (by assumption)]
           refine wp_loop (m := 4) (fun m st => ∃ i : Nat, 1 ≤ i ∧ i + m = 5 ∧ st = ⟨[(0, u8 c), (5, bl true), (6, str s), (7, u8 c), (8, i64 s.length), (9, i64 (0 : Nat)), (10, bl true), (11, i64 i)], [], [], none, 0⟩) ⟨1, by omega, by omega, rfl⟩ ?_
           rintro m st ⟨i, hi, him, rfl⟩ -
           refine wp_seq ?_
           refine wp_seq ?_
           refine wp_ops ?_
           first | refine o_movd rfl rfl ?_ | refine o_movp rfl rfl ?_ | refine o_mova rfl rfl ?_ | refine o_mov rfl rfl ?_
           first | refine o_movd rfl rfl ?_ | refine o_movp rfl rfl ?_ | refine o_mova rfl rfl ?_ | refine o_mov rfl rfl ?_
           refine o_lenS rfl rfl ?_
           first | refine o_lssn rfl rfl rfl ?_ | refine o_bin rfl rfl rfl rfl ?_
           refine op_nil ?_
           first | refine wp_if rfl ?_ ?_ <;> intro hq_ | refine wp_cond rfl ?_ ?_ <;> intro hq_
           ·first
            | exfalso; first | omega | (have := hfig _ _ hi ‹_›; omega)
            |skip
             refine wp_skip ?_
             refine wp_seq ?_
             refine wp_keep ?_
             refine wp_block ?_
             refine wp_seq ?_
             refine wp_ops ?_
             first | refine o_movd rfl rfl ?_ | refine o_movp rfl rfl ?_ | refine o_mova rfl rfl ?_ | refine o_mov rfl rfl ?_
             first | refine o_movd rfl rfl ?_ | refine o_movp rfl rfl ?_ | refine o_mova rfl rfl ?_ | refine o_mov rfl rfl ?_
             first | refine o_idxS rfl rfl rfl rfl (by assumption) ?_ | (refine o_idxSx rfl rfl rfl rfl (by omega) ?_; intro b_ hb_) | refine o_idxS rfl rfl rfl rfl rfl ?_
             first | refine o_geqn rfl rfl rfl ?_ | refine o_bin rfl rfl rfl rfl ?_
             first | refine o_movd rfl rfl ?_ | refine o_movp rfl rfl ?_ | refine o_mova rfl rfl ?_ | refine o_mov rfl rfl ?_
             refine o_ifp rfl ?_ ?_ <;> intro hq_ hg_ <;> simp only [hg_] <;> clear hg_
             ·first
              | exfalso; first | omega | (have := hfig _ _ hi ‹_›; omega)
              |skip
               first | refine o_movd rfl rfl ?_ | refine o_movp rfl rfl ?_ | refine o_mova rfl rfl ?_ | refine o_mov rfl rfl ?_
               first | refine o_movd rfl rfl ?_ | refine o_movp rfl rfl ?_ | refine o_mova rfl rfl ?_ | refine o_mov rfl rfl ?_
               first | refine o_idxS rfl rfl rfl rfl (by assumption) ?_ | (refine o_idxSx rfl rfl rfl rfl (by omega) ?_; intro b_ hb_) | refine o_idxS rfl rfl rfl rfl rfl ?_
               first | refine o_leqn rfl rfl rfl ?_ | refine o_bin rfl rfl rfl rfl ?_
               refine o_pickt rfl rfl rfl ?_
               first | refine o_movd rfl rfl ?_ | refine o_movp rfl rfl ?_ | refine o_mova rfl rfl ?_ | refine o_mov rfl rfl ?_
               refine o_ifp rfl ?_ ?_ <;> intro hq_ hg_ <;> simp only [hg_] <;> clear hg_
               ·first
                | exfalso; first | omega | (have := hfig _ _ hi ‹_›; omega)
                |skip
                 refine o_skip rfl ?_
                 refine o_skip rfl ?_
                 refine o_skip rfl ?_
                 refine o_skip rfl ?_
                 refine o_skip rfl ?_
                 refine o_skip rfl ?_
                 refine o_skip rfl ?_
                 refine o_skip rfl ?_
                 refine o_skip rfl ?_
                 refine o_skip rfl ?_
                 refine o_pickt rfl rfl rfl ?_
                 first | refine o_movd rfl rfl ?_ | refine o_movp rfl rfl ?_ | refine o_mova rfl rfl ?_ | refine o_mov rfl rfl ?_
                 refine o_skip rfl ?_
                 refine o_skip rfl ?_
                 refine o_skip rfl ?_
                 refine o_skip rfl ?_
                 refine o_pickt rfl rfl rfl ?_
                 first | refine o_asgd rfl rfl ?_ | refine o_asgo rfl rfl ?_ | refine o_asg rfl rfl (fun _ h_ => by cases h_) ?_
                 refine op_nil ?_
                 refine wp_ops ?_
                 first | refine o_movd rfl rfl ?_ | refine o_movp rfl rfl ?_ | refine o_mova rfl rfl ?_ | refine o_mov rfl rfl ?_
                 first | refine o_movd rfl rfl ?_ | refine o_movp rfl rfl ?_ | refine o_mova rfl rfl ?_ | refine o_mov rfl rfl ?_
                 first | refine o_movd rfl rfl ?_ | refine o_movp rfl rfl ?_ | refine o_mova rfl rfl ?_ | refine o_mov rfl rfl ?_
                 refine o_pickt rfl rfl rfl ?_
                 first | refine o_asgd rfl rfl ?_ | refine o_asgo rfl rfl ?_ | refine o_asg rfl rfl (fun _ h_ => by cases h_) ?_
                 refine op_nil ?_
                 refine keepN (by (simp +decide only [Slots.keep, Slots.get, reduceIte]); exact rfl) ?_
                 refine wp_ops ?_
                 first | refine o_movd rfl rfl ?_ | refine o_movp rfl rfl ?_ | refine o_mova rfl rfl ?_ | refine o_mov rfl rfl ?_
                 first | refine o_addkn rfl rfl rfl (by decide) (by (first | omega | (simp only [m64, mU, m8, n64, nU, n8, b64, bU, b8]; omega))) ?_ | refine o_cat rfl rfl rfl (by (first | omega | (simp only [m64, mU, m8, n64, nU, n8, b64, bU, b8]; omega))) ?_ | refine o_add rfl rfl rfl rfl (by omega) (by omega) ?_
                 first | refine o_asgd rfl rfl ?_ | refine o_asgo rfl rfl ?_ | refine o_asg rfl rfl (fun _ h_ => by cases h_) ?_
                 refine op_nil ?_
                 refine ⟨rfl, m - 1, by omega, i + 1, by omega, by omega, ?_⟩
                 first | rfl | (have hf_ := hfig _ _ hi hb_; have h120_ : b_.toNat = 120 := (by omega); simp only [h120_, decide_true]; rfl)
               ·first
                | exfalso; first | omega | (have := hfig _ _ hi ‹_›; omega)
                |skip
                 first | refine o_movd rfl rfl ?_ | refine o_movp rfl rfl ?_ | refine o_mova rfl rfl ?_ | refine o_mov rfl rfl ?_
                 first | refine o_movd rfl rfl ?_ | refine o_movp rfl rfl ?_ | refine o_mova rfl rfl ?_ | refine o_mov rfl rfl ?_
                 first | refine o_idxS rfl rfl rfl rfl (by assumption) ?_ | (refine o_idxSx rfl rfl rfl rfl (by omega) ?_; intro b_ hb_) | refine o_idxS rfl rfl rfl rfl rfl ?_
                 first | refine o_geqn rfl rfl rfl ?_ | refine o_bin rfl rfl rfl rfl ?_
                 first | refine o_movd rfl rfl ?_ | refine o_movp rfl rfl ?_ | refine o_mova rfl rfl ?_ | refine o_mov rfl rfl ?_
                 refine o_ifp rfl ?_ ?_ <;> intro hq_ hg_ <;> simp only [hg_] <;> clear hg_
                 ·first
                  | exfalso; first | omega | (have := hfig _ _ hi ‹_›; omega)
                  |skip
                   first | refine o_movd rfl rfl ?_ | refine o_movp rfl rfl ?_ | refine o_mova rfl rfl ?_ | refine o_mov rfl rfl ?_
                   first | refine o_movd rfl rfl ?_ | refine o_movp rfl rfl ?_ | refine o_mova rfl rfl ?_ | refine o_mov rfl rfl ?_
                   first | refine o_idxS rfl rfl rfl rfl (by assumption) ?_ | (refine o_idxSx rfl rfl rfl rfl (by omega) ?_; intro b_ hb_) | refine o_idxS rfl rfl rfl rfl rfl ?_
                   first | refine o_leqn rfl rfl rfl ?_ | refine o_bin rfl rfl rfl rfl ?_
                   refine o_pickt rfl rfl rfl ?_
                   refine o_pickf rfl rfl rfl ?_
                   first | refine o_movd rfl rfl ?_ | refine o_movp rfl rfl ?_ | refine o_mova rfl rfl ?_ | refine o_mov rfl rfl ?_
                   refine o_ifp rfl ?_ ?_ <;> intro hq_ hg_ <;> simp only [hg_] <;> clear hg_
                   ·first
                    | exfalso; first | omega | (have := hfig _ _ hi ‹_›; omega)
                    |skip
                     refine o_skip rfl ?_
                     refine o_skip rfl ?_
                     refine o_skip rfl ?_
                     refine o_skip rfl ?_
                     refine o_pickt rfl rfl rfl ?_
                     first | refine o_asgd rfl rfl ?_ | refine o_asgo rfl rfl ?_ | refine o_asg rfl rfl (fun _ h_ => by cases h_) ?_
                     refine op_nil ?_
                     refine wp_ops ?_
                     first | refine o_movd rfl rfl ?_ | refine o_movp rfl rfl ?_ | refine o_mova rfl rfl ?_ | refine o_mov rfl rfl ?_
                     first | refine o_movd rfl rfl ?_ | refine o_movp rfl rfl ?_ | refine o_mova rfl rfl ?_ | refine o_mov rfl rfl ?_
                     first | refine o_movd rfl rfl ?_ | refine o_movp rfl rfl ?_ | refine o_mova rfl rfl ?_ | refine o_mov rfl rfl ?_
                     refine o_pickt rfl rfl rfl ?_
                     first | refine o_asgd rfl rfl ?_ | refine o_asgo rfl rfl ?_ | refine o_asg rfl rfl (fun _ h_ => by cases h_) ?_
                     refine op_nil ?_
                     refine keepN (by (simp +decide only [Slots.keep, Slots.get, reduceIte]); exact rfl) ?_
                     refine wp_ops ?_
                     first | refine o_movd rfl rfl ?_ | refine o_movp rfl rfl ?_ | refine o_mova rfl rfl ?_ | refine o_mov rfl rfl ?_
                     first | refine o_addkn rfl rfl rfl (by decide) (by (first | omega | (simp only [m64, mU, m8, n64, nU, n8, b64, bU, b8]; omega))) ?_ | refine o_cat rfl rfl rfl (by (first | omega | (simp only [m64, mU, m8, n64, nU, n8, b64, bU, b8]; omega))) ?_ | refine o_add rfl rfl rfl rfl (by omega) (by omega) ?_
                     first | refine o_asgd rfl rfl ?_ | refine o_asgo rfl rfl ?_ | refine o_asg rfl rfl (fun _ h_ => by cases h_) ?_
                     refine op_nil ?_
                     refine ⟨rfl, m - 1, by omega, i + 1, by omega, by omega, ?_⟩
                     first | rfl | (have hf_ := hfig _ _ hi hb_; have h120_ : b_.toNat = 120 := (by omega); simp only [h120_, decide_true]; rfl)
                   ·first
                    | exfalso; first | omega | (have := hfig _ _ hi ‹_›; omega)
                    |skip
                     first | refine o_movd rfl rfl ?_ | refine o_movp rfl rfl ?_ | refine o_mova rfl rfl ?_ | refine o_mov rfl rfl ?_
                     first | refine o_movd rfl rfl ?_ | refine o_movp rfl rfl ?_ | refine o_mova rfl rfl ?_ | refine o_mov rfl rfl ?_
                     first | refine o_idxS rfl rfl rfl rfl (by assumption) ?_ | (refine o_idxSx rfl rfl rfl rfl (by omega) ?_; intro b_ hb_) | refine o_idxS rfl rfl rfl rfl rfl ?_
                     first | refine o_eqln rfl rfl rfl ?_ | refine o_eqs rfl rfl rfl ?_ | refine o_bin rfl rfl rfl rfl ?_
                     refine o_pickf rfl rfl rfl ?_
                     first | refine o_asgd rfl rfl ?_ | refine o_asgo rfl rfl ?_ | refine o_asg rfl rfl (fun _ h_ => by cases h_) ?_
                     refine op_nil ?_
                     refine wp_ops ?_
                     first | refine o_movd rfl rfl ?_ | refine o_movp rfl rfl ?_ | refine o_mova rfl rfl ?_ | refine o_mov rfl rfl ?_
                     first | refine o_movd rfl rfl ?_ | refine o_movp rfl rfl ?_ | refine o_mova rfl rfl ?_ | refine o_mov rfl rfl ?_
                     first | refine o_movd rfl rfl ?_ | refine o_movp rfl rfl ?_ | refine o_mova rfl rfl ?_ | refine o_mov rfl rfl ?_
                     refine o_pickt rfl rfl rfl ?_
                     first | refine o_asgd rfl rfl ?_ | refine o_asgo rfl rfl ?_ | refine o_asg rfl rfl (fun _ h_ => by cases h_) ?_
                     refine op_nil ?_
                     refine keepN (by (simp +decide only [Slots.keep, Slots.get, reduceIte]); exact rfl) ?_
                     refine wp_ops ?_
                     first | refine o_movd rfl rfl ?_ | refine o_movp rfl rfl ?_ | refine o_mova rfl rfl ?_ | refine o_mov rfl rfl ?_
                     first | refine o_addkn rfl rfl rfl (by decide) (by (first | omega | (simp only [m64, mU, m8, n64, nU, n8, b64, bU, b8]; omega))) ?_ | refine o_cat rfl rfl rfl (by (first | omega | (simp only [m64, mU, m8, n64, nU, n8, b64, bU, b8]; omega))) ?_ | refine o_add rfl rfl rfl rfl (by omega) (by omega) ?_
                     first | refine o_asgd rfl rfl ?_ | refine o_asgo rfl rfl ?_ | refine o_asg rfl rfl (fun _ h_ => by cases h_) ?_
                     refine op_nil ?_
                     refine ⟨rfl, m - 1, by omega, i + 1, by omega, by omega, ?_⟩
                     first | rfl | (have hf_ := hfig _ _ hi hb_; have h120_ : b_.toNat = 120 := (by omega); simp only [h120_, decide_true]; rfl)
                 ·first
                  | exfalso; first | omega | (have := hfig _ _ hi ‹_›; omega)
                  |skip
                   refine o_skip rfl ?_
                   refine o_skip rfl ?_
                   refine o_skip rfl ?_
                   refine o_skip rfl ?_
                   refine o_pickf rfl rfl rfl ?_
                   refine o_pickf rfl rfl rfl ?_
                   first | refine o_movd rfl rfl ?_ | refine o_movp rfl rfl ?_ | refine o_mova rfl rfl ?_ | refine o_mov rfl rfl ?_
                   first | refine o_movd rfl rfl ?_ | refine o_movp rfl rfl ?_ | refine o_mova rfl rfl ?_ | refine o_mov rfl rfl ?_
                   first | refine o_movd rfl rfl ?_ | refine o_movp rfl rfl ?_ | refine o_mova rfl rfl ?_ | refine o_mov rfl rfl ?_
                   first | refine o_idxS rfl rfl rfl rfl (by assumption) ?_ | (refine o_idxSx rfl rfl rfl rfl (by omega) ?_; intro b_ hb_) | refine o_idxS rfl rfl rfl rfl rfl ?_
                   first | refine o_eqln rfl rfl rfl ?_ | refine o_eqs rfl rfl rfl ?_ | refine o_bin rfl rfl rfl rfl ?_
                   refine o_pickf rfl rfl rfl ?_
                   first | refine o_asgd rfl rfl ?_ | refine o_asgo rfl rfl ?_ | refine o_asg rfl rfl (fun _ h_ => by cases h_) ?_
                   refine op_nil ?_
                   refine wp_ops ?_
                   first | refine o_movd rfl rfl ?_ | refine o_movp rfl rfl ?_ | refine o_mova rfl rfl ?_ | refine o_mov rfl rfl ?_
                   first | refine o_movd rfl rfl ?_ | refine o_movp rfl rfl ?_ | refine o_mova rfl rfl ?_ | refine o_mov rfl rfl ?_
                   first | refine o_movd rfl rfl ?_ | refine o_movp rfl rfl ?_ | refine o_mova rfl rfl ?_ | refine o_mov rfl rfl ?_
                   refine o_pickt rfl rfl rfl ?_
                   first | refine o_asgd rfl rfl ?_ | refine o_asgo rfl rfl ?_ | refine o_asg rfl rfl (fun _ h_ => by cases h_) ?_
                   refine op_nil ?_
                   refine keepN (by (simp +decide only [Slots.keep, Slots.get, reduceIte]); exact rfl) ?_
                   refine wp_ops ?_
                   first | refine o_movd rfl rfl ?_ | refine o_movp rfl rfl ?_ | refine o_mova rfl rfl ?_ | refine o_mov rfl rfl ?_
                   first | refine o_addkn rfl rfl rfl (by decide) (by (first | omega | (simp only [m64, mU, m8, n64, nU, n8, b64, bU, b8]; omega))) ?_ | refine o_cat rfl rfl rfl (by (first | omega | (simp only [m64, mU, m8, n64, nU, n8, b64, bU, b8]; omega))) ?_ | refine o_add rfl rfl rfl rfl (by omega) (by omega) ?_
                   first | refine o_asgd rfl rfl ?_ | refine o_asgo rfl rfl ?_ | refine o_asg rfl rfl (fun _ h_ => by cases h_) ?_
                   refine op_nil ?_
                   refine ⟨rfl, m - 1, by omega, i + 1, by omega, by omega, ?_⟩
                   first | rfl | (have hf_ := hfig _ _ hi hb_; have h120_ : b_.toNat = 120 := (by omega); simp only [h120_, decide_true]; rfl)
             ·first
              | exfalso; first | omega | (have := hfig _ _ hi ‹_›; omega)
              |skip
               refine o_skip rfl ?_
               refine o_skip rfl ?_
               refine o_skip rfl ?_
               refine o_skip rfl ?_
               refine o_pickf rfl rfl rfl ?_
               first | refine o_movd rfl rfl ?_ | refine o_movp rfl rfl ?_ | refine o_mova rfl rfl ?_ | refine o_mov rfl rfl ?_
               first | refine o_movd rfl rfl ?_ | refine o_movp rfl rfl ?_ | refine o_mova rfl rfl ?_ | refine o_mov rfl rfl ?_
               first | refine o_movd rfl rfl ?_ | refine o_movp rfl rfl ?_ | refine o_mova rfl rfl ?_ | refine o_mov rfl rfl ?_
               first | refine o_idxS rfl rfl rfl rfl (by assumption) ?_ | (refine o_idxSx rfl rfl rfl rfl (by omega) ?_; intro b_ hb_) | refine o_idxS rfl rfl rfl rfl rfl ?_
               first | refine o_geqn rfl rfl rfl ?_ | refine o_bin rfl rfl rfl rfl ?_
               first | refine o_movd rfl rfl ?_ | refine o_movp rfl rfl ?_ | refine o_mova rfl rfl ?_ | refine o_mov rfl rfl ?_
               refine o_ifp rfl ?_ ?_ <;> intro hq_ hg_ <;> simp only [hg_] <;> clear hg_
               ·first
                | exfalso; first | omega | (have := hfig _ _ hi ‹_›; omega)
                |skip
                 first | refine o_movd rfl rfl ?_ | refine o_movp rfl rfl ?_ | refine o_mova rfl rfl ?_ | refine o_mov rfl rfl ?_
                 first | refine o_movd rfl rfl ?_ | refine o_movp rfl rfl ?_ | refine o_mova rfl rfl ?_ | refine o_mov rfl rfl ?_
                 first | refine o_idxS rfl rfl rfl rfl (by assumption) ?_ | (refine o_idxSx rfl rfl rfl rfl (by omega) ?_; intro b_ hb_) | refine o_idxS rfl rfl rfl rfl rfl ?_
                 first | refine o_leqn rfl rfl rfl ?_ | refine o_bin rfl rfl rfl rfl ?_
                 refine o_pickt rfl rfl rfl ?_
                 refine o_pickf rfl rfl rfl ?_
                 first | refine o_movd rfl rfl ?_ | refine o_movp rfl rfl ?_ | refine o_mova rfl rfl ?_ | refine o_mov rfl rfl ?_
                 refine o_ifp rfl ?_ ?_ <;> intro hq_ hg_ <;> simp only [hg_] <;> clear hg_
                 ·first
                  | exfalso; first | omega | (have := hfig _ _ hi ‹_›; omega)
                  |skip
                   refine o_skip rfl ?_
                   refine o_skip rfl ?_
                   refine o_skip rfl ?_
                   refine o_skip rfl ?_
                   refine o_pickt rfl rfl rfl ?_
                   first | refine o_asgd rfl rfl ?_ | refine o_asgo rfl rfl ?_ | refine o_asg rfl rfl (fun _ h_ => by cases h_) ?_
                   refine op_nil ?_
                   refine wp_ops ?_
                   first | refine o_movd rfl rfl ?_ | refine o_movp rfl rfl ?_ | refine o_mova rfl rfl ?_ | refine o_mov rfl rfl ?_
                   first | refine o_movd rfl rfl ?_ | refine o_movp rfl rfl ?_ | refine o_mova rfl rfl ?_ | refine o_mov rfl rfl ?_
                   first | refine o_movd rfl rfl ?_ | refine o_movp rfl rfl ?_ | refine o_mova rfl rfl ?_ | refine o_mov rfl rfl ?_
                   refine o_pickt rfl rfl rfl ?_
                   first | refine o_asgd rfl rfl ?_ | refine o_asgo rfl rfl ?_ | refine o_asg rfl rfl (fun _ h_ => by cases h_) ?_
                   refine op_nil ?_
                   refine keepN (by (simp +decide only [Slots.keep, Slots.get, reduceIte]); exact rfl) ?_
                   refine wp_ops ?_
                   first | refine o_movd rfl rfl ?_ | refine o_movp rfl rfl ?_ | refine o_mova rfl rfl ?_ | refine o_mov rfl rfl ?_
                   first | refine o_addkn rfl rfl rfl (by decide) (by (first | omega | (simp only [m64, mU, m8, n64, nU, n8, b64, bU, b8]; omega))) ?_ | refine o_cat rfl rfl rfl (by (first | omega | (simp only [m64, mU, m8, n64, nU, n8, b64, bU, b8]; omega))) ?_ | refine o_add rfl rfl rfl rfl (by omega) (by omega) ?_
                   first | refine o_asgd rfl rfl ?_ | refine o_asgo rfl rfl ?_ | refine o_asg rfl rfl (fun _ h_ => by cases h_) ?_
                   refine op_nil ?_
                   refine ⟨rfl, m - 1, by omega, i + 1, by omega, by omega, ?_⟩
                   first | rfl | (have hf_ := hfig _ _ hi hb_; have h120_ : b_.toNat = 120 := (by omega); simp only [h120_, decide_true]; rfl)
                 ·first
                  | exfalso; first | omega | (have := hfig _ _ hi ‹_›; omega)
                  |skip
                   first | refine o_movd rfl rfl ?_ | refine o_movp rfl rfl ?_ | refine o_mova rfl rfl ?_ | refine o_mov rfl rfl ?_
                   first | refine o_movd rfl rfl ?_ | refine o_movp rfl rfl ?_ | refine o_mova rfl rfl ?_ | refine o_mov rfl rfl ?_
                   first | refine o_idxS rfl rfl rfl rfl (by assumption) ?_ | (refine o_idxSx rfl rfl rfl rfl (by omega) ?_; intro b_ hb_) | refine o_idxS rfl rfl rfl rfl rfl ?_
                   first | refine o_eqln rfl rfl rfl ?_ | refine o_eqs rfl rfl rfl ?_ | refine o_bin rfl rfl rfl rfl ?_
                   refine o_pickf rfl rfl rfl ?_
                   first | refine o_asgd rfl rfl ?_ | refine o_asgo rfl rfl ?_ | refine o_asg rfl rfl (fun _ h_ => by cases h_) ?_
                   refine op_nil ?_
                   refine wp_ops ?_
                   first | refine o_movd rfl rfl ?_ | refine o_movp rfl rfl ?_ | refine o_mova rfl rfl ?_ | refine o_mov rfl rfl ?_
                   first | refine o_movd rfl rfl ?_ | refine o_movp rfl rfl ?_ | refine o_mova rfl rfl ?_ | refine o_mov rfl rfl ?_
                   first | refine o_movd rfl rfl ?_ | refine o_movp rfl rfl ?_ | refine o_mova rfl rfl ?_ | refine o_mov rfl rfl ?_
                   refine o_pickt rfl rfl rfl ?_
                   first | refine o_asgd rfl rfl ?_ | refine o_asgo rfl rfl ?_ | refine o_asg rfl rfl (fun _ h_ => by cases h_) ?_
                   refine op_nil ?_
                   refine keepN (by (simp +decide only [Slots.keep, Slots.get, reduceIte]); exact rfl) ?_
                   refine wp_ops ?_
                   first | refine o_movd rfl rfl ?_ | refine o_movp rfl rfl ?_ | refine o_mova rfl rfl ?_ | refine o_mov rfl rfl ?_
                   first | refine o_addkn rfl rfl rfl (by decide) (by (first | omega | (simp only [m64, mU, m8, n64, nU, n8, b64, bU, b8]; omega))) ?_ | refine o_cat rfl rfl rfl (by (first | omega | (simp only [m64, mU, m8, n64, nU, n8, b64, bU, b8]; omega))) ?_ | refine o_add rfl rfl rfl rfl (by omega) (by omega) ?_
                   first | refine o_asgd rfl rfl ?_ | refine o_asgo rfl rfl ?_ | refine o_asg rfl rfl (fun _ h_ => by cases h_) ?_
                   refine op_nil ?_
                   refine ⟨rfl, m - 1, by omega, i + 1, by omega, by omega, ?_⟩
                   first | rfl | (have hf_ := hfig _ _ hi hb_; have h120_ : b_.toNat = 120 := (by omega); simp only [h120_, decide_true]; rfl)
               ·first
                | exfalso; first | omega | (have := hfig _ _ hi ‹_›; omega)
                |skip
                 refine o_skip rfl ?_
                 refine o_skip rfl ?_
                 refine o_skip rfl ?_
                 refine o_skip rfl ?_
                 refine o_pickf rfl rfl rfl ?_
                 refine o_pickf rfl rfl rfl ?_
                 first | refine o_movd rfl rfl ?_ | refine o_movp rfl rfl ?_ | refine o_mova rfl rfl ?_ | refine o_mov rfl rfl ?_
                 first | refine o_movd rfl rfl ?_ | refine o_movp rfl rfl ?_ | refine o_mova rfl rfl ?_ | refine o_mov rfl rfl ?_
                 first | refine o_movd rfl rfl ?_ | refine o_movp rfl rfl ?_ | refine o_mova rfl rfl ?_ | refine o_mov rfl rfl ?_
                 first | refine o_idxS rfl rfl rfl rfl (by assumption) ?_ | (refine o_idxSx rfl rfl rfl rfl (by omega) ?_; intro b_ hb_) | refine o_idxS rfl rfl rfl rfl rfl ?_
                 first | refine o_eqln rfl rfl rfl ?_ | refine o_eqs rfl rfl rfl ?_ | refine o_bin rfl rfl rfl rfl ?_
                 refine o_pickf rfl rfl rfl ?_
                 first | refine o_asgd rfl rfl ?_ | refine o_asgo rfl rfl ?_ | refine o_asg rfl rfl (fun _ h_ => by cases h_) ?_
                 refine op_nil ?_
                 refine wp_ops ?_
                 first | refine o_movd rfl rfl ?_ | refine o_movp rfl rfl ?_ | refine o_mova rfl rfl ?_ | refine o_mov rfl rfl ?_
                 first | refine o_movd rfl rfl ?_ | refine o_movp rfl rfl ?_ | refine o_mova rfl rfl ?_ | refine o_mov rfl rfl ?_
                 first | refine o_movd rfl rfl ?_ | refine o_movp rfl rfl ?_ | refine o_mova rfl rfl ?_ | refine o_mov rfl rfl ?_
                 refine o_pickt rfl rfl rfl ?_
                 first | refine o_asgd rfl rfl ?_ | refine o_asgo rfl rfl ?_ | refine o_asg rfl rfl (fun _ h_ => by cases h_) ?_
                 refine op_nil ?_
                 refine keepN (by (simp +decide only [Slots.keep, Slots.get, reduceIte]); exact rfl) ?_
                 refine wp_ops ?_
                 first | refine o_movd rfl rfl ?_ | refine o_movp rfl rfl ?_ | refine o_mova rfl rfl ?_ | refine o_mov rfl rfl ?_
                 first | refine o_addkn rfl rfl rfl (by decide) (by (first | omega | (simp only [m64, mU, m8, n64, nU, n8, b64, bU, b8]; omega))) ?_ | refine o_cat rfl rfl rfl (by (first | omega | (simp only [m64, mU, m8, n64, nU, n8, b64, bU, b8]; omega))) ?_ | refine o_add rfl rfl rfl rfl (by omega) (by omega) ?_
                 first | refine o_asgd rfl rfl ?_ | refine o_asgo rfl rfl ?_ | refine o_asg rfl rfl (fun _ h_ => by cases h_) ?_
                 refine op_nil ?_
                 refine ⟨rfl, m - 1, by omega, i + 1, by omega, by omega, ?_⟩
                 first | rfl | (have hf_ := hfig _ _ hi hb_; have h120_ : b_.toNat = 120 := (by omega); simp only [h120_, decide_true]; rfl)
           ·first
            | exfalso; first | omega | (have := hfig _ _ hi ‹_›; omega)
            |skip
             refine wp_exit ?_
             refine bx_here ?_
             refine keepN (by (simp +decide only [Slots.keep, Slots.get, reduceIte]); exact rfl) ?_
             refine wp_seq ?_
             refine wp_ops ?_
             first | refine o_movd rfl rfl ?_ | refine o_movp rfl rfl ?_ | refine o_mova rfl rfl ?_ | refine o_mov rfl rfl ?_
             first | refine o_movd rfl rfl ?_ | refine o_movp rfl rfl ?_ | refine o_mova rfl rfl ?_ | refine o_mov rfl rfl ?_
             first | refine o_movd rfl rfl ?_ | refine o_movp rfl rfl ?_ | refine o_mova rfl rfl ?_ | refine o_mov rfl rfl ?_
             first | refine o_movd rfl rfl ?_ | refine o_movp rfl rfl ?_ | refine o_mova rfl rfl ?_ | refine o_mov rfl rfl ?_
             first | refine o_eqln rfl rfl rfl ?_ | refine o_eqs rfl rfl rfl ?_ | refine o_bin rfl rfl rfl rfl ?_
             refine o_pickt rfl rfl rfl ?_
             first | refine o_movd rfl rfl ?_ | refine o_movp rfl rfl ?_ | refine o_mova rfl rfl ?_ | refine o_mov rfl rfl ?_
             refine o_ifp rfl ?_ ?_ <;> intro hq_ hg_ <;> simp only [hg_] <;> clear hg_
             ·first
              | exfalso; first | omega | (have := hfig _ _ hi ‹_›; omega)
              |skip
               first | refine o_movd rfl rfl ?_ | refine o_movp rfl rfl ?_ | refine o_mova rfl rfl ?_ | refine o_mov rfl rfl ?_
               first | refine o_movd rfl rfl ?_ | refine o_movp rfl rfl ?_ | refine o_mova rfl rfl ?_ | refine o_mov rfl rfl ?_
               refine o_lenS rfl rfl ?_
               first | refine o_eqln rfl rfl rfl ?_ | refine o_eqs rfl rfl rfl ?_ | refine o_bin rfl rfl rfl rfl ?_
               refine o_pickt rfl rfl rfl ?_
               first | refine o_movd rfl rfl ?_ | refine o_movp rfl rfl ?_ | refine o_mova rfl rfl ?_ | refine o_mov rfl rfl ?_
               refine o_ifp rfl ?_ ?_ <;> intro hq_ hg_ <;> simp only [hg_] <;> clear hg_
               ·first
                | exfalso; first | omega | (have := hfig _ _ hi ‹_›; omega)
                |skip
                 first | refine o_movd rfl rfl ?_ | refine o_movp rfl rfl ?_ | refine o_mova rfl rfl ?_ | refine o_mov rfl rfl ?_
                 first | refine o_eqln rfl rfl rfl ?_ | refine o_eqs rfl rfl rfl ?_ | refine o_bin rfl rfl rfl rfl ?_
                 refine o_pickt rfl rfl rfl ?_
                 first | refine o_movd rfl rfl ?_ | refine o_movp rfl rfl ?_ | refine o_mova rfl rfl ?_ | refine o_mov rfl rfl ?_
                 refine o_ifp rfl ?_ ?_ <;> intro hq_ hg_ <;> simp only [hg_] <;> clear hg_
                 ·first
                  | exfalso; first | omega | (have := hfig _ _ hi ‹_›; omega)
                  |skip
                   first | refine o_movd rfl rfl ?_ | refine o_movp rfl rfl ?_ | refine o_mova rfl rfl ?_ | refine o_mov rfl rfl ?_
                   refine o_pickt rfl rfl rfl ?_
                   first | refine o_asgd rfl rfl ?_ | refine o_asgo rfl rfl ?_ | refine o_asg rfl rfl (fun _ h_ => by cases h_) ?_
                   refine op_nil ?_
                   refine wp_ret ?_
                   refine end1 rfl rfl rfl ?_ (by first | rfl | simp)
                   rfl
                 ·first
                  | exfalso; first | omega | (have := hfig _ _ hi ‹_›; omega)
                  |skip
                   refine o_skip rfl ?_
                   refine o_pickf rfl rfl rfl ?_
                   first | refine o_asgd rfl rfl ?_ | refine o_asgo rfl rfl ?_ | refine o_asg rfl rfl (fun _ h_ => by cases h_) ?_
                   refine op_nil ?_
                   refine wp_ret ?_
                   refine end1 rfl rfl rfl ?_ (by first | rfl | simp)
                   rfl
               ·first
                | exfalso; first | omega | (have := hfig _ _ hi ‹_›; omega)
                |skip
                 refine o_skip rfl ?_
                 refine o_skip rfl ?_
                 refine o_pickf rfl rfl rfl ?_
                 first | refine o_movd rfl rfl ?_ | refine o_movp rfl rfl ?_ | refine o_mova rfl rfl ?_ | refine o_mov rfl rfl ?_
                 refine o_skip rfl ?_
                 refine o_pickf rfl rfl rfl ?_
                 first | refine o_asgd rfl rfl ?_ | refine o_asgo rfl rfl ?_ | refine o_asg rfl rfl (fun _ h_ => by cases h_) ?_
                 refine op_nil ?_
                 refine wp_ret ?_
                 refine end1 rfl rfl rfl ?_ (by first | rfl | simp)
                 rfl
             ·first
              | exfalso; first | omega | (have := hfig _ _ hi ‹_›; omega)
              |skip
               refine o_skip rfl ?_
               refine o_skip rfl ?_
               refine o_skip rfl ?_
               refine o_skip rfl ?_
               refine o_pickf rfl rfl rfl ?_
               first | refine o_movd rfl rfl ?_ | refine o_movp rfl rfl ?_ | refine o_mova rfl rfl ?_ | refine o_mov rfl rfl ?_
               refine o_skip rfl ?_
               refine o_skip rfl ?_
               refine o_pickf rfl rfl rfl ?_
               first | refine o_movd rfl rfl ?_ | refine o_movp rfl rfl ?_ | refine o_mova rfl rfl ?_ | refine o_mov rfl rfl ?_
               refine o_skip rfl ?_
               refine o_pickf rfl rfl rfl ?_
               first | refine o_asgd rfl rfl ?_ | refine o_asgo rfl rfl ?_ | refine o_asg rfl rfl (fun _ h_ => by cases h_) ?_
               refine op_nil ?_
               refine wp_ret ?_
               refine end1 rfl rfl rfl ?_ (by first | rfl | simp)
               rfl
         ·first
          | exfalso; omega
          |skip
           refine o_skip rfl ?_
           refine o_skip rfl ?_
           refine o_skip rfl ?_
           refine o_pickf rfl rfl rfl ?_
           refine o_pickf rfl rfl rfl ?_
           first | refine o_asgd rfl rfl ?_ | refine o_asgo rfl rfl ?_ | refine o_asg rfl rfl (fun _ h_ => by cases h_) ?_
           refine op_nil ?_
           refine wp_seq ?_
           refine wp_seq ?_
           refine wp_ops ?_
           first | refine o_asgd rfl rfl ?_ | refine o_asgo rfl rfl ?_ | refine o_asg rfl rfl (fun _ h_ => by cases h_) ?_
           refine op_nil ?_
           refine wp_keep ?_
           refine wp_block ?_
           try simp only [show decide (e1.toNat = 120) = true from decide_eq_true (by assumption)]
           refine wp_loop (m := 4) (fun m st => ∃ i : Nat, 1 ≤ i ∧ i + m = 5 ∧ st = ⟨[(0, u8 c), (5, bl true), (6, str s), (7, u8 c), (8, i64 s.length), (9, i64 (0 : Nat)), (10, bl true), (11, i64 i)], [], [], none, 0⟩) ⟨1, by omega, by omega, rfl⟩ ?_
           rintro m st ⟨i, hi, him, rfl⟩ -
           refine wp_seq ?_
           refine wp_seq ?_
           refine wp_ops ?_
           first | refine o_movd rfl rfl ?_ | refine o_movp rfl rfl ?_ | refine o_mova rfl rfl ?_ | refine o_mov rfl rfl ?_
           first | refine o_movd rfl rfl ?_ | refine o_movp rfl rfl ?_ | refine o_mova rfl rfl ?_ | refine o_mov rfl rfl ?_
           refine o_lenS rfl rfl ?_
           first | refine o_lssn rfl rfl rfl ?_ | refine o_bin rfl rfl rfl rfl ?_
           refine op_nil ?_
           first | refine wp_if rfl ?_ ?_ <;> intro hq_ | refine wp_cond rfl ?_ ?_ <;> intro hq_
           ·first
            | exfalso; first | omega | (have := hfig _ _ hi ‹_›; omega)
            |skip
             refine wp_skip ?_
             refine wp_seq ?_
             refine wp_keep ?_
             refine wp_block ?_
             refine wp_seq ?_
             refine wp_ops ?_
             first | refine o_movd rfl rfl ?_ | refine o_movp rfl rfl ?_ | refine o_mova rfl rfl ?_ | refine o_mov rfl rfl ?_
             first | refine o_movd rfl rfl ?_ | refine o_movp rfl rfl ?_ | refine o_mova rfl rfl ?_ | refine o_mov rfl rfl ?_
             first | refine o_idxS rfl rfl rfl rfl (by assumption) ?_ | (refine o_idxSx rfl rfl rfl rfl (by omega) ?_; intro b_ hb_) | refine o_idxS rfl rfl rfl rfl rfl ?_
             first | refine o_geqn rfl rfl rfl ?_ | refine o_bin rfl rfl rfl rfl ?_
             first | refine o_movd rfl rfl ?_ | refine o_movp rfl rfl ?_ | refine o_mova rfl rfl ?_ | refine o_mov rfl rfl ?_
             refine o_ifp rfl ?_ ?_ <;> intro hq_ hg_ <;> simp only [hg_] <;> clear hg_
             ·first
              | exfalso; first | omega | (have := hfig _ _ hi ‹_›; omega)
              |skip
               first | refine o_movd rfl rfl ?_ | refine o_movp rfl rfl ?_ | refine o_mova rfl rfl ?_ | refine o_mov rfl rfl ?_
               first | refine o_movd rfl rfl ?_ | refine o_movp rfl rfl ?_ | refine o_mova rfl rfl ?_ | refine o_mov rfl rfl ?_
               first | refine o_idxS rfl rfl rfl rfl (by assumption) ?_ | (refine o_idxSx rfl rfl rfl rfl (by omega) ?_; intro b_ hb_) | refine o_idxS rfl rfl rfl rfl rfl ?_
               first | refine o_leqn rfl rfl rfl ?_ | refine o_bin rfl rfl rfl rfl ?_
               refine o_pickt rfl rfl rfl ?_
               first | refine o_movd rfl rfl ?_ | refine o_movp rfl rfl ?_ | refine o_mova rfl rfl ?_ | refine o_mov rfl rfl ?_
               refine o_ifp rfl ?_ ?_ <;> intro hq_ hg_ <;> simp only [hg_] <;> clear hg_
               ·first
                | exfalso; first | omega | (have := hfig _ _ hi ‹_›; omega)
                |skip
                 refine o_skip rfl ?_
                 refine o_skip rfl ?_
                 refine o_skip rfl ?_
                 refine o_skip rfl ?_
                 refine o_skip rfl ?_
                 refine o_skip rfl ?_
                 refine o_skip rfl ?_
                 refine o_skip rfl ?_
                 refine o_skip rfl ?_
                 refine o_skip rfl ?_
                 refine o_pickt rfl rfl rfl ?_
                 first | refine o_movd rfl rfl ?_ | refine o_movp rfl rfl ?_ | refine o_mova rfl rfl ?_ | refine o_mov rfl rfl ?_
                 refine o_skip rfl ?_
                 refine o_skip rfl ?_
                 refine o_skip rfl ?_
                 refine o_skip rfl ?_
                 refine o_pickt rfl rfl rfl ?_
                 first | refine o_asgd rfl rfl ?_ | refine o_asgo rfl rfl ?_ | refine o_asg rfl rfl (fun _ h_ => by cases h_) ?_
                 refine op_nil ?_
                 refine wp_ops ?_
                 first | refine o_movd rfl rfl ?_ | refine o_movp rfl rfl ?_ | refine o_mova rfl rfl ?_ | refine o_mov rfl rfl ?_
                 first | refine o_movd rfl rfl ?_ | refine o_movp rfl rfl ?_ | refine o_mova rfl rfl ?_ | refine o_mov rfl rfl ?_
                 first | refine o_movd rfl rfl ?_ | refine o_movp rfl rfl ?_ | refine o_mova rfl rfl ?_ | refine o_mov rfl rfl ?_
                 refine o_pickt rfl rfl rfl ?_
                 first | refine o_asgd rfl rfl ?_ | refine o_asgo rfl rfl ?_ | refine o_asg rfl rfl (fun _ h_ => by cases h_) ?_
                 refine op_nil ?_
                 refine keepN (by (simp +decide only [Slots.keep, Slots.get, reduceIte]); exact rfl) ?_
                 refine wp_ops ?_
                 first | refine o_movd rfl rfl ?_ | refine o_movp rfl rfl ?_ | refine o_mova rfl rfl ?_ | refine o_mov rfl rfl ?_
                 first | refine o_addkn rfl rfl rfl (by decide) (by (first | omega | (simp only [m64, mU, m8, n64, nU, n8, b64, bU, b8]; omega))) ?_ | refine o_cat rfl rfl rfl (by (first | omega | (simp only [m64, mU, m8, n64, nU, n8, b64, bU, b8]; omega))) ?_ | refine o_add rfl rfl rfl rfl (by omega) (by omega) ?_
                 first | refine o_asgd rfl rfl ?_ | refine o_asgo rfl rfl ?_ | refine o_asg rfl rfl (fun _ h_ => by cases h_) ?_
                 refine op_nil ?_
                 refine ⟨rfl, m - 1, by omega, i + 1, by omega, by omega, ?_⟩
                 first | rfl | (have hf_ := hfig _ _ hi hb_; have h120_ : b_.toNat = 120 := (by omega); simp only [h120_, decide_true]; rfl)
               ·first
                | exfalso; first | omega | (have := hfig _ _ hi ‹_›; omega)
                |skip
                 first | refine o_movd rfl rfl ?_ | refine o_movp rfl rfl ?_ | refine o_mova rfl rfl ?_ | refine o_mov rfl rfl ?_
                 first | refine o_movd rfl rfl ?_ | refine o_movp rfl rfl ?_ | refine o_mova rfl rfl ?_ | refine o_mov rfl rfl ?_
                 first | refine o_idxS rfl rfl rfl rfl (by assumption) ?_ | (refine o_idxSx rfl rfl rfl rfl (by omega) ?_; intro b_ hb_) | refine o_idxS rfl rfl rfl rfl rfl ?_
                 first | refine o_geqn rfl rfl rfl ?_ | refine o_bin rfl rfl rfl rfl ?_
                 first | refine o_movd rfl rfl ?_ | refine o_movp rfl rfl ?_ | refine o_mova rfl rfl ?_ | refine o_mov rfl rfl ?_
                 refine o_ifp rfl ?_ ?_ <;> intro hq_ hg_ <;> simp only [hg_] <;> clear hg_
                 ·first
                  | exfalso; first | omega | (have := hfig _ _ hi ‹_›; omega)
                  |skip
                   first | refine o_movd rfl rfl ?_ | refine o_movp rfl rfl ?_ | refine o_mova rfl rfl ?_ | refine o_mov rfl rfl ?_
                   first | refine o_movd rfl rfl ?_ | refine o_movp rfl rfl ?_ | refine o_mova rfl rfl ?_ | refine o_mov rfl rfl ?_
                   first | refine o_idxS rfl rfl rfl rfl (by assumption) ?_ | (refine o_idxSx rfl rfl rfl rfl (by omega) ?_; intro b_ hb_) | refine o_idxS rfl rfl rfl rfl rfl ?_
                   first | refine o_leqn rfl rfl rfl ?_ | refine o_bin rfl rfl rfl rfl ?_
                   refine o_pickt rfl rfl rfl ?_
                   refine o_pickf rfl rfl rfl ?_
                   first | refine o_movd rfl rfl ?_ | refine o_movp rfl rfl ?_ | refine o_mova rfl rfl ?_ | refine o_mov rfl rfl ?_
                   refine o_ifp rfl ?_ ?_ <;> intro hq_ hg_ <;> simp only [hg_] <;> clear hg_
                   ·first
                    | exfalso; first | omega | (have := hfig _ _ hi ‹_›; omega)
                    |skip
                     refine o_skip rfl ?_
                     refine o_skip rfl ?_
                     refine o_skip rfl ?_
                     refine o_skip rfl ?_
                     refine o_pickt rfl rfl rfl ?_
                     first | refine o_asgd rfl rfl ?_ | refine o_asgo rfl rfl ?_ | refine o_asg rfl rfl (fun _ h_ => by cases h_) ?_
                     refine op_nil ?_
                     refine wp_ops ?_
                     first | refine o_movd rfl rfl ?_ | refine o_movp rfl rfl ?_ | refine o_mova rfl rfl ?_ | refine o_mov rfl rfl ?_
                     first | refine o_movd rfl rfl ?_ | refine o_movp rfl rfl ?_ | refine o_mova rfl rfl ?_ | refine o_mov rfl rfl ?_
                     first | refine o_movd rfl rfl ?_ | refine o_movp rfl rfl ?_ | refine o_mova rfl rfl ?_ | refine o_mov rfl rfl ?_
                     refine o_pickt rfl rfl rfl ?_
                     first | refine o_asgd rfl rfl ?_ | refine o_asgo rfl rfl ?_ | refine o_asg rfl rfl (fun _ h_ => by cases h_) ?_
                     refine op_nil ?_
                     refine keepN (by (simp +decide only [Slots.keep, Slots.get, reduceIte]); exact rfl) ?_
                     refine wp_ops ?_
                     first | refine o_movd rfl rfl ?_ | refine o_movp rfl rfl ?_ | refine o_mova rfl rfl ?_ | refine o_mov rfl rfl ?_
                     first | refine o_addkn rfl rfl rfl (by decide) (by (first | omega | (simp only [m64, mU, m8, n64, nU, n8, b64, bU, b8]; omega))) ?_ | refine o_cat rfl rfl rfl (by (first | omega | (simp only [m64, mU, m8, n64, nU, n8, b64, bU, b8]; omega))) ?_ | refine o_add rfl rfl rfl rfl (by omega) (by omega) ?_
                     first | refine o_asgd rfl rfl ?_ | refine o_asgo rfl rfl ?_ | refine o_asg rfl rfl (fun _ h_ => by cases h_) ?_
                     refine op_nil ?_
                     refine ⟨rfl, m - 1, by omega, i + 1, by omega, by omega, ?_⟩
                     first | rfl | (have hf_ := hfig _ _ hi hb_; have h120_ : b_.toNat = 120 := (by omega); simp only [h120_, decide_true]; rfl)
                   ·first
                    | exfalso; first | omega | (have := hfig _ _ hi ‹_›; omega)
                    |skip
                     first | refine o_movd rfl rfl ?_ | refine o_movp rfl rfl ?_ | refine o_mova rfl rfl ?_ | refine o_mov rfl rfl ?_
                     first | refine o_movd rfl rfl ?_ | refine o_movp rfl rfl ?_ | refine o_mova rfl rfl ?_ | refine o_mov rfl rfl ?_
                     first | refine o_idxS rfl rfl rfl rfl (by assumption) ?_ | (refine o_idxSx rfl rfl rfl rfl (by omega) ?_; intro b_ hb_) | refine o_idxS rfl rfl rfl rfl rfl ?_
                     first | refine o_eqln rfl rfl rfl ?_ | refine o_eqs rfl rfl rfl ?_ | refine o_bin rfl rfl rfl rfl ?_
                     refine o_pickf rfl rfl rfl ?_
                     first | refine o_asgd rfl rfl ?_ | refine o_asgo rfl rfl ?_ | refine o_asg rfl rfl (fun _ h_ => by cases h_) ?_
                     refine op_nil ?_
                     refine wp_ops ?_
                     first | refine o_movd rfl rfl ?_ | refine o_movp rfl rfl ?_ | refine o_mova rfl rfl ?_ | refine o_mov rfl rfl ?_
                     first | refine o_movd rfl rfl ?_ | refine o_movp rfl rfl ?_ | refine o_mova rfl rfl ?_ | refine o_mov rfl rfl ?_
                     first | refine o_movd rfl rfl ?_ | refine o_movp rfl rfl ?_ | refine o_mova rfl rfl ?_ | refine o_mov rfl rfl ?_
                     refine o_pickt rfl rfl rfl ?_
                     first | refine o_asgd rfl rfl ?_ | refine o_asgo rfl rfl ?_ | refine o_asg rfl rfl (fun _ h_ => by cases h_) ?_
                     refine op_nil ?_
                     refine keepN (by (simp +decide only [Slots.keep, Slots.get, reduceIte]); exact rfl) ?_
                     refine wp_ops ?_
                     first | refine o_movd rfl rfl ?_ | refine o_movp rfl rfl ?_ | refine o_mova rfl rfl ?_ | refine o_mov rfl rfl ?_
                     first | refine o_addkn rfl rfl rfl (by decide) (by (first | omega | (simp only [m64, mU, m8, n64, nU, n8, b64, bU, b8]; omega))) ?_ | refine o_cat rfl rfl rfl (by (first | omega | (simp only [m64, mU, m8, n64, nU, n8, b64, bU, b8]; omega))) ?_ | refine o_add rfl rfl rfl rfl (by omega) (by omega) ?_
                     first | refine o_asgd rfl rfl ?_ | refine o_asgo rfl rfl ?_ | refine o_asg rfl rfl (fun _ h_ => by cases h_) ?_
                     refine op_nil ?_
                     refine ⟨rfl, m - 1, by omega, i + 1, by omega, by omega, ?_⟩
                     first | rfl | (have hf_ := hfig _ _ hi hb_; have h120_ : b_.toNat = 120 := (by omega); simp only [h120_, decide_true]; rfl)
                 ·first
                  | exfalso; first | omega | (have := hfig _ _ hi ‹_›; omega)
                  |skip
                   refine o_skip rfl ?_
                   refine o_skip rfl ?_
                   refine o_skip rfl ?_
                   refine o_skip rfl ?_
                   refine o_pickf rfl rfl rfl ?_
                   refine o_pickf rfl rfl rfl ?_
                   first | refine o_movd rfl rfl ?_ | refine o_movp rfl rfl ?_ | refine o_mova rfl rfl ?_ | refine o_mov rfl rfl ?_
                   first | refine o_movd rfl rfl ?_ | refine o_movp rfl rfl ?_ | refine o_mova rfl rfl ?_ | refine o_mov rfl rfl ?_
                   first | refine o_movd rfl rfl ?_ | refine o_movp rfl rfl ?_ | refine o_mova rfl rfl ?_ | refine o_mov rfl rfl ?_
                   first | refine o_idxS rfl rfl rfl rfl (by assumption) ?_ | (refine o_idxSx rfl rfl rfl rfl (by omega) ?_; intro b_ hb_) | refine o_idxS rfl rfl rfl rfl rfl ?_
                   first | refine o_eqln rfl rfl rfl ?_ | refine o_eqs rfl rfl rfl ?_ | refine o_bin rfl rfl rfl rfl ?_
                   refine o_pickf rfl rfl rfl ?_
                   first | refine o_asgd rfl rfl ?_ | refine o_asgo rfl rfl ?_ | refine o_asg rfl rfl (fun _ h_ => by cases h_) ?_
                   refine op_nil ?_
                   refine wp_ops ?_
                   first | refine o_movd rfl rfl ?_ | refine o_movp rfl rfl ?_ | refine o_mova rfl rfl ?_ | refine o_mov rfl rfl ?_
                   first | refine o_movd rfl rfl ?_ | refine o_movp rfl rfl ?_ | refine o_mova rfl rfl ?_ | refine o_mov rfl rfl ?_
                   first | refine o_movd rfl rfl ?_ | refine o_movp rfl rfl ?_ | refine o_mova rfl rfl ?_ | refine o_mov rfl rfl ?_
                   refine o_pickt rfl rfl rfl ?_
                   first | refine o_asgd rfl rfl ?_ | refine o_asgo rfl rfl ?_ | refine o_asg rfl rfl (fun _ h_ => by cases h_) ?_
                   refine op_nil ?_
                   refine keepN (by (simp +decide only [Slots.keep, Slots.get, reduceIte]); exact rfl) ?_
                   refine wp_ops ?_
                   first | refine o_movd rfl rfl ?_ | refine o_movp rfl rfl ?_ | refine o_mova rfl rfl ?_ | refine o_mov rfl rfl ?_
                   first | refine o_addkn rfl rfl rfl (by decide) (by (first | omega | (simp only [m64, mU, m8, n64, nU, n8, b64, bU, b8]; omega))) ?_ | refine o_cat rfl rfl rfl (by (first | omega | (simp only [m64, mU, m8, n64, nU, n8, b64, bU, b8]; omega))) ?_ | refine o_add rfl rfl rfl rfl (by omega) (by omega) ?_
                   first | refine o_asgd rfl rfl ?_ | refine o_asgo rfl rfl ?_ | refine o_asg rfl rfl (fun _ h_ => by cases h_) ?_
                   refine op_nil ?_
                   refine ⟨rfl, m - 1, by omega, i + 1, by omega, by omega, ?_⟩
                   first | rfl | (have hf_ := hfig _ _ hi hb_; have h120_ : b_.toNat = 120 := (by omega); simp only [h120_, decide_true]; rfl)
             ·first
              | exfalso; first | omega | (have := hfig _ _ hi ‹_›; omega)
              |skip
               refine o_skip rfl ?_
               refine o_skip rfl ?_
               refine o_skip rfl ?_
               refine o_skip rfl ?_
               refine o_pickf rfl rfl rfl ?_
               first | refine o_movd rfl rfl ?_ | refine o_movp rfl rfl ?_ | refine o_mova rfl rfl ?_ | refine o_mov rfl rfl ?_
               first | refine o_movd rfl rfl ?_ | refine o_movp rfl rfl ?_ | refine o_mova rfl rfl ?_ | refine o_mov rfl rfl ?_
               first | refine o_movd rfl rfl ?_ | refine o_movp rfl rfl ?_ | refine o_mova rfl rfl ?_ | refine o_mov rfl rfl ?_
               first | refine o_idxS rfl rfl rfl rfl (by assumption) ?_ | (refine o_idxSx rfl rfl rfl rfl (by omega) ?_; intro b_ hb_) | refine o_idxS rfl rfl rfl rfl rfl ?_
               first | refine o_geqn rfl rfl rfl ?_ | refine o_bin rfl rfl rfl rfl ?_
               first | refine o_movd rfl rfl ?_ | refine o_movp rfl rfl ?_ | refine o_mova rfl rfl ?_ | refine o_mov rfl rfl ?_
               refine o_ifp rfl ?_ ?_ <;> intro hq_ hg_ <;> simp only [hg_] <;> clear hg_
               ·first
                | exfalso; first | omega | (have := hfig _ _ hi ‹_›; omega)
                |skip
                 first | refine o_movd rfl rfl ?_ | refine o_movp rfl rfl ?_ | refine o_mova rfl rfl ?_ | refine o_mov rfl rfl ?_
                 first | refine o_movd rfl rfl ?_ | refine o_movp rfl rfl ?_ | refine o_mova rfl rfl ?_ | refine o_mov rfl rfl ?_
                 first | refine o_idxS rfl rfl rfl rfl (by assumption) ?_ | (refine o_idxSx rfl rfl rfl rfl (by omega) ?_; intro b_ hb_) | refine o_idxS rfl rfl rfl rfl rfl ?_
                 first | refine o_leqn rfl rfl rfl ?_ | refine o_bin rfl rfl rfl rfl ?_
                 refine o_pickt rfl rfl rfl ?_
                 refine o_pickf rfl rfl rfl ?_
                 first | refine o_movd rfl rfl ?_ | refine o_movp rfl rfl ?_ | refine o_mova rfl rfl ?_ | refine o_mov rfl rfl ?_
                 refine o_ifp rfl ?_ ?_ <;> intro hq_ hg_ <;> simp only [hg_] <;> clear hg_
                 ·first
                  | exfalso; first | omega | (have := hfig _ _ hi ‹_›; omega)
                  |skip
                   refine o_skip rfl ?_
                   refine o_skip rfl ?_
                   refine o_skip rfl ?_
                   refine o_skip rfl ?_
                   refine o_pickt rfl rfl rfl ?_
                   first | refine o_asgd rfl rfl ?_ | refine o_asgo rfl rfl ?_ | refine o_asg rfl rfl (fun _ h_ => by cases h_) ?_
                   refine op_nil ?_
                   refine wp_ops ?_
                   first | refine o_movd rfl rfl ?_ | refine o_movp rfl rfl ?_ | refine o_mova rfl rfl ?_ | refine o_mov rfl rfl ?_
                   first | refine o_movd rfl rfl ?_ | refine o_movp rfl rfl ?_ | refine o_mova rfl rfl ?_ | refine o_mov rfl rfl ?_
                   first | refine o_movd rfl rfl ?_ | refine o_movp rfl rfl ?_ | refine o_mova rfl rfl ?_ | refine o_mov rfl rfl ?_
                   refine o_pickt rfl rfl rfl ?_
                   first | refine o_asgd rfl rfl ?_ | refine o_asgo rfl rfl ?_ | refine o_asg rfl rfl (fun _ h_ => by cases h_) ?_
                   refine op_nil ?_
                   refine keepN (by (simp +decide only [Slots.keep, Slots.get, reduceIte]); exact rfl) ?_
                   refine wp_ops ?_
                   first | refine o_movd rfl rfl ?_ | refine o_movp rfl rfl ?_ | refine o_mova rfl rfl ?_ | refine o_mov rfl rfl ?_
                   first | refine o_addkn rfl rfl rfl (by decide) (by (first | omega | (simp only [m64, mU, m8, n64, nU, n8, b64, bU, b8]; omega))) ?_ | refine o_cat rfl rfl rfl (by (first | omega | (simp only [m64, mU, m8, n64, nU, n8, b64, bU, b8]; omega))) ?_ | refine o_add rfl rfl rfl rfl (by omega) (by omega) ?_
                   first | refine o_asgd rfl rfl ?_ | refine o_asgo rfl rfl ?_ | refine o_asg rfl rfl (fun _ h_ => by cases h_) ?_
                   refine op_nil ?_
                   refine ⟨rfl, m - 1, by omega, i + 1, by omega, by omega, ?_⟩
                   first | rfl | (have hf_ := hfig _ _ hi hb_; have h120_ : b_.toNat = 120 := (by omega); simp only [h120_, decide_true]; rfl)
                 ·first
                  | exfalso; first | omega | (have := hfig _ _ hi ‹_›; omega)
                  |skip
                   first | refine o_movd rfl rfl ?_ | refine o_movp rfl rfl ?_ | refine o_mova rfl rfl ?_ | refine o_mov rfl rfl ?_
                   first | refine o_movd rfl rfl ?_ | refine o_movp rfl rfl ?_ | refine o_mova rfl rfl ?_ | refine o_mov rfl rfl ?_
                   first | refine o_idxS rfl rfl rfl rfl (by assumption) ?_ | (refine o_idxSx rfl rfl rfl rfl (by omega) ?_; intro b_ hb_) | refine o_idxS rfl rfl rfl rfl rfl ?_
                   first | refine o_eqln rfl rfl rfl ?_ | refine o_eqs rfl rfl rfl ?_ | refine o_bin rfl rfl rfl rfl ?_
                   refine o_pickf rfl rfl rfl ?_
                   first | refine o_asgd rfl rfl ?_ | refine o_asgo rfl rfl ?_ | refine o_asg rfl rfl (fun _ h_ => by cases h_) ?_
                   refine op_nil ?_
                   refine wp_ops ?_
                   first | refine o_movd rfl rfl ?_ | refine o_movp rfl rfl ?_ | refine o_mova rfl rfl ?_ | refine o_mov rfl rfl ?_
                   first | refine o_movd rfl rfl ?_ | refine o_movp rfl rfl ?_ | refine o_mova rfl rfl ?_ | refine o_mov rfl rfl ?_
                   first | refine o_movd rfl rfl ?_ | refine o_movp rfl rfl ?_ | refine o_mova rfl rfl ?_ | refine o_mov rfl rfl ?_
                   refine o_pickt rfl rfl rfl ?_
                   first | refine o_asgd rfl rfl ?_ | refine o_asgo rfl rfl ?_ | refine o_asg rfl rfl (fun _ h_ => by cases h_) ?_
                   refine op_nil ?_
                   refine keepN (by (simp +decide only [Slots.keep, Slots.get, reduceIte]); exact rfl) ?_
                   refine wp_ops ?_
                   first | refine o_movd rfl rfl ?_ | refine o_movp rfl rfl ?_ | refine o_mova rfl rfl ?_ | refine o_mov rfl rfl ?_
                   first | refine o_addkn rfl rfl rfl (by decide) (by (first | omega | (simp only [m64, mU, m8, n64, nU, n8, b64, bU, b8]; omega))) ?_ | refine o_cat rfl rfl rfl (by (first | omega | (simp only [m64, mU, m8, n64, nU, n8, b64, bU, b8]; omega))) ?_ | refine o_add rfl rfl rfl rfl (by omega) (by omega) ?_
                   first | refine o_asgd rfl rfl ?_ | refine o_asgo rfl rfl ?_ | refine o_asg rfl rfl (fun _ h_ => by cases h_) ?_
                   refine op_nil ?_
                   refine ⟨rfl, m - 1, by omega, i + 1, by omega, by omega, ?_⟩
                   first | rfl | (have hf_ := hfig _ _ hi hb_; have h120_ : b_.toNat = 120 := (by omega); simp only [h120_, decide_true]; rfl)
               ·first
                | exfalso; first | omega | (have := hfig _ _ hi ‹_›; omega)
                |skip
                 refine o_skip rfl ?_
                 refine o_skip rfl ?_
                 refine o_skip rfl ?_
                 refine o_skip rfl ?_
                 refine o_pickf rfl rfl rfl ?_
                 refine o_pickf rfl rfl rfl ?_
                 first | refine o_movd rfl rfl ?_ | refine o_movp rfl rfl ?_ | refine o_mova rfl rfl ?_ | refine o_mov rfl rfl ?_
                 first | refine o_movd rfl rfl ?_ | refine o_movp rfl rfl ?_ | refine o_mova rfl rfl ?_ | refine o_mov rfl rfl ?_
                 first | refine o_movd rfl rfl ?_ | refine o_movp rfl rfl ?_ | refine o_mova rfl rfl ?_ | refine o_mov rfl rfl ?_
                 first | refine o_idxS rfl rfl rfl rfl (by assumption) ?_ | (refine o_idxSx rfl rfl rfl rfl (by omega) ?_; intro b_ hb_) | refine o_idxS rfl rfl rfl rfl rfl ?_
                 first | refine o_eqln rfl rfl rfl ?_ | refine o_eqs rfl rfl rfl ?_ | refine o_bin rfl rfl rfl rfl ?_
                 refine o_pickf rfl rfl rfl ?_
                 first | refine o_asgd rfl rfl ?_ | refine o_asgo rfl rfl ?_ | refine o_asg rfl rfl (fun _ h_ => by cases h_) ?_
                 refine op_nil ?_
                 refine wp_ops ?_
                 first | refine o_movd rfl rfl ?_ | refine o_movp rfl rfl ?_ | refine o_mova rfl rfl ?_ | refine o_mov rfl rfl ?_
                 first | refine o_movd rfl rfl ?_ | refine o_movp rfl rfl ?_ | refine o_mova rfl rfl ?_ | refine o_mov rfl rfl ?_
                 first | refine o_movd rfl rfl ?_ | refine o_movp rfl rfl ?_ | refine o_mova rfl rfl ?_ | refine o_mov rfl rfl ?_
                 refine o_pickt rfl rfl rfl ?_
                 first | refine o_asgd rfl rfl ?_ | refine o_asgo rfl rfl ?_ | refine o_asg rfl rfl (fun _ h_ => by cases h_) ?_
                 refine op_nil ?_
                 refine keepN (by (simp +decide only [Slots.keep, Slots.get, reduceIte]); exact rfl) ?_
                 refine wp_ops ?_
                 first | refine o_movd rfl rfl ?_ | refine o_movp rfl rfl ?_ | refine o_mova rfl rfl ?_ | refine o_mov rfl rfl ?_
                 first | refine o_addkn rfl rfl rfl (by decide) (by (first | omega | (simp only [m64, mU, m8, n64, nU, n8, b64, bU, b8]; omega))) ?_ | refine o_cat rfl rfl rfl (by (first | omega | (simp only [m64, mU, m8, n64, nU, n8, b64, bU, b8]; omega))) ?_ | refine o_add rfl rfl rfl rfl (by omega) (by omega) ?_
                 first | refine o_asgd rfl rfl ?_ | refine o_asgo rfl rfl ?_ | refine o_asg rfl rfl (fun _ h_ => by cases h_) ?_
                 refine op_nil ?_
                 refine ⟨rfl, m - 1, by omega, i + 1, by omega, by omega, ?_⟩
                 first | rfl | (have hf_ := hfig _ _ hi hb_; have h120_ : b_.toNat = 120 := (by omega); simp only [h120_, decide_true]; rfl)
           ·first
            | exfalso; first | omega | (have := hfig _ _ hi ‹_›; omega)
            |skip
             refine wp_exit ?_
             refine bx_here ?_
             refine keepN (by (simp +decide only [Slots.keep, Slots.get, reduceIte]); exact rfl) ?_
             refine wp_seq ?_
             refine wp_ops ?_
             first | refine o_movd rfl rfl ?_ | refine o_movp rfl rfl ?_ | refine o_mova rfl rfl ?_ | refine o_mov rfl rfl ?_
             first | refine o_movd rfl rfl ?_ | refine o_movp rfl rfl ?_ | refine o_mova rfl rfl ?_ | refine o_mov rfl rfl ?_
             first | refine o_movd rfl rfl ?_ | refine o_movp rfl rfl ?_ | refine o_mova rfl rfl ?_ | refine o_mov rfl rfl ?_
             first | refine o_movd rfl rfl ?_ | refine o_movp rfl rfl ?_ | refine o_mova rfl rfl ?_ | refine o_mov rfl rfl ?_
             first | refine o_eqln rfl rfl rfl ?_ | refine o_eqs rfl rfl rfl ?_ | refine o_bin rfl rfl rfl rfl ?_
             refine o_pickt rfl rfl rfl ?_
             first | refine o_movd rfl rfl ?_ | refine o_movp rfl rfl ?_ | refine o_mova rfl rfl ?_ | refine o_mov rfl rfl ?_
             refine o_ifp rfl ?_ ?_ <;> intro hq_ hg_ <;> simp only [hg_] <;> clear hg_
             ·first
              | exfalso; first | omega | (have := hfig _ _ hi ‹_›; omega)
              |skip
               first | refine o_movd rfl rfl ?_ | refine o_movp rfl rfl ?_ | refine o_mova rfl rfl ?_ | refine o_mov rfl rfl ?_
               first | refine o_movd rfl rfl ?_ | refine o_movp rfl rfl ?_ | refine o_mova rfl rfl ?_ | refine o_mov rfl rfl ?_
               refine o_lenS rfl rfl ?_
               first | refine o_eqln rfl rfl rfl ?_ | refine o_eqs rfl rfl rfl ?_ | refine o_bin rfl rfl rfl rfl ?_
               refine o_pickt rfl rfl rfl ?_
               first | refine o_movd rfl rfl ?_ | refine o_movp rfl rfl ?_ | refine o_mova rfl rfl ?_ | refine o_mov rfl rfl ?_
               refine o_ifp rfl ?_ ?_ <;> intro hq_ hg_ <;> simp only [hg_] <;> clear hg_
               ·first
                | exfalso; first | omega | (have := hfig _ _ hi ‹_›; omega)
                |skip
                 first | refine o_movd rfl rfl ?_ | refine o_movp rfl rfl ?_ | refine o_mova rfl rfl ?_ | refine o_mov rfl rfl ?_
                 first | refine o_eqln rfl rfl rfl ?_ | refine o_eqs rfl rfl rfl ?_ | refine o_bin rfl rfl rfl rfl ?_
                 refine o_pickt rfl rfl rfl ?_
                 first | refine o_movd rfl rfl ?_ | refine o_movp rfl rfl ?_ | refine o_mova rfl rfl ?_ | refine o_mov rfl rfl ?_
                 refine o_ifp rfl ?_ ?_ <;> intro hq_ hg_ <;> simp only [hg_] <;> clear hg_
                 ·first
                  | exfalso; first | omega | (have := hfig _ _ hi ‹_›; omega)
                  |skip
                   first | refine o_movd rfl rfl ?_ | refine o_movp rfl rfl ?_ | refine o_mova rfl rfl ?_ | refine o_mov rfl rfl ?_
                   refine o_pickt rfl rfl rfl ?_
                   first | refine o_asgd rfl rfl ?_ | refine o_asgo rfl rfl ?_ | refine o_asg rfl rfl (fun _ h_ => by cases h_) ?_
                   refine op_nil ?_
                   refine wp_ret ?_
                   refine end1 rfl rfl rfl ?_ (by first | rfl | simp)
                   rfl
                 ·first
                  | exfalso; first | omega | (have := hfig _ _ hi ‹_›; omega)
                  |skip
                   refine o_skip rfl ?_
                   refine o_pickf rfl rfl rfl ?_
                   first | refine o_asgd rfl rfl ?_ | refine o_asgo rfl rfl ?_ | refine o_asg rfl rfl (fun _ h_ => by cases h_) ?_
                   refine op_nil ?_
                   refine wp_ret ?_
                   refine end1 rfl rfl rfl ?_ (by first | rfl | simp)
                   rfl
               ·first
                | exfalso; first | omega | (have := hfig _ _ hi ‹_›; omega)
                |skip
                 refine o_skip rfl ?_
                 refine o_skip rfl ?_
                 refine o_pickf rfl rfl rfl ?_
                 first | refine o_movd rfl rfl ?_ | refine o_movp rfl rfl ?_ | refine o_mova rfl rfl ?_ | refine o_mov rfl rfl ?_
                 refine o_skip rfl ?_
                 refine o_pickf rfl rfl rfl ?_
                 first | refine o_asgd rfl rfl ?_ | refine o_asgo rfl rfl ?_ | refine o_asg rfl rfl (fun _ h_ => by cases h_) ?_
                 refine op_nil ?_
                 refine wp_ret ?_
                 refine end1 rfl rfl rfl ?_ (by first | rfl | simp)
                 rfl
             ·first
              | exfalso; first | omega | (have := hfig _ _ hi ‹_›; omega)
              |skip
               refine o_skip rfl ?_
               refine o_skip rfl ?_
               refine o_skip rfl ?_
               refine o_skip rfl ?_
               refine o_pickf rfl rfl rfl ?_
               first | refine o_movd rfl rfl ?_ | refine o_movp rfl rfl ?_ | refine o_mova rfl rfl ?_ | refine o_mov rfl rfl ?_
               refine o_skip rfl ?_
               refine o_skip rfl ?_
               refine o_pickf rfl rfl rfl ?_
               first | refine o_movd rfl rfl ?_ | refine o_movp rfl rfl ?_ | refine o_mova rfl rfl ?_ | refine o_mov rfl rfl ?_
               refine o_skip rfl ?_
               refine o_pickf rfl rfl rfl ?_
               first | refine o_asgd rfl rfl ?_ | refine o_asgo rfl rfl ?_ | refine o_asg rfl rfl (fun _ h_ => by cases h_) ?_
               refine op_nil ?_
               refine wp_ret ?_
               refine end1 rfl rfl rfl ?_ (by first | rfl | simp)
               rfl
       ·first
        | exfalso; omega
        |skip
         refine o_skip rfl ?_
         refine o_skip rfl ?_
         refine o_skip rfl ?_
         refine o_pickf rfl rfl rfl ?_
         first | refine o_movd rfl rfl ?_ | refine o_movp rfl rfl ?_ | refine o_mova rfl rfl ?_ | refine o_mov rfl rfl ?_
         refine o_skip rfl ?_
         refine o_skip rfl ?_
         refine o_skip rfl ?_
         refine o_pickf rfl rfl rfl ?_
         refine o_pickf rfl rfl rfl ?_
         first | refine o_asgd rfl rfl ?_ | refine o_asgo rfl rfl ?_ | refine o_asg rfl rfl (fun _ h_ => by cases h_) ?_
         refine op_nil ?_
         refine wp_seq ?_
         refine wp_seq ?_
         refine wp_ops ?_
         first | refine o_asgd rfl rfl ?_ | refine o_asgo rfl rfl ?_ | refine o_asg rfl rfl (fun _ h_ => by cases h_) ?_
         refine op_nil ?_
         refine wp_keep ?_
         refine wp_block ?_
         try simp only [show decide (e1.toNat = 120) = true from decide_eq_true (by assumption)]
         refine wp_loop (m := 4) (fun m st => ∃ i : Nat, 1 ≤ i ∧ i + m = 5 ∧ st = ⟨[(0, u8 c), (5, bl true), (6, str s), (7, u8 c), (8, i64 s.length), (9, i64 (0 : Nat)), (10, bl true), (11, i64 i)], [], [], none, 0⟩) ⟨1, by omega, by omega, rfl⟩ ?_
         rintro m st ⟨i, hi, him, rfl⟩ -
         refine wp_seq ?_
         refine wp_seq ?_
         refine wp_ops ?_
         first | refine o_movd rfl rfl ?_ | refine o_movp rfl rfl ?_ | refine o_mova rfl rfl ?_ | refine o_mov rfl rfl ?_
         first | refine o_movd rfl rfl ?_ | refine o_movp rfl rfl ?_ | refine o_mova rfl rfl ?_ | refine o_mov rfl rfl ?_
         refine o_lenS rfl rfl ?_
         first | refine o_lssn rfl rfl rfl ?_ | refine o_bin rfl rfl rfl rfl ?_
         refine op_nil ?_
         first | refine wp_if rfl ?_ ?_ <;> intro hq_ | refine wp_cond rfl ?_ ?_ <;> intro hq_
         ·first
          | exfalso; first | omega | (have := hfig _ _ hi ‹_›; omega)
          |skip
           refine wp_skip ?_
           refine wp_seq ?_
           refine wp_keep ?_
           refine wp_block ?_
           refine wp_seq ?_
           refine wp_ops ?_
           first | refine o_movd rfl rfl ?_ | refine o_movp rfl rfl ?_ | refine o_mova rfl rfl ?_ | refine o_mov rfl rfl ?_
           first | refine o_movd rfl rfl ?_ | refine o_movp rfl rfl ?_ | refine o_mova rfl rfl ?_ | refine o_mov rfl rfl ?_
           first | refine o_idxS rfl rfl rfl rfl (by assumption) ?_ | (refine o_idxSx rfl rfl rfl rfl (by omega) ?_; intro b_ hb_) | refine o_idxS rfl rfl rfl rfl rfl ?_
           first | refine o_geqn rfl rfl rfl ?_ | refine o_bin rfl rfl rfl rfl ?_
           first | refine o_movd rfl rfl ?_ | refine o_movp rfl rfl ?_ | refine o_mova rfl rfl ?_ | refine o_mov rfl rfl ?_
           refine o_ifp rfl ?_ ?_ <;> intro hq_ hg_ <;> simp only [hg_] <;> clear hg_
           ·first
            | exfalso; first | omega | (have := hfig _ _ hi ‹_›; omega)
            |skip
             first | refine o_movd rfl rfl ?_ | refine o_movp rfl rfl ?_ | refine o_mova rfl rfl ?_ | refine o_mov rfl rfl ?_
             first | refine o_movd rfl rfl ?_ | refine o_movp rfl rfl ?_ | refine o_mova rfl rfl ?_ | refine o_mov rfl rfl ?_
             first | refine o_idxS rfl rfl rfl rfl (by assumption) ?_ | (refine o_idxSx rfl rfl rfl rfl (by omega) ?_; intro b_ hb_) | refine o_idxS rfl rfl rfl rfl rfl ?_
             first | refine o_leqn rfl rfl rfl ?_ | refine o_bin rfl rfl rfl rfl ?_
             refine o_pickt rfl rfl rfl ?_
             first | refine o_movd rfl rfl ?_ | refine o_movp rfl rfl ?_ | refine o_mova rfl rfl ?_ | refine o_mov rfl rfl ?_
             refine o_ifp rfl ?_ ?_ <;> intro hq_ hg_ <;> simp only [hg_] <;> clear hg_
             ·first
              | exfalso; first | omega | (have := hfig _ _ hi ‹_›; omega)
              |skip
               refine o_skip rfl ?_
               refine o_skip rfl ?_
               refine o_skip rfl ?_
               refine o_skip rfl ?_
               refine o_skip rfl ?_
               refine o_skip rfl ?_
               refine o_skip rfl ?_
               refine o_skip rfl ?_
               refine o_skip rfl ?_
               refine o_skip rfl ?_
               refine o_pickt rfl rfl rfl ?_
               first | refine o_movd rfl rfl ?_ | refine o_movp rfl rfl ?_ | refine o_mova rfl rfl ?_ | refine o_mov rfl rfl ?_
               refine o_skip rfl ?_
               refine o_skip rfl ?_
               refine o_skip rfl ?_
               refine o_skip rfl ?_
               refine o_pickt rfl rfl rfl ?_
               first | refine o_asgd rfl rfl ?_ | refine o_asgo rfl rfl ?_ | refine o_asg rfl rfl (fun _ h_ => by cases h_) ?_
               refine op_nil ?_
               refine wp_ops ?_
               first | refine o_movd rfl rfl ?_ | refine o_movp rfl rfl ?_ | refine o_mova rfl rfl ?_ | refine o_mov rfl rfl ?_
               first | refine o_movd rfl rfl ?_ | refine o_movp rfl rfl ?_ | refine o_mova rfl rfl ?_ | refine o_mov rfl rfl ?_
               first | refine o_movd rfl rfl ?_ | refine o_movp rfl rfl ?_ | refine o_mova rfl rfl ?_ | refine o_mov rfl rfl ?_
               refine o_pickt rfl rfl rfl ?_
               first | refine o_asgd rfl rfl ?_ | refine o_asgo rfl rfl ?_ | refine o_asg rfl rfl (fun _ h_ => by cases h_) ?_
               refine op_nil ?_
               refine keepN (by (simp +decide only [Slots.keep, Slots.get, reduceIte]); exact rfl) ?_
               refine wp_ops ?_
               first | refine o_movd rfl rfl ?_ | refine o_movp rfl rfl ?_ | refine o_mova rfl rfl ?_ | refine o_mov rfl rfl ?_
               first | refine o_addkn rfl rfl rfl (by decide) (by (first | omega | (simp only [m64, mU, m8, n64, nU, n8, b64, bU, b8]; omega))) ?_ | refine o_cat rfl rfl rfl (by (first | omega | (simp only [m64, mU, m8, n64, nU, n8, b64, bU, b8]; omega))) ?_ | refine o_add rfl rfl rfl rfl (by omega) (by omega) ?_
               first | refine o_asgd rfl rfl ?_ | refine o_asgo rfl rfl ?_ | refine o_asg rfl rfl (fun _ h_ => by cases h_) ?_
               refine op_nil ?_
               refine ⟨rfl, m - 1, by omega, i + 1, by omega, by omega, ?_⟩
               first | rfl | (have hf_ := hfig _ _ hi hb_; have h120_ : b_.toNat = 120 := (by omega); simp only [h120_, decide_true]; rfl)
             ·first
              | exfalso; first | omega | (have := hfig _ _ hi ‹_›; omega)
              |skip
               first | refine o_movd rfl rfl ?_ | refine o_movp rfl rfl ?_ | refine o_mova rfl rfl ?_ | refine o_mov rfl rfl ?_
               first | refine o_movd rfl rfl ?_ | refine o_movp rfl rfl ?_ | refine o_mova rfl rfl ?_ | refine o_mov rfl rfl ?_
               first | refine o_idxS rfl rfl rfl rfl (by assumption) ?_ | (refine o_idxSx rfl rfl rfl rfl (by omega) ?_; intro b_ hb_) | refine o_idxS rfl rfl rfl rfl rfl ?_
               first | refine o_geqn rfl rfl rfl ?_ | refine o_bin rfl rfl rfl rfl ?_
               first | refine o_movd rfl rfl ?_ | refine o_movp rfl rfl ?_ | refine o_mova rfl rfl ?_ | refine o_mov rfl rfl ?_
               refine o_ifp rfl ?_ ?_ <;> intro hq_ hg_ <;> simp only [hg_] <;> clear hg_
               ·first
                | exfalso; first | omega | (have := hfig _ _ hi ‹_›; omega)
                |skip
                 first | refine o_movd rfl rfl ?_ | refine o_movp rfl rfl ?_ | refine o_mova rfl rfl ?_ | refine o_mov rfl rfl ?_
                 first | refine o_movd rfl rfl ?_ | refine o_movp rfl rfl ?_ | refine o_mova rfl rfl ?_ | refine o_mov rfl rfl ?_
                 first | refine o_idxS rfl rfl rfl rfl (by assumption) ?_ | (refine o_idxSx rfl rfl rfl rfl (by omega) ?_; intro b_ hb_) | refine o_idxS rfl rfl rfl rfl rfl ?_
                 first | refine o_leqn rfl rfl rfl ?_ | refine o_bin rfl rfl rfl rfl ?_
                 refine o_pickt rfl rfl rfl ?_
                 refine o_pickf rfl rfl rfl ?_
                 first | refine o_movd rfl rfl ?_ | refine o_movp rfl rfl ?_ | refine o_mova rfl rfl ?_ | refine o_mov rfl rfl ?_
                 refine o_ifp rfl ?_ ?_ <;> intro hq_ hg_ <;> simp only [hg_] <;> clear hg_
                 ·first
                  | exfalso; first | omega | (have := hfig _ _ hi ‹_›; omega)
                  |skip
                   refine o_skip rfl ?_
                   refine o_skip rfl ?_
                   refine o_skip rfl ?_
                   refine o_skip rfl ?_
                   refine o_pickt rfl rfl rfl ?_
                   first | refine o_asgd rfl rfl ?_ | refine o_asgo rfl rfl ?_ | refine o_asg rfl rfl (fun _ h_ => by cases h_) ?_
                   refine op_nil ?_
                   refine wp_ops ?_
                   first | refine o_movd rfl rfl ?_ | refine o_movp rfl rfl ?_ | refine o_mova rfl rfl ?_ | refine o_mov rfl rfl ?_
                   first | refine o_movd rfl rfl ?_ | refine o_movp rfl rfl ?_ | refine o_mova rfl rfl ?_ | refine o_mov rfl rfl ?_
                   first | refine o_movd rfl rfl ?_ | refine o_movp rfl rfl ?_ | refine o_mova rfl rfl ?_ | refine o_mov rfl rfl ?_
                   refine o_pickt rfl rfl rfl ?_
                   first | refine o_asgd rfl rfl ?_ | refine o_asgo rfl rfl ?_ | refine o_asg rfl rfl (fun _ h_ => by cases h_) ?_
                   refine op_nil ?_
                   refine keepN (by (simp +decide only [Slots.keep, Slots.get, reduceIte]); exact rfl) ?_
                   refine wp_ops ?_
                   first | refine o_movd rfl rfl ?_ | refine o_movp rfl rfl ?_ | refine o_mova rfl rfl ?_ | refine o_mov rfl rfl ?_
                   first | refine o_addkn rfl rfl rfl (by decide) (by (first | omega | (simp only [m64, mU, m8, n64, nU, n8, b64, bU, b8]; omega))) ?_ | refine o_cat rfl rfl rfl (by (first | omega | (simp only [m64, mU, m8, n64, nU, n8, b64, bU, b8]; omega))) ?_ | refine o_add rfl rfl rfl rfl (by omega) (by omega) ?_
                   first | refine o_asgd rfl rfl ?_ | refine o_asgo rfl rfl ?_ | refine o_asg rfl rfl (fun _ h_ => by cases h_) ?_
                   refine op_nil ?_
                   refine ⟨rfl, m - 1, by omega, i + 1, by omega, by omega, ?_⟩
                   first | rfl | (have hf_ := hfig _ _ hi hb_; have h120_ : b_.toNat = 120 := (by omega); simp only [h120_, decide_true]; rfl)
                 ·first
                  | exfalso; first | omega | (have := hfig _ _ hi ‹_›; omega)
                  |skip
                   first | refine o_movd rfl rfl ?_ | refine o_movp rfl rfl ?_ | refine o_mova rfl rfl ?_ | refine o_mov rfl rfl ?_
                   first | refine o_movd rfl rfl ?_ | refine o_movp rfl rfl ?_ | refine o_mova rfl rfl ?_ | refine o_mov rfl rfl ?_
                   first | refine o_idxS rfl rfl rfl rfl (by assumption) ?_ | (refine o_idxSx rfl rfl rfl rfl (by omega) ?_; intro b_ hb_) | refine o_idxS rfl rfl rfl rfl rfl ?_
                   first | refine o_eqln rfl rfl rfl ?_ | refine o_eqs rfl rfl rfl ?_ | refine o_bin rfl rfl rfl rfl ?_
                   refine o_pickf rfl rfl rfl ?_
                   first | refine o_asgd rfl rfl ?_ | refine o_asgo rfl rfl ?_ | refine o_asg rfl rfl (fun _ h_ => by cases h_) ?_
                   refine op_nil ?_
                   refine wp_ops ?_
                   first | refine o_movd rfl rfl ?_ | refine o_movp rfl rfl ?_ | refine o_mova rfl rfl ?_ | refine o_mov rfl rfl ?_
                   first | refine o_movd rfl rfl ?_ | refine o_movp rfl rfl ?_ | refine o_mova rfl rfl ?_ | refine o_mov rfl rfl ?_
                   first | refine o_movd rfl rfl ?_ | refine o_movp rfl rfl ?_ | refine o_mova rfl rfl ?_ | refine o_mov rfl rfl ?_
                   refine o_pickt rfl rfl rfl ?_
                   first | refine o_asgd rfl rfl ?_ | refine o_asgo rfl rfl ?_ | refine o_asg rfl rfl (fun _ h_ => by cases h_) ?_
                   refine op_nil ?_
                   refine keepN (by (simp +decide only [Slots.keep, Slots.get, reduceIte]); exact rfl) ?_
                   refine wp_ops ?_
                   first | refine o_movd rfl rfl ?_ | refine o_movp rfl rfl ?_ | refine o_mova rfl rfl ?_ | refine o_mov rfl rfl ?_
                   first | refine o_addkn rfl rfl rfl (by decide) (by (first | omega | (simp only [m64, mU, m8, n64, nU, n8, b64, bU, b8]; omega))) ?_ | refine o_cat rfl rfl rfl (by (first | omega | (simp only [m64, mU, m8, n64, nU, n8, b64, bU, b8]; omega))) ?_ | refine o_add rfl rfl rfl rfl (by omega) (by omega) ?_
                   first | refine o_asgd rfl rfl ?_ | refine o_asgo rfl rfl ?_ | refine o_asg rfl rfl (fun _ h_ => by cases h_) ?_
                   refine op_nil ?_
                   refine ⟨rfl, m - 1, by omega, i + 1, by omega, by omega, ?_⟩
                   first | rfl | (have hf_ := hfig _ _ hi hb_; have h120_ : b_.toNat = 120 := (by omega); simp only [h120_, decide_true]; rfl)
               ·first
                | exfalso; first | omega | (have := hfig _ _ hi ‹_›; omega)
                |skip
                 refine o_skip rfl ?_
                 refine o_skip rfl ?_
                 refine o_skip rfl ?_
                 refine o_skip rfl ?_
                 refine o_pickf rfl rfl rfl ?_
                 refine o_pickf rfl rfl rfl ?_
                 first | refine o_movd rfl rfl ?_ | refine o_movp rfl rfl ?_ | refine o_mova rfl rfl ?_ | refine o_mov rfl rfl ?_
                 first | refine o_movd rfl rfl ?_ | refine o_movp rfl rfl ?_ | refine o_mova rfl rfl ?_ | refine o_mov rfl rfl ?_
                 first | refine o_movd rfl rfl ?_ | refine o_movp rfl rfl ?_ | refine o_mova rfl rfl ?_ | refine o_mov rfl rfl ?_
                 first | refine o_idxS rfl rfl rfl rfl (by assumption) ?_ | (refine o_idxSx rfl rfl rfl rfl (by omega) ?_; intro b_ hb_) | refine o_idxS rfl rfl rfl rfl rfl ?_
                 first | refine o_eqln rfl rfl rfl ?_ | refine o_eqs rfl rfl rfl ?_ | refine o_bin rfl rfl rfl rfl ?_
                 refine o_pickf rfl rfl rfl ?_
                 first | refine o_asgd rfl rfl ?_ | refine o_asgo rfl rfl ?_ | refine o_asg rfl rfl (fun _ h_ => by cases h_) ?_
                 refine op_nil ?_
                 refine wp_ops ?_
                 first | refine o_movd rfl rfl ?_ | refine o_movp rfl rfl ?_ | refine o_mova rfl rfl ?_ | refine o_mov rfl rfl ?_
                 first | refine o_movd rfl rfl ?_ | refine o_movp rfl rfl ?_ | refine o_mova rfl rfl ?_ | refine o_mov rfl rfl ?_
                 first | refine o_movd rfl rfl ?_ | refine o_movp rfl rfl ?_ | refine o_mova rfl rfl ?_ | refine o_mov rfl rfl ?_
                 refine o_pickt rfl rfl rfl ?_
                 first | refine o_asgd rfl rfl ?_ | refine o_asgo rfl rfl ?_ | refine o_asg rfl rfl (fun _ h_ => by cases h_) ?_
                 refine op_nil ?_
                 refine keepN (by (simp +decide only [Slots.keep, Slots.get, reduceIte]); exact rfl) ?_
                 refine wp_ops ?_
                 first | refine o_movd rfl rfl ?_ | refine o_movp rfl rfl ?_ | refine o_mova rfl rfl ?_ | refine o_mov rfl rfl ?_
                 first | refine o_addkn rfl rfl rfl (by decide) (by (first | omega | (simp only [m64, mU, m8, n64, nU, n8, b64, bU, b8]; omega))) ?_ | refine o_cat rfl rfl rfl (by (first | omega | (simp only [m64, mU, m8, n64, nU, n8, b64, bU, b8]; omega))) ?_ | refine o_add rfl rfl rfl rfl (by omega) (by omega) ?_
                 first | refine o_asgd rfl rfl ?_ | refine o_asgo rfl rfl ?_ | refine o_asg rfl rfl (fun _ h_ => by cases h_) ?_
                 refine op_nil ?_
                 refine ⟨rfl, m - 1, by omega, i + 1, by omega, by omega, ?_⟩
                 first | rfl | (have hf_ := hfig _ _ hi hb_; have h120_ : b_.toNat = 120 := (by omega); simp only [h120_, decide_true]; rfl)
           ·first
            | exfalso; first | omega | (have := hfig _ _ hi ‹_›; omega)
            |skip
             refine o_skip rfl ?_
             refine o_skip rfl ?_
             refine o_skip rfl ?_
             refine o_skip rfl ?_
             refine o_pickf rfl rfl rfl ?_
             first | refine o_movd rfl rfl ?_ | refine o_movp rfl rfl ?_ | refine o_mova rfl rfl ?_ | refine o_mov rfl rfl ?_
             first | refine o_movd rfl rfl ?_ | refine o_movp rfl rfl ?_ | refine o_mova rfl rfl ?_ | refine o_mov rfl rfl ?_
             first | refine o_movd rfl rfl ?_ | refine o_movp rfl rfl ?_ | refine o_mova rfl rfl ?_ | refine o_mov rfl rfl ?_
             first | refine o_idxS rfl rfl rfl rfl (by assumption) ?_ | (refine o_idxSx rfl rfl rfl rfl (by omega) ?_; intro b_ hb_) | refine o_idxS rfl rfl rfl rfl rfl ?_
             first | refine o_geqn rfl rfl rfl ?_ | refine o_bin rfl rfl rfl rfl ?_
             first | refine o_movd rfl rfl ?_ | refine o_movp rfl rfl ?_ | refine o_mova rfl rfl ?_ | refine o_mov rfl rfl ?_
             refine o_ifp rfl ?_ ?_ <;> intro hq_ hg_ <;> simp only [hg_] <;> clear hg_
             ·first
              | exfalso; first | omega | (have := hfig _ _ hi ‹_›; omega)
              |skip
               first | refine o_movd rfl rfl ?_ | refine o_movp rfl rfl ?_ | refine o_mova rfl rfl ?_ | refine o_mov rfl rfl ?_
               first | refine o_movd rfl rfl ?_ | refine o_movp rfl rfl ?_ | refine o_mova rfl rfl ?_ | refine o_mov rfl rfl ?_
               first | refine o_idxS rfl rfl rfl rfl (by assumption) ?_ | (refine o_idxSx rfl rfl rfl rfl (by omega) ?_; intro b_ hb_) | refine o_idxS rfl rfl rfl rfl rfl ?_
               first | refine o_leqn rfl rfl rfl ?_ | refine o_bin rfl rfl rfl rfl ?_
               refine o_pickt rfl rfl rfl ?_
               refine o_pickf rfl rfl rfl ?_
               first | refine o_movd rfl rfl ?_ | refine o_movp rfl rfl ?_ | refine o_mova rfl rfl ?_ | refine o_mov rfl rfl ?_
               refine o_ifp rfl ?_ ?_ <;> intro hq_ hg_ <;> simp only [hg_] <;> clear hg_
               ·first
                | exfalso; first | omega | (have := hfig _ _ hi ‹_›; omega)
                |skip
                 refine o_skip rfl ?_
                 refine o_skip rfl ?_
                 refine o_skip rfl ?_
                 refine o_skip rfl ?_
                 refine o_pickt rfl rfl rfl ?_
                 first | refine o_asgd rfl rfl ?_ | refine o_asgo rfl rfl ?_ | refine o_asg rfl rfl (fun _ h_ => by cases h_) ?_
                 refine op_nil ?_
                 refine wp_ops ?_
                 first | refine o_movd rfl rfl ?_ | refine o_movp rfl rfl ?_ | refine o_mova rfl rfl ?_ | refine o_mov rfl rfl ?_
                 first | refine o_movd rfl rfl ?_ | refine o_movp rfl rfl ?_ | refine o_mova rfl rfl ?_ | refine o_mov rfl rfl ?_
                 first | refine o_movd rfl rfl ?_ | refine o_movp rfl rfl ?_ | refine o_mova rfl rfl ?_ | refine o_mov rfl rfl ?_
                 refine o_pickt rfl rfl rfl ?_
                 first | refine o_asgd rfl rfl ?_ | refine o_asgo rfl rfl ?_ | refine o_asg rfl rfl (fun _ h_ => by cases h_) ?_
                 refine op_nil ?_
                 refine keepN (by (simp +decide only [Slots.keep, Slots.get, reduceIte]); exact rfl) ?_
                 refine wp_ops ?_
                 first | refine o_movd rfl rfl ?_ | refine o_movp rfl rfl ?_ | refine o_mova rfl rfl ?_ | refine o_mov rfl rfl ?_
                 first | refine o_addkn rfl rfl rfl (by decide) (by (first | omega | (simp only [m64, mU, m8, n64, nU, n8, b64, bU, b8]; omega))) ?_ | refine o_cat rfl rfl rfl (by (first | omega | (simp only [m64, mU, m8, n64, nU, n8, b64, bU, b8]; omega))) ?_ | refine o_add rfl rfl rfl rfl (by omega) (by omega) ?_
                 first | refine o_asgd rfl rfl ?_ | refine o_asgo rfl rfl ?_ | refine o_asg rfl rfl (fun _ h_ => by cases h_) ?_
                 refine op_nil ?_
                 refine ⟨rfl, m - 1, by omega, i + 1, by omega, by omega, ?_⟩
                 first | rfl | (have hf_ := hfig _ _ hi hb_; have h120_ : b_.toNat = 120 := (by omega); simp only [h120_, decide_true]; rfl)
               ·first
                | exfalso; first | omega | (have := hfig _ _ hi ‹_›; omega)
                |skip
                 first | refine o_movd rfl rfl ?_ | refine o_movp rfl rfl ?_ | refine o_mova rfl rfl ?_ | refine o_mov rfl rfl ?_
                 first | refine o_movd rfl rfl ?_ | refine o_movp rfl rfl ?_ | refine o_mova rfl rfl ?_ | refine o_mov rfl rfl ?_
                 first | refine o_idxS rfl rfl rfl rfl (by assumption) ?_ | (refine o_idxSx rfl rfl rfl rfl (by omega) ?_; intro b_ hb_) | refine o_idxS rfl rfl rfl rfl rfl ?_
                 first | refine o_eqln rfl rfl rfl ?_ | refine o_eqs rfl rfl rfl ?_ | refine o_bin rfl rfl rfl rfl ?_
                 refine o_pickf rfl rfl rfl ?_
                 first | refine o_asgd rfl rfl ?_ | refine o_asgo rfl rfl ?_ | refine o_asg rfl rfl (fun _ h_ => by cases h_) ?_
                 refine op_nil ?_
                 refine wp_ops ?_
                 first | refine o_movd rfl rfl ?_ | refine o_movp rfl rfl ?_ | refine o_mova rfl rfl ?_ | refine o_mov rfl rfl ?_
                 first | refine o_movd rfl rfl ?_ | refine o_movp rfl rfl ?_ | refine o_mova rfl rfl ?_ | refine o_mov rfl rfl ?_
                 first | refine o_movd rfl rfl ?_ | refine o_movp rfl rfl ?_ | refine o_mova rfl rfl ?_ | refine o_mov rfl rfl ?_
                 refine o_pickt rfl rfl rfl ?_
                 first | refine o_asgd rfl rfl ?_ | refine o_asgo rfl rfl ?_ | refine o_asg rfl rfl (fun _ h_ => by cases h_) ?_
                 refine op_nil ?_
                 refine keepN (by (simp +decide only [Slots.keep, Slots.get, reduceIte]); exact rfl) ?_
                 refine wp_ops ?_
                 first | refine o_movd rfl rfl ?_ | refine o_movp rfl rfl ?_ | refine o_mova rfl rfl ?_ | refine o_mov rfl rfl ?_
                 first | refine o_addkn rfl rfl rfl (by decide) (by (first | omega | (simp only [m64, mU, m8, n64, nU, n8, b64, bU, b8]; omega))) ?_ | refine o_cat rfl rfl rfl (by (first | omega | (simp only [m64, mU, m8, n64, nU, n8, b64, bU, b8]; omega))) ?_ | refine o_add rfl rfl rfl rfl (by omega) (by omega) ?_
                 first | refine o_asgd rfl rfl ?_ | refine o_asgo rfl rfl ?_ | refine o_asg rfl rfl (fun _ h_ => by cases h_) ?_
                 refine op_nil ?_
                 refine ⟨rfl, m - 1, by omega, i + 1, by omega, by omega, ?_⟩
                 first | rfl | (have hf_ := hfig _ _ hi hb_; have h120_ : b_.toNat = 120 := (by omega); simp only [h120_, decide_true]; rfl)
             ·first
              | exfalso; first | omega | (have := hfig _ _ hi ‹_›; omega)
              |skip
               refine o_skip rfl ?_
               refine o_skip rfl ?_
               refine o_skip rfl ?_
               refine o_skip rfl ?_
               refine o_pickf rfl rfl rfl ?_
               refine o_pickf rfl rfl rfl ?_
               first | refine o_movd rfl rfl ?_ | refine o_movp rfl rfl ?_ | refine o_mova rfl rfl ?_ | refine o_mov rfl rfl ?_
               first | refine o_movd rfl rfl ?_ | refine o_movp rfl rfl ?_ | refine o_mova rfl rfl ?_ | refine o_mov rfl rfl ?_
               first | refine o_movd rfl rfl ?_ | refine o_movp rfl rfl ?_ | refine o_mova rfl rfl ?_ | refine o_mov rfl rfl ?_
               first | refine o_idxS rfl rfl rfl rfl (by assumption) ?_ | (refine o_idxSx rfl rfl rfl rfl (by omega) ?_; intro b_ hb_) | refine o_idxS rfl rfl rfl rfl rfl ?_
               first | refine o_eqln rfl rfl rfl ?_ | refine o_eqs rfl rfl rfl ?_ | refine o_bin rfl rfl rfl rfl ?_
               refine o_pickf rfl rfl rfl ?_
               first | refine o_asgd rfl rfl ?_ | refine o_asgo rfl rfl ?_ | refine o_asg rfl rfl (fun _ h_ => by cases h_) ?_
               refine op_nil ?_
               refine wp_ops ?_
               first | refine o_movd rfl rfl ?_ | refine o_movp rfl rfl ?_ | refine o_mova rfl rfl ?_ | refine o_mov rfl rfl ?_
               first | refine o_movd rfl rfl ?_ | refine o_movp rfl rfl ?_ | refine o_mova rfl rfl ?_ | refine o_mov rfl rfl ?_
               first | refine o_movd rfl rfl ?_ | refine o_movp rfl rfl ?_ | refine o_mova rfl rfl ?_ | refine o_mov rfl rfl ?_
               refine o_pickt rfl rfl rfl ?_
               first | refine o_asgd rfl rfl ?_ | refine o_asgo rfl rfl ?_ | refine o_asg rfl rfl (fun _ h_ => by cases h_) ?_
               refine op_nil ?_
               refine keepN (by (simp +decide only [Slots.keep, Slots.get, reduceIte]); exact rfl) ?_
               refine wp_ops ?_
               first | refine o_movd rfl rfl ?_ | refine o_movp rfl rfl ?_ | refine o_mova rfl rfl ?_ | refine o_mov rfl rfl ?_
               first | refine o_addkn rfl rfl rfl (by decide) (by (first | omega | (simp only [m64, mU, m8, n64, nU, n8, b64, bU, b8]; omega))) ?_ | refine o_cat rfl rfl rfl (by (first | omega | (simp only [m64, mU, m8, n64, nU, n8, b64, bU, b8]; omega))) ?_ | refine o_add rfl rfl rfl rfl (by omega) (by omega) ?_
               first | refine o_asgd rfl rfl ?_ | refine o_asgo rfl rfl ?_ | refine o_asg rfl rfl (fun _ h_ => by cases h_) ?_
               refine op_nil ?_
               refine ⟨rfl, m - 1, by omega, i + 1, by omega, by omega, ?_⟩
               first | rfl | (have hf_ := hfig _ _ hi hb_; have h120_ : b_.toNat = 120 := (by omega); simp only [h120_, decide_true]; rfl)
         ·first
          | exfalso; first | omega | (have := hfig _ _ hi ‹_›; omega)
          |skip
           refine wp_exit ?_
           refine bx_here ?_
           refine keepN (by (simp +decide only [Slots.keep, Slots.get, reduceIte]); exact rfl) ?_
           refine wp_seq ?_
           refine wp_ops ?_
           first | refine o_movd rfl rfl ?_ | refine o_movp rfl rfl ?_ | refine o_mova rfl rfl ?_ | refine o_mov rfl rfl ?_
           first | refine o_movd rfl rfl ?_ | refine o_movp rfl rfl ?_ | refine o_mova rfl rfl ?_ | refine o_mov rfl rfl ?_
           first | refine o_movd rfl rfl ?_ | refine o_movp rfl rfl ?_ | refine o_mova rfl rfl ?_ | refine o_mov rfl rfl ?_
           first | refine o_movd rfl rfl ?_ | refine o_movp rfl rfl ?_ | refine o_mova rfl rfl ?_ | refine o_mov rfl rfl ?_
           first | refine o_eqln rfl rfl rfl ?_ | refine o_eqs rfl rfl rfl ?_ | refine o_bin rfl rfl rfl rfl ?_
           refine o_pickt rfl rfl rfl ?_
           first | refine o_movd rfl rfl ?_ | refine o_movp rfl rfl ?_ | refine o_mova rfl rfl ?_ | refine o_mov rfl rfl ?_
           refine o_ifp rfl ?_ ?_ <;> intro hq_ hg_ <;> simp only [hg_] <;> clear hg_
           ·first
            | exfalso; first | omega | (have := hfig _ _ hi ‹_›; omega)
            |skip
             first | refine o_movd rfl rfl ?_ | refine o_movp rfl rfl ?_ | refine o_mova rfl rfl ?_ | refine o_mov rfl rfl ?_
             first | refine o_movd rfl rfl ?_ | refine o_movp rfl rfl ?_ | refine o_mova rfl rfl ?_ | refine o_mov rfl rfl ?_
             refine o_lenS rfl rfl ?_
             first | refine o_eqln rfl rfl rfl ?_ | refine o_eqs rfl rfl rfl ?_ | refine o_bin rfl rfl rfl rfl ?_
             refine o_pickt rfl rfl rfl ?_
             first | refine o_movd rfl rfl ?_ | refine o_movp rfl rfl ?_ | refine o_mova rfl rfl ?_ | refine o_mov rfl rfl ?_
             refine o_ifp rfl ?_ ?_ <;> intro hq_ hg_ <;> simp only [hg_] <;> clear hg_
             ·first
              | exfalso; first | omega | (have := hfig _ _ hi ‹_›; omega)
              |skip
               first | refine o_movd rfl rfl ?_ | refine o_movp rfl rfl ?_ | refine o_mova rfl rfl ?_ | refine o_mov rfl rfl ?_
               first | refine o_eqln rfl rfl rfl ?_ | refine o_eqs rfl rfl rfl ?_ | refine o_bin rfl rfl rfl rfl ?_
               refine o_pickt rfl rfl rfl ?_
               first | refine o_movd rfl rfl ?_ | refine o_movp rfl rfl ?_ | refine o_mova rfl rfl ?_ | refine o_mov rfl rfl ?_
               refine o_ifp rfl ?_ ?_ <;> intro hq_ hg_ <;> simp only [hg_] <;> clear hg_
               ·first
                | exfalso; first | omega | (have := hfig _ _ hi ‹_›; omega)
                |skip
                 first | refine o_movd rfl rfl ?_ | refine o_movp rfl rfl ?_ | refine o_mova rfl rfl ?_ | refine o_mov rfl rfl ?_
                 refine o_pickt rfl rfl rfl ?_
                 first | refine o_asgd rfl rfl ?_ | refine o_asgo rfl rfl ?_ | refine o_asg rfl rfl (fun _ h_ => by cases h_) ?_
                 refine op_nil ?_
                 refine wp_ret ?_
                 refine end1 rfl rfl rfl ?_ (by first | rfl | simp)
                 rfl
               ·first
                | exfalso; first | omega | (have := hfig _ _ hi ‹_›; omega)
                |skip
                 refine o_skip rfl ?_
                 refine o_pickf rfl rfl rfl ?_
                 first | refine o_asgd rfl rfl ?_ | refine o_asgo rfl rfl ?_ | refine o_asg rfl rfl (fun _ h_ => by cases h_) ?_
                 refine op_nil ?_
                 refine wp_ret ?_
                 refine end1 rfl rfl rfl ?_ (by first | rfl | simp)
                 rfl
             ·first
              | exfalso; first | omega | (have := hfig _ _ hi ‹_›; omega)
              |skip
               refine o_skip rfl ?_
               refine o_skip rfl ?_
               refine o_pickf rfl rfl rfl ?_
               first | refine o_movd rfl rfl ?_ | refine o_movp rfl rfl ?_ | refine o_mova rfl rfl ?_ | refine o_mov rfl rfl ?_
               refine o_skip rfl ?_
               refine o_pickf rfl rfl rfl ?_
               first | refine o_asgd rfl rfl ?_ | refine o_asgo rfl rfl ?_ | refine o_asg rfl rfl (fun _ h_ => by cases h_) ?_
               refine op_nil ?_
               refine wp_ret ?_
               refine end1 rfl rfl rfl ?_ (by first | rfl | simp)
               rfl
           ·first
            | exfalso; first | omega | (have := hfig _ _ hi ‹_›; omega)
            |skip
             refine o_skip rfl ?_
             refine o_skip rfl ?_
             refine o_skip rfl ?_
             refine o_skip rfl ?_
             refine o_pickf rfl rfl rfl ?_
             first | refine o_movd rfl rfl ?_ | refine o_movp rfl rfl ?_ | refine o_mova rfl rfl ?_ | refine o_mov rfl rfl ?_
             refine o_skip rfl ?_
             refine o_skip rfl ?_
             refine o_pickf rfl rfl rfl ?_
             first | refine o_movd rfl rfl ?_ | refine o_movp rfl rfl ?_ | refine o_mova rfl rfl ?_ | refine o_mov rfl rfl ?_
             refine o_skip rfl ?_
             refine o_pickf rfl rfl rfl ?_
             first | refine o_asgd rfl rfl ?_ | refine o_asgo rfl rfl ?_ | refine o_asg rfl rfl (fun _ h_ => by cases h_) ?_
             refine op_nil ?_
             refine wp_ret ?_
             refine end1 rfl rfl rfl ?_ (by first | rfl | simp)
             rfl
  ·refine ev_callB rfl rfl ?_
   refine wp_seq ?_
   refine wp_ops ?_
   first | refine o_asgd rfl rfl ?_ | refine o_asgo rfl rfl ?_ | refine o_asg rfl rfl (fun _ h_ => by cases h_) ?_
   refine op_nil ?_
   refine wp_seq ?_
   refine wp_ops ?_
   refine o_call rfl rfl rfl (shown_ev) ?_
   first | refine o_asgd rfl rfl ?_ | refine o_asgo rfl rfl ?_ | refine o_asg rfl rfl (fun _ h_ => by cases h_) ?_
   refine op_nil ?_
   refine wp_seq ?_
   refine wp_seq ?_
   refine wp_ops ?_
   first | refine o_movd rfl rfl ?_ | refine o_movp rfl rfl ?_ | refine o_mova rfl rfl ?_ | refine o_mov rfl rfl ?_
   refine o_lenS rfl rfl ?_
   first | refine o_gtrn rfl rfl rfl ?_ | refine o_bin rfl rfl rfl rfl ?_
   refine op_nil ?_
   first | refine wp_if rfl ?_ ?_ <;> intro hq_ | refine wp_cond rfl ?_ ?_ <;> intro hq_
   ·first
    | exfalso; omega
    |skip
     refine wp_seq ?_
     refine wp_ops ?_
     first | refine o_movd rfl rfl ?_ | refine o_movp rfl rfl ?_ | refine o_mova rfl rfl ?_ | refine o_mov rfl rfl ?_
     first | refine o_asgd rfl rfl ?_ | refine o_asgo rfl rfl ?_ | refine o_asg rfl rfl (fun _ h_ => by cases h_) ?_
     refine op_nil ?_
     refine wp_ret ?_
     refine end1 rfl rfl rfl ?_ (by first | rfl | simp)
     rfl
   ·first
    | exfalso; omega
    |skip
     refine wp_skip ?_
     refine wp_seq ?_
     refine wp_ops ?_
     first | refine o_movd rfl rfl ?_ | refine o_movp rfl rfl ?_ | refine o_mova rfl rfl ?_ | refine o_mov rfl rfl ?_
     refine o_call rfl rfl rfl (hP) ?_
     first | refine o_asgd rfl rfl ?_ | refine o_asgo rfl rfl ?_ | refine o_asg rfl rfl (fun _ h_ => by cases h_) ?_
     refine op_nil ?_
     refine wp_seq ?_
     refine wp_ops ?_
     first | refine o_movd rfl rfl ?_ | refine o_movp rfl rfl ?_ | refine o_mova rfl rfl ?_ | refine o_mov rfl rfl ?_
     first | refine o_movd rfl rfl ?_ | refine o_movp rfl rfl ?_ | refine o_mova rfl rfl ?_ | refine o_mov rfl rfl ?_
     first | refine o_addkn rfl rfl rfl (by decide) (by (first | omega | (simp only [m64, mU, m8, n64, nU, n8, b64, bU, b8]; omega))) ?_ | refine o_cat rfl rfl rfl (by (first | omega | (simp only [m64, mU, m8, n64, nU, n8, b64, bU, b8]; omega))) ?_ | refine o_add rfl rfl rfl rfl (by omega) (by omega) ?_
     refine o_call rfl rfl rfl (hS) ?_
     first | refine o_movd rfl rfl ?_ | refine o_movp rfl rfl ?_ | refine o_mova rfl rfl ?_ | refine o_mov rfl rfl ?_
     refine o_extr rfl rfl rfl ?_
     refine o_extr rfl rfl rfl ?_
     refine o_extr rfl rfl rfl ?_
     first | refine o_asgd rfl rfl ?_ | refine o_asgo rfl rfl ?_ | refine o_asg rfl rfl (fun _ h_ => by cases h_) ?_
     first | refine o_asgd rfl rfl ?_ | refine o_asgo rfl rfl ?_ | refine o_asg rfl rfl (fun _ h_ => by cases h_) ?_
     first | refine o_asgd rfl rfl ?_ | refine o_asgo rfl rfl ?_ | refine o_asg rfl rfl (fun _ h_ => by cases h_) ?_
     refine op_nil ?_
     refine wp_seq ?_
     refine wp_ops ?_
     first | refine o_movd rfl rfl ?_ | refine o_movp rfl rfl ?_ | refine o_mova rfl rfl ?_ | refine o_mov rfl rfl ?_
     refine o_lenS rfl rfl ?_
     first | refine o_eqln rfl rfl rfl ?_ | refine o_eqs rfl rfl rfl ?_ | refine o_bin rfl rfl rfl rfl ?_
     first | refine o_movd rfl rfl ?_ | refine o_movp rfl rfl ?_ | refine o_mova rfl rfl ?_ | refine o_mov rfl rfl ?_
     refine o_ifp rfl ?_ ?_ <;> intro hq_ hg_ <;> simp only [hg_] <;> clear hg_
     ·first
      | exfalso; omega
      |skip
       refine o_skip rfl ?_
       refine o_skip rfl ?_
       refine o_skip rfl ?_
       refine o_skip rfl ?_
       refine o_skip rfl ?_
       refine o_skip rfl ?_
       refine o_skip rfl ?_
       refine o_skip rfl ?_
       refine o_skip rfl ?_
       refine o_skip rfl ?_
       refine o_skip rfl ?_
       refine o_skip rfl ?_
       refine o_skip rfl ?_
       refine o_pickt rfl rfl rfl ?_
       first | refine o_asgd rfl rfl ?_ | refine o_asgo rfl rfl ?_ | refine o_asg rfl rfl (fun _ h_ => by cases h_) ?_
       refine op_nil ?_
       refine wp_seq ?_
       refine wp_seq ?_
       refine wp_ops ?_
       first | refine o_asgd rfl rfl ?_ | refine o_asgo rfl rfl ?_ | refine o_asg rfl rfl (fun _ h_ => by cases h_) ?_
       refine op_nil ?_
       refine wp_keep ?_
       refine wp_block ?_
       try simp only [show decide (e1.toNat = 120) = true from decide_eq_true (by assumption)]
       refine wp_loop (m := 4) (fun m st => ∃ i : Nat, 1 ≤ i ∧ i + m = 5 ∧ st = ⟨[(0, u8 c), (5, bl true), (6, str s), (7, u8 c), (8, i64 s.length), (9, i64 (0 : Nat)), (10, bl true), (11, i64 i)], [], [], none, 0⟩) ⟨1, by omega, by omega, rfl⟩ ?_
       rintro m st ⟨i, hi, him, rfl⟩ -
       refine wp_seq ?_
       refine wp_seq ?_
       refine wp_ops ?_
       first | refine o_movd rfl rfl ?_ | refine o_movp rfl rfl ?_ | refine o_mova rfl rfl ?_ | refine o_mov rfl rfl ?_
       first | refine o_movd rfl rfl ?_ | refine o_movp rfl rfl ?_ | refine o_mova rfl rfl ?_ | refine o_mov rfl rfl ?_
       refine o_lenS rfl rfl ?_
       first | refine o_lssn rfl rfl rfl ?_ | refine o_bin rfl rfl rfl rfl ?_
       refine op_nil ?_
       first | refine wp_if rfl ?_ ?_ <;> intro hq_ | refine wp_cond rfl ?_ ?_ <;> intro hq_
       ·first
        | exfalso; first | omega | (have := hfig _ _ hi ‹_›; omega)
        |skip
         refine wp_skip ?_
         refine wp_seq ?_
         refine wp_keep ?_
         refine wp_block ?_
         refine wp_seq ?_
         refine wp_ops ?_
         first | refine o_movd rfl rfl ?_ | refine o_movp rfl rfl ?_ | refine o_mova rfl rfl ?_ | refine o_mov rfl rfl ?_
         first | refine o_movd rfl rfl ?_ | refine o_movp rfl rfl ?_ | refine o_mova rfl rfl ?_ | refine o_mov rfl rfl ?_
         first | refine o_idxS rfl rfl rfl rfl (by assumption) ?_ | (refine o_idxSx rfl rfl rfl rfl (by omega) ?_; intro b_ hb_) | refine o_idxS rfl rfl rfl rfl rfl ?_
         first | refine o_geqn rfl rfl rfl ?_ | refine o_bin rfl rfl rfl rfl ?_
         first | refine o_movd rfl rfl ?_ | refine o_movp rfl rfl ?_ | refine o_mova rfl rfl ?_ | refine o_mov rfl rfl ?_
         refine o_ifp rfl ?_ ?_ <;> intro hq_ hg_ <;> simp only [hg_] <;> clear hg_
         ·first
          | exfalso; first | omega | (have := hfig _ _ hi ‹_›; omega)
          |skip
           first | refine o_movd rfl rfl ?_ | refine o_movp rfl rfl ?_ | refine o_mova rfl rfl ?_ | refine o_mov rfl rfl ?_
           first | refine o_movd rfl rfl ?_ | refine o_movp rfl rfl ?_ | refine o_mova rfl rfl ?_ | refine o_mov rfl rfl ?_
           first | refine o_idxS rfl rfl rfl rfl (by assumption) ?_ | (refine o_idxSx rfl rfl rfl rfl (by omega) ?_; intro b_ hb_) | refine o_idxS rfl rfl rfl rfl rfl ?_
           first | refine o_leqn rfl rfl rfl ?_ | refine o_bin rfl rfl rfl rfl ?_
           refine o_pickt rfl rfl rfl ?_
           first | refine o_movd rfl rfl ?_ | refine o_movp rfl rfl ?_ | refine o_mova rfl rfl ?_ | refine o_mov rfl rfl ?_
           refine o_ifp rfl ?_ ?_ <;> intro hq_ hg_ <;> simp only [hg_] <;> clear hg_
           ·first
            | exfalso; first | omega | (have := hfig _ _ hi ‹_›; omega)
            |skip
             refine o_skip rfl ?_
             refine o_skip rfl ?_
             refine o_skip rfl ?_
             refine o_skip rfl ?_
             refine o_skip rfl ?_
             refine o_skip rfl ?_
             refine o_skip rfl ?_
             refine o_skip rfl ?_
             refine o_skip rfl ?_
             refine o_skip rfl ?_
             refine o_pickt rfl rfl rfl ?_
             first | refine o_movd rfl rfl ?_ | refine o_movp rfl rfl ?_ | refine o_mova rfl rfl ?_ | refine o_mov rfl rfl ?_
             refine o_skip rfl ?_
             refine o_skip rfl ?_
             refine o_skip rfl ?_
             refine o_skip rfl ?_
             refine o_pickt rfl rfl rfl ?_
             first | refine o_asgd rfl rfl ?_ | refine o_asgo rfl rfl ?_ | refine o_asg rfl rfl (fun _ h_ => by cases h_) ?_
             refine op_nil ?_
             refine wp_ops ?_
             first | refine o_movd rfl rfl ?_ | refine o_movp rfl rfl ?_ | refine o_mova rfl rfl ?_ | refine o_mov rfl rfl ?_
             first | refine o_movd rfl rfl ?_ | refine o_movp rfl rfl ?_ | refine o_mova rfl rfl ?_ | refine o_mov rfl rfl ?_
             first | refine o_movd rfl rfl ?_ | refine o_movp rfl rfl ?_ | refine o_mova rfl rfl ?_ | refine o_mov rfl rfl ?_
             refine o_pickt rfl rfl rfl ?_
             first | refine o_asgd rfl rfl ?_ | refine o_asgo rfl rfl ?_ | refine o_asg rfl rfl (fun _ h_ => by cases h_) ?_
             refine op_nil ?_
             refine keepN (by (simp +decide only [Slots.keep, Slots.get, reduceIte]); exact rfl) ?_
             refine wp_ops ?_
             first | refine o_movd rfl rfl ?_ | refine o_movp rfl rfl ?_ | refine o_mova rfl rfl ?_ | refine o_mov rfl rfl ?_
             first | refine o_addkn rfl rfl rfl (by decide) (by (first | omega | (simp only [m64, mU, m8, n64, nU, n8, b64, bU, b8]; omega))) ?_ | refine o_cat rfl rfl rfl (by (first | omega | (simp only [m64, mU, m8, n64, nU, n8, b64, bU, b8]; omega))) ?_ | refine o_add rfl rfl rfl rfl (by omega) (by omega) ?_
             first | refine o_asgd rfl rfl ?_ | refine o_asgo rfl rfl ?_ | refine o_asg rfl rfl (fun _ h_ => by cases h_) ?_
             refine op_nil ?_
             refine ⟨rfl, m - 1, by omega, i + 1, by omega, by omega, ?_⟩
             first | rfl | (have hf_ := hfig _ _ hi hb_; have h120_ : b_.toNat = 120 := (by omega); simp only [h120_, decide_true]; rfl)
           ·first
            | exfalso; first | omega | (have := hfig _ _ hi ‹_›; omega)
            |skip
             first | refine o_movd rfl rfl ?_ | refine o_movp rfl rfl ?_ | refine o_mova rfl rfl ?_ | refine o_mov rfl rfl ?_
             first | refine o_movd rfl rfl ?_ | refine o_movp rfl rfl ?_ | refine o_mova rfl rfl ?_ | refine o_mov rfl rfl ?_
             first | refine o_idxS rfl rfl rfl rfl (by assumption) ?_ | (refine o_idxSx rfl rfl rfl rfl (by omega) ?_; intro b_ hb_) | refine o_idxS rfl rfl rfl rfl rfl ?_
             first | refine o_geqn rfl rfl rfl ?_ | refine o_bin rfl rfl rfl rfl ?_
             first | refine o_movd rfl rfl ?_ | refine o_movp rfl rfl ?_ | refine o_mova rfl rfl ?_ | refine o_mov rfl rfl ?_
             refine o_ifp rfl ?_ ?_ <;> intro hq_ hg_ <;> simp only [hg_] <;> clear hg_
             ·first
              | exfalso; first | omega | (have := hfig _ _ hi ‹_›; omega)
              |skip
               first | refine o_movd rfl rfl ?_ | refine o_movp rfl rfl ?_ | refine o_mova rfl rfl ?_ | refine o_mov rfl rfl ?_
               first | refine o_movd rfl rfl ?_ | refine o_movp rfl rfl ?_ | refine o_mova rfl rfl ?_ | refine o_mov rfl rfl ?_
               first | refine o_idxS rfl rfl rfl rfl (by assumption) ?_ | (refine o_idxSx rfl rfl rfl rfl (by omega) ?_; intro b_ hb_) | refine o_idxS rfl rfl rfl rfl rfl ?_
               first | refine o_leqn rfl rfl rfl ?_ | refine o_bin rfl rfl rfl rfl ?_
               refine o_pickt rfl rfl rfl ?_
               refine o_pickf rfl rfl rfl ?_
               first | refine o_movd rfl rfl ?_ | refine o_movp rfl rfl ?_ | refine o_mova rfl rfl ?_ | refine o_mov rfl rfl ?_
               refine o_ifp rfl ?_ ?_ <;> intro hq_ hg_ <;> simp only [hg_] <;> clear hg_
               ·first
                | exfalso; first | omega | (have := hfig _ _ hi ‹_›; omega)
                |skip
                 refine o_skip rfl ?_
                 refine o_skip rfl ?_
                 refine o_skip rfl ?_
                 refine o_skip rfl ?_
                 refine o_pickt rfl rfl rfl ?_
                 first | refine o_asgd rfl rfl ?_ | refine o_asgo rfl rfl ?_ | refine o_asg rfl rfl (fun _ h_ => by cases h_) ?_
                 refine op_nil ?_
                 refine wp_ops ?_
                 first | refine o_movd rfl rfl ?_ | refine o_movp rfl rfl ?_ | refine o_mova rfl rfl ?_ | refine o_mov rfl rfl ?_
                 first | refine o_movd rfl rfl ?_ | refine o_movp rfl rfl ?_ | refine o_mova rfl rfl ?_ | refine o_mov rfl rfl ?_
                 first | refine o_movd rfl rfl ?_ | refine o_movp rfl rfl ?_ | refine o_mova rfl rfl ?_ | refine o_mov rfl rfl ?_
                 refine o_pickt rfl rfl rfl ?_
                 first | refine o_asgd rfl rfl ?_ | refine o_asgo rfl rfl ?_ | refine o_asg rfl rfl (fun _ h_ => by cases h_) ?_
                 refine op_nil ?_
                 refine keepN (by (simp +decide only [Slots.keep, Slots.get, reduceIte]); exact rfl) ?_
                 refine wp_ops ?_
                 first | refine o_movd rfl rfl ?_ | refine o_movp rfl rfl ?_ | refine o_mova rfl rfl ?_ | refine o_mov rfl rfl ?_
                 first | refine o_addkn rfl rfl rfl (by decide) (by (first | omega | (simp only [m64, mU, m8, n64, nU, n8, b64, bU, b8]; omega))) ?_ | refine o_cat rfl rfl rfl (by (first | omega | (simp only [m64, mU, m8, n64, nU, n8, b64, bU, b8]; omega))) ?_ | refine o_add rfl rfl rfl rfl (by omega) (by omega) ?_
                 first | refine o_asgd rfl rfl ?_ | refine o_asgo rfl rfl ?_ | refine o_asg rfl rfl (fun _ h_ => by cases h_) ?_
                 refine op_nil ?_
                 refine ⟨rfl, m - 1, by omega, i + 1, by omega, by omega, ?_⟩
                 first | rfl | (have hf_ := hfig _ _ hi hb_; have h120_ : b_.toNat = 120 := (by omega); simp only [h120_, decide_true]; rfl)
               ·first
                | exfalso; first | omega | (have := hfig _ _ hi ‹_›; omega)
                |skip
                 first | refine o_movd rfl rfl ?_ | refine o_movp rfl rfl ?_ | refine o_mova rfl rfl ?_ | refine o_mov rfl rfl ?_
                 first | refine o_movd rfl rfl ?_ | refine o_movp rfl rfl ?_ | refine o_mova rfl rfl ?_ | refine o_mov rfl rfl ?_
                 first | refine o_idxS rfl rfl rfl rfl (by assumption) ?_ | (refine o_idxSx rfl rfl rfl rfl (by omega) ?_; intro b_ hb_) | refine o_idxS rfl rfl rfl rfl rfl ?_
                 first | refine o_eqln rfl rfl rfl ?_ | refine o_eqs rfl rfl rfl ?_ | refine o_bin rfl rfl rfl rfl ?_
                 refine o_pickf rfl rfl rfl ?_
                 first | refine o_asgd rfl rfl ?_ | refine o_asgo rfl rfl ?_ | refine o_asg rfl rfl (fun _ h_ => by cases h_) ?_
                 refine op_nil ?_
                 refine wp_ops ?_
                 first | refine o_movd rfl rfl ?_ | refine o_movp rfl rfl ?_ | refine o_mova rfl rfl ?_ | refine o_mov rfl rfl ?_
                 first | refine o_movd rfl rfl ?_ | refine o_movp rfl rfl ?_ | refine o_mova rfl rfl ?_ | refine o_mov rfl rfl ?_
                 first | refine o_movd rfl rfl ?_ | refine o_movp rfl rfl ?_ | refine o_mova rfl rfl ?_ | refine o_mov rfl rfl ?_
                 refine o_pickt rfl rfl rfl ?_
                 first | refine o_asgd rfl rfl ?_ | refine o_asgo rfl rfl ?_ | refine o_asg rfl rfl (fun _ h_ => by cases h_) ?_
                 refine op_nil ?_
                 refine keepN (by (simp +decide only [Slots.keep, Slots.get, reduceIte]); exact rfl) ?_
                 refine wp_ops ?_
                 first | refine o_movd rfl rfl ?_ | refine o_movp rfl rfl ?_ | refine o_mova rfl rfl ?_ | refine o_mov rfl rfl ?_
                 first | refine o_addkn rfl rfl rfl (by decide) (by (first | omega | (simp only [m64, mU, m8, n64, nU, n8, b64, bU, b8]; omega))) ?_ | refine o_cat rfl rfl rfl (by (first | omega | (simp only [m64, mU, m8, n64, nU, n8, b64, bU, b8]; omega))) ?_ | refine o_add rfl rfl rfl rfl (by omega) (by omega) ?_
                 first | refine o_asgd rfl rfl ?_ | refine o_asgo rfl rfl ?_ | refine o_asg rfl rfl (fun _ h_ => by cases h_) ?_
                 refine op_nil ?_
                 refine ⟨rfl, m - 1, by omega, i + 1, by omega, by omega, ?_⟩
                 first | rfl | (have hf_ := hfig _ _ hi hb_; have h120_ : b_.toNat = 120 := (by omega); simp only [h120_, decide_true]; rfl)
             ·first
              | exfalso; first | omega | (have := hfig _ _ hi ‹_›; omega)
              |skip
               refine o_skip rfl ?_
               refine o_skip rfl ?_
               refine o_skip rfl ?_
               refine o_skip rfl ?_
               refine o_pickf rfl rfl rfl ?_
               refine o_pickf rfl rfl rfl ?_
               first | refine o_movd rfl rfl ?_ | refine o_movp rfl rfl ?_ | refine o_mova rfl rfl ?_ | refine o_mov rfl rfl ?_
               first | refine o_movd rfl rfl ?_ | refine o_movp rfl rfl ?_ | refine o_mova rfl rfl ?_ | refine o_mov rfl rfl ?_
               first | refine o_movd rfl rfl ?_ | refine o_movp rfl rfl ?_ | refine o_mova rfl rfl ?_ | refine o_mov rfl rfl ?_
               first | refine o_idxS rfl rfl rfl rfl (by assumption) ?_ | (refine o_idxSx rfl rfl rfl rfl (by omega) ?_; intro b_ hb_) | refine o_idxS rfl rfl rfl rfl rfl ?_
               first | refine o_eqln rfl rfl rfl ?_ | refine o_eqs rfl rfl rfl ?_ | refine o_bin rfl rfl rfl rfl ?_
               refine o_pickf rfl rfl rfl ?_
               first | refine o_asgd rfl rfl ?_ | refine o_asgo rfl rfl ?_ | refine o_asg rfl rfl (fun _ h_ => by cases h_) ?_
               refine op_nil ?_
               refine wp_ops ?_
               first | refine o_movd rfl rfl ?_ | refine o_movp rfl rfl ?_ | refine o_mova rfl rfl ?_ | refine o_mov rfl rfl ?_
               first | refine o_movd rfl rfl ?_ | refine o_movp rfl rfl ?_ | refine o_mova rfl rfl ?_ | refine o_mov rfl rfl ?_
               first | refine o_movd rfl rfl ?_ | refine o_movp rfl rfl ?_ | refine o_mova rfl rfl ?_ | refine o_mov rfl rfl ?_
               refine o_pickt rfl rfl rfl ?_
               first | refine o_asgd rfl rfl ?_ | refine o_asgo rfl rfl ?_ | refine o_asg rfl rfl (fun _ h_ => by cases h_) ?_
               refine op_nil ?_
               refine keepN (by (simp +decide only [Slots.keep, Slots.get, reduceIte]); exact rfl) ?_
               refine wp_ops ?_
               first | refine o_movd rfl rfl ?_ | refine o_movp rfl rfl ?_ | refine o_mova rfl rfl ?_ | refine o_mov rfl rfl ?_
               first | refine o_addkn rfl rfl rfl (by decide) (by (first | omega | (simp only [m64, mU, m8, n64, nU, n8, b64, bU, b8]; omega))) ?_ | refine o_cat rfl rfl rfl (by (first | omega | (simp only [m64, mU, m8, n64, nU, n8, b64, bU, b8]; omega))) ?_ | refine o_add rfl rfl rfl rfl (by omega) (by omega) ?_
               first | refine o_asgd rfl rfl ?_ | refine o_asgo rfl rfl ?_ | refine o_asg rfl rfl (fun _ h_ => by cases h_) ?_
               refine op_nil ?_
               refine ⟨rfl, m - 1, by omega, i + 1, by omega, by omega, ?_⟩
               first | rfl | (have hf_ := hfig _ _ hi hb_; have h120_ : b_.toNat = 120 := (by omega); simp only [h120_, decide_true]; rfl)
         ·first
          | exfalso; first | omega | (have := hfig _ _ hi ‹_›; omega)
          |skip
           refine o_skip rfl ?_
           refine o_skip rfl ?_
           refine o_skip rfl ?_
           refine o_skip rfl ?_
           refine o_pickf rfl rfl rfl ?_
           first | refine o_movd rfl rfl ?_ | refine o_movp rfl rfl ?_ | refine o_mova rfl rfl ?_ | refine o_mov rfl rfl ?_
           first | refine o_movd rfl rfl ?_ | refine o_movp rfl rfl ?_ | refine o_mova rfl rfl ?_ | refine o_mov rfl rfl ?_
           first | refine o_movd rfl rfl ?_ | refine o_movp rfl rfl ?_ | refine o_mova rfl rfl ?_ | refine o_mov rfl rfl ?_
           first | refine o_idxS rfl rfl rfl rfl (by assumption) ?_ | (refine o_idxSx rfl rfl rfl rfl (by omega) ?_; intro b_ hb_) | refine o_idxS rfl rfl rfl rfl rfl ?_
           first | refine o_geqn rfl rfl rfl ?_ | refine o_bin rfl rfl rfl rfl ?_
           first | refine o_movd rfl rfl ?_ | refine o_movp rfl rfl ?_ | refine o_mova rfl rfl ?_ | refine o_mov rfl rfl ?_
           refine o_ifp rfl ?_ ?_ <;> intro hq_ hg_ <;> simp only [hg_] <;> clear hg_
           ·first
            | exfalso; first | omega | (have := hfig _ _ hi ‹_›; omega)
            |skip
             first | refine o_movd rfl rfl ?_ | refine o_movp rfl rfl ?_ | refine o_mova rfl rfl ?_ | refine o_mov rfl rfl ?_
             first | refine o_movd rfl rfl ?_ | refine o_movp rfl rfl ?_ | refine o_mova rfl rfl ?_ | refine o_mov rfl rfl ?_
             first | refine o_idxS rfl rfl rfl rfl (by assumption) ?_ | (refine o_idxSx rfl rfl rfl rfl (by omega) ?_; intro b_ hb_) | refine o_idxS rfl rfl rfl rfl rfl ?_
             first | refine o_leqn rfl rfl rfl ?_ | refine o_bin rfl rfl rfl rfl ?_
             refine o_pickt rfl rfl rfl ?_
             refine o_pickf rfl rfl rfl ?_
             first | refine o_movd rfl rfl ?_ | refine o_movp rfl rfl ?_ | refine o_mova rfl rfl ?_ | refine o_mov rfl rfl ?_
             refine o_ifp rfl ?_ ?_ <;> intro hq_ hg_ <;> simp only [hg_] <;> clear hg_
             ·first
              | exfalso; first | omega | (have := hfig _ _ hi ‹_›; omega)
              |skip
               refine o_skip rfl ?_
               refine o_skip rfl ?_
               refine o_skip rfl ?_
               refine o_skip rfl ?_
               refine o_pickt rfl rfl rfl ?_
               first | refine o_asgd rfl rfl ?_ | refine o_asgo rfl rfl ?_ | refine o_asg rfl rfl (fun _ h_ => by cases h_) ?_
               refine op_nil ?_
               refine wp_ops ?_
               first | refine o_movd rfl rfl ?_ | refine o_movp rfl rfl ?_ | refine o_mova rfl rfl ?_ | refine o_mov rfl rfl ?_
               first | refine o_movd rfl rfl ?_ | refine o_movp rfl rfl ?_ | refine o_mova rfl rfl ?_ | refine o_mov rfl rfl ?_
               first | refine o_movd rfl rfl ?_ | refine o_movp rfl rfl ?_ | refine o_mova rfl rfl ?_ | refine o_mov rfl rfl ?_
               refine o_pickt rfl rfl rfl ?_
               first | refine o_asgd rfl rfl ?_ | refine o_asgo rfl rfl ?_ | refine o_asg rfl rfl (fun _ h_ => by cases h_) ?_
               refine op_nil ?_
               refine keepN (by (simp +decide only [Slots.keep, Slots.get, reduceIte]); exact rfl) ?_
               refine wp_ops ?_
               first | refine o_movd rfl rfl ?_ | refine o_movp rfl rfl ?_ | refine o_mova rfl rfl ?_ | refine o_mov rfl rfl ?_
               first | refine o_addkn rfl rfl rfl (by decide) (by (first | omega | (simp only [m64, mU, m8, n64, nU, n8, b64, bU, b8]; omega))) ?_ | refine o_cat rfl rfl rfl (by (first | omega | (simp only [m64, mU, m8, n64, nU, n8, b64, bU, b8]; omega))) ?_ | refine o_add rfl rfl rfl rfl (by omega) (by omega) ?_
               first | refine o_asgd rfl rfl ?_ | refine o_asgo rfl rfl ?_ | refine o_asg rfl rfl (fun _ h_ => by cases h_) ?_
               refine op_nil ?_
               refine ⟨rfl, m - 1, by omega, i + 1, by omega, by omega, ?_⟩
               first | rfl | (have hf_ := hfig _ _ hi hb_; have h120_ : b_.toNat = 120 := (by omega); simp only [h120_, decide_true]; rfl)
             ·first
              | exfalso; first | omega | (have := hfig _ _ hi ‹_›; omega)
              |skip
               first | refine o_movd rfl rfl ?_ | refine o_movp rfl rfl ?_ | refine o_mova rfl rfl ?_ | refine o_mov rfl rfl ?_
               first | refine o_movd rfl rfl ?_ | refine o_movp rfl rfl ?_ | refine o_mova rfl rfl ?_ | refine o_mov rfl rfl ?_
               first | refine o_idxS rfl rfl rfl rfl (by assumption) ?_ | (refine o_idxSx rfl rfl rfl rfl (by omega) ?_; intro b_ hb_) | refine o_idxS rfl rfl rfl rfl rfl ?_
               first | refine o_eqln rfl rfl rfl ?_ | refine o_eqs rfl rfl rfl ?_ | refine o_bin rfl rfl rfl rfl ?_
               refine o_pickf rfl rfl rfl ?_
               first | refine o_asgd rfl rfl ?_ | refine o_asgo rfl rfl ?_ | refine o_asg rfl rfl (fun _ h_ => by cases h_) ?_
               refine op_nil ?_
               refine wp_ops ?_
               first | refine o_movd rfl rfl ?_ | refine o_movp rfl rfl ?_ | refine o_mova rfl rfl ?_ | refine o_mov rfl rfl ?_
               first | refine o_movd rfl rfl ?_ | refine o_movp rfl rfl ?_ | refine o_mova rfl rfl ?_ | refine o_mov rfl rfl ?_
               first | refine o_movd rfl rfl ?_ | refine o_movp rfl rfl ?_ | refine o_mova rfl rfl ?_ | refine o_mov rfl rfl ?_
               refine o_pickt rfl rfl rfl ?_
               first | refine o_asgd rfl rfl ?_ | refine o_asgo rfl rfl ?_ | refine o_asg rfl rfl (fun _ h_ => by cases h_) ?_
               refine op_nil ?_
               refine keepN (by (simp +decide only [Slots.keep, Slots.get, reduceIte]); exact rfl) ?_
               refine wp_ops ?_
               first | refine o_movd rfl rfl ?_ | refine o_movp rfl rfl ?_ | refine o_mova rfl rfl ?_ | refine o_mov rfl rfl ?_
               first | refine o_addkn rfl rfl rfl (by decide) (by (first | omega | (simp only [m64, mU, m8, n64, nU, n8, b64, bU, b8]; omega))) ?_ | refine o_cat rfl rfl rfl (by (first | omega | (simp only [m64, mU, m8, n64, nU, n8, b64, bU, b8]; omega))) ?_ | refine o_add rfl rfl rfl rfl (by omega) (by omega) ?_
               first | refine o_asgd rfl rfl ?_ | refine o_asgo rfl rfl ?_ | refine o_asg rfl rfl (fun _ h_ => by cases h_) ?_
               refine op_nil ?_
               refine ⟨rfl, m - 1, by omega, i + 1, by omega, by omega, ?_⟩
               first | rfl | (have hf_ := hfig _ _ hi hb_; have h120_ : b_.toNat = 120 := (by omega); simp only [h120_, decide_true]; rfl)
           ·first
            | exfalso; first | omega | (have := hfig _ _ hi ‹_›; omega)
            |skip
             refine o_skip rfl ?_
             refine o_skip rfl ?_
             refine o_skip rfl ?_
             refine o_skip rfl ?_
             refine o_pickf rfl rfl rfl ?_
             refine o_pickf rfl rfl rfl ?_
             first | refine o_movd rfl rfl ?_ | refine o_movp rfl rfl ?_ | refine o_mova rfl rfl ?_ | refine o_mov rfl rfl ?_
             first | refine o_movd rfl rfl ?_ | refine o_movp rfl rfl ?_ | refine o_mova rfl rfl ?_ | refine o_mov rfl rfl ?_
             first | refine o_movd rfl rfl ?_ | refine o_movp rfl rfl ?_ | refine o_mova rfl rfl ?_ | refine o_mov rfl rfl ?_
             first | refine o_idxS rfl rfl rfl rfl (by assumption) ?_ | (refine o_idxSx rfl rfl rfl rfl (by omega) ?_; intro b_ hb_) | refine o_idxS rfl rfl rfl rfl rfl ?_
             first | refine o_eqln rfl rfl rfl ?_ | refine o_eqs rfl rfl rfl ?_ | refine o_bin rfl rfl rfl rfl ?_
             refine o_pickf rfl rfl rfl ?_
             first | refine o_asgd rfl rfl ?_ | refine o_asgo rfl rfl ?_ | refine o_asg rfl rfl (fun _ h_ => by cases h_) ?_
             refine op_nil ?_
             refine wp_ops ?_
             first | refine o_movd rfl rfl ?_ | refine o_movp rfl rfl ?_ | refine o_mova rfl rfl ?_ | refine o_mov rfl rfl ?_
             first | refine o_movd rfl rfl ?_ | refine o_movp rfl rfl ?_ | refine o_mova rfl rfl ?_ | refine o_mov rfl rfl ?_
             first | refine o_movd rfl rfl ?_ | refine o_movp rfl rfl ?_ | refine o_mova rfl rfl ?_ | refine o_mov rfl rfl ?_
             refine o_pickt rfl rfl rfl ?_
             first | refine o_asgd rfl rfl ?_ | refine o_asgo rfl rfl ?_ | refine o_asg rfl rfl (fun _ h_ => by cases h_) ?_
             refine op_nil ?_
             refine keepN (by (simp +decide only [Slots.keep, Slots.get, reduceIte]); exact rfl) ?_
             refine wp_ops ?_
             first | refine o_movd rfl rfl ?_ | refine o_movp rfl rfl ?_ | refine o_mova rfl rfl ?_ | refine o_mov rfl rfl ?_
             first | refine o_addkn rfl rfl rfl (by decide) (by (first | omega | (simp only [m64, mU, m8, n64, nU, n8, b64, bU, b8]; omega))) ?_ | refine o_cat rfl rfl rfl (by (first | omega | (simp only [m64, mU, m8, n64, nU, n8, b64, bU, b8]; omega))) ?_ | refine o_add rfl rfl rfl rfl (by omega) (by omega) ?_
             first | refine o_asgd rfl rfl ?_ | refine o_asgo rfl rfl ?_ | refine o_asg rfl rfl (fun _ h_ => by cases h_) ?_
             refine op_nil ?_
             refine ⟨rfl, m - 1, by omega, i + 1, by omega, by omega, ?_⟩
             first | rfl | (have hf_ := hfig _ _ hi hb_; have h120_ : b_.toNat = 120 := (by omega); simp only [h120_, decide_true]; rfl)
       ·first
        | exfalso; first | omega | (have := hfig _ _ hi ‹_›; omega)
        |skip
         refine wp_exit ?_
         refine bx_here ?_
         refine keepN (by (simp +decide only [Slots.keep, Slots.get, reduceIte]); exact rfl) ?_
         refine wp_seq ?_
         refine wp_ops ?_
         first | refine o_movd rfl rfl ?_ | refine o_movp rfl rfl ?_ | refine o_mova rfl rfl ?_ | refine o_mov rfl rfl ?_
         first | refine o_movd rfl rfl ?_ | refine o_movp rfl rfl ?_ | refine o_mova rfl rfl ?_ | refine o_mov rfl rfl ?_
         first | refine o_movd rfl rfl ?_ | refine o_movp rfl rfl ?_ | refine o_mova rfl rfl ?_ | refine o_mov rfl rfl ?_
         first | refine o_movd rfl rfl ?_ | refine o_movp rfl rfl ?_ | refine o_mova rfl rfl ?_ | refine o_mov rfl rfl ?_
         first | refine o_eqln rfl rfl rfl ?_ | refine o_eqs rfl rfl rfl ?_ | refine o_bin rfl rfl rfl rfl ?_
         refine o_pickt rfl rfl rfl ?_
         first | refine o_movd rfl rfl ?_ | refine o_movp rfl rfl ?_ | refine o_mova rfl rfl ?_ | refine o_mov rfl rfl ?_
         refine o_ifp rfl ?_ ?_ <;> intro hq_ hg_ <;> simp only [hg_] <;> clear hg_
         ·first
          | exfalso; first | omega | (have := hfig _ _ hi ‹_›; omega)
          |skip
           first | refine o_movd rfl rfl ?_ | refine o_movp rfl rfl ?_ | refine o_mova rfl rfl ?_ | refine o_mov rfl rfl ?_
           first | refine o_movd rfl rfl ?_ | refine o_movp rfl rfl ?_ | refine o_mova rfl rfl ?_ | refine o_mov rfl rfl ?_
           refine o_lenS rfl rfl ?_
           first | refine o_eqln rfl rfl rfl ?_ | refine o_eqs rfl rfl rfl ?_ | refine o_bin rfl rfl rfl rfl ?_
           refine o_pickt rfl rfl rfl ?_
           first | refine o_movd rfl rfl ?_ | refine o_movp rfl rfl ?_ | refine o_mova rfl rfl ?_ | refine o_mov rfl rfl ?_
           refine o_ifp rfl ?_ ?_ <;> intro hq_ hg_ <;> simp only [hg_] <;> clear hg_
           ·first
            | exfalso; first | omega | (have := hfig _ _ hi ‹_›; omega)
            |skip
             first | refine o_movd rfl rfl ?_ | refine o_movp rfl rfl ?_ | refine o_mova rfl rfl ?_ | refine o_mov rfl rfl ?_
             first | refine o_eqln rfl rfl rfl ?_ | refine o_eqs rfl rfl rfl ?_ | refine o_bin rfl rfl rfl rfl ?_
             refine o_pickt rfl rfl rfl ?_
             first | refine o_movd rfl rfl ?_ | refine o_movp rfl rfl ?_ | refine o_mova rfl rfl ?_ | refine o_mov rfl rfl ?_
             refine o_ifp rfl ?_ ?_ <;> intro hq_ hg_ <;> simp only [hg_] <;> clear hg_
             ·first
              | exfalso; first | omega | (have := hfig _ _ hi ‹_›; omega)
              |skip
               first | refine o_movd rfl rfl ?_ | refine o_movp rfl rfl ?_ | refine o_mova rfl rfl ?_ | refine o_mov rfl rfl ?_
               refine o_pickt rfl rfl rfl ?_
               first | refine o_asgd rfl rfl ?_ | refine o_asgo rfl rfl ?_ | refine o_asg rfl rfl (fun _ h_ => by cases h_) ?_
               refine op_nil ?_
               refine wp_ret ?_
               refine end1 rfl rfl rfl ?_ (by first | rfl | simp)
               rfl
             ·first
              | exfalso; first | omega | (have := hfig _ _ hi ‹_›; omega)
              |skip
               refine o_skip rfl ?_
               refine o_pickf rfl rfl rfl ?_
               first | refine o_asgd rfl rfl ?_ | refine o_asgo rfl rfl ?_ | refine o_asg rfl rfl (fun _ h_ => by cases h_) ?_
               refine op_nil ?_
               refine wp_ret ?_
               refine end1 rfl rfl rfl ?_ (by first | rfl | simp)
               rfl
           ·first
            | exfalso; first | omega | (have := hfig _ _ hi ‹_›; omega)
            |skip
             refine o_skip rfl ?_
             refine o_skip rfl ?_
             refine o_pickf rfl rfl rfl ?_
             first | refine o_movd rfl rfl ?_ | refine o_movp rfl rfl ?_ | refine o_mova rfl rfl ?_ | refine o_mov rfl rfl ?_
             refine o_skip rfl ?_
             refine o_pickf rfl rfl rfl ?_
             first | refine o_asgd rfl rfl ?_ | refine o_asgo rfl rfl ?_ | refine o_asg rfl rfl (fun _ h_ => by cases h_) ?_
             refine op_nil ?_
             refine wp_ret ?_
             refine end1 rfl rfl rfl ?_ (by first | rfl | simp)
             rfl
         ·first
          | exfalso; first | omega | (have := hfig _ _ hi ‹_›; omega)
          |skip
           refine o_skip rfl ?_
           refine o_skip rfl ?_
           refine o_skip rfl ?_
           refine o_skip rfl ?_
           refine o_pickf rfl rfl rfl ?_
           first | refine o_movd rfl rfl ?_ | refine o_movp rfl rfl ?_ | refine o_mova rfl rfl ?_ | refine o_mov rfl rfl ?_
           refine o_skip rfl ?_
           refine o_skip rfl ?_
           refine o_pickf rfl rfl rfl ?_
           first | refine o_movd rfl rfl ?_ | refine o_movp rfl rfl ?_ | refine o_mova rfl rfl ?_ | refine o_mov rfl rfl ?_
           refine o_skip rfl ?_
           refine o_pickf rfl rfl rfl ?_
           first | refine o_asgd rfl rfl ?_ | refine o_asgo rfl rfl ?_ | refine o_asg rfl rfl (fun _ h_ => by cases h_) ?_
           refine op_nil ?_
           refine wp_ret ?_
           refine end1 rfl rfl rfl ?_ (by first | rfl | simp)
           rfl
     ·first
      | exfalso; omega
      |skip
       first | refine o_movd rfl rfl ?_ | refine o_movp rfl rfl ?_ | refine o_mova rfl rfl ?_ | refine o_mov rfl rfl ?_
       refine o_lenS rfl rfl ?_
       first | refine o_eqln rfl rfl rfl ?_ | refine o_eqs rfl rfl rfl ?_ | refine o_bin rfl rfl rfl rfl ?_
       first | refine o_movd rfl rfl ?_ | refine o_movp rfl rfl ?_ | refine o_mova rfl rfl ?_ | refine o_mov rfl rfl ?_
       refine o_ifp rfl ?_ ?_ <;> intro hq_ hg_ <;> simp only [hg_] <;> clear hg_
       ·first
        | exfalso; omega
        |skip
         first | refine o_movd rfl rfl ?_ | refine o_movp rfl rfl ?_ | refine o_mova rfl rfl ?_ | refine o_mov rfl rfl ?_
         first | refine o_idxS rfl rfl rfl rfl (by assumption) ?_ | (refine o_idxSx rfl rfl rfl rfl (by omega) ?_; intro b_ hb_) | refine o_idxS rfl rfl rfl rfl rfl ?_
         first | refine o_eqln rfl rfl rfl ?_ | refine o_eqs rfl rfl rfl ?_ | refine o_bin rfl rfl rfl rfl ?_
         refine o_pickt rfl rfl rfl ?_
         first | refine o_movd rfl rfl ?_ | refine o_movp rfl rfl ?_ | refine o_mova rfl rfl ?_ | refine o_mov rfl rfl ?_
         refine o_ifp rfl ?_ ?_ <;> intro hq_ hg_ <;> simp only [hg_] <;> clear hg_
         ·first
          | exfalso; omega
          |skip
           first | refine o_movd rfl rfl ?_ | refine o_movp rfl rfl ?_ | refine o_mova rfl rfl ?_ | refine o_mov rfl rfl ?_
           first | refine o_idxS rfl rfl rfl rfl (by assumption) ?_ | (refine o_idxSx rfl rfl rfl rfl (by omega) ?_; intro b_ hb_) | refine o_idxS rfl rfl rfl rfl rfl ?_
           first | refine o_eqln rfl rfl rfl ?_ | refine o_eqs rfl rfl rfl ?_ | refine o_bin rfl rfl rfl rfl ?_
           refine o_pickt rfl rfl rfl ?_
           refine o_pickf rfl rfl rfl ?_
           first | refine o_asgd rfl rfl ?_ | refine o_asgo rfl rfl ?_ | refine o_asg rfl rfl (fun _ h_ => by cases h_) ?_
           refine op_nil ?_
           refine wp_seq ?_
           refine wp_seq ?_
           refine wp_ops ?_
           first | refine o_asgd rfl rfl ?_ | refine o_asgo rfl rfl ?_ | refine o_asg rfl rfl (fun _ h_ => by cases h_) ?_
           refine op_nil ?_
           refine wp_keep ?_
           refine wp_block ?_
           try simp only [show decide (e1.toNat = 120) = true from decide_eq_true (by assumption)]
           refine wp_loop (m := 4) (fun m st => ∃ i : Nat, 1 ≤ i ∧ i + m = 5 ∧ st = ⟨[(0, u8 c), (5, bl true), (6, str s), (7, u8 c), (8, i64 s.length), (9, i64 (0 : Nat)), (10, bl true), (11, i64 i)], [], [], none, 0⟩) ⟨1, by omega, by omega, rfl⟩ ?_
           rintro m st ⟨i, hi, him, rfl⟩ -
           refine wp_seq ?_
           refine wp_seq ?_
           refine wp_ops ?_
           first | refine o_movd rfl rfl ?_ | refine o_movp rfl rfl ?_ | refine o_mova rfl rfl ?_ | refine o_mov rfl rfl ?_
           first | refine o_movd rfl rfl ?_ | refine o_movp rfl rfl ?_ | refine o_mova rfl rfl ?_ | refine o_mov rfl rfl ?_
           refine o_lenS rfl rfl ?_
           first | refine o_lssn rfl rfl rfl ?_ | refine o_bin rfl rfl rfl rfl ?_
           refine op_nil ?_
           first | refine wp_if rfl ?_ ?_ <;> intro hq_ | refine wp_cond rfl ?_ ?_ <;> intro hq_
           ·first
            | exfalso; first | omega | (have := hfig _ _ hi ‹_›; omega)
            |skip
             refine wp_skip ?_
             refine wp_seq ?_
             refine wp_keep ?_
             refine wp_block ?_
             refine wp_seq ?_
             refine wp_ops ?_
             first | refine o_movd rfl rfl ?_ | refine o_movp rfl rfl ?_ | refine o_mova rfl rfl ?_ | refine o_mov rfl rfl ?_
             first | refine o_movd rfl rfl ?_ | refine o_movp rfl rfl ?_ | refine o_mova rfl rfl ?_ | refine o_mov rfl rfl ?_
             first | refine o_idxS rfl rfl rfl rfl (by assumption) ?_ | (refine o_idxSx rfl rfl rfl rfl (by omega) ?_; intro b_ hb_) | refine o_idxS rfl rfl rfl rfl rfl ?_
             first | refine o_geqn rfl rfl rfl ?_ | refine o_bin rfl rfl rfl rfl ?_
             first | refine o_movd rfl rfl ?_ | refine o_movp rfl rfl ?_ | refine o_mova rfl rfl ?_ | refine o_mov rfl rfl ?_
             refine o_ifp rfl ?_ ?_ <;> intro hq_ hg_ <;> simp only [hg_] <;> clear hg_
             ·first
              | exfalso; first | omega | (have := hfig _ _ hi ‹_›; omega)
              |skip
               first | refine o_movd rfl rfl ?_ | refine o_movp rfl rfl ?_ | refine o_mova rfl rfl ?_ | refine o_mov rfl rfl ?_
               first | refine o_movd rfl rfl ?_ | refine o_movp rfl rfl ?_ | refine o_mova rfl rfl ?_ | refine o_mov rfl rfl ?_
               first | refine o_idxS rfl rfl rfl rfl (by assumption) ?_ | (refine o_idxSx rfl rfl rfl rfl (by omega) ?_; intro b_ hb_) | refine o_idxS rfl rfl rfl rfl rfl ?_
               first | refine o_leqn rfl rfl rfl ?_ | refine o_bin rfl rfl rfl rfl ?_
               refine o_pickt rfl rfl rfl ?_
               first | refine o_movd rfl rfl ?_ | refine o_movp rfl rfl ?_ | refine o_mova rfl rfl ?_ | refine o_mov rfl rfl ?_
               refine o_ifp rfl ?_ ?_ <;> intro hq_ hg_ <;> simp only [hg_] <;> clear hg_
               ·first
                | exfalso; first | omega | (have := hfig _ _ hi ‹_›; omega)
                |skip
                 refine o_skip rfl ?_
                 refine o_skip rfl ?_
                 refine o_skip rfl ?_
                 refine o_skip rfl ?_
                 refine o_skip rfl ?_
                 refine o_skip rfl ?_
                 refine o_skip rfl ?_
                 refine o_skip rfl ?_
                 refine o_skip rfl ?_
                 refine o_skip rfl ?_
                 refine o_pickt rfl rfl rfl ?_
                 first | refine o_movd rfl rfl ?_ | refine o_movp rfl rfl ?_ | refine o_mova rfl rfl ?_ | refine o_mov rfl rfl ?_
                 refine o_skip rfl ?_
                 refine o_skip rfl ?_
                 refine o_skip rfl ?_
                 refine o_skip rfl ?_
                 refine o_pickt rfl rfl rfl ?_
                 first | refine o_asgd rfl rfl ?_ | refine o_asgo rfl rfl ?_ | refine o_asg rfl rfl (fun _ h_ => by cases h_) ?_
                 refine op_nil ?_
                 refine wp_ops ?_
                 first | refine o_movd rfl rfl ?_ | refine o_movp rfl rfl ?_ | refine o_mova rfl rfl ?_ | refine o_mov rfl rfl ?_
                 first | refine o_movd rfl rfl ?_ | refine o_movp rfl rfl ?_ | refine o_mova rfl rfl ?_ | refine o_mov rfl rfl ?_
                 first | refine o_movd rfl rfl ?_ | refine o_movp rfl rfl ?_ | refine o_mova rfl rfl ?_ | refine o_mov rfl rfl ?_
                 refine o_pickt rfl rfl rfl ?_
                 first | refine o_asgd rfl rfl ?_ | refine o_asgo rfl rfl ?_ | refine o_asg rfl rfl (fun _ h_ => by cases h_) ?_
                 refine op_nil ?_
                 refine keepN (by (simp +decide only [Slots.keep, Slots.get, reduceIte]); exact rfl) ?_
                 refine wp_ops ?_
                 first | refine o_movd rfl rfl ?_ | refine o_movp rfl rfl ?_ | refine o_mova rfl rfl ?_ | refine o_mov rfl rfl ?_
                 first | refine o_addkn rfl rfl rfl (by decide) (by (first | omega | (simp only [m64, mU, m8, n64, nU, n8, b64, bU, b8]; omega))) ?_ | refine o_cat rfl rfl rfl (by (first | omega | (simp only [m64, mU, m8, n64, nU, n8, b64, bU, b8]; omega))) ?_ | refine o_add rfl rfl rfl rfl (by omega) (by omega) ?_
                 first | refine o_asgd rfl rfl ?_ | refine o_asgo rfl rfl ?_ | refine o_asg rfl rfl (fun _ h_ => by cases h_) ?_
                 refine op_nil ?_
                 refine ⟨rfl, m - 1, by omega, i + 1, by omega, by omega, ?_⟩
                 first | rfl | (have hf_ := hfig _ _ hi hb_; have h120_ : b_.toNat = 120 := (by omega); simp only [h120_, decide_true]; rfl)
               ·first
                | exfalso; first | omega | (have := hfig _ _ hi ‹_›; omega)
                |skip
                 first | refine o_movd rfl rfl ?_ | refine o_movp rfl rfl ?_ | refine o_mova rfl rfl ?_ | refine o_mov rfl rfl ?_
                 first | refine o_movd rfl rfl ?_ | refine o_movp rfl rfl ?_ | refine o_mova rfl rfl ?_ | refine o_mov rfl rfl ?_
                 first | refine o_idxS rfl rfl rfl rfl (by assumption) ?_ | (refine o_idxSx rfl rfl rfl rfl (by omega) ?_; intro b_ hb_) | refine o_idxS rfl rfl rfl rfl rfl ?_
                 first | refine o_geqn rfl rfl rfl ?_ | refine o_bin rfl rfl rfl rfl ?_
                 first | refine o_movd rfl rfl ?_ | refine o_movp rfl rfl ?_ | refine o_mova rfl rfl ?_ | refine o_mov rfl rfl ?_
                 refine o_ifp rfl ?_ ?_ <;> intro hq_ hg_ <;> simp only [hg_] <;> clear hg_
                 ·first
                  | exfalso; first | omega | (have := hfig _ _ hi ‹_›; omega)
                  |skip
                   first | refine o_movd rfl rfl ?_ | refine o_movp rfl rfl ?_ | refine o_mova rfl rfl ?_ | refine o_mov rfl rfl ?_
                   first | refine o_movd rfl rfl ?_ | refine o_movp rfl rfl ?_ | refine o_mova rfl rfl ?_ | refine o_mov rfl rfl ?_
                   first | refine o_idxS rfl rfl rfl rfl (by assumption) ?_ | (refine o_idxSx rfl rfl rfl rfl (by omega) ?_; intro b_ hb_) | refine o_idxS rfl rfl rfl rfl rfl ?_
                   first | refine o_leqn rfl rfl rfl ?_ | refine o_bin rfl rfl rfl rfl ?_
                   refine o_pickt rfl rfl rfl ?_
                   refine o_pickf rfl rfl rfl ?_
                   first | refine o_movd rfl rfl ?_ | refine o_movp rfl rfl ?_ | refine o_mova rfl rfl ?_ | refine o_mov rfl rfl ?_
                   refine o_ifp rfl ?_ ?_ <;> intro hq_ hg_ <;> simp only [hg_] <;> clear hg_
                   ·first
                    | exfalso; first | omega | (have := hfig _ _ hi ‹_›; omega)
                    |skip
                     refine o_skip rfl ?_
                     refine o_skip rfl ?_
                     refine o_skip rfl ?_
                     refine o_skip rfl ?_
                     refine o_pickt rfl rfl rfl ?_
                     first | refine o_asgd rfl rfl ?_ | refine o_asgo rfl rfl ?_ | refine o_asg rfl rfl (fun _ h_ => by cases h_) ?_
                     refine op_nil ?_
                     refine wp_ops ?_
                     first | refine o_movd rfl rfl ?_ | refine o_movp rfl rfl ?_ | refine o_mova rfl rfl ?_ | refine o_mov rfl rfl ?_
                     first | refine o_movd rfl rfl ?_ | refine o_movp rfl rfl ?_ | refine o_mova rfl rfl ?_ | refine o_mov rfl rfl ?_
                     first | refine o_movd rfl rfl ?_ | refine o_movp rfl rfl ?_ | refine o_mova rfl rfl ?_ | refine o_mov rfl rfl ?_
                     refine o_pickt rfl rfl rfl ?_
                     first | refine o_asgd rfl rfl ?_ | refine o_asgo rfl rfl ?_ | refine o_asg rfl rfl (fun _ h_ => by cases h_) ?_
                     refine op_nil ?_
                     refine keepN (by (simp +decide only [Slots.keep, Slots.get, reduceIte]); exact rfl) ?_
                     refine wp_ops ?_
                     first | refine o_movd rfl rfl ?_ | refine o_movp rfl rfl ?_ | refine o_mova rfl rfl ?_ | refine o_mov rfl rfl ?_
                     first | refine o_addkn rfl rfl rfl (by decide) (by (first | omega | (simp only [m64, mU, m8, n64, nU, n8, b64, bU, b8]; omega))) ?_ | refine o_cat rfl rfl rfl (by (first | omega | (simp only [m64, mU, m8, n64, nU, n8, b64, bU, b8]; omega))) ?_ | refine o_add rfl rfl rfl rfl (by omega) (by omega) ?_
                     first | refine o_asgd rfl rfl ?_ | refine o_asgo rfl rfl ?_ | refine o_asg rfl rfl (fun _ h_ => by cases h_) ?_
                     refine op_nil ?_
                     refine ⟨rfl, m - 1, by omega, i + 1, by omega, by omega, ?_⟩
                     first | rfl | (have hf_ := hfig _ _ hi hb_; have h120_ : b_.toNat = 120 := (by omega); simp only [h120_, decide_true]; rfl)
                   ·first
                    | exfalso; first | omega | (have := hfig _ _ hi ‹_›; omega)
                    |skip
                     first | refine o_movd rfl rfl ?_ | refine o_movp rfl rfl ?_ | refine o_mova rfl rfl ?_ | refine o_mov rfl rfl ?_
                     first | refine o_movd rfl rfl ?_ | refine o_movp rfl rfl ?_ | refine o_mova rfl rfl ?_ | refine o_mov rfl rfl ?_
                     first | refine o_idxS rfl rfl rfl rfl (by assumption) ?_ | (refine o_idxSx rfl rfl rfl rfl (by omega) ?_; intro b_ hb_) | refine o_idxS rfl rfl rfl rfl rfl ?_
                     first | refine o_eqln rfl rfl rfl ?_ | refine o_eqs rfl rfl rfl ?_ | refine o_bin rfl rfl rfl rfl ?_
                     refine o_pickf rfl rfl rfl ?_
                     first | refine o_asgd rfl rfl ?_ | refine o_asgo rfl rfl ?_ | refine o_asg rfl rfl (fun _ h_ => by cases h_) ?_
                     refine op_nil ?_
                     refine wp_ops ?_
                     first | refine o_movd rfl rfl ?_ | refine o_movp rfl rfl ?_ | refine o_mova rfl rfl ?_ | refine o_mov rfl rfl ?_
                     first | refine o_movd rfl rfl ?_ | refine o_movp rfl rfl ?_ | refine o_mova rfl rfl ?_ | refine o_mov rfl rfl ?_
                     first | refine o_movd rfl rfl ?_ | refine o_movp rfl rfl ?_ | refine o_mova rfl rfl ?_ | refine o_mov rfl rfl ?_
                     refine o_pickt rfl rfl rfl ?_
                     first | refine o_asgd rfl rfl ?_ | refine o_asgo rfl rfl ?_ | refine o_asg rfl rfl (fun _ h_ => by cases h_) ?_
                     refine op_nil ?_
                     refine keepN (by (simp +decide only [Slots.keep, Slots.get, reduceIte]); exact rfl) ?_
                     refine wp_ops ?_
                     first | refine o_movd rfl rfl ?_ | refine o_movp rfl rfl ?_ | refine o_mova rfl rfl ?_ | refine o_mov rfl rfl ?_
                     first | refine o_addkn rfl rfl rfl (by decide) (by (first | omega | (simp only [m64, mU, m8, n64, nU, n8, b64, bU, b8]; omega))) ?_ | refine o_cat rfl rfl rfl (by (first | omega | (simp only [m64, mU, m8, n64, nU, n8, b64, bU, b8]; omega))) ?_ | refine o_add rfl rfl rfl rfl (by omega) (by omega) ?_
                     first | refine o_asgd rfl rfl ?_ | refine o_asgo rfl rfl ?_ | refine o_asg rfl rfl (fun _ h_ => by cases h_) ?_
                     refine op_nil ?_
                     refine ⟨rfl, m - 1, by omega, i + 1, by omega, by omega, ?_⟩
                     first | rfl | (have hf_ := hfig _ _ hi hb_; have h120_ : b_.toNat = 120 := (by omega); simp only [h120_, decide_true]; rfl)
                 ·first
                  | exfalso; first | omega | (have := hfig _ _ hi ‹_›; omega)
                  |skip
                   refine o_skip rfl ?_
                   refine o_skip rfl ?_
                   refine o_skip rfl ?_
                   refine o_skip rfl ?_
                   refine o_pickf rfl rfl rfl ?_
                   refine o_pickf rfl rfl rfl ?_
                   first | refine o_movd rfl rfl ?_ | refine o_movp rfl rfl ?_ | refine o_mova rfl rfl ?_ | refine o_mov rfl rfl ?_
                   first | refine o_movd rfl rfl ?_ | refine o_movp rfl rfl ?_ | refine o_mova rfl rfl ?_ | refine o_mov rfl rfl ?_
                   first | refine o_movd rfl rfl ?_ | refine o_movp rfl rfl ?_ | refine o_mova rfl rfl ?_ | refine o_mov rfl rfl ?_
                   first | refine o_idxS rfl rfl rfl rfl (by assumption) ?_ | (refine o_idxSx rfl rfl rfl rfl (by omega) ?_; intro b_ hb_) | refine o_idxS rfl rfl rfl rfl rfl ?_
                   first | refine o_eqln rfl rfl rfl ?_ | refine o_eqs rfl rfl rfl ?_ | refine o_bin rfl rfl rfl rfl ?_
                   refine o_pickf rfl rfl rfl ?_
                   first | refine o_asgd rfl rfl ?_ | refine o_asgo rfl rfl ?_ | refine o_asg rfl rfl (fun _ h_ => by cases h_) ?_
                   refine op_nil ?_
                   refine wp_ops ?_
                   first | refine o_movd rfl rfl ?_ | refine o_movp rfl rfl ?_ | refine o_mova rfl rfl ?_ | refine o_mov rfl rfl ?_
                   first | refine o_movd rfl rfl ?_ | refine o_movp rfl rfl ?_ | refine o_mova rfl rfl ?_ | refine o_mov rfl rfl ?_
                   first | refine o_movd rfl rfl ?_ | refine o_movp rfl rfl ?_ | refine o_mova rfl rfl ?_ | refine o_mov rfl rfl ?_
                   refine o_pickt rfl rfl rfl ?_
                   first | refine o_asgd rfl rfl ?_ | refine o_asgo rfl rfl ?_ | refine o_asg rfl rfl (fun _ h_ => by cases h_) ?_
                   refine op_nil ?_
                   refine keepN (by (simp +decide only [Slots.keep, Slots.get, reduceIte]); exact rfl) ?_
                   refine wp_ops ?_
                   first | refine o_movd rfl rfl ?_ | refine o_movp rfl rfl ?_ | refine o_mova rfl rfl ?_ | refine o_mov rfl rfl ?_
                   first | refine o_addkn rfl rfl rfl (by decide) (by (first | omega | (simp only [m64, mU, m8, n64, nU, n8, b64, bU, b8]; omega))) ?_ | refine o_cat rfl rfl rfl (by (first | omega | (simp only [m64, mU, m8, n64, nU, n8, b64, bU, b8]; omega))) ?_ | refine o_add rfl rfl rfl rfl (by omega) (by omega) ?_
                   first | refine o_asgd rfl rfl ?_ | refine o_asgo rfl rfl ?_ | refine o_asg rfl rfl (fun _ h_ => by cases h_) ?_
                   refine op_nil ?_
                   refine ⟨rfl, m - 1, by omega, i + 1, by omega, by omega, ?_⟩
                   first | rfl | (have hf_ := hfig _ _ hi hb_; have h120_ : b_.toNat = 120 := (by omega); simp only [h120_, decide_true]; rfl)
             ·first
              | exfalso; first | omega | (have := hfig _ _ hi ‹_›; omega)
              |skip
               refine o_skip rfl ?_
               refine o_skip rfl ?_
               refine o_skip rfl ?_
               refine o_skip rfl ?_
               refine o_pickf rfl rfl rfl ?_
               first | refine o_movd rfl rfl ?_ | refine o_movp rfl rfl ?_ | refine o_mova rfl rfl ?_ | refine o_mov rfl rfl ?_
               first | refine o_movd rfl rfl ?_ | refine o_movp rfl rfl ?_ | refine o_mova rfl rfl ?_ | refine o_mov rfl rfl ?_
               first | refine o_movd rfl rfl ?_ | refine o_movp rfl rfl ?_ | refine o_mova rfl rfl ?_ | refine o_mov rfl rfl ?_
               first | refine o_idxS rfl rfl rfl rfl (by assumption) ?_ | (refine o_idxSx rfl rfl rfl rfl (by omega) ?_; intro b_ hb_) | refine o_idxS rfl rfl rfl rfl rfl ?_
               first | refine o_geqn rfl rfl rfl ?_ | refine o_bin rfl rfl rfl rfl ?_
               first | refine o_movd rfl rfl ?_ | refine o_movp rfl rfl ?_ | refine o_mova rfl rfl ?_ | refine o_mov rfl rfl ?_
               refine o_ifp rfl ?_ ?_ <;> intro hq_ hg_ <;> simp only [hg_] <;> clear hg_
               ·first
                | exfalso; first | omega | (have := hfig _ _ hi ‹_›; omega)
                |skip
                 first | refine o_movd rfl rfl ?_ | refine o_movp rfl rfl ?_ | refine o_mova rfl rfl ?_ | refine o_mov rfl rfl ?_
                 first | refine o_movd rfl rfl ?_ | refine o_movp rfl rfl ?_ | refine o_mova rfl rfl ?_ | refine o_mov rfl rfl ?_
                 first | refine o_idxS rfl rfl rfl rfl (by assumption) ?_ | (refine o_idxSx rfl rfl rfl rfl (by omega) ?_; intro b_ hb_) | refine o_idxS rfl rfl rfl rfl rfl ?_
                 first | refine o_leqn rfl rfl rfl ?_ | refine o_bin rfl rfl rfl rfl ?_
                 refine o_pickt rfl rfl rfl ?_
                 refine o_pickf rfl rfl rfl ?_
                 first | refine o_movd rfl rfl ?_ | refine o_movp rfl rfl ?_ | refine o_mova rfl rfl ?_ | refine o_mov rfl rfl ?_
                 refine o_ifp rfl ?_ ?_ <;> intro hq_ hg_ <;> simp only [hg_] <;> clear hg_
                 ·first
                  | exfalso; first | omega | (have := hfig _ _ hi ‹_›; omega)
                  |skip
                   refine o_skip rfl ?_
                   refine o_skip rfl ?_
                   refine o_skip rfl ?_
                   refine o_skip rfl ?_
                   refine o_pickt rfl rfl rfl ?_
                   first | refine o_asgd rfl rfl ?_ | refine o_asgo rfl rfl ?_ | refine o_asg rfl rfl (fun _ h_ => by cases h_) ?_
                   refine op_nil ?_
                   refine wp_ops ?_
                   first | refine o_movd rfl rfl ?_ | refine o_movp rfl rfl ?_ | refine o_mova rfl rfl ?_ | refine o_mov rfl rfl ?_
                   first | refine o_movd rfl rfl ?_ | refine o_movp rfl rfl ?_ | refine o_mova rfl rfl ?_ | refine o_mov rfl rfl ?_
                   first | refine o_movd rfl rfl ?_ | refine o_movp rfl rfl ?_ | refine o_mova rfl rfl ?_ | refine o_mov rfl rfl ?_
                   refine o_pickt rfl rfl rfl ?_
                   first | refine o_asgd rfl rfl ?_ | refine o_asgo rfl rfl ?_ | refine o_asg rfl rfl (fun _ h_ => by cases h_) ?_
                   refine op_nil ?_
                   refine keepN (by (simp +decide only [Slots.keep, Slots.get, reduceIte]); exact rfl) ?_
                   refine wp_ops ?_
                   first | refine o_movd rfl rfl ?_ | refine o_movp rfl rfl ?_ | refine o_mova rfl rfl ?_ | refine o_mov rfl rfl ?_
                   first | refine o_addkn rfl rfl rfl (by decide) (by (first | omega | (simp only [m64, mU, m8, n64, nU, n8, b64, bU, b8]; omega))) ?_ | refine o_cat rfl rfl rfl (by (first | omega | (simp only [m64, mU, m8, n64, nU, n8, b64, bU, b8]; omega))) ?_ | refine o_add rfl rfl rfl rfl (by omega) (by omega) ?_
                   first | refine o_asgd rfl rfl ?_ | refine o_asgo rfl rfl ?_ | refine o_asg rfl rfl (fun _ h_ => by cases h_) ?_
                   refine op_nil ?_
                   refine ⟨rfl, m - 1, by omega, i + 1, by omega, by omega, ?_⟩
                   first | rfl | (have hf_ := hfig _ _ hi hb_; have h120_ : b_.toNat = 120 := (by omega); simp only [h120_, decide_true]; rfl)
                 ·first
                  | exfalso; first | omega | (have := hfig _ _ hi ‹_›; omega)
                  |skip
                   first | refine o_movd rfl rfl ?_ | refine o_movp rfl rfl ?_ | refine o_mova rfl rfl ?_ | refine o_mov rfl rfl ?_
                   first | refine o_movd rfl rfl ?_ | refine o_movp rfl rfl ?_ | refine o_mova rfl rfl ?_ | refine o_mov rfl rfl ?_
                   first | refine o_idxS rfl rfl rfl rfl (by assumption) ?_ | (refine o_idxSx rfl rfl rfl rfl (by omega) ?_; intro b_ hb_) | refine o_idxS rfl rfl rfl rfl rfl ?_
                   first | refine o_eqln rfl rfl rfl ?_ | refine o_eqs rfl rfl rfl ?_ | refine o_bin rfl rfl rfl rfl ?_
                   refine o_pickf rfl rfl rfl ?_
                   first | refine o_asgd rfl rfl ?_ | refine o_asgo rfl rfl ?_ | refine o_asg rfl rfl (fun _ h_ => by cases h_) ?_
                   refine op_nil ?_
                   refine wp_ops ?_
                   first | refine o_movd rfl rfl ?_ | refine o_movp rfl rfl ?_ | refine o_mova rfl rfl ?_ | refine o_mov rfl rfl ?_
                   first | refine o_movd rfl rfl ?_ | refine o_movp rfl rfl ?_ | refine o_mova rfl rfl ?_ | refine o_mov rfl rfl ?_
                   first | refine o_movd rfl rfl ?_ | refine o_movp rfl rfl ?_ | refine o_mova rfl rfl ?_ | refine o_mov rfl rfl ?_
                   refine o_pickt rfl rfl rfl ?_
                   first | refine o_asgd rfl rfl ?_ | refine o_asgo rfl rfl ?_ | refine o_asg rfl rfl (fun _ h_ => by cases h_) ?_
                   refine op_nil ?_
                   refine keepN (by (simp +decide only [Slots.keep, Slots.get, reduceIte]); exact rfl) ?_
                   refine wp_ops ?_
                   first | refine o_movd rfl rfl ?_ | refine o_movp rfl rfl ?_ | refine o_mova rfl rfl ?_ | refine o_mov rfl rfl ?_
                   first | refine o_addkn rfl rfl rfl (by decide) (by (first | omega | (simp only [m64, mU, m8, n64, nU, n8, b64, bU, b8]; omega))) ?_ | refine o_cat rfl rfl rfl (by (first | omega | (simp only [m64, mU, m8, n64, nU, n8, b64, bU, b8]; omega))) ?_ | refine o_add rfl rfl rfl rfl (by omega) (by omega) ?_
                   first | refine o_asgd rfl rfl ?_ | refine o_asgo rfl rfl ?_ | refine o_asg rfl rfl (fun _ h_ => by cases h_) ?_
                   refine op_nil ?_
                   refine ⟨rfl, m - 1, by omega, i + 1, by omega, by omega, ?_⟩
                   first | rfl | (have hf_ := hfig _ _ hi hb_; have h120_ : b_.toNat = 120 := (by omega); simp only [h120_, decide_true]; rfl)
               ·first
                | exfalso; first | omega | (have := hfig _ _ hi ‹_›; omega)
                |skip
                 refine o_skip rfl ?_
                 refine o_skip rfl ?_
                 refine o_skip rfl ?_
                 refine o_skip rfl ?_
                 refine o_pickf rfl rfl rfl ?_
                 refine o_pickf rfl rfl rfl ?_
                 first | refine o_movd rfl rfl ?_ | refine o_movp rfl rfl ?_ | refine o_mova rfl rfl ?_ | refine o_mov rfl rfl ?_
                 first | refine o_movd rfl rfl ?_ | refine o_movp rfl rfl ?_ | refine o_mova rfl rfl ?_ | refine o_mov rfl rfl ?_
                 first | refine o_movd rfl rfl ?_ | refine o_movp rfl rfl ?_ | refine o_mova rfl rfl ?_ | refine o_mov rfl rfl ?_
                 first | refine o_idxS rfl rfl rfl rfl (by assumption) ?_ | (refine o_idxSx rfl rfl rfl rfl (by omega) ?_; intro b_ hb_) | refine o_idxS rfl rfl rfl rfl rfl ?_
                 first | refine o_eqln rfl rfl rfl ?_ | refine o_eqs rfl rfl rfl ?_ | refine o_bin rfl rfl rfl rfl ?_
                 refine o_pickf rfl rfl rfl ?_
                 first | refine o_asgd rfl rfl ?_ | refine o_asgo rfl rfl ?_ | refine o_asg rfl rfl (fun _ h_ => by cases h_) ?_
                 refine op_nil ?_
                 refine wp_ops ?_
                 first | refine o_movd rfl rfl ?_ | refine o_movp rfl rfl ?_ | refine o_mova rfl rfl ?_ | refine o_mov rfl rfl ?_
                 first | refine o_movd rfl rfl ?_ | refine o_movp rfl rfl ?_ | refine o_mova rfl rfl ?_ | refine o_mov rfl rfl ?_
                 first | refine o_movd rfl rfl ?_ | refine o_movp rfl rfl ?_ | refine o_mova rfl rfl ?_ | refine o_mov rfl rfl ?_
                 refine o_pickt rfl rfl rfl ?_
                 first | refine o_asgd rfl rfl ?_ | refine o_asgo rfl rfl ?_ | refine o_asg rfl rfl (fun _ h_ => by cases h_) ?_
                 refine op_nil ?_
                 refine keepN (by (simp +decide only [Slots.keep, Slots.get, reduceIte]); exact rfl) ?_
                 refine wp_ops ?_
                 first | refine o_movd rfl rfl ?_ | refine o_movp rfl rfl ?_ | refine o_mova rfl rfl ?_ | refine o_mov rfl rfl ?_
                 first | refine o_addkn rfl rfl rfl (by decide) (by (first | omega | (simp only [m64, mU, m8, n64, nU, n8, b64, bU, b8]; omega))) ?_ | refine o_cat rfl rfl rfl (by (first | omega | (simp only [m64, mU, m8, n64, nU, n8, b64, bU, b8]; omega))) ?_ | refine o_add rfl rfl rfl rfl (by omega) (by omega) ?_
                 first | refine o_asgd rfl rfl ?_ | refine o_asgo rfl rfl ?_ | refine o_asg rfl rfl (fun _ h_ => by cases h_) ?_
                 refine op_nil ?_
                 refine ⟨rfl, m - 1, by omega, i + 1, by omega, by omega, ?_⟩
                 first | rfl | (have hf_ := hfig _ _ hi hb_; have h120_ : b_.toNat = 120 := (by omega); simp only [h120_, decide_true]; rfl)
           ·first
            | exfalso; first | omega | (have := hfig _ _ hi ‹_›; omega)
            |skip
             refine wp_exit ?_
             refine bx_here ?_
             refine keepN (by (simp +decide only [Slots.keep, Slots.get, reduceIte]); exact rfl) ?_
             refine wp_seq ?_
             refine wp_ops ?_
             first | refine o_movd rfl rfl ?_ | refine o_movp rfl rfl ?_ | refine o_mova rfl rfl ?_ | refine o_mov rfl rfl ?_
             first | refine o_movd rfl rfl ?_ | refine o_movp rfl rfl ?_ | refine o_mova rfl rfl ?_ | refine o_mov rfl rfl ?_
             first | refine o_movd rfl rfl ?_ | refine o_movp rfl rfl ?_ | refine o_mova rfl rfl ?_ | refine o_mov rfl rfl ?_
             first | refine o_movd rfl rfl ?_ | refine o_movp rfl rfl ?_ | refine o_mova rfl rfl ?_ | refine o_mov rfl rfl ?_
             first | refine o_eqln rfl rfl rfl ?_ | refine o_eqs rfl rfl rfl ?_ | refine o_bin rfl rfl rfl rfl ?_
             refine o_pickt rfl rfl rfl ?_
             first | refine o_movd rfl rfl ?_ | refine o_movp rfl rfl ?_ | refine o_mova rfl rfl ?_ | refine o_mov rfl rfl ?_
             refine o_ifp rfl ?_ ?_ <;> intro hq_ hg_ <;> simp only [hg_] <;> clear hg_
             ·first
              | exfalso; first | omega | (have := hfig _ _ hi ‹_›; omega)
              |skip
               first | refine o_movd rfl rfl ?_ | refine o_movp rfl rfl ?_ | refine o_mova rfl rfl ?_ | refine o_mov rfl rfl ?_
               first | refine o_movd rfl rfl ?_ | refine o_movp rfl rfl ?_ | refine o_mova rfl rfl ?_ | refine o_mov rfl rfl ?_
               refine o_lenS rfl rfl ?_
               first | refine o_eqln rfl rfl rfl ?_ | refine o_eqs rfl rfl rfl ?_ | refine o_bin rfl rfl rfl rfl ?_
               refine o_pickt rfl rfl rfl ?_
               first | refine o_movd rfl rfl ?_ | refine o_movp rfl rfl ?_ | refine o_mova rfl rfl ?_ | refine o_mov rfl rfl ?_
               refine o_ifp rfl ?_ ?_ <;> intro hq_ hg_ <;> simp only [hg_] <;> clear hg_
               ·first
                | exfalso; first | omega | (have := hfig _ _ hi ‹_›; omega)
                |skip
                 first | refine o_movd rfl rfl ?_ | refine o_movp rfl rfl ?_ | refine o_mova rfl rfl ?_ | refine o_mov rfl rfl ?_
                 first | refine o_eqln rfl rfl rfl ?_ | refine o_eqs rfl rfl rfl ?_ | refine o_bin rfl rfl rfl rfl ?_
                 refine o_pickt rfl rfl rfl ?_
                 first | refine o_movd rfl rfl ?_ | refine o_movp rfl rfl ?_ | refine o_mova rfl rfl ?_ | refine o_mov rfl rfl ?_
                 refine o_ifp rfl ?_ ?_ <;> intro hq_ hg_ <;> simp only [hg_] <;> clear hg_
                 ·first
                  | exfalso; first | omega | (have := hfig _ _ hi ‹_›; omega)
                  |skip
                   first | refine o_movd rfl rfl ?_ | refine o_movp rfl rfl ?_ | refine o_mova rfl rfl ?_ | refine o_mov rfl rfl ?_
                   refine o_pickt rfl rfl rfl ?_
                   first | refine o_asgd rfl rfl ?_ | refine o_asgo rfl rfl ?_ | refine o_asg rfl rfl (fun _ h_ => by cases h_) ?_
                   refine op_nil ?_
                   refine wp_ret ?_
                   refine end1 rfl rfl rfl ?_ (by first | rfl | simp)
                   rfl
                 ·first
                  | exfalso; first | omega | (have := hfig _ _ hi ‹_›; omega)
                  |skip
                   refine o_skip rfl ?_
                   refine o_pickf rfl rfl rfl ?_
                   first | refine o_asgd rfl rfl ?_ | refine o_asgo rfl rfl ?_ | refine o_asg rfl rfl (fun _ h_ => by cases h_) ?_
                   refine op_nil ?_
                   refine wp_ret ?_
                   refine end1 rfl rfl rfl ?_ (by first | rfl | simp)
                   rfl
               ·first
                | exfalso; first | omega | (have := hfig _ _ hi ‹_›; omega)
                |skip
                 refine o_skip rfl ?_
                 refine o_skip rfl ?_
                 refine o_pickf rfl rfl rfl ?_
                 first | refine o_movd rfl rfl ?_ | refine o_movp rfl rfl ?_ | refine o_mova rfl rfl ?_ | refine o_mov rfl rfl ?_
                 refine o_skip rfl ?_
                 refine o_pickf rfl rfl rfl ?_
                 first | refine o_asgd rfl rfl ?_ | refine o_asgo rfl rfl ?_ | refine o_asg rfl rfl (fun _ h_ => by cases h_) ?_
                 refine op_nil ?_
                 refine wp_ret ?_
                 refine end1 rfl rfl rfl ?_ (by first | rfl | simp)
                 rfl
             ·first
              | exfalso; first | omega | (have := hfig _ _ hi ‹_›; omega)
              |skip
               refine o_skip rfl ?_
               refine o_skip rfl ?_
               refine o_skip rfl ?_
               refine o_skip rfl ?_
               refine o_pickf rfl rfl rfl ?_
               first | refine o_movd rfl rfl ?_ | refine o_movp rfl rfl ?_ | refine o_mova rfl rfl ?_ | refine o_mov rfl rfl ?_
               refine o_skip rfl ?_
               refine o_skip rfl ?_
               refine o_pickf rfl rfl rfl ?_
               first | refine o_movd rfl rfl ?_ | refine o_movp rfl rfl ?_ | refine o_mova rfl rfl ?_ | refine o_mov rfl rfl ?_
               refine o_skip rfl ?_
               refine o_pickf rfl rfl rfl ?_
               first | refine o_asgd rfl rfl ?_ | refine o_asgo rfl rfl ?_ | refine o_asg rfl rfl (fun _ h_ => by cases h_) ?_
               refine op_nil ?_
               refine wp_ret ?_
               refine end1 rfl rfl rfl ?_ (by first | rfl | simp)
               rfl
         ·first
          | exfalso; omega
          |skip
           refine o_skip rfl ?_
           refine o_skip rfl ?_
           refine o_skip rfl ?_
           refine o_pickf rfl rfl rfl ?_
           refine o_pickf rfl rfl rfl ?_
           first | refine o_asgd rfl rfl ?_ | refine o_asgo rfl rfl ?_ | refine o_asg rfl rfl (fun _ h_ => by cases h_) ?_
           refine op_nil ?_
           refine wp_seq ?_
           refine wp_seq ?_
           refine wp_ops ?_
           first | refine o_asgd rfl rfl ?_ | refine o_asgo rfl rfl ?_ | refine o_asg rfl rfl (fun _ h_ => by cases h_) ?_
           refine op_nil ?_
           refine wp_keep ?_
           refine wp_block ?_
           try simp only [show decide (e1.toNat = 120) = true from decide_eq_true (by assumption)]
           refine wp_loop (m := 4) (fun m st => ∃ i : Nat, 1 ≤ i ∧ i + m = 5 ∧ st = ⟨[(0, u8 c), (5, bl true), (6, str s), (7, u8 c), (8, i64 s.length), (9, i64 (0 : Nat)), (10, bl true), (11, i64 i)], [], [], none, 0⟩) ⟨1, by omega, by omega, rfl⟩ ?_
           rintro m st ⟨i, hi, him, rfl⟩ -
           refine wp_seq ?_
           refine wp_seq ?_
           refine wp_ops ?_
           first | refine o_movd rfl rfl ?_ | refine o_movp rfl rfl ?_ | refine o_mova rfl rfl ?_ | refine o_mov rfl rfl ?_
           first | refine o_movd rfl rfl ?_ | refine o_movp rfl rfl ?_ | refine o_mova rfl rfl ?_ | refine o_mov rfl rfl ?_
           refine o_lenS rfl rfl ?_
           first | refine o_lssn rfl rfl rfl ?_ | refine o_bin rfl rfl rfl rfl ?_
           refine op_nil ?_
           first | refine wp_if rfl ?_ ?_ <;> intro hq_ | refine wp_cond rfl ?_ ?_ <;> intro hq_
           ·first
            | exfalso; first | omega | (have := hfig _ _ hi ‹_›; omega)
            |skip
             refine wp_skip ?_
             refine wp_seq ?_
             refine wp_keep ?_
             refine wp_block ?_
             refine wp_seq ?_
             refine wp_ops ?_
             first | refine o_movd rfl rfl ?_ | refine o_movp rfl rfl ?_ | refine o_mova rfl rfl ?_ | refine o_mov rfl rfl ?_
             first | refine o_movd rfl rfl ?_ | refine o_movp rfl rfl ?_ | refine o_mova rfl rfl ?_ | refine o_mov rfl rfl ?_
             first | refine o_idxS rfl rfl rfl rfl (by assumption) ?_ | (refine o_idxSx rfl rfl rfl rfl (by omega) ?_; intro b_ hb_) | refine o_idxS rfl rfl rfl rfl rfl ?_
             first | refine o_geqn rfl rfl rfl ?_ | refine o_bin rfl rfl rfl rfl ?_
             first | refine o_movd rfl rfl ?_ | refine o_movp rfl rfl ?_ | refine o_mova rfl rfl ?_ | refine o_mov rfl rfl ?_
             refine o_ifp rfl ?_ ?_ <;> intro hq_ hg_ <;> simp only [hg_] <;> clear hg_
             ·first
              | exfalso; first | omega | (have := hfig _ _ hi ‹_›; omega)
              |skip
               first | refine o_movd rfl rfl ?_ | refine o_movp rfl rfl ?_ | refine o_mova rfl rfl ?_ | refine o_mov rfl rfl ?_
               first | refine o_movd rfl rfl ?_ | refine o_movp rfl rfl ?_ | refine o_mova rfl rfl ?_ | refine o_mov rfl rfl ?_
               first | refine o_idxS rfl rfl rfl rfl (by assumption) ?_ | (refine o_idxSx rfl rfl rfl rfl (by omega) ?_; intro b_ hb_) | refine o_idxS rfl rfl rfl rfl rfl ?_
               first | refine o_leqn rfl rfl rfl ?_ | refine o_bin rfl rfl rfl rfl ?_
               refine o_pickt rfl rfl rfl ?_
               first | refine o_movd rfl rfl ?_ | refine o_movp rfl rfl ?_ | refine o_mova rfl rfl ?_ | refine o_mov rfl rfl ?_
               refine o_ifp rfl ?_ ?_ <;> intro hq_ hg_ <;> simp only [hg_] <;> clear hg_
               ·first
                | exfalso; first | omega | (have := hfig _ _ hi ‹_›; omega)
                |skip
                 refine o_skip rfl ?_
                 refine o_skip rfl ?_
                 refine o_skip rfl ?_
                 refine o_skip rfl ?_
                 refine o_skip rfl ?_
                 refine o_skip rfl ?_
                 refine o_skip rfl ?_
                 refine o_skip rfl ?_
                 refine o_skip rfl ?_
                 refine o_skip rfl ?_
                 refine o_pickt rfl rfl rfl ?_
                 first | refine o_movd rfl rfl ?_ | refine o_movp rfl rfl ?_ | refine o_mova rfl rfl ?_ | refine o_mov rfl rfl ?_
                 refine o_skip rfl ?_
                 refine o_skip rfl ?_
                 refine o_skip rfl ?_
                 refine o_skip rfl ?_
                 refine o_pickt rfl rfl rfl ?_
                 first | refine o_asgd rfl rfl ?_ | refine o_asgo rfl rfl ?_ | refine o_asg rfl rfl (fun _ h_ => by cases h_) ?_
                 refine op_nil ?_
                 refine wp_ops ?_
                 first | refine o_movd rfl rfl ?_ | refine o_movp rfl rfl ?_ | refine o_mova rfl rfl ?_ | refine o_mov rfl rfl ?_
                 first | refine o_movd rfl rfl ?_ | refine o_movp rfl rfl ?_ | refine o_mova rfl rfl ?_ | refine o_mov rfl rfl ?_
                 first | refine o_movd rfl rfl ?_ | refine o_movp rfl rfl ?_ | refine o_mova rfl rfl ?_ | refine o_mov rfl rfl ?_
                 refine o_pickt rfl rfl rfl ?_
                 first | refine o_asgd rfl rfl ?_ | refine o_asgo rfl rfl ?_ | refine o_asg rfl rfl (fun _ h_ => by cases h_) ?_
                 refine op_nil ?_
                 refine keepN (by (simp +decide only [Slots.keep, Slots.get, reduceIte]); exact rfl) ?_
                 refine wp_ops ?_
                 first | refine o_movd rfl rfl ?_ | refine o_movp rfl rfl ?_ | refine o_mova rfl rfl ?_ | refine o_mov rfl rfl ?_
                 first | refine o_addkn rfl rfl rfl (by decide) (by (first | omega | (simp only [m64, mU, m8, n64, nU, n8, b64, bU, b8]; omega))) ?_ | refine o_cat rfl rfl rfl (by (first | omega | (simp only [m64, mU, m8, n64, nU, n8, b64, bU, b8]; omega))) ?_ | refine o_add rfl rfl rfl rfl (by omega) (by omega) ?_
                 first | refine o_asgd rfl rfl ?_ | refine o_asgo rfl rfl ?_ | refine o_asg rfl rfl (fun _ h_ => by cases h_) ?_
                 refine op_nil ?_
                 refine ⟨rfl, m - 1, by omega, i + 1, by omega, by omega, ?_⟩
                 first | rfl | (have hf_ := hfig _ _ hi hb_; have h120_ : b_.toNat = 120 := (by omega); simp only [h120_, decide_true]; rfl)
               ·first
                | exfalso; first | omega | (have := hfig _ _ hi ‹_›; omega)
                |skip
                 first | refine o_movd rfl rfl ?_ | refine o_movp rfl rfl ?_ | refine o_mova rfl rfl ?_ | refine o_mov rfl rfl ?_
                 first | refine o_movd rfl rfl ?_ | refine o_movp rfl rfl ?_ | refine o_mova rfl rfl ?_ | refine o_mov rfl rfl ?_
                 first | refine o_idxS rfl rfl rfl rfl (by assumption) ?_ | (refine o_idxSx rfl rfl rfl rfl (by omega) ?_; intro b_ hb_) | refine o_idxS rfl rfl rfl rfl rfl ?_
                 first | refine o_geqn rfl rfl rfl ?_ | refine o_bin rfl rfl rfl rfl ?_
                 first | refine o_movd rfl rfl ?_ | refine o_movp rfl rfl ?_ | refine o_mova rfl rfl ?_ | refine o_mov rfl rfl ?_
                 refine o_ifp rfl ?_ ?_ <;> intro hq_ hg_ <;> simp only [hg_] <;> clear hg_
                 ·first
                  | exfalso; first | omega | (have := hfig _ _ hi ‹_›; omega)
                  |skip
                   first | refine o_movd rfl rfl ?_ | refine o_movp rfl rfl ?_ | refine o_mova rfl rfl ?_ | refine o_mov rfl rfl ?_
                   first | refine o_movd rfl rfl ?_ | refine o_movp rfl rfl ?_ | refine o_mova rfl rfl ?_ | refine o_mov rfl rfl ?_
                   first | refine o_idxS rfl rfl rfl rfl (by assumption) ?_ | (refine o_idxSx rfl rfl rfl rfl (by omega) ?_; intro b_ hb_) | refine o_idxS rfl rfl rfl rfl rfl ?_
                   first | refine o_leqn rfl rfl rfl ?_ | refine o_bin rfl rfl rfl rfl ?_
                   refine o_pickt rfl rfl rfl ?_
                   refine o_pickf rfl rfl rfl ?_
                   first | refine o_movd rfl rfl ?_ | refine o_movp rfl rfl ?_ | refine o_mova rfl rfl ?_ | refine o_mov rfl rfl ?_
                   refine o_ifp rfl ?_ ?_ <;> intro hq_ hg_ <;> simp only [hg_] <;> clear hg_
                   ·first
                    | exfalso; first | omega | (have := hfig _ _ hi ‹_›; omega)
                    |skip
                     refine o_skip rfl ?_
                     refine o_skip rfl ?_
                     refine o_skip rfl ?_
                     refine o_skip rfl ?_
                     refine o_pickt rfl rfl rfl ?_
                     first | refine o_asgd rfl rfl ?_ | refine o_asgo rfl rfl ?_ | refine o_asg rfl rfl (fun _ h_ => by cases h_) ?_
                     refine op_nil ?_
                     refine wp_ops ?_
                     first | refine o_movd rfl rfl ?_ | refine o_movp rfl rfl ?_ | refine o_mova rfl rfl ?_ | refine o_mov rfl rfl ?_
                     first | refine o_movd rfl rfl ?_ | refine o_movp rfl rfl ?_ | refine o_mova rfl rfl ?_ | refine o_mov rfl rfl ?_
                     first | refine o_movd rfl rfl ?_ | refine o_movp rfl rfl ?_ | refine o_mova rfl rfl ?_ | refine o_mov rfl rfl ?_
                     refine o_pickt rfl rfl rfl ?_
                     first | refine o_asgd rfl rfl ?_ | refine o_asgo rfl rfl ?_ | refine o_asg rfl rfl (fun _ h_ => by cases h_) ?_
                     refine op_nil ?_
                     refine keepN (by (simp +decide only [Slots.keep, Slots.get, reduceIte]); exact rfl) ?_
                     refine wp_ops ?_
                     first | refine o_movd rfl rfl ?_ | refine o_movp rfl rfl ?_ | refine o_mova rfl rfl ?_ | refine o_mov rfl rfl ?_
                     first | refine o_addkn rfl rfl rfl (by decide) (by (first | omega | (simp only [m64, mU, m8, n64, nU, n8, b64, bU, b8]; omega))) ?_ | refine o_cat rfl rfl rfl (by (first | omega | (simp only [m64, mU, m8, n64, nU, n8, b64, bU, b8]; omega))) ?_ | refine o_add rfl rfl rfl rfl (by omega) (by omega) ?_
                     first | refine o_asgd rfl rfl ?_ | refine o_asgo rfl rfl ?_ | refine o_asg rfl rfl (fun _ h_ => by cases h_) ?_
                     refine op_nil ?_
                     refine ⟨rfl, m - 1, by omega, i + 1, by omega, by omega, ?_⟩
                     first | rfl | (have hf_ := hfig _ _ hi hb_; have h120_ : b_.toNat = 120 := (by omega); simp only [h120_, decide_true]; rfl)
                   ·first
                    | exfalso; first | omega | (have := hfig _ _ hi ‹_›; omega)
                    |skip
                     first | refine o_movd rfl rfl ?_ | refine o_movp rfl rfl ?_ | refine o_mova rfl rfl ?_ | refine o_mov rfl rfl ?_
                     first | refine o_movd rfl rfl ?_ | refine o_movp rfl rfl ?_ | refine o_mova rfl rfl ?_ | refine o_mov rfl rfl ?_
                     first | refine o_idxS rfl rfl rfl rfl (by assumption) ?_ | (refine o_idxSx rfl rfl rfl rfl (by omega) ?_; intro b_ hb_) | refine o_idxS rfl rfl rfl rfl rfl ?_
                     first | refine o_eqln rfl rfl rfl ?_ | refine o_eqs rfl rfl rfl ?_ | refine o_bin rfl rfl rfl rfl ?_
                     refine o_pickf rfl rfl rfl ?_
                     first | refine o_asgd rfl rfl ?_ | refine o_asgo rfl rfl ?_ | refine o_asg rfl rfl (fun _ h_ => by cases h_) ?_
                     refine op_nil ?_
                     refine wp_ops ?_
                     first | refine o_movd rfl rfl ?_ | refine o_movp rfl rfl ?_ | refine o_mova rfl rfl ?_ | refine o_mov rfl rfl ?_
                     first | refine o_movd rfl rfl ?_ | refine o_movp rfl rfl ?_ | refine o_mova rfl rfl ?_ | refine o_mov rfl rfl ?_
                     first | refine o_movd rfl rfl ?_ | refine o_movp rfl rfl ?_ | refine o_mova rfl rfl ?_ | refine o_mov rfl rfl ?_
                     refine o_pickt rfl rfl rfl ?_
                     first | refine o_asgd rfl rfl ?_ | refine o_asgo rfl rfl ?_ | refine o_asg rfl rfl (fun _ h_ => by cases h_) ?_
                     refine op_nil ?_
                     refine keepN (by (simp +decide only [Slots.keep, Slots.get, reduceIte]); exact rfl) ?_
                     refine wp_ops ?_
                     first | refine o_movd rfl rfl ?_ | refine o_movp rfl rfl ?_ | refine o_mova rfl rfl ?_ | refine o_mov rfl rfl ?_
                     first | refine o_addkn rfl rfl rfl (by decide) (by (first | omega | (simp only [m64, mU, m8, n64, nU, n8, b64, bU, b8]; omega))) ?_ | refine o_cat rfl rfl rfl (by (first | omega | (simp only [m64, mU, m8, n64, nU, n8, b64, bU, b8]; omega))) ?_ | refine o_add rfl rfl rfl rfl (by omega) (by omega) ?_
                     first | refine o_asgd rfl rfl ?_ | refine o_asgo rfl rfl ?_ | refine o_asg rfl rfl (fun _ h_ => by cases h_) ?_
                     refine op_nil ?_
                     refine ⟨rfl, m - 1, by omega, i + 1, by omega, by omega, ?_⟩
                     first | rfl | (have hf_ := hfig _ _ hi hb_; have h120_ : b_.toNat = 120 := (by omega); simp only [h120_, decide_true]; rfl)
                 ·first
                  | exfalso; first | omega | (have := hfig _ _ hi ‹_›; omega)
                  |skip
                   refine o_skip rfl ?_
                   refine o_skip rfl ?_
                   refine o_skip rfl ?_
                   refine o_skip rfl ?_
                   refine o_pickf rfl rfl rfl ?_
                   refine o_pickf rfl rfl rfl ?_
                   first | refine o_movd rfl rfl ?_ | refine o_movp rfl rfl ?_ | refine o_mova rfl rfl ?_ | refine o_mov rfl rfl ?_
                   first | refine o_movd rfl rfl ?_ | refine o_movp rfl rfl ?_ | refine o_mova rfl rfl ?_ | refine o_mov rfl rfl ?_
                   first | refine o_movd rfl rfl ?_ | refine o_movp rfl rfl ?_ | refine o_mova rfl rfl ?_ | refine o_mov rfl rfl ?_
                   first | refine o_idxS rfl rfl rfl rfl (by assumption) ?_ | (refine o_idxSx rfl rfl rfl rfl (by omega) ?_; intro b_ hb_) | refine o_idxS rfl rfl rfl rfl rfl ?_
                   first | refine o_eqln rfl rfl rfl ?_ | refine o_eqs rfl rfl rfl ?_ | refine o_bin rfl rfl rfl rfl ?_
                   refine o_pickf rfl rfl rfl ?_
                   first | refine o_asgd rfl rfl ?_ | refine o_asgo rfl rfl ?_ | refine o_asg rfl rfl (fun _ h_ => by cases h_) ?_
                   refine op_nil ?_
                   refine wp_ops ?_
                   first | refine o_movd rfl rfl ?_ | refine o_movp rfl rfl ?_ | refine o_mova rfl rfl ?_ | refine o_mov rfl rfl ?_
                   first | refine o_movd rfl rfl ?_ | refine o_movp rfl rfl ?_ | refine o_mova rfl rfl ?_ | refine o_mov rfl rfl ?_
                   first | refine o_movd rfl rfl ?_ | refine o_movp rfl rfl ?_ | refine o_mova rfl rfl ?_ | refine o_mov rfl rfl ?_
                   refine o_pickt rfl rfl rfl ?_
                   first | refine o_asgd rfl rfl ?_ | refine o_asgo rfl rfl ?_ | refine o_asg rfl rfl (fun _ h_ => by cases h_) ?_
                   refine op_nil ?_
                   refine keepN (by (simp +decide only [Slots.keep, Slots.get, reduceIte]); exact rfl) ?_
                   refine wp_ops ?_
                   first | refine o_movd rfl rfl ?_ | refine o_movp rfl rfl ?_ | refine o_mova rfl rfl ?_ | refine o_mov rfl rfl ?_
                   first | refine o_addkn rfl rfl rfl (by decide) (by (first | omega | (simp only [m64, mU, m8, n64, nU, n8, b64, bU, b8]; omega))) ?_ | refine o_cat rfl rfl rfl (by (first | omega | (simp only [m64, mU, m8, n64, nU, n8, b64, bU, b8]; omega))) ?_ | refine o_add rfl rfl rfl rfl (by omega) (by omega) ?_
                   first | refine o_asgd rfl rfl ?_ | refine o_asgo rfl rfl ?_ | refine o_asg rfl rfl (fun _ h_ => by cases h_) ?_
                   refine op_nil ?_
                   refine ⟨rfl, m - 1, by omega, i + 1, by omega, by omega, ?_⟩
                   first | rfl | (have hf_ := hfig _ _ hi hb_; have h120_ : b_.toNat = 120 := (by omega); simp only [h120_, decide_true]; rfl)
             ·first
              | exfalso; first | omega | (have := hfig _ _ hi ‹_›; omega)
              |skip
               refine o_skip rfl ?_
               refine o_skip rfl ?_
               refine o_skip rfl ?_
               refine o_skip rfl ?_
               refine o_pickf rfl rfl rfl ?_
               first | refine o_movd rfl rfl ?_ | refine o_movp rfl rfl ?_ | refine o_mova rfl rfl ?_ | refine o_mov rfl rfl ?_
               first | refine o_movd rfl rfl ?_ | refine o_movp rfl rfl ?_ | refine o_mova rfl rfl ?_ | refine o_mov rfl rfl ?_
               first | refine o_movd rfl rfl ?_ | refine o_movp rfl rfl ?_ | refine o_mova rfl rfl ?_ | refine o_mov rfl rfl ?_
               first | refine o_idxS rfl rfl rfl rfl (by assumption) ?_ | (refine o_idxSx rfl rfl rfl rfl (by omega) ?_; intro b_ hb_) | refine o_idxS rfl rfl rfl rfl rfl ?_
               first | refine o_geqn rfl rfl rfl ?_ | refine o_bin rfl rfl rfl rfl ?_
               first | refine o_movd rfl rfl ?_ | refine o_movp rfl rfl ?_ | refine o_mova rfl rfl ?_ | refine o_mov rfl rfl ?_
               refine o_ifp rfl ?_ ?_ <;> intro hq_ hg_ <;> simp only [hg_] <;> clear hg_
               ·first
                | exfalso; first | omega | (have := hfig _ _ hi ‹_›; omega)
                |skip
                 first | refine o_movd rfl rfl ?_ | refine o_movp rfl rfl ?_ | refine o_mova rfl rfl ?_ | refine o_mov rfl rfl ?_
                 first | refine o_movd rfl rfl ?_ | refine o_movp rfl rfl ?_ | refine o_mova rfl rfl ?_ | refine o_mov rfl rfl ?_
                 first | refine o_idxS rfl rfl rfl rfl (by assumption) ?_ | (refine o_idxSx rfl rfl rfl rfl (by omega) ?_; intro b_ hb_) | refine o_idxS rfl rfl rfl rfl rfl ?_
                 first | refine o_leqn rfl rfl rfl ?_ | refine o_bin rfl rfl rfl rfl ?_
                 refine o_pickt rfl rfl rfl ?_
                 refine o_pickf rfl rfl rfl ?_
                 first | refine o_movd rfl rfl ?_ | refine o_movp rfl rfl ?_ | refine o_mova rfl rfl ?_ | refine o_mov rfl rfl ?_
                 refine o_ifp rfl ?_ ?_ <;> intro hq_ hg_ <;> simp only [hg_] <;> clear hg_
                 ·first
                  | exfalso; first | omega | (have := hfig _ _ hi ‹_›; omega)
                  |skip
                   refine o_skip rfl ?_
                   refine o_skip rfl ?_
                   refine o_skip rfl ?_
                   refine o_skip rfl ?_
                   refine o_pickt rfl rfl rfl ?_
                   first | refine o_asgd rfl rfl ?_ | refine o_asgo rfl rfl ?_ | refine o_asg rfl rfl (fun _ h_ => by cases h_) ?_
                   refine op_nil ?_
                   refine wp_ops ?_
                   first | refine o_movd rfl rfl ?_ | refine o_movp rfl rfl ?_ | refine o_mova rfl rfl ?_ | refine o_mov rfl rfl ?_
                   first | refine o_movd rfl rfl ?_ | refine o_movp rfl rfl ?_ | refine o_mova rfl rfl ?_ | refine o_mov rfl rfl ?_
                   first | refine o_movd rfl rfl ?_ | refine o_movp rfl rfl ?_ | refine o_mova rfl rfl ?_ | refine o_mov rfl rfl ?_
                   refine o_pickt rfl rfl rfl ?_
                   first | refine o_asgd rfl rfl ?_ | refine o_asgo rfl rfl ?_ | refine o_asg rfl rfl (fun _ h_ => by cases h_) ?_
                   refine op_nil ?_
                   refine keepN (by (simp +decide only [Slots.keep, Slots.get, reduceIte]); exact rfl) ?_
                   refine wp_ops ?_
                   first | refine o_movd rfl rfl ?_ | refine o_movp rfl rfl ?_ | refine o_mova rfl rfl ?_ | refine o_mov rfl rfl ?_
                   first | refine o_addkn rfl rfl rfl (by decide) (by (first | omega | (simp only [m64, mU, m8, n64, nU, n8, b64, bU, b8]; omega))) ?_ | refine o_cat rfl rfl rfl (by (first | omega | (simp only [m64, mU, m8, n64, nU, n8, b64, bU, b8]; omega))) ?_ | refine o_add rfl rfl rfl rfl (by omega) (by omega) ?_
                   first | refine o_asgd rfl rfl ?_ | refine o_asgo rfl rfl ?_ | refine o_asg rfl rfl (fun _ h_ => by cases h_) ?_
                   refine op_nil ?_
                   refine ⟨rfl, m - 1, by omega, i + 1, by omega, by omega, ?_⟩
                   first | rfl | (have hf_ := hfig _ _ hi hb_; have h120_ : b_.toNat = 120 := (by omega); simp only [h120_, decide_true]; rfl)
                 ·first
                  | exfalso; first | omega | (have := hfig _ _ hi ‹_›; omega)
                  |skip
                   first | refine o_movd rfl rfl ?_ | refine o_movp rfl rfl ?_ | refine o_mova rfl rfl ?_ | refine o_mov rfl rfl ?_
                   first | refine o_movd rfl rfl ?_ | refine o_movp rfl rfl ?_ | refine o_mova rfl rfl ?_ | refine o_mov rfl rfl ?_
                   first | refine o_idxS rfl rfl rfl rfl (by assumption) ?_ | (refine o_idxSx rfl rfl rfl rfl (by omega) ?_; intro b_ hb_) | refine o_idxS rfl rfl rfl rfl rfl ?_
                   first | refine o_eqln rfl rfl rfl ?_ | refine o_eqs rfl rfl rfl ?_ | refine o_bin rfl rfl rfl rfl ?_
                   refine o_pickf rfl rfl rfl ?_
                   first | refine o_asgd rfl rfl ?_ | refine o_asgo rfl rfl ?_ | refine o_asg rfl rfl (fun _ h_ => by cases h_) ?_
                   refine op_nil ?_
                   refine wp_ops ?_
                   first | refine o_movd rfl rfl ?_ | refine o_movp rfl rfl ?_ | refine o_mova rfl rfl ?_ | refine o_mov rfl rfl ?_
                   first | refine o_movd rfl rfl ?_ | refine o_movp rfl rfl ?_ | refine o_mova rfl rfl ?_ | refine o_mov rfl rfl ?_
                   first | refine o_movd rfl rfl ?_ | refine o_movp rfl rfl ?_ | refine o_mova rfl rfl ?_ | refine o_mov rfl rfl ?_
                   refine o_pickt rfl rfl rfl ?_
                   first | refine o_asgd rfl rfl ?_ | refine o_asgo rfl rfl ?_ | refine o_asg rfl rfl (fun _ h_ => by cases h_) ?_
                   refine op_nil ?_
                   refine keepN (by (simp +decide only [Slots.keep, Slots.get, reduceIte]); exact rfl) ?_
                   refine wp_ops ?_
                   first | refine o_movd rfl rfl ?_ | refine o_movp rfl rfl ?_ | refine o_mova rfl rfl ?_ | refine o_mov rfl rfl ?_
                   first | refine o_addkn rfl rfl rfl (by decide) (by (first | omega | (simp only [m64, mU, m8, n64, nU, n8, b64, bU, b8]; omega))) ?_ | refine o_cat rfl rfl rfl (by (first | omega | (simp only [m64, mU, m8, n64, nU, n8, b64, bU, b8]; omega))) ?_ | refine o_add rfl rfl rfl rfl (by omega) (by omega) ?_
                   first | refine o_asgd rfl rfl ?_ | refine o_asgo rfl rfl ?_ | refine o_asg rfl rfl (fun _ h_ => by cases h_) ?_
                   refine op_nil ?_
                   refine ⟨rfl, m - 1, by omega, i + 1, by omega, by omega, ?_⟩
                   first | rfl | (have hf_ := hfig _ _ hi hb_; have h120_ : b_.toNat = 120 := (by omega); simp only [h120_, decide_true]; rfl)
               ·first
                | exfalso; first | omega | (have := hfig _ _ hi ‹_›; omega)
                |skip
                 refine o_skip rfl ?_
                 refine o_skip rfl ?_
                 refine o_skip rfl ?_
                 refine o_skip rfl ?_
                 refine o_pickf rfl rfl rfl ?_
                 refine o_pickf rfl rfl rfl ?_
                 first | refine o_movd rfl rfl ?_ | refine o_movp rfl rfl ?_ | refine o_mova rfl rfl ?_ | refine o_mov rfl rfl ?_
                 first | refine o_movd rfl rfl ?_ | refine o_movp rfl rfl ?_ | refine o_mova rfl rfl ?_ | refine o_mov rfl rfl ?_
                 first | refine o_movd rfl rfl ?_ | refine o_movp rfl rfl ?_ | refine o_mova rfl rfl ?_ | refine o_mov rfl rfl ?_
                 first | refine o_idxS rfl rfl rfl rfl (by assumption) ?_ | (refine o_idxSx rfl rfl rfl rfl (by omega) ?_; intro b_ hb_) | refine o_idxS rfl rfl rfl rfl rfl ?_
                 first | refine o_eqln rfl rfl rfl ?_ | refine o_eqs rfl rfl rfl ?_ | refine o_bin rfl rfl rfl rfl ?_
                 refine o_pickf rfl rfl rfl ?_
                 first | refine o_asgd rfl rfl ?_ | refine o_asgo rfl rfl ?_ | refine o_asg rfl rfl (fun _ h_ => by cases h_) ?_
                 refine op_nil ?_
                 refine wp_ops ?_
                 first | refine o_movd rfl rfl ?_ | refine o_movp rfl rfl ?_ | refine o_mova rfl rfl ?_ | refine o_mov rfl rfl ?_
                 first | refine o_movd rfl rfl ?_ | refine o_movp rfl rfl ?_ | refine o_mova rfl rfl ?_ | refine o_mov rfl rfl ?_
                 first | refine o_movd rfl rfl ?_ | refine o_movp rfl rfl ?_ | refine o_mova rfl rfl ?_ | refine o_mov rfl rfl ?_
                 refine o_pickt rfl rfl rfl ?_
                 first | refine o_asgd rfl rfl ?_ | refine o_asgo rfl rfl ?_ | refine o_asg rfl rfl (fun _ h_ => by cases h_) ?_
                 refine op_nil ?_
                 refine keepN (by (simp +decide only [Slots.keep, Slots.get, reduceIte]); exact rfl) ?_
                 refine wp_ops ?_
                 first | refine o_movd rfl rfl ?_ | refine o_movp rfl rfl ?_ | refine o_mova rfl rfl ?_ | refine o_mov rfl rfl ?_
                 first | refine o_addkn rfl rfl rfl (by decide) (by (first | omega | (simp only [m64, mU, m8, n64, nU, n8, b64, bU, b8]; omega))) ?_ | refine o_cat rfl rfl rfl (by (first | omega | (simp only [m64, mU, m8, n64, nU, n8, b64, bU, b8]; omega))) ?_ | refine o_add rfl rfl rfl rfl (by omega) (by omega) ?_
                 first | refine o_asgd rfl rfl ?_ | refine o_asgo rfl rfl ?_ | refine o_asg rfl rfl (fun _ h_ => by cases h_) ?_
                 refine op_nil ?_
                 refine ⟨rfl, m - 1, by omega, i + 1, by omega, by omega, ?_⟩
                 first | rfl | (have hf_ := hfig _ _ hi hb_; have h120_ : b_.toNat = 120 := (by omega); simp only [h120_, decide_true]; rfl)
           ·first
            | exfalso; first | omega | (have := hfig _ _ hi ‹_›; omega)
            |skip
             refine wp_exit ?_
             refine bx_here ?_
             refine keepN (by (simp +decide only [Slots.keep, Slots.get, reduceIte]); exact rfl) ?_
             refine wp_seq ?_
             refine wp_ops ?_
             first | refine o_movd rfl rfl ?_ | refine o_movp rfl rfl ?_ | refine o_mova rfl rfl ?_ | refine o_mov rfl rfl ?_
             first | refine o_movd rfl rfl ?_ | refine o_movp rfl rfl ?_ | refine o_mova rfl rfl ?_ | refine o_mov rfl rfl ?_
             first | refine o_movd rfl rfl ?_ | refine o_movp rfl rfl ?_ | refine o_mova rfl rfl ?_ | refine o_mov rfl rfl ?_
             first | refine o_movd rfl rfl ?_ | refine o_movp rfl rfl ?_ | refine o_mova rfl rfl ?_ | refine o_mov rfl rfl ?_
             first | refine o_eqln rfl rfl rfl ?_ | refine o_eqs rfl rfl rfl ?_ | refine o_bin rfl rfl rfl rfl ?_
             refine o_pickt rfl rfl rfl ?_
             first | refine o_movd rfl rfl ?_ | refine o_movp rfl rfl ?_ | refine o_mova rfl rfl ?_ | refine o_mov rfl rfl ?_
             refine o_ifp rfl ?_ ?_ <;> intro hq_ hg_ <;> simp only [hg_] <;> clear hg_
             ·first
              | exfalso; first | omega | (have := hfig _ _ hi ‹_›; omega)
              |skip
               first | refine o_movd rfl rfl ?_ | refine o_movp rfl rfl ?_ | refine o_mova rfl rfl ?_ | refine o_mov rfl rfl ?_
               first | refine o_movd rfl rfl ?_ | refine o_movp rfl rfl ?_ | refine o_mova rfl rfl ?_ | refine o_mov rfl rfl ?_
               refine o_lenS rfl rfl ?_
               first | refine o_eqln rfl rfl rfl ?_ | refine o_eqs rfl rfl rfl ?_ | refine o_bin rfl rfl rfl rfl ?_
               refine o_pickt rfl rfl rfl ?_
               first | refine o_movd rfl rfl ?_ | refine o_movp rfl rfl ?_ | refine o_mova rfl rfl ?_ | refine o_mov rfl rfl ?_
               refine o_ifp rfl ?_ ?_ <;> intro hq_ hg_ <;> simp only [hg_] <;> clear hg_
               ·first
                | exfalso; first | omega | (have := hfig _ _ hi ‹_›; omega)
                |skip
                 first | refine o_movd rfl rfl ?_ | refine o_movp rfl rfl ?_ | refine o_mova rfl rfl ?_ | refine o_mov rfl rfl ?_
                 first | refine o_eqln rfl rfl rfl ?_ | refine o_eqs rfl rfl rfl ?_ | refine o_bin rfl rfl rfl rfl ?_
                 refine o_pickt rfl rfl rfl ?_
                 first | refine o_movd rfl rfl ?_ | refine o_movp rfl rfl ?_ | refine o_mova rfl rfl ?_ | refine o_mov rfl rfl ?_
                 refine o_ifp rfl ?_ ?_ <;> intro hq_ hg_ <;> simp only [hg_] <;> clear hg_
                 ·first
                  | exfalso; first | omega | (have := hfig _ _ hi ‹_›; omega)
                  |skip
                   first | refine o_movd rfl rfl ?_ | refine o_movp rfl rfl ?_ | refine o_mova rfl rfl ?_ | refine o_mov rfl rfl ?_
                   refine o_pickt rfl rfl rfl ?_
                   first | refine o_asgd rfl rfl ?_ | refine o_asgo rfl rfl ?_ | refine o_asg rfl rfl (fun _ h_ => by cases h_) ?_
                   refine op_nil ?_
                   refine wp_ret ?_
                   refine end1 rfl rfl rfl ?_ (by first | rfl | simp)
                   rfl
                 ·first
                  | exfalso; first | omega | (have := hfig _ _ hi ‹_›; omega)
                  |skip
                   refine o_skip rfl ?_
                   refine o_pickf rfl rfl rfl ?_
                   first | refine o_asgd rfl rfl ?_ | refine o_asgo rfl rfl ?_ | refine o_asg rfl rfl (fun _ h_ => by cases h_) ?_
                   refine op_nil ?_
                   refine wp_ret ?_
                   refine end1 rfl rfl rfl ?_ (by first | rfl | simp)
                   rfl
               ·first
                | exfalso; first | omega | (have := hfig _ _ hi ‹_›; omega)
                |skip
                 refine o_skip rfl ?_
                 refine o_skip rfl ?_
                 refine o_pickf rfl rfl rfl ?_
                 first | refine o_movd rfl rfl ?_ | refine o_movp rfl rfl ?_ | refine o_mova rfl rfl ?_ | refine o_mov rfl rfl ?_
                 refine o_skip rfl ?_
                 refine o_pickf rfl rfl rfl ?_
                 first | refine o_asgd rfl rfl ?_ | refine o_asgo rfl rfl ?_ | refine o_asg rfl rfl (fun _ h_ => by cases h_) ?_
                 refine op_nil ?_
                 refine wp_ret ?_
                 refine end1 rfl rfl rfl ?_ (by first | rfl | simp)
                 rfl
             ·first
              | exfalso; first | omega | (have := hfig _ _ hi ‹_›; omega)
              |skip
               refine o_skip rfl ?_
               refine o_skip rfl ?_
               refine o_skip rfl ?_
               refine o_skip rfl ?_
               refine o_pickf rfl rfl rfl ?_
               first | refine o_movd rfl rfl ?_ | refine o_movp rfl rfl ?_ | refine o_mova rfl rfl ?_ | refine o_mov rfl rfl ?_
               refine o_skip rfl ?_
               refine o_skip rfl ?_
               refine o_pickf rfl rfl rfl ?_
               first | refine o_movd rfl rfl ?_ | refine o_movp rfl rfl ?_ | refine o_mova rfl rfl ?_ | refine o_mov rfl rfl ?_
               refine o_skip rfl ?_
               refine o_pickf rfl rfl rfl ?_
               first | refine o_asgd rfl rfl ?_ | refine o_asgo rfl rfl ?_ | refine o_asg rfl rfl (fun _ h_ => by cases h_) ?_
               refine op_nil ?_
               refine wp_ret ?_
               refine end1 rfl rfl rfl ?_ (by first | rfl | simp)
               rfl
       ·first
        | exfalso; omega
        |skip
         refine o_skip rfl ?_
         refine o_skip rfl ?_
         refine o_skip rfl ?_
         refine o_pickf rfl rfl rfl ?_
         first | refine o_movd rfl rfl ?_ | refine o_movp rfl rfl ?_ | refine o_mova rfl rfl ?_ | refine o_mov rfl rfl ?_
         refine o_skip rfl ?_
         refine o_skip rfl ?_
         refine o_skip rfl ?_
         refine o_pickf rfl rfl rfl ?_
         refine o_pickf rfl rfl rfl ?_
         first | refine o_asgd rfl rfl ?_ | refine o_asgo rfl rfl ?_ | refine o_asg rfl rfl (fun _ h_ => by cases h_) ?_
         refine op_nil ?_
         refine wp_seq ?_
         refine wp_seq ?_
         refine wp_ops ?_
         first | refine o_asgd rfl rfl ?_ | refine o_asgo rfl rfl ?_ | refine o_asg rfl rfl (fun _ h_ => by cases h_) ?_
         refine op_nil ?_
         refine wp_keep ?_
         refine wp_block ?_
         try simp only [show decide (e1.toNat = 120) = true from decide_eq_true (by assumption)]
         refine wp_loop (m := 4) (fun m st => ∃ i : Nat, 1 ≤ i ∧ i + m = 5 ∧ st = ⟨[(0, u8 c), (5, bl true), (6, str s), (7, u8 c), (8, i64 s.length), (9, i64 (0 : Nat)), (10, bl true), (11, i64 i)], [], [], none, 0⟩) ⟨1, by omega, by omega, rfl⟩ ?_
         rintro m st ⟨i, hi, him, rfl⟩ -
         refine wp_seq ?_
         refine wp_seq ?_
         refine wp_ops ?_
         first | refine o_movd rfl rfl ?_ | refine o_movp rfl rfl ?_ | refine o_mova rfl rfl ?_ | refine o_mov rfl rfl ?_
         first | refine o_movd rfl rfl ?_ | refine o_movp rfl rfl ?_ | refine o_mova rfl rfl ?_ | refine o_mov rfl rfl ?_
         refine o_lenS rfl rfl ?_
         first | refine o_lssn rfl rfl rfl ?_ | refine o_bin rfl rfl rfl rfl ?_
         refine op_nil ?_
         first | refine wp_if rfl ?_ ?_ <;> intro hq_ | refine wp_cond rfl ?_ ?_ <;> intro hq_
         ·first
          | exfalso; first | omega | (have := hfig _ _ hi ‹_›; omega)
          |skip
           refine wp_skip ?_
           refine wp_seq ?_
           refine wp_keep ?_
           refine wp_block ?_
           refine wp_seq ?_
           refine wp_ops ?_
           first | refine o_movd rfl rfl ?_ | refine o_movp rfl rfl ?_ | refine o_mova rfl rfl ?_ | refine o_mov rfl rfl ?_
           first | refine o_movd rfl rfl ?_ | refine o_movp rfl rfl ?_ | refine o_mova rfl rfl ?_ | refine o_mov rfl rfl ?_
           first | refine o_idxS rfl rfl rfl rfl (by assumption) ?_ | (refine o_idxSx rfl rfl rfl rfl (by omega) ?_; intro b_ hb_) | refine o_idxS rfl rfl rfl rfl rfl ?_
           first | refine o_geqn rfl rfl rfl ?_ | refine o_bin rfl rfl rfl rfl ?_
           first | refine o_movd rfl rfl ?_ | refine o_movp rfl rfl ?_ | refine o_mova rfl rfl ?_ | refine o_mov rfl rfl ?_
           refine o_ifp rfl ?_ ?_ <;> intro hq_ hg_ <;> simp only [hg_] <;> clear hg_
           ·first
            | exfalso; first | omega | (have := hfig _ _ hi ‹_›; omega)
            |skip
             first | refine o_movd rfl rfl ?_ | refine o_movp rfl rfl ?_ | refine o_mova rfl rfl ?_ | refine o_mov rfl rfl ?_
             first | refine o_movd rfl rfl ?_ | refine o_movp rfl rfl ?_ | refine o_mova rfl rfl ?_ | refine o_mov rfl rfl ?_
             first | refine o_idxS rfl rfl rfl rfl (by assumption) ?_ | (refine o_idxSx rfl rfl rfl rfl (by omega) ?_; intro b_ hb_) | refine o_idxS rfl rfl rfl rfl rfl ?_
             first | refine o_leqn rfl rfl rfl ?_ | refine o_bin rfl rfl rfl rfl ?_
             refine o_pickt rfl rfl rfl ?_
             first | refine o_movd rfl rfl ?_ | refine o_movp rfl rfl ?_ | refine o_mova rfl rfl ?_ | refine o_mov rfl rfl ?_
             refine o_ifp rfl ?_ ?_ <;> intro hq_ hg_ <;> simp only [hg_] <;> clear hg_
             ·first
              | exfalso; first | omega | (have := hfig _ _ hi ‹_›; omega)
              |skip
               refine o_skip rfl ?_
               refine o_skip rfl ?_
               refine o_skip rfl ?_
               refine o_skip rfl ?_
               refine o_skip rfl ?_
               refine o_skip rfl ?_
               refine o_skip rfl ?_
               refine o_skip rfl ?_
               refine o_skip rfl ?_
               refine o_skip rfl ?_
               refine o_pickt rfl rfl rfl ?_
               first | refine o_movd rfl rfl ?_ | refine o_movp rfl rfl ?_ | refine o_mova rfl rfl ?_ | refine o_mov rfl rfl ?_
               refine o_skip rfl ?_
               refine o_skip rfl ?_
               refine o_skip rfl ?_
               refine o_skip rfl ?_
               refine o_pickt rfl rfl rfl ?_
               first | refine o_asgd rfl rfl ?_ | refine o_asgo rfl rfl ?_ | refine o_asg rfl rfl (fun _ h_ => by cases h_) ?_
               refine op_nil ?_
               refine wp_ops ?_
               first | refine o_movd rfl rfl ?_ | refine o_movp rfl rfl ?_ | refine o_mova rfl rfl ?_ | refine o_mov rfl rfl ?_
               first | refine o_movd rfl rfl ?_ | refine o_movp rfl rfl ?_ | refine o_mova rfl rfl ?_ | refine o_mov rfl rfl ?_
               first | refine o_movd rfl rfl ?_ | refine o_movp rfl rfl ?_ | refine o_mova rfl rfl ?_ | refine o_mov rfl rfl ?_
               refine o_pickt rfl rfl rfl ?_
               first | refine o_asgd rfl rfl ?_ | refine o_asgo rfl rfl ?_ | refine o_asg rfl rfl (fun _ h_ => by cases h_) ?_
               refine op_nil ?_
               refine keepN (by (simp +decide only [Slots.keep, Slots.get, reduceIte]); exact rfl) ?_
               refine wp_ops ?_
               first | refine o_movd rfl rfl ?_ | refine o_movp rfl rfl ?_ | refine o_mova rfl rfl ?_ | refine o_mov rfl rfl ?_
               first | refine o_addkn rfl rfl rfl (by decide) (by (first | omega | (simp only [m64, mU, m8, n64, nU, n8, b64, bU, b8]; omega))) ?_ | refine o_cat rfl rfl rfl (by (first | omega | (simp only [m64, mU, m8, n64, nU, n8, b64, bU, b8]; omega))) ?_ | refine o_add rfl rfl rfl rfl (by omega) (by omega) ?_
               first | refine o_asgd rfl rfl ?_ | refine o_asgo rfl rfl ?_ | refine o_asg rfl rfl (fun _ h_ => by cases h_) ?_
               refine op_nil ?_
               refine ⟨rfl, m - 1, by omega, i + 1, by omega, by omega, ?_⟩
               first | rfl | (have hf_ := hfig _ _ hi hb_; have h120_ : b_.toNat = 120 := (by omega); simp only [h120_, decide_true]; rfl)
             ·first
              | exfalso; first | omega | (have := hfig _ _ hi ‹_›; omega)
              |skip
               first | refine o_movd rfl rfl ?_ | refine o_movp rfl rfl ?_ | refine o_mova rfl rfl ?_ | refine o_mov rfl rfl ?_
               first | refine o_movd rfl rfl ?_ | refine o_movp rfl rfl ?_ | refine o_mova rfl rfl ?_ | refine o_mov rfl rfl ?_
               first | refine o_idxS rfl rfl rfl rfl (by assumption) ?_ | (refine o_idxSx rfl rfl rfl rfl (by omega) ?_; intro b_ hb_) | refine o_idxS rfl rfl rfl rfl rfl ?_
               first | refine o_geqn rfl rfl rfl ?_ | refine o_bin rfl rfl rfl rfl ?_
               first | refine o_movd rfl rfl ?_ | refine o_movp rfl rfl ?_ | refine o_mova rfl rfl ?_ | refine o_mov rfl rfl ?_
               refine o_ifp rfl ?_ ?_ <;> intro hq_ hg_ <;> simp only [hg_] <;> clear hg_
               ·first
                | exfalso; first | omega | (have := hfig _ _ hi ‹_›; omega)
                |skip
                 first | refine o_movd rfl rfl ?_ | refine o_movp rfl rfl ?_ | refine o_mova rfl rfl ?_ | refine o_mov rfl rfl ?_
                 first | refine o_movd rfl rfl ?_ | refine o_movp rfl rfl ?_ | refine o_mova rfl rfl ?_ | refine o_mov rfl rfl ?_
                 first | refine o_idxS rfl rfl rfl rfl (by assumption) ?_ | (refine o_idxSx rfl rfl rfl rfl (by omega) ?_; intro b_ hb_) | refine o_idxS rfl rfl rfl rfl rfl ?_
                 first | refine o_leqn rfl rfl rfl ?_ | refine o_bin rfl rfl rfl rfl ?_
                 refine o_pickt rfl rfl rfl ?_
                 refine o_pickf rfl rfl rfl ?_
                 first | refine o_movd rfl rfl ?_ | refine o_movp rfl rfl ?_ | refine o_mova rfl rfl ?_ | refine o_mov rfl rfl ?_
                 refine o_ifp rfl ?_ ?_ <;> intro hq_ hg_ <;> simp only [hg_] <;> clear hg_
                 ·first
                  | exfalso; first | omega | (have := hfig _ _ hi ‹_›; omega)
                  |skip
                   refine o_skip rfl ?_
                   refine o_skip rfl ?_
                   refine o_skip rfl ?_
                   refine o_skip rfl ?_
                   refine o_pickt rfl rfl rfl ?_
                   first | refine o_asgd rfl rfl ?_ | refine o_asgo rfl rfl ?_ | refine o_asg rfl rfl (fun _ h_ => by cases h_) ?_
                   refine op_nil ?_
                   refine wp_ops ?_
                   first | refine o_movd rfl rfl ?_ | refine o_movp rfl rfl ?_ | refine o_mova rfl rfl ?_ | refine o_mov rfl rfl ?_
                   first | refine o_movd rfl rfl ?_ | refine o_movp rfl rfl ?_ | refine o_mova rfl rfl ?_ | refine o_mov rfl rfl ?_
                   first | refine o_movd rfl rfl ?_ | refine o_movp rfl rfl ?_ | refine o_mova rfl rfl ?_ | refine o_mov rfl rfl ?_
                   refine o_pickt rfl rfl rfl ?_
                   first | refine o_asgd rfl rfl ?_ | refine o_asgo rfl rfl ?_ | refine o_asg rfl rfl (fun _ h_ => by cases h_) ?_
                   refine op_nil ?_
                   refine keepN (by (simp +decide only [Slots.keep, Slots.get, reduceIte]); exact rfl) ?_
                   refine wp_ops ?_
                   first | refine o_movd rfl rfl ?_ | refine o_movp rfl rfl ?_ | refine o_mova rfl rfl ?_ | refine o_mov rfl rfl ?_
                   first | refine o_addkn rfl rfl rfl (by decide) (by (first | omega | (simp only [m64, mU, m8, n64, nU, n8, b64, bU, b8]; omega))) ?_ | refine o_cat rfl rfl rfl (by (first | omega | (simp only [m64, mU, m8, n64, nU, n8, b64, bU, b8]; omega))) ?_ | refine o_add rfl rfl rfl rfl (by omega) (by omega) ?_
                   first | refine o_asgd rfl rfl ?_ | refine o_asgo rfl rfl ?_ | refine o_asg rfl rfl (fun _ h_ => by cases h_) ?_
                   refine op_nil ?_
                   refine ⟨rfl, m - 1, by omega, i + 1, by omega, by omega, ?_⟩
                   first | rfl | (have hf_ := hfig _ _ hi hb_; have h120_ : b_.toNat = 120 := (by omega); simp only [h120_, decide_true]; rfl)
                 ·first
                  | exfalso; first | omega | (have := hfig _ _ hi ‹_›; omega)
                  |skip
                   first | refine o_movd rfl rfl ?_ | refine o_movp rfl rfl ?_ | refine o_mova rfl rfl ?_ | refine o_mov rfl rfl ?_
                   first | refine o_movd rfl rfl ?_ | refine o_movp rfl rfl ?_ | refine o_mova rfl rfl ?_ | refine o_mov rfl rfl ?_
                   first | refine o_idxS rfl rfl rfl rfl (by assumption) ?_ | (refine o_idxSx rfl rfl rfl rfl (by omega) ?_; intro b_ hb_) | refine o_idxS rfl rfl rfl rfl rfl ?_
                   first | refine o_eqln rfl rfl rfl ?_ | refine o_eqs rfl rfl rfl ?_ | refine o_bin rfl rfl rfl rfl ?_
                   refine o_pickf rfl rfl rfl ?_
                   first | refine o_asgd rfl rfl ?_ | refine o_asgo rfl rfl ?_ | refine o_asg rfl rfl (fun _ h_ => by cases h_) ?_
                   refine op_nil ?_
                   refine wp_ops ?_
                   first | refine o_movd rfl rfl ?_ | refine o_movp rfl rfl ?_ | refine o_mova rfl rfl ?_ | refine o_mov rfl rfl ?_
                   first | refine o_movd rfl rfl ?_ | refine o_movp rfl rfl ?_ | refine o_mova rfl rfl ?_ | refine o_mov rfl rfl ?_
                   first | refine o_movd rfl rfl ?_ | refine o_movp rfl rfl ?_ | refine o_mova rfl rfl ?_ | refine o_mov rfl rfl ?_
                   refine o_pickt rfl rfl rfl ?_
                   first | refine o_asgd rfl rfl ?_ | refine o_asgo rfl rfl ?_ | refine o_asg rfl rfl (fun _ h_ => by cases h_) ?_
                   refine op_nil ?_
                   refine keepN (by (simp +decide only [Slots.keep, Slots.get, reduceIte]); exact rfl) ?_
                   refine wp_ops ?_
                   first | refine o_movd rfl rfl ?_ | refine o_movp rfl rfl ?_ | refine o_mova rfl rfl ?_ | refine o_mov rfl rfl ?_
                   first | refine o_addkn rfl rfl rfl (by decide) (by (first | omega | (simp only [m64, mU, m8, n64, nU, n8, b64, bU, b8]; omega))) ?_ | refine o_cat rfl rfl rfl (by (first | omega | (simp only [m64, mU, m8, n64, nU, n8, b64, bU, b8]; omega))) ?_ | refine o_add rfl rfl rfl rfl (by omega) (by omega) ?_
                   first | refine o_asgd rfl rfl ?_ | refine o_asgo rfl rfl ?_ | refine o_asg rfl rfl (fun _ h_ => by cases h_) ?_
                   refine op_nil ?_
                   refine ⟨rfl, m - 1, by omega, i + 1, by omega, by omega, ?_⟩
                   first | rfl | (have hf_ := hfig _ _ hi hb_; have h120_ : b_.toNat = 120 := (by omega); simp only [h120_, decide_true]; rfl)
               ·first
                | exfalso; first | omega | (have := hfig _ _ hi ‹_›; omega)
                |skip
                 refine o_skip rfl ?_
                 refine o_skip rfl ?_
                 refine o_skip rfl ?_
                 refine o_skip rfl ?_
                 refine o_pickf rfl rfl rfl ?_
                 refine o_pickf rfl rfl rfl ?_
                 first | refine o_movd rfl rfl ?_ | refine o_movp rfl rfl ?_ | refine o_mova rfl rfl ?_ | refine o_mov rfl rfl ?_
                 first | refine o_movd rfl rfl ?_ | refine o_movp rfl rfl ?_ | refine o_mova rfl rfl ?_ | refine o_mov rfl rfl ?_
                 first | refine o_movd rfl rfl ?_ | refine o_movp rfl rfl ?_ | refine o_mova rfl rfl ?_ | refine o_mov rfl rfl ?_
                 first | refine o_idxS rfl rfl rfl rfl (by assumption) ?_ | (refine o_idxSx rfl rfl rfl rfl (by omega) ?_; intro b_ hb_) | refine o_idxS rfl rfl rfl rfl rfl ?_
                 first | refine o_eqln rfl rfl rfl ?_ | refine o_eqs rfl rfl rfl ?_ | refine o_bin rfl rfl rfl rfl ?_
                 refine o_pickf rfl rfl rfl ?_
                 first | refine o_asgd rfl rfl ?_ | refine o_asgo rfl rfl ?_ | refine o_asg rfl rfl (fun _ h_ => by cases h_) ?_
                 refine op_nil ?_
                 refine wp_ops ?_
                 first | refine o_movd rfl rfl ?_ | refine o_movp rfl rfl ?_ | refine o_mova rfl rfl ?_ | refine o_mov rfl rfl ?_
                 first | refine o_movd rfl rfl ?_ | refine o_movp rfl rfl ?_ | refine o_mova rfl rfl ?_ | refine o_mov rfl rfl ?_
                 first | refine o_movd rfl rfl ?_ | refine o_movp rfl rfl ?_ | refine o_mova rfl rfl ?_ | refine o_mov rfl rfl ?_
                 refine o_pickt rfl rfl rfl ?_
                 first | refine o_asgd rfl rfl ?_ | refine o_asgo rfl rfl ?_ | refine o_asg rfl rfl (fun _ h_ => by cases h_) ?_
                 refine op_nil ?_
                 refine keepN (by (simp +decide only [Slots.keep, Slots.get, reduceIte]); exact rfl) ?_
                 refine wp_ops ?_
                 first | refine o_movd rfl rfl ?_ | refine o_movp rfl rfl ?_ | refine o_mova rfl rfl ?_ | refine o_mov rfl rfl ?_
                 first | refine o_addkn rfl rfl rfl (by decide) (by (first | omega | (simp only [m64, mU, m8, n64, nU, n8, b64, bU, b8]; omega))) ?_ | refine o_cat rfl rfl rfl (by (first | omega | (simp only [m64, mU, m8, n64, nU, n8, b64, bU, b8]; omega))) ?_ | refine o_add rfl rfl rfl rfl (by omega) (by omega) ?_
                 first | refine o_asgd rfl rfl ?_ | refine o_asgo rfl rfl ?_ | refine o_asg rfl rfl (fun _ h_ => by cases h_) ?_
                 refine op_nil ?_
                 refine ⟨rfl, m - 1, by omega, i + 1, by omega, by omega, ?_⟩
                 first | rfl | (have hf_ := hfig _ _ hi hb_; have h120_ : b_.toNat = 120 := (by omega); simp only [h120_, decide_true]; rfl)
           ·first
            | exfalso; first | omega | (have := hfig _ _ hi ‹_›; omega)
            |skip
             refine o_skip rfl ?_
             refine o_skip rfl ?_
             refine o_skip rfl ?_
             refine o_skip rfl ?_
             refine o_pickf rfl rfl rfl ?_
             first | refine o_movd rfl rfl ?_ | refine o_movp rfl rfl ?_ | refine o_mova rfl rfl ?_ | refine o_mov rfl rfl ?_
             first | refine o_movd rfl rfl ?_ | refine o_movp rfl rfl ?_ | refine o_mova rfl rfl ?_ | refine o_mov rfl rfl ?_
             first | refine o_movd rfl rfl ?_ | refine o_movp rfl rfl ?_ | refine o_mova rfl rfl ?_ | refine o_mov rfl rfl ?_
             first | refine o_idxS rfl rfl rfl rfl (by assumption) ?_ | (refine o_idxSx rfl rfl rfl rfl (by omega) ?_; intro b_ hb_) | refine o_idxS rfl rfl rfl rfl rfl ?_
             first | refine o_geqn rfl rfl rfl ?_ | refine o_bin rfl rfl rfl rfl ?_
             first | refine o_movd rfl rfl ?_ | refine o_movp rfl rfl ?_ | refine o_mova rfl rfl ?_ | refine o_mov rfl rfl ?_
             refine o_ifp rfl ?_ ?_ <;> intro hq_ hg_ <;> simp only [hg_] <;> clear hg_
             ·first
              | exfalso; first | omega | (have := hfig _ _ hi ‹_›; omega)
              |skip
               first | refine o_movd rfl rfl ?_ | refine o_movp rfl rfl ?_ | refine o_mova rfl rfl ?_ | refine o_mov rfl rfl ?_
               first | refine o_movd rfl rfl ?_ | refine o_movp rfl rfl ?_ | refine o_mova rfl rfl ?_ | refine o_mov rfl rfl ?_
               first | refine o_idxS rfl rfl rfl rfl (by assumption) ?_ | (refine o_idxSx rfl rfl rfl rfl (by omega) ?_; intro b_ hb_) | refine o_idxS rfl rfl rfl rfl rfl ?_
               first | refine o_leqn rfl rfl rfl ?_ | refine o_bin rfl rfl rfl rfl ?_
               refine o_pickt rfl rfl rfl ?_
               refine o_pickf rfl rfl rfl ?_
               first | refine o_movd rfl rfl ?_ | refine o_movp rfl rfl ?_ | refine o_mova rfl rfl ?_ | refine o_mov rfl rfl ?_
               refine o_ifp rfl ?_ ?_ <;> intro hq_ hg_ <;> simp only [hg_] <;> clear hg_
               ·first
                | exfalso; first | omega | (have := hfig _ _ hi ‹_›; omega)
                |skip
                 refine o_skip rfl ?_
                 refine o_skip rfl ?_
                 refine o_skip rfl ?_
                 refine o_skip rfl ?_
                 refine o_pickt rfl rfl rfl ?_
                 first | refine o_asgd rfl rfl ?_ | refine o_asgo rfl rfl ?_ | refine o_asg rfl rfl (fun _ h_ => by cases h_) ?_
                 refine op_nil ?_
                 refine wp_ops ?_
                 first | refine o_movd rfl rfl ?_ | refine o_movp rfl rfl ?_ | refine o_mova rfl rfl ?_ | refine o_mov rfl rfl ?_
                 first | refine o_movd rfl rfl ?_ | refine o_movp rfl rfl ?_ | refine o_mova rfl rfl ?_ | refine o_mov rfl rfl ?_
                 first | refine o_movd rfl rfl ?_ | refine o_movp rfl rfl ?_ | refine o_mova rfl rfl ?_ | refine o_mov rfl rfl ?_
                 refine o_pickt rfl rfl rfl ?_
                 first | refine o_asgd rfl rfl ?_ | refine o_asgo rfl rfl ?_ | refine o_asg rfl rfl (fun _ h_ => by cases h_) ?_
                 refine op_nil ?_
                 refine keepN (by (simp +decide only [Slots.keep, Slots.get, reduceIte]); exact rfl) ?_
                 refine wp_ops ?_
                 first | refine o_movd rfl rfl ?_ | refine o_movp rfl rfl ?_ | refine o_mova rfl rfl ?_ | refine o_mov rfl rfl ?_
                 first | refine o_addkn rfl rfl rfl (by decide) (by (first | omega | (simp only [m64, mU, m8, n64, nU, n8, b64, bU, b8]; omega))) ?_ | refine o_cat rfl rfl rfl (by (first | omega | (simp only [m64, mU, m8, n64, nU, n8, b64, bU, b8]; omega))) ?_ | refine o_add rfl rfl rfl rfl (by omega) (by omega) ?_
                 first | refine o_asgd rfl rfl ?_ | refine o_asgo rfl rfl ?_ | refine o_asg rfl rfl (fun _ h_ => by cases h_) ?_
                 refine op_nil ?_
                 refine ⟨rfl, m - 1, by omega, i + 1, by omega, by omega, ?_⟩
                 first | rfl | (have hf_ := hfig _ _ hi hb_; have h120_ : b_.toNat = 120 := (by omega); simp only [h120_, decide_true]; rfl)
               ·first
                | exfalso; first | omega | (have := hfig _ _ hi ‹_›; omega)
                |skip
                 first | refine o_movd rfl rfl ?_ | refine o_movp rfl rfl ?_ | refine o_mova rfl rfl ?_ | refine o_mov rfl rfl ?_
                 first | refine o_movd rfl rfl ?_ | refine o_movp rfl rfl ?_ | refine o_mova rfl rfl ?_ | refine o_mov rfl rfl ?_
                 first | refine o_idxS rfl rfl rfl rfl (by assumption) ?_ | (refine o_idxSx rfl rfl rfl rfl (by omega) ?_; intro b_ hb_) | refine o_idxS rfl rfl rfl rfl rfl ?_
                 first | refine o_eqln rfl rfl rfl ?_ | refine o_eqs rfl rfl rfl ?_ | refine o_bin rfl rfl rfl rfl ?_
                 refine o_pickf rfl rfl rfl ?_
                 first | refine o_asgd rfl rfl ?_ | refine o_asgo rfl rfl ?_ | refine o_asg rfl rfl (fun _ h_ => by cases h_) ?_
                 refine op_nil ?_
                 refine wp_ops ?_
                 first | refine o_movd rfl rfl ?_ | refine o_movp rfl rfl ?_ | refine o_mova rfl rfl ?_ | refine o_mov rfl rfl ?_
                 first | refine o_movd rfl rfl ?_ | refine o_movp rfl rfl ?_ | refine o_mova rfl rfl ?_ | refine o_mov rfl rfl ?_
                 first | refine o_movd rfl rfl ?_ | refine o_movp rfl rfl ?_ | refine o_mova rfl rfl ?_ | refine o_mov rfl rfl ?_
                 refine o_pickt rfl rfl rfl ?_
                 first | refine o_asgd rfl rfl ?_ | refine o_asgo rfl rfl ?_ | refine o_asg rfl rfl (fun _ h_ => by cases h_) ?_
                 refine op_nil ?_
                 refine keepN (by (simp +decide only [Slots.keep, Slots.get, reduceIte]); exact rfl) ?_
                 refine wp_ops ?_
                 first | refine o_movd rfl rfl ?_ | refine o_movp rfl rfl ?_ | refine o_mova rfl rfl ?_ | refine o_mov rfl rfl ?_
                 first | refine o_addkn rfl rfl rfl (by decide) (by (first | omega | (simp only [m64, mU, m8, n64, nU, n8, b64, bU, b8]; omega))) ?_ | refine o_cat rfl rfl rfl (by (first | omega | (simp only [m64, mU, m8, n64, nU, n8, b64, bU, b8]; omega))) ?_ | refine o_add rfl rfl rfl rfl (by omega) (by omega) ?_
                 first | refine o_asgd rfl rfl ?_ | refine o_asgo rfl rfl ?_ | refine o_asg rfl rfl (fun _ h_ => by cases h_) ?_
                 refine op_nil ?_
                 refine ⟨rfl, m - 1, by omega, i + 1, by omega, by omega, ?_⟩
                 first | rfl | (have hf_ := hfig _ _ hi hb_; have h120_ : b_.toNat = 120 := (by omega); simp only [h120_, decide_true]; rfl)
             ·first
              | exfalso; first | omega | (have := hfig _ _ hi ‹_›; omega)
              |skip
               refine o_skip rfl ?_
               refine o_skip rfl ?_
               refine o_skip rfl ?_
               refine o_skip rfl ?_
               refine o_pickf rfl rfl rfl ?_
               refine o_pickf rfl rfl rfl ?_
               first | refine o_movd rfl rfl ?_ | refine o_movp rfl rfl ?_ | refine o_mova rfl rfl ?_ | refine o_mov rfl rfl ?_
               first | refine o_movd rfl rfl ?_ | refine o_movp rfl rfl ?_ | refine o_mova rfl rfl ?_ | refine o_mov rfl rfl ?_
               first | refine o_movd rfl rfl ?_ | refine o_movp rfl rfl ?_ | refine o_mova rfl rfl ?_ | refine o_mov rfl rfl ?_
               first | refine o_idxS rfl rfl rfl rfl (by assumption) ?_ | (refine o_idxSx rfl rfl rfl rfl (by omega) ?_; intro b_ hb_) | refine o_idxS rfl rfl rfl rfl rfl ?_
               first | refine o_eqln rfl rfl rfl ?_ | refine o_eqs rfl rfl rfl ?_ | refine o_bin rfl rfl rfl rfl ?_
               refine o_pickf rfl rfl rfl ?_
               first | refine o_asgd rfl rfl ?_ | refine o_asgo rfl rfl ?_ | refine o_asg rfl rfl (fun _ h_ => by cases h_) ?_
               refine op_nil ?_
               refine wp_ops ?_
               first | refine o_movd rfl rfl ?_ | refine o_movp rfl rfl ?_ | refine o_mova rfl rfl ?_ | refine o_mov rfl rfl ?_
               first | refine o_movd rfl rfl ?_ | refine o_movp rfl rfl ?_ | refine o_mova rfl rfl ?_ | refine o_mov rfl rfl ?_
               first | refine o_movd rfl rfl ?_ | refine o_movp rfl rfl ?_ | refine o_mova rfl rfl ?_ | refine o_mov rfl rfl ?_
               refine o_pickt rfl rfl rfl ?_
               first | refine o_asgd rfl rfl ?_ | refine o_asgo rfl rfl ?_ | refine o_asg rfl rfl (fun _ h_ => by cases h_) ?_
               refine op_nil ?_
               refine keepN (by (simp +decide only [Slots.keep, Slots.get, reduceIte]); exact rfl) ?_
               refine wp_ops ?_
               first | refine o_movd rfl rfl ?_ | refine o_movp rfl rfl ?_ | refine o_mova rfl rfl ?_ | refine o_mov rfl rfl ?_
               first | refine o_addkn rfl rfl rfl (by decide) (by (first | omega | (simp only [m64, mU, m8, n64, nU, n8, b64, bU, b8]; omega))) ?_ | refine o_cat rfl rfl rfl (by (first | omega | (simp only [m64, mU, m8, n64, nU, n8, b64, bU, b8]; omega))) ?_ | refine o_add rfl rfl rfl rfl (by omega) (by omega) ?_
               first | refine o_asgd rfl rfl ?_ | refine o_asgo rfl rfl ?_ | refine o_asg rfl rfl (fun _ h_ => by cases h_) ?_
               refine op_nil ?_
               refine ⟨rfl, m - 1, by omega, i + 1, by omega, by omega, ?_⟩
               first | rfl | (have hf_ := hfig _ _ hi hb_; have h120_ : b_.toNat = 120 := (by omega); simp only [h120_, decide_true]; rfl)
         ·first
          | exfalso; first | omega | (have := hfig _ _ hi ‹_›; omega)
          |skip
           refine wp_exit ?_
           refine bx_here ?_
           refine keepN (by (simp +decide only [Slots.keep, Slots.get, reduceIte]); exact rfl) ?_
           refine wp_seq ?_
           refine wp_ops ?_
           first | refine o_movd rfl rfl ?_ | refine o_movp rfl rfl ?_ | refine o_mova rfl rfl ?_ | refine o_mov rfl rfl ?_
           first | refine o_movd rfl rfl ?_ | refine o_movp rfl rfl ?_ | refine o_mova rfl rfl ?_ | refine o_mov rfl rfl ?_
           first | refine o_movd rfl rfl ?_ | refine o_movp rfl rfl ?_ | refine o_mova rfl rfl ?_ | refine o_mov rfl rfl ?_
           first | refine o_movd rfl rfl ?_ | refine o_movp rfl rfl ?_ | refine o_mova rfl rfl ?_ | refine o_mov rfl rfl ?_
           first | refine o_eqln rfl rfl rfl ?_ | refine o_eqs rfl rfl rfl ?_ | refine o_bin rfl rfl rfl rfl ?_
           refine o_pickt rfl rfl rfl ?_
           first | refine o_movd rfl rfl ?_ | refine o_movp rfl rfl ?_ | refine o_mova rfl rfl ?_ | refine o_mov rfl rfl ?_
           refine o_ifp rfl ?_ ?_ <;> intro hq_ hg_ <;> simp only [hg_] <;> clear hg_
           ·first
            | exfalso; first | omega | (have := hfig _ _ hi ‹_›; omega)
            |skip
             first | refine o_movd rfl rfl ?_ | refine o_movp rfl rfl ?_ | refine o_mova rfl rfl ?_ | refine o_mov rfl rfl ?_
             first | refine o_movd rfl rfl ?_ | refine o_movp rfl rfl ?_ | refine o_mova rfl rfl ?_ | refine o_mov rfl rfl ?_
             refine o_lenS rfl rfl ?_
             first | refine o_eqln rfl rfl rfl ?_ | refine o_eqs rfl rfl rfl ?_ | refine o_bin rfl rfl rfl rfl ?_
             refine o_pickt rfl rfl rfl ?_
             first | refine o_movd rfl rfl ?_ | refine o_movp rfl rfl ?_ | refine o_mova rfl rfl ?_ | refine o_mov rfl rfl ?_
             refine o_ifp rfl ?_ ?_ <;> intro hq_ hg_ <;> simp only [hg_] <;> clear hg_
             ·first
              | exfalso; first | omega | (have := hfig _ _ hi ‹_›; omega)
              |skip
               first | refine o_movd rfl rfl ?_ | refine o_movp rfl rfl ?_ | refine o_mova rfl rfl ?_ | refine o_mov rfl rfl ?_
               first | refine o_eqln rfl rfl rfl ?_ | refine o_eqs rfl rfl rfl ?_ | refine o_bin rfl rfl rfl rfl ?_
               refine o_pickt rfl rfl rfl ?_
               first | refine o_movd rfl rfl ?_ | refine o_movp rfl rfl ?_ | refine o_mova rfl rfl ?_ | refine o_mov rfl rfl ?_
               refine o_ifp rfl ?_ ?_ <;> intro hq_ hg_ <;> simp only [hg_] <;> clear hg_
               ·first
                | exfalso; first | omega | (have := hfig _ _ hi ‹_›; omega)
                |skip
                 first | refine o_movd rfl rfl ?_ | refine o_movp rfl rfl ?_ | refine o_mova rfl rfl ?_ | refine o_mov rfl rfl ?_
                 refine o_pickt rfl rfl rfl ?_
                 first | refine o_asgd rfl rfl ?_ | refine o_asgo rfl rfl ?_ | refine o_asg rfl rfl (fun _ h_ => by cases h_) ?_
                 refine op_nil ?_
                 refine wp_ret ?_
                 refine end1 rfl rfl rfl ?_ (by first | rfl | simp)
                 rfl
               ·first
                | exfalso; first | omega | (have := hfig _ _ hi ‹_›; omega)
                |skip
                 refine o_skip rfl ?_
                 refine o_pickf rfl rfl rfl ?_
                 first | refine o_asgd rfl rfl ?_ | refine o_asgo rfl rfl ?_ | refine o_asg rfl rfl (fun _ h_ => by cases h_) ?_
                 refine op_nil ?_
                 refine wp_ret ?_
                 refine end1 rfl rfl rfl ?_ (by first | rfl | simp)
                 rfl
             ·first
              | exfalso; first | omega | (have := hfig _ _ hi ‹_›; omega)
              |skip
               refine o_skip rfl ?_
               refine o_skip rfl ?_
               refine o_pickf rfl rfl rfl ?_
               first | refine o_movd rfl rfl ?_ | refine o_movp rfl rfl ?_ | refine o_mova rfl rfl ?_ | refine o_mov rfl rfl ?_
               refine o_skip rfl ?_
               refine o_pickf rfl rfl rfl ?_
               first | refine o_asgd rfl rfl ?_ | refine o_asgo rfl rfl ?_ | refine o_asg rfl rfl (fun _ h_ => by cases h_) ?_
               refine op_nil ?_
               refine wp_ret ?_
               refine end1 rfl rfl rfl ?_ (by first | rfl | simp)
               rfl
           ·first
            | exfalso; first | omega | (have := hfig _ _ hi ‹_›; omega)
            |skip
             refine o_skip rfl ?_
             refine o_skip rfl ?_
             refine o_skip rfl ?_
             refine o_skip rfl ?_
             refine o_pickf rfl rfl rfl ?_
             first | refine o_movd rfl rfl ?_ | refine o_movp rfl rfl ?_ | refine o_mova rfl rfl ?_ | refine o_mov rfl rfl ?_
             refine o_skip rfl ?_
             refine o_skip rfl ?_
             refine o_pickf rfl rfl rfl ?_
             first | refine o_movd rfl rfl ?_ | refine o_movp rfl rfl ?_ | refine o_mova rfl rfl ?_ | refine o_mov rfl rfl ?_
             refine o_skip rfl ?_
             refine o_pickf rfl rfl rfl ?_
             first | refine o_asgd rfl rfl ?_ | refine o_asgo rfl rfl ?_ | refine o_asg rfl rfl (fun _ h_ => by cases h_) ?_
             refine op_nil ?_
             refine wp_ret ?_
             refine end1 rfl rfl rfl ?_ (by first | rfl | simp)
             rfl
 exact ⟨[], hend hcase⟩

end Go.Ab.R04
