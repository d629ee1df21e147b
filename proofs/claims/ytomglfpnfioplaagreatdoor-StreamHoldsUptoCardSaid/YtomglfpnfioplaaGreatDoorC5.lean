/- A part of the proof: tools. No condition. -/
import Derived.Test.YtomglfpnfioplaaGreatDoorC4
import Derived.Test.YtomglfpnfioplaaGreatDoorL3
import Derived.Test.YtomglfpnfioplaaGreatDoorL2
import Derived.Lib.Bytealg
import Derived.Test.YtomglfpnfioplaaGreatDoorProg
set_option linter.all false
namespace Go.Ab.R09
open Go.RowKit Go.Proofs
set_option maxRecDepth 100000
set_option linter.all false
set_option maxHeartbeats 4000000
abbrev i64 (n : Int) : AV := .d (.int .i64 n)
abbrev u8 (n : Nat) : AV := .nat .u8 n
abbrev str (s : List UInt8) : AV := .d (.str s)
abbrev bl (b : Bool) : AV := .d (.bool b)
abbrev lst (es : List (List D)) : AV := .d (.lst es)
theorem idxByte_pl {a : List AV} {v : AV} (h : idxByte a = some v) : v.refB = 0 ∧ AV.refBs a = 0 := by
 unfold idxByte at h
 split at h
 ·cases h; exact ⟨rfl, rfl⟩
 ·cases h
theorem splitO_pl {a : List AV} {v : AV} (h : splitO a = some v) : v.refB = 0 ∧ AV.refBs a = 0 := by
 unfold splitO at h
 split at h
 ·split at h
  ·cases h; exact ⟨rfl, rfl⟩
  ·cases h
 ·cases h
def orcL : List (Nat × (List AV → Option AV)) := [(f_bytealg_IndexByteString, idxByte), (f_strings_Split, splitO)]
def T2 : Tb := ⟨lookupF tabl, lookupF tabD, orcOf orcL⟩
theorem fitN : FitN Tryz.prog (lookupF tabl) := fitN_of (by decide +kernel)
theorem fitD : FitD Tryz.prog (lookupF tabD) := fitD_of (by decide +kernel)
theorem orcL_pl {a : List AV} {v : AV} {f : FuncId} (h : orcOf orcL f a = some v) : v.refB = 0 ∧ AV.refBs a = 0 := by
 simp only [orcL, orcOf] at h
 split at h
 ·exact idxByte_pl h
 ·split at h
  ·exact splitO_pl h
  ·cases h
instance : TOK T2 where
 tab := fun f af h => let ⟨_, _, hf, _⟩ := fitN f af h; hf.cok
 tabD := fun f af h => let ⟨_, _, hf, _⟩ := fitD f af h; hf.cok
 orc := fun f a v h => orcL_pl h
theorem t2_none {f : FuncId} (args : List AV) (h1 : ([f_bytealg_IndexByteString, f_strings_Split] : List Nat).contains f = false) : T2.orc f args = none := orcOf_none (fun p hp e => by
  simp only [orcL, List.mem_cons, List.not_mem_nil, or_false] at hp
  rcases hp with rfl | rfl <;> (subst e; exact absurd h1 (by decide)))
theorem ev_fn {f : FuncId} {args : List AV} {rf : Refs} {o : Out} {rf' : Refs} {af : AFn} (hne : ([f_bytealg_IndexByteString, f_strings_Split] : List Nat).contains f = false) (hf : lookupF tabl f = some af)
  (h : lenK rf 0 fun nb => entK args 0 fun sl => vc T2 nb af.body (endN T2 af nb (fun a b => EndE a b o rf')) (endX T2 af nb (fun a b => EndE a b o rf')) sl rf [] none) : Ev T2 f args rf o rf' := by
 exact ev_vc (t2_none args hne) hf h
theorem call_fn {f : FuncId} {args : List AV} {rf : Refs} {Q : Out → Refs → Prop} {af : AFn} (hne : ([f_bytealg_IndexByteString, f_strings_Split] : List Nat).contains f = false) (hf : lookupF tabl f = some af)
  (h : lenK rf 0 fun nb => entK args 0 fun sl => vc T2 nb af.body (endN T2 af nb Q) (endX T2 af nb Q) sl rf [] none) : CallE T2 f args rf Q := by
 exact callE_vc (t2_none args hne) hf h
theorem shown_ev0 : Ev T2 f_law09_shown [] [] (.ret (bl true)) [] := ⟨60, by kernel_rfl⟩
theorem shown_ev (rf : Refs) : Ev T2 f_law09_shown [] rf (.ret (bl true)) rf := Ev.any shown_ev0 rfl rf
end Go.Ab.R09
namespace Go.Ab.R09
set_option maxRecDepth 100000
set_option linter.all false
set_option maxHeartbeats 4000000
abbrev mB (p h : List UInt8) (L : AV) (ls : List (List UInt8)) (k : Nat) (q : Bool) (fl : Nat) (on : AV) (d : Bool) (out : AV) (nx : Nat) (en : Bool) (e : Nat) : List AV :=
 [str p, str h, L, lst (rowsS ls), i64 k, bl q, i64 fl, on, bl d, out, i64 nx, bl en, i64 e]
abbrev cmd (op kd n : Nat) (nt : Bool) : List D := [.int .u8 op, .int .i64 kd, .int .i64 n, .lst [], .int .i64 (0 : Nat), .int .i64 (0 : Nat), .lst [], .bool nt, .lst [], .lst [], .bool false, .bool false, .str []]
abbrev cmdA (op kd n : Nat) (nt : Bool) : AV := .agg [.d (.int .u8 op), .d (.int .i64 kd), .d (.int .i64 n), .d (.lst []), .d (.int .i64 (0 : Nat)), .d (.int .i64 (0 : Nat)), .d (.lst []), .d (.bool nt), .d (.lst []), .d (.lst []), .d (.bool false), .d (.bool false), .d (.str [])]
def outA : List (List UInt8) → AV
 | [] => .nil
 | r :: rs => .own (rowsS (r :: rs))
def tellsM (kd n k len : Nat) : Bool := if kd = 1 then k == n else if kd = 2 then k == len else true
section
variable {o a b : List AV} {p h : List UInt8} {L on out : AV} {ls : List (List UInt8)} {k fl nx e : Nat} {q d en : Bool}
theorem burn_ev (hf : 0 < fl) (hf' : fl ≤ 100000) : Ev T2 f_stream_machine_burn [.ptr 1 0] [o, mB p h L ls k q fl on d out nx en e, a] (.ret (bl true)) [o, mB p h L ls k q (fl - 1) on d out nx en e, a] := by
 refine ev_fn rfl rfl ?_
 (repeat' (first| (intro (u_ : Unit); clear u_)| refine condT ?_| refine condF ?_| refine condp (by assumption) ?_| refine condn (by assumption) ?_| refine condN ?_| refine idxSb (by assumption) ?_| (refine condD ?_ ?_ <;> intro hq_ <;> first | (exfalso; omega) | skip)| (refine idxS (by omega) ?_; intro b_ hb_; have hl_ := b_.toNat_lt)| refine wrA (by omega) ?_| refine wrS (by omega) (by omega) ?_| refine wrI (by omega) (by omega) ?_| refine wrBA (by omega) ?_| refine wrB (by omega) (by omega) ?_| refine strC (by omega) ?_| refine nilB rfl ?_))
 exact ⟨rfl, rfl⟩
theorem tells_ev {kd n : Nat} (hk : kd ≤ 2) : Ev T2 f_stream_machine_tells [.ptr 1 0, .agg [i64 kd, i64 n, lst []]] [o, mB p h L ls k q fl on d out nx en e, a, b] (.ret (bl (tellsM kd n k ls.length))) [o, mB p h L ls k q fl on d out nx en e, a, b] := by
 have hl := rowsS_length ls
 refine ev_fn rfl rfl ?_
 (repeat' (first| (intro (u_ : Unit); clear u_)| refine condT ?_| refine condF ?_| refine condp (by assumption) ?_| refine condn (by assumption) ?_| refine condN ?_| refine idxSb (by assumption) ?_| (refine condD ?_ ?_ <;> intro hq_ <;> first | (exfalso; omega) | skip)| (refine idxS (by omega) ?_; intro b_ hb_; have hl_ := b_.toNat_lt)| refine wrA (by omega) ?_| refine wrS (by omega) (by omega) ?_| refine wrI (by omega) (by omega) ?_| refine wrBA (by omega) ?_| refine wrB (by omega) (by omega) ?_| refine strC (by omega) ?_| refine nilB rfl ?_))
 ·have e1 : kd = 1 := by omega
  subst e1
  refine ⟨?_, rfl⟩
  congr 3
  rw [Bool.eq_iff_iff]
  simp [tellsM]
  omega
 ·have e1 : kd = 2 := by omega
  subst e1
  refine ⟨?_, rfl⟩
  congr 3
  rw [Bool.eq_iff_iff]
  simp [tellsM, hl]
  omega
 ·have e1 : kd = 0 := by omega
  subst e1
  exact ⟨rfl, rfl⟩
theorem put_ev {rs : List (List UInt8)} (hr : rs.length ≤ 1000000) : Ev T2 f_stream_machine_put [.ptr 1 0] [o, mB p h L ls k q fl on d (outA rs) nx en e, a] (.ret (.tup [])) [o, mB p h L ls k q fl on d (outA (rs ++ [p])) nx en e, a] := by
 have hl := rowsS_length rs
 cases rs with
 | nil =>
   refine ev_fn rfl rfl ?_
   (repeat' (first| (intro (u_ : Unit); clear u_)| refine condT ?_| refine condF ?_| refine condp (by assumption) ?_| refine condn (by assumption) ?_| refine condN ?_| refine idxSb (by assumption) ?_| refine appN1 (by simp) rfl ?_| (refine condD ?_ ?_ <;> intro hq_ <;> first | (exfalso; omega) | skip)| (refine idxS (by omega) ?_; intro b_ hb_; have hl_ := b_.toNat_lt)| refine wrA (by omega) ?_| refine wrS (by omega) (by omega) ?_| refine wrI (by omega) (by omega) ?_| refine wrBA (by omega) ?_| refine wrB (by omega) (by omega) ?_| refine strC (by omega) ?_| refine nilB rfl ?_))
   exact ⟨rfl, rfl⟩
 | cons r rs =>
   refine ev_fn rfl rfl ?_
   (repeat' (first| (intro (u_ : Unit); clear u_)| refine condT ?_| refine condF ?_| refine condp (by assumption) ?_| refine condn (by assumption) ?_| refine condN ?_| refine idxSb (by assumption) ?_| refine appL (by rw [hl]; simp at hr ⊢; omega) (by simp [sizesB, rowsS]) rfl ?_| (refine condD ?_ ?_ <;> intro hq_ <;> first | (exfalso; omega) | skip)| (refine idxS (by omega) ?_; intro b_ hb_; have hl_ := b_.toNat_lt)| refine wrA (by omega) ?_| refine wrS (by omega) (by omega) ?_| refine wrI (by omega) (by omega) ?_| refine wrBA (by omega) ?_| refine wrB (by omega) (by omega) ?_| refine strC (by omega) ?_| refine nilB rfl ?_))
   refine ⟨rfl, ?_⟩
   simp [outA, rowsS]
theorem put_ev4 {rs : List (List UInt8)} (hr : rs.length ≤ 1000000) : Ev T2 f_stream_machine_put [.ptr 1 0] [o, mB p h L ls k q fl on d (outA rs) nx en e, a, b] (.ret (.tup [])) [o, mB p h L ls k q fl on d (outA (rs ++ [p])) nx en e, a, b] := by
 have hl := rowsS_length rs
 cases rs with
 | nil =>
   refine ev_fn rfl rfl ?_
   (repeat' (first| (intro (u_ : Unit); clear u_)| refine condT ?_| refine condF ?_| refine condp (by assumption) ?_| refine condn (by assumption) ?_| refine condN ?_| refine idxSb (by assumption) ?_| refine appN1 (by simp) rfl ?_| (refine condD ?_ ?_ <;> intro hq_ <;> first | (exfalso; omega) | skip)| (refine idxS (by omega) ?_; intro b_ hb_; have hl_ := b_.toNat_lt)| refine wrA (by omega) ?_| refine wrS (by omega) (by omega) ?_| refine wrI (by omega) (by omega) ?_| refine wrBA (by omega) ?_| refine wrB (by omega) (by omega) ?_| refine strC (by omega) ?_| refine nilB rfl ?_))
   exact ⟨rfl, rfl⟩
 | cons r rs =>
   refine ev_fn rfl rfl ?_
   (repeat' (first| (intro (u_ : Unit); clear u_)| refine condT ?_| refine condF ?_| refine condp (by assumption) ?_| refine condn (by assumption) ?_| refine condN ?_| refine idxSb (by assumption) ?_| refine appL (by rw [hl]; simp at hr ⊢; omega) (by simp [sizesB, rowsS]) rfl ?_| (refine condD ?_ ?_ <;> intro hq_ <;> first | (exfalso; omega) | skip)| (refine idxS (by omega) ?_; intro b_ hb_; have hl_ := b_.toNat_lt)| refine wrA (by omega) ?_| refine wrS (by omega) (by omega) ?_| refine wrI (by omega) (by omega) ?_| refine wrBA (by omega) ?_| refine wrB (by omega) (by omega) ?_| refine strC (by omega) ?_| refine nilB rfl ?_))
   refine ⟨rfl, ?_⟩
   simp [outA, rowsS]
theorem tell_ev {rs : List (List UInt8)} (hr : rs.length ≤ 1000000) : Ev T2 f_stream_machine_tell [.ptr 1 0] [o, mB p h L ls k q fl on d (outA rs) nx en e, a] (.ret (.tup [])) [o, mB p h L ls k q fl on d (outA (if q then rs else rs ++ [p])) nx en e, a] := by
 have hP := put_ev (o := o) (a := a) (p := p) (h := h) (L := L) (on := on) (ls := ls) (k := k) (fl := fl) (nx := nx) (e := e) (q := q) (d := d) (en := en) hr
 cases q
 ·refine ev_fn rfl rfl ?_
  (repeat' (first| (intro (u_ : Unit); clear u_)| refine condT ?_| refine condF ?_| refine condp (by assumption) ?_| refine condn (by assumption) ?_| refine condN ?_| refine idxSb (by assumption) ?_| refine callE_ev hP ?_| (refine condD ?_ ?_ <;> intro hq_ <;> first | (exfalso; omega) | skip)| (refine idxS (by omega) ?_; intro b_ hb_; have hl_ := b_.toNat_lt)| refine wrA (by omega) ?_| refine wrS (by omega) (by omega) ?_| refine wrI (by omega) (by omega) ?_| refine wrBA (by omega) ?_| refine wrB (by omega) (by omega) ?_| refine strC (by omega) ?_| refine nilB rfl ?_))
  exact ⟨rfl, rfl⟩
 ·refine ev_fn rfl rfl ?_
  (repeat' (first| (intro (u_ : Unit); clear u_)| refine condT ?_| refine condF ?_| refine condp (by assumption) ?_| refine condn (by assumption) ?_| refine condN ?_| refine idxSb (by assumption) ?_| (refine condD ?_ ?_ <;> intro hq_ <;> first | (exfalso; omega) | skip)| (refine idxS (by omega) ?_; intro b_ hb_; have hl_ := b_.toNat_lt)| refine wrA (by omega) ?_| refine wrS (by omega) (by omega) ?_| refine wrI (by omega) (by omega) ?_| refine wrBA (by omega) ?_| refine wrB (by omega) (by omega) ?_| refine strC (by omega) ?_| refine nilB rfl ?_))
  exact ⟨rfl, rfl⟩
theorem tell_ev4 {rs : List (List UInt8)} (hr : rs.length ≤ 1000000) : Ev T2 f_stream_machine_tell [.ptr 1 0] [o, mB p h L ls k q fl on d (outA rs) nx en e, a, b] (.ret (.tup [])) [o, mB p h L ls k q fl on d (outA (if q then rs else rs ++ [p])) nx en e, a, b] := by
 have hP := put_ev4 (o := o) (a := a) (b := b) (p := p) (h := h) (L := L) (on := on) (ls := ls) (k := k) (fl := fl) (nx := nx) (e := e) (q := q) (d := d) (en := en) hr
 cases q
 ·refine ev_fn rfl rfl ?_
  (repeat' (first| (intro (u_ : Unit); clear u_)| refine condT ?_| refine condF ?_| refine condp (by assumption) ?_| refine condn (by assumption) ?_| refine condN ?_| refine idxSb (by assumption) ?_| refine callE_ev hP ?_| (refine condD ?_ ?_ <;> intro hq_ <;> first | (exfalso; omega) | skip)| (refine idxS (by omega) ?_; intro b_ hb_; have hl_ := b_.toNat_lt)| refine wrA (by omega) ?_| refine wrS (by omega) (by omega) ?_| refine wrI (by omega) (by omega) ?_| refine wrBA (by omega) ?_| refine wrB (by omega) (by omega) ?_| refine strC (by omega) ?_| refine nilB rfl ?_))
  exact ⟨rfl, rfl⟩
 ·refine ev_fn rfl rfl ?_
  (repeat' (first| (intro (u_ : Unit); clear u_)| refine condT ?_| refine condF ?_| refine condp (by assumption) ?_| refine condn (by assumption) ?_| refine condN ?_| refine idxSb (by assumption) ?_| (refine condD ?_ ?_ <;> intro hq_ <;> first | (exfalso; omega) | skip)| (refine idxS (by omega) ?_; intro b_ hb_; have hl_ := b_.toNat_lt)| refine wrA (by omega) ?_| refine wrS (by omega) (by omega) ?_| refine wrI (by omega) (by omega) ?_| refine wrBA (by omega) ?_| refine wrB (by omega) (by omega) ?_| refine strC (by omega) ?_| refine nilB rfl ?_))
  exact ⟨rfl, rfl⟩
theorem meant_ev {C : List (List D)} {i op kd n : Nat} {nt : Bool} (hC : C[i]? = some (cmd op kd n nt)) (hk : kd ≤ 2) :
  Ev T2 f_stream_machine_meant [.ptr 1 0, i64 i] [o, mB p h (lst C) ls k q fl on d out nx en e, a] (.ret (bl (tellsM kd n k ls.length != nt))) [o, mB p h (lst C) ls k q fl on d out nx en e, a] := by
 have hT := fun b => tells_ev (o := o) (a := a) (b := b) (p := p) (h := h) (L := lst C) (on := on) (out := out) (ls := ls) (k := k) (fl := fl) (nx := nx) (e := e) (q := q) (d := d) (en := en) (n := n) hk
 refine ev_fn rfl rfl ?_
 (repeat' (first| (intro (u_ : Unit); clear u_)| refine condT ?_| refine condF ?_| refine condp (by assumption) ?_| refine condn (by assumption) ?_| refine condN ?_| refine idxSb (by assumption) ?_| refine idxLb hC rfl ?_| refine callE_ev (hT _) ⟨rfl, ?_⟩| (refine condD ?_ ?_ <;> intro hq_ <;> first | (exfalso; omega) | skip)| (refine idxS (by omega) ?_; intro b_ hb_; have hl_ := b_.toNat_lt)| refine wrA (by omega) ?_| refine wrS (by omega) (by omega) ?_| refine wrI (by omega) (by omega) ?_| refine wrBA (by omega) ?_| refine wrB (by omega) (by omega) ?_| refine strC (by omega) ?_| refine nilB rfl ?_))
 refine ⟨?_, rfl⟩
 cases tellsM kd n k ls.length <;> cases nt <;> rfl
variable {op kd n : Nat} {nt : Bool}
theorem print_ev {rs : List (List UInt8)} (hr : rs.length ≤ 1000000) : Ev T2 f_stream_machine_print [.ptr 1 0, cmdA op kd n nt] [o, mB p h L ls k q fl on d (outA rs) nx en e, a] (.ret (.tup [])) [o, mB p h L ls k q fl on d (outA (rs ++ [p])) nx en e, a] := by
 have hP := fun b => put_ev4 (o := o) (a := a) (b := b) (p := p) (h := h) (L := L) (on := on) (ls := ls) (k := k) (fl := fl) (nx := nx) (e := e) (q := q) (d := d) (en := en) hr
 refine ev_fn rfl rfl ?_
 (repeat' (first| (intro (u_ : Unit); clear u_)| refine condT ?_| refine condF ?_| refine condp (by assumption) ?_| refine condn (by assumption) ?_| refine condN ?_| refine idxSb (by assumption) ?_| refine callE_ev (hP _) ?_| (refine condD ?_ ?_ <;> intro hq_ <;> first | (exfalso; omega) | skip)| (refine idxS (by omega) ?_; intro b_ hb_; have hl_ := b_.toNat_lt)| refine wrA (by omega) ?_| refine wrS (by omega) (by omega) ?_| refine wrI (by omega) (by omega) ?_| refine wrBA (by omega) ?_| refine wrB (by omega) (by omega) ?_| refine strC (by omega) ?_| refine nilB rfl ?_))
 exact ⟨rfl, rfl⟩
theorem drop_ev {C : List (List D)} (hC : C.length ≤ 1000000) : Ev T2 f_stream_machine_drop [.ptr 1 0, cmdA op kd n nt] [o, mB p h (lst C) ls k q fl on d out nx en e, a] (.ret (.tup [])) [o, mB p h (lst C) ls k q fl on d out (C.length + 1) en e, a] := by
 refine ev_fn rfl rfl ?_
 (repeat' (first| (intro (u_ : Unit); clear u_)| refine condT ?_| refine condF ?_| refine condp (by assumption) ?_| refine condn (by assumption) ?_| refine condN ?_| refine idxSb (by assumption) ?_| (refine condD ?_ ?_ <;> intro hq_ <;> first | (exfalso; omega) | skip)| (refine idxS (by omega) ?_; intro b_ hb_; have hl_ := b_.toNat_lt)| refine wrA (by omega) ?_| refine wrS (by omega) (by omega) ?_| refine wrI (by omega) (by omega) ?_| refine wrBA (by omega) ?_| refine wrB (by omega) (by omega) ?_| refine strC (by omega) ?_| refine nilB rfl ?_))
 exact ⟨rfl, rfl⟩
theorem quit_ev {rs : List (List UInt8)} (hr : rs.length ≤ 1000000) : Ev T2 f_stream_machine_quit [.ptr 1 0, cmdA op kd n nt] [o, mB p h L ls k q fl on d (outA rs) nx en e, a] (.ret (.tup [])) [o, mB p h L ls k q fl on d (outA (if q then rs else rs ++ [p])) nx true e, a] := by
 have hP := fun b => tell_ev4 (o := o) (a := a) (b := b) (p := p) (h := h) (L := L) (on := on) (ls := ls) (k := k) (fl := fl) (nx := nx) (e := e) (q := q) (d := d) (en := en) hr
 refine ev_fn rfl rfl ?_
 (repeat' (first| (intro (u_ : Unit); clear u_)| refine condT ?_| refine condF ?_| refine condp (by assumption) ?_| refine condn (by assumption) ?_| refine condN ?_| refine idxSb (by assumption) ?_| refine callE_ev (hP _) ?_| (refine condD ?_ ?_ <;> intro hq_ <;> first | (exfalso; omega) | skip)| (refine idxS (by omega) ?_; intro b_ hb_; have hl_ := b_.toNat_lt)| refine wrA (by omega) ?_| refine wrS (by omega) (by omega) ?_| refine wrI (by omega) (by omega) ?_| refine wrBA (by omega) ?_| refine wrB (by omega) (by omega) ?_| refine strC (by omega) ?_| refine nilB rfl ?_))
 exact ⟨rfl, rfl⟩
theorem copy_ev : Ev T2 f_stream_machine_copy [.ptr 1 0, cmdA op kd n nt] [o, mB p h L ls k q fl on d out nx en e, a] (.ret (.tup [])) [o, mB p p L ls k q fl on d out nx en e, a] := by
 refine ev_fn rfl rfl ?_
 (repeat' (first| (intro (u_ : Unit); clear u_)| refine condT ?_| refine condF ?_| refine condp (by assumption) ?_| refine condn (by assumption) ?_| refine condN ?_| refine idxSb (by assumption) ?_| (refine condD ?_ ?_ <;> intro hq_ <;> first | (exfalso; omega) | skip)| (refine idxS (by omega) ?_; intro b_ hb_; have hl_ := b_.toNat_lt)| refine wrA (by omega) ?_| refine wrS (by omega) (by omega) ?_| refine wrI (by omega) (by omega) ?_| refine wrBA (by omega) ?_| refine wrB (by omega) (by omega) ?_| refine strC (by omega) ?_| refine nilB rfl ?_))
 exact ⟨rfl, rfl⟩
theorem get_ev : Ev T2 f_stream_machine_get [.ptr 1 0, cmdA op kd n nt] [o, mB p h L ls k q fl on d out nx en e, a] (.ret (.tup [])) [o, mB h h L ls k q fl on d out nx en e, a] := by
 refine ev_fn rfl rfl ?_
 (repeat' (first| (intro (u_ : Unit); clear u_)| refine condT ?_| refine condF ?_| refine condp (by assumption) ?_| refine condn (by assumption) ?_| refine condN ?_| refine idxSb (by assumption) ?_| (refine condD ?_ ?_ <;> intro hq_ <;> first | (exfalso; omega) | skip)| (refine idxS (by omega) ?_; intro b_ hb_; have hl_ := b_.toNat_lt)| refine wrA (by omega) ?_| refine wrS (by omega) (by omega) ?_| refine wrI (by omega) (by omega) ?_| refine wrBA (by omega) ?_| refine wrB (by omega) (by omega) ?_| refine strC (by omega) ?_| refine nilB rfl ?_))
 exact ⟨rfl, rfl⟩
theorem change_ev : Ev T2 f_stream_machine_change [.ptr 1 0, cmdA op kd n nt] [o, mB p h L ls k q fl on d out nx en e, a] (.ret (.tup [])) [o, mB h p L ls k q fl on d out nx en e, a] := by
 refine ev_fn rfl rfl ?_
 (repeat' (first| (intro (u_ : Unit); clear u_)| refine condT ?_| refine condF ?_| refine condp (by assumption) ?_| refine condn (by assumption) ?_| refine condN ?_| refine idxSb (by assumption) ?_| (refine condD ?_ ?_ <;> intro hq_ <;> first | (exfalso; omega) | skip)| (refine idxS (by omega) ?_; intro b_ hb_; have hl_ := b_.toNat_lt)| refine wrA (by omega) ?_| refine wrS (by omega) (by omega) ?_| refine wrI (by omega) (by omega) ?_| refine wrBA (by omega) ?_| refine wrB (by omega) (by omega) ?_| refine strC (by omega) ?_| refine nilB rfl ?_))
 exact ⟨rfl, rfl⟩
theorem fits_ev {s : List UInt8} (hs : s.length ≤ 65536) : Ev T2 f_stream_machine_fits [.ptr 1 0, str s] [o, mB p h L ls k q fl on d out nx en e, a, b] (.ret (str s)) [o, mB p h L ls k q fl on d out nx en e, a, b] := by
 refine ev_fn rfl rfl ?_
 (repeat' (first| (intro (u_ : Unit); clear u_)| refine condT ?_| refine condF ?_| refine condp (by assumption) ?_| refine condn (by assumption) ?_| refine condN ?_| refine idxSb (by assumption) ?_| (refine condD ?_ ?_ <;> intro hq_ <;> first | (exfalso; omega) | skip)| (refine idxS (by omega) ?_; intro b_ hb_; have hl_ := b_.toNat_lt)| refine wrA (by omega) ?_| refine wrS (by omega) (by omega) ?_| refine wrI (by omega) (by omega) ?_| refine wrBA (by omega) ?_| refine wrB (by omega) (by omega) ?_| refine strC (by omega) ?_| refine nilB rfl ?_))
 exact ⟨rfl, rfl⟩
theorem getMore_ev (hs : p.length + h.length + 1 ≤ 65536) : Ev T2 f_stream_machine_getMore [.ptr 1 0, cmdA op kd n nt] [o, mB p h L ls k q fl on d out nx en e, a] (.ret (.tup [])) [o, mB (p ++ [10] ++ h) h L ls k q fl on d out nx en e, a] := by
 have hP := fun b => fits_ev (o := o) (a := a) (b := b) (p := p) (h := h) (L := L) (on := on) (out := out) (ls := ls) (k := k) (fl := fl) (nx := nx) (e := e) (q := q) (d := d) (en := en) (s := p ++ [10] ++ h) (by simp; omega)
 refine ev_fn rfl rfl ?_
 (repeat' (first| (intro (u_ : Unit); clear u_)| refine condT ?_| refine condF ?_| refine condp (by assumption) ?_| refine condn (by assumption) ?_| refine condN ?_| refine idxSb (by assumption) ?_| refine strC (by simp; omega) ?_| refine callE_ev (hP _) ?_| (refine condD ?_ ?_ <;> intro hq_ <;> first | (exfalso; omega) | skip)| (refine idxS (by omega) ?_; intro b_ hb_; have hl_ := b_.toNat_lt)| refine wrA (by omega) ?_| refine wrS (by omega) (by omega) ?_| refine wrI (by omega) (by omega) ?_| refine wrBA (by omega) ?_| refine wrB (by omega) (by omega) ?_| refine strC (by omega) ?_| refine nilB rfl ?_))
 exact ⟨rfl, rfl⟩
end
def mpB : List AV := [.tup []] ++ ([(112, f_stream_machine_print), (100, f_stream_machine_drop), (113, f_stream_machine_quit), (110, f_stream_machine_take), (104, f_stream_machine_copy), (72, f_stream_machine_copyMore), (103, f_stream_machine_get), (71, f_stream_machine_getMore), (120, f_stream_machine_change), (115, f_stream_machine_replace), (98, f_stream_machine_branch), (116, f_stream_machine_test), (58, f_stream_machine_label)] : List (Nat × FuncId)).flatMap fun p => [u8 p.1, .fn (.func p.2) [.ptr 1 0] []]
theorem does_ev (o m : List AV) : Ev T2 f_stream_machine_does [.ptr 1 0] [o, m] (.ret (.mp 2)) [o, m, mpB] := by
 refine ev_fn rfl rfl ?_
 (repeat' (first| (intro (u_ : Unit); clear u_)| refine condT ?_| refine condF ?_| refine condp (by assumption) ?_| refine condn (by assumption) ?_| refine condN ?_| refine idxSb (by assumption) ?_| refine findB rfl ?_| refine entB (by decide) ?_| (refine condD ?_ ?_ <;> intro hq_ <;> first | (exfalso; omega) | skip)| (refine idxS (by omega) ?_; intro b_ hb_; have hl_ := b_.toNat_lt)| refine wrA (by omega) ?_| refine wrS (by omega) (by omega) ?_| refine wrI (by omega) (by omega) ?_| refine wrBA (by omega) ?_| refine wrB (by omega) (by omega) ?_| refine strC (by omega) ?_| refine nilB rfl ?_))
 exact ⟨rfl, rfl⟩
end Go.Ab.R09
namespace Go.Ab.R09
set_option maxRecDepth 100000
set_option linter.all false
set_option maxHeartbeats 4000000
def sumL : List (List UInt8) → Nat
 | [] => 0
 | s :: r => s.length + sumL r
abbrev longN (ls : List (List UInt8)) : Nat := ls.length + sumL ls
theorem sumL_append (a b : List (List UInt8)) : sumL (a ++ b) = sumL a + sumL b := by
 induction a with
 | nil => simp [sumL]
 | cons x a ih => simp only [List.cons_append, sumL, ih]; omega
theorem take_snoc {α : Type} {l : List α} {i : Nat} {x : α} (h : l[i]? = some x) : l.take (i + 1) = l.take i ++ [x] := by
 rw [List.take_add_one, h]; rfl
theorem sumL_take {ls : List (List UInt8)} {i : Nat} {x : List UInt8} (h : ls[i]? = some x) : sumL (ls.take (i + 1)) = sumL (ls.take i) + x.length := by
 rw [take_snoc h, sumL_append]; simp [sumL]
theorem sumL_le (ls : List (List UInt8)) (i : Nat) : sumL (ls.take i) ≤ sumL ls := by
 conv => rhs; rw [← List.take_append_drop i ls, sumL_append]
 omega
theorem sumL_mem {ls : List (List UInt8)} {i : Nat} {x : List UInt8} (h : ls[i]? = some x) : x.length ≤ sumL ls := by
 have h1 := sumL_take h
 have h2 := sumL_le ls (i + 1)
 omega
theorem rowsS_get {ls : List (List UInt8)} {i : Nat} {x : List UInt8} (h : ls[i]? = some x) : (rowsS ls)[i]? = some [.str x] := by simp [rowsS, h]
theorem Long_ev (ls : List (List UInt8)) (h : longN ls ≤ 2 ^ 40) (rf : Refs) : Ev T2 f_ref07_Long [lst (rowsS ls)] rf (.ret (i64 (longN ls))) rf := by
 refine Ev.any ?_ rfl rf
 have hl := rowsS_length ls
 have h : ls.length + sumL ls ≤ 1099511627776 := h
 refine ev_fn rfl rfl ?_
 (repeat' (first| (intro (u_ : Unit); clear u_)| refine condT ?_| refine condF ?_| refine condp (by assumption) ?_| refine condn (by assumption) ?_| refine condN ?_| refine idxSb (by assumption) ?_| (refine condD ?_ ?_ <;> intro hq_ <;> first | (exfalso; omega) | skip)| (refine idxS (by omega) ?_; intro b_ hb_; have hl_ := b_.toNat_lt)| refine wrA (by omega) ?_| refine wrS (by omega) (by omega) ?_| refine wrI (by omega) (by omega) ?_| refine wrBA (by omega) ?_| refine wrB (by omega) (by omega) ?_| refine strC (by omega) ?_| refine nilB rfl ?_))
 rw [hl]
 refine loopR (fun i : Nat => [(3, i64 ((ls.length + sumL (ls.take i) : Nat) : Int)), (4, i64 i)]) (fun _ => []) (fun i => ls.length - i) (fun i => i ≤ ls.length) 0 (by omega) (by rfl) (by rfl) ?_
 intro i hi
 by_cases hil : i < ls.length
 ·obtain ⟨x, hx⟩ : ∃ x, ls[i]? = some x := ⟨ls[i], List.getElem?_eq_getElem hil⟩
  have h1 := sumL_take hx
  have h2 := sumL_le ls (i + 1)
  (repeat' (first| (intro (u_ : Unit); clear u_)| refine condT ?_| refine condF ?_| refine condp (by assumption) ?_| refine condn (by assumption) ?_| refine condN ?_| refine idxSb (by assumption) ?_| refine idxLb (rowsS_get hx) rfl ?_| (refine condD ?_ ?_ <;> intro hq_ <;> first | (exfalso; omega) | skip)| (refine idxS (by omega) ?_; intro b_ hb_; have hl_ := b_.toNat_lt)| refine wrA (by omega) ?_| refine wrS (by omega) (by omega) ?_| refine wrI (by omega) (by omega) ?_| refine wrBA (by omega) ?_| refine wrB (by omega) (by omega) ?_| refine strC (by omega) ?_| refine nilB rfl ?_))
  refine ⟨i + 1, by omega, by omega, ?_, rfl, rfl, rfl⟩
  rw [h1, ← Nat.add_assoc]
  rfl
 ·have e1 : i = ls.length := by omega
  subst e1
  (repeat' (first| (intro (u_ : Unit); clear u_)| refine condT ?_| refine condF ?_| refine condp (by assumption) ?_| refine condn (by assumption) ?_| refine condN ?_| refine idxSb (by assumption) ?_| (refine condD ?_ ?_ <;> intro hq_ <;> first | (exfalso; omega) | skip)| (refine idxS (by omega) ?_; intro b_ hb_; have hl_ := b_.toNat_lt)| refine wrA (by omega) ?_| refine wrS (by omega) (by omega) ?_| refine wrI (by omega) (by omega) ?_| refine wrBA (by omega) ?_| refine wrB (by omega) (by omega) ?_| refine strC (by omega) ?_| refine nilB rfl ?_))
  rw [List.take_length]
  exact ⟨rfl, rfl⟩
theorem Same_ev (ls : List (List UInt8)) (h : ls.length ≤ 2 ^ 40) (rf : Refs) : Ev T2 f_ref07_Same [lst (rowsS ls), lst (rowsS ls)] rf (.ret (bl true)) rf := by
 refine Ev.any ?_ rfl rf
 have hl := rowsS_length ls
 refine ev_fn rfl rfl ?_
 (repeat' (first| (intro (u_ : Unit); clear u_)| refine condT ?_| refine condF ?_| refine condp (by assumption) ?_| refine condn (by assumption) ?_| refine condN ?_| refine idxSb (by assumption) ?_| (refine condD ?_ ?_ <;> intro hq_ <;> first | (exfalso; omega) | skip)| (refine idxS (by omega) ?_; intro b_ hb_; have hl_ := b_.toNat_lt)| refine wrA (by omega) ?_| refine wrS (by omega) (by omega) ?_| refine wrI (by omega) (by omega) ?_| refine wrBA (by omega) ?_| refine wrB (by omega) (by omega) ?_| refine strC (by omega) ?_| refine nilB rfl ?_))
 refine loopR (fun i : Nat => [(5, i64 i)]) (fun _ => []) (fun i => ls.length - i) (fun i => i ≤ ls.length) 0 (by omega) (by rfl) (by rfl) ?_
 intro i hi
 by_cases hil : i < ls.length
 ·obtain ⟨x, hx⟩ : ∃ x, ls[i]? = some x := ⟨ls[i], List.getElem?_eq_getElem hil⟩
  (repeat' (first| (intro (u_ : Unit); clear u_)| refine condT ?_| refine condF ?_| refine condp (by assumption) ?_| refine condn (by assumption) ?_| refine condN ?_| refine idxSb (by assumption) ?_| refine idxLb (rowsS_get hx) rfl ?_| (refine condD ?_ ?_ <;> intro hq_ <;> first | (exfalso; omega) | skip)| (refine idxS (by omega) ?_; intro b_ hb_; have hl_ := b_.toNat_lt)| refine wrA (by omega) ?_| refine wrS (by omega) (by omega) ?_| refine wrI (by omega) (by omega) ?_| refine wrBA (by omega) ?_| refine wrB (by omega) (by omega) ?_| refine strC (by omega) ?_| refine nilB rfl ?_))
  ·exact absurd rfl (by assumption)
  exact ⟨i + 1, by omega, by omega, rfl, rfl, rfl, rfl⟩
 ·have e1 : i = ls.length := by omega
  subst e1
  (repeat' (first| (intro (u_ : Unit); clear u_)| refine condT ?_| refine condF ?_| refine condp (by assumption) ?_| refine condn (by assumption) ?_| refine condN ?_| refine idxSb (by assumption) ?_| (refine condD ?_ ?_ <;> intro hq_ <;> first | (exfalso; omega) | skip)| (refine idxS (by omega) ?_; intro b_ hb_; have hl_ := b_.toNat_lt)| refine wrA (by omega) ?_| refine wrS (by omega) (by omega) ?_| refine wrI (by omega) (by omega) ?_| refine wrBA (by omega) ?_| refine wrB (by omega) (by omega) ?_| refine strC (by omega) ?_| refine nilB rfl ?_))
  exact ⟨rfl, rfl⟩
end Go.Ab.R09
namespace Go.Ab.R09
set_option maxRecDepth 100000
set_option linter.all false
set_option maxHeartbeats 4000000
def patL (ls : List (List UInt8)) : Nat → List UInt8
 | 0 => []
 | k + 1 => ls.getD k []
theorem getD_of {ls : List (List UInt8)} {k : Nat} {x : List UInt8} (h : ls[k]? = some x) : ls.getD k [] = x := by simp [List.getD, h]
theorem Run_nil (ls : List (List UInt8)) (hl : ls.length ≤ 1000) (q : Bool) : Ev T2 f_stream_Run [.nil, lst (rowsS ls), bl q, i64 ls.length] [] (.ret (.tup [lst (rowsS (if q then [] else ls)), i64 (0 : Nat), i64 (0 : Nat)])) [] := by
 have hr := rowsS_length ls
 refine ev_fn rfl rfl ?_
 (repeat' (first| (intro (u_ : Unit); clear u_)| refine condT ?_| refine condF ?_| refine condp (by assumption) ?_| refine condn (by assumption) ?_| refine condN ?_| refine idxSb (by assumption) ?_| refine mkSb (n := 0) (by decide) ?_| refine callE_ev (does_ev _ _) ?_| (refine condD ?_ ?_ <;> intro hq_ <;> first | (exfalso; omega) | skip)| (refine idxS (by omega) ?_; intro b_ hb_; have hl_ := b_.toNat_lt)| refine wrA (by omega) ?_| refine wrS (by omega) (by omega) ?_| refine wrI (by omega) (by omega) ?_| refine wrBA (by omega) ?_| refine wrB (by omega) (by omega) ?_| refine strC (by omega) ?_| refine nilB rfl ?_))
 refine loopR (fun _ : Nat => []) (fun k => [(1, mB (patL ls k) [] .nil ls k q (ls.length - k) (.sref 0 0 0) false (outA (if q then [] else ls.take k)) 0 false 0)]) (fun k => ls.length - k) (fun k => k ≤ ls.length) 0 (by omega) (by rfl) (by cases q <;> rfl) ?_
 intro k hk
 by_cases hkl : k < ls.length
 ·obtain ⟨x, hx⟩ : ∃ x, ls[k]? = some x := ⟨ls[k], List.getElem?_eq_getElem hkl⟩
  (repeat' (first| (intro (u_ : Unit); clear u_)| refine condT ?_| refine condF ?_| refine condp (by assumption) ?_| refine condn (by assumption) ?_| refine condN ?_| refine idxSb (by assumption) ?_| refine callE_ev (burn_ev (by omega) (by omega)) ?_| refine idxLb (rowsS_get hx) rfl ?_| refine loopS ?_| refine callE_ev (tell_ev (by split <;> simp <;> omega)) ?_| (refine condD ?_ ?_ <;> intro hq_ <;> first | (exfalso; omega) | skip)| (refine idxS (by omega) ?_; intro b_ hb_; have hl_ := b_.toNat_lt)| refine wrA (by omega) ?_| refine wrS (by omega) (by omega) ?_| refine wrI (by omega) (by omega) ?_| refine wrBA (by omega) ?_| refine wrB (by omega) (by omega) ?_| refine strC (by omega) ?_| refine nilB rfl ?_))
  refine ⟨k + 1, by omega, by omega, rfl, ?_, rfl, rfl⟩
  have e1 : patL ls (k + 1) = x := getD_of hx
  have e2 : ls.length - (k + 1) = ls.length - k - 1 := by omega
  have e3 := take_snoc hx
  cases q
  ·simp only [Bool.false_eq_true, if_false, e1, e2, e3]
   exact (trim_same rfl).trans rfl
  ·simp only [if_true, e1, e2]
   exact (trim_same rfl).trans rfl
 ·have e1 : k = ls.length := by omega
  subst e1
  have e2 : (if q = true then [] else ls.take ls.length) = (if q then [] else ls) := by rw [List.take_length]
  rw [e2, Nat.sub_self]
  cases q
  ·cases ls with
   | nil =>
     (repeat' (first| (intro (u_ : Unit); clear u_)| refine condT ?_| refine condF ?_| refine condp (by assumption) ?_| refine condn (by assumption) ?_| refine condN ?_| refine idxSb (by assumption) ?_| (refine condD ?_ ?_ <;> intro hq_ <;> first | (exfalso; omega) | skip)| (refine idxS (by omega) ?_; intro b_ hb_; have hl_ := b_.toNat_lt)| refine wrA (by omega) ?_| refine wrS (by omega) (by omega) ?_| refine wrI (by omega) (by omega) ?_| refine wrBA (by omega) ?_| refine wrB (by omega) (by omega) ?_| refine strC (by omega) ?_| refine nilB rfl ?_))
     exact ⟨rfl, rfl⟩
   | cons r rs =>
     (repeat' (first| (intro (u_ : Unit); clear u_)| refine condT ?_| refine condF ?_| refine condp (by assumption) ?_| refine condn (by assumption) ?_| refine condN ?_| refine idxSb (by assumption) ?_| (refine condD ?_ ?_ <;> intro hq_ <;> first | (exfalso; omega) | skip)| (refine idxS (by omega) ?_; intro b_ hb_; have hl_ := b_.toNat_lt)| refine wrA (by omega) ?_| refine wrS (by omega) (by omega) ?_| refine wrI (by omega) (by omega) ?_| refine wrBA (by omega) ?_| refine wrB (by omega) (by omega) ?_| refine strC (by omega) ?_| refine nilB rfl ?_))
     exact ⟨rfl, rfl⟩
  ·(repeat' (first
    | (intro (u_ : Unit); clear u_)
    | refine condT ?_
    | refine condF ?_
    | refine condp (by assumption) ?_
    | refine condn (by assumption) ?_
    | refine condN ?_
    | refine idxSb (by assumption) ?_
    | (refine condD ?_ ?_ <;> intro hq_ <;> first | (exfalso; omega) | skip)
    | (refine idxS (by omega) ?_; intro b_ hb_; have hl_ := b_.toNat_lt)
    | refine wrA (by omega) ?_
    | refine wrS (by omega) (by omega) ?_
    | refine wrI (by omega) (by omega) ?_
    | refine wrBA (by omega) ?_
    | refine wrB (by omega) (by omega) ?_
    | refine strC (by omega) ?_
    | refine nilB rfl ?_))
   exact ⟨rfl, rfl⟩
theorem Run_p (ls : List (List UInt8)) (hl : ls.length ≤ 1000) : Ev T2 f_stream_Run [lst [cmd 112 0 0 false], lst (rowsS ls), bl true, i64 (2 * ls.length + 1 : Nat)] [] (.ret (.tup [lst (rowsS ls), i64 (1 : Nat), i64 (0 : Nat)])) [] := by
 have hr := rowsS_length ls
 refine ev_fn rfl rfl ?_
 (repeat' (first| (intro (u_ : Unit); clear u_)| refine condT ?_| refine condF ?_| refine condp (by assumption) ?_| refine condn (by assumption) ?_| refine condN ?_| refine idxSb (by assumption) ?_| refine mkSb (n := 1) (by decide) ?_| refine callE_ev (does_ev _ _) ?_| (refine condD ?_ ?_ <;> intro hq_ <;> first | (exfalso; omega) | skip)| (refine idxS (by omega) ?_; intro b_ hb_; have hl_ := b_.toNat_lt)| refine wrA (by omega) ?_| refine wrS (by omega) (by omega) ?_| refine wrI (by omega) (by omega) ?_| refine wrBA (by omega) ?_| refine wrB (by omega) (by omega) ?_| refine strC (by omega) ?_| refine nilB rfl ?_))
 refine loopR (fun _ : Nat => []) (fun k => [(1, mB (patL ls k) [] (lst [cmd 112 0 0 false]) ls k true (2 * ls.length + 1 - 2 * k) (.sref 0 0 1) false (outA (ls.take k)) (if k = 0 then 0 else 1) false 0)]) (fun k => ls.length - k) (fun k => k ≤ ls.length) 0 (by omega) (by rfl) (by rfl) ?_
 intro k hk
 by_cases hkl : k < ls.length
 ·obtain ⟨x, hx⟩ : ∃ x, ls[k]? = some x := ⟨ls[k], List.getElem?_eq_getElem hkl⟩
  have e1 : patL ls (k + 1) = x := getD_of hx
  have e3 := take_snoc hx
  (repeat' (first| (intro (u_ : Unit); clear u_)| refine condT ?_| refine condF ?_| refine condp (by assumption) ?_| refine condn (by assumption) ?_| refine condN ?_| refine idxSb (by assumption) ?_| refine callE_ev (burn_ev (by omega) (by omega)) ?_| refine idxLb (rowsS_get hx) rfl ?_| refine idxLb (i := 0) rfl rfl ?_| refine idxLb (i := 1) rfl rfl ?_| refine idxLb (i := 2) rfl rfl ?_| refine loopS ?_| refine callE_ev (meant_ev rfl (by decide)) ?_| refine findB rfl ?_| refine callE_ev (print_ev (by first | assumption | (simp; done) | (simp; omega))) ?_| refine callE_ev (drop_ev (Nat.le_of_ble_eq_true rfl)) ?_| refine callE_ev (quit_ev (by first | assumption | (simp; done) | (simp; omega))) ?_| refine callE_ev copy_ev ?_| refine callE_ev get_ev ?_| refine callE_ev change_ev ?_| refine callE_ev (getMore_ev (by omega)) ?_| refine callE_ev (tell_ev (by first | assumption | (simp; done) | (simp; omega))) ?_| (refine condD ?_ ?_ <;> intro hq_ <;> first | (exfalso; omega) | skip)| (refine idxS (by omega) ?_; intro b_ hb_; have hl_ := b_.toNat_lt)| refine wrA (by omega) ?_| refine wrS (by omega) (by omega) ?_| refine wrI (by omega) (by omega) ?_| refine wrBA (by omega) ?_| refine wrB (by omega) (by omega) ?_| refine strC (by omega) ?_| refine nilB rfl ?_))
  refine ⟨k + 1, by omega, by omega, rfl, ?_, rfl, rfl⟩
  have e2 : 2 * ls.length + 1 - 2 * (k + 1) = 2 * ls.length + 1 - 2 * k - 1 - 1 := by omega
  simp only [if_true, e1, e2, e3, Nat.add_one_ne_zero, if_false]
  exact (trim_same rfl).trans rfl
 ·have e1 : k = ls.length := by omega
  subst e1
  have e2 : 2 * ls.length + 1 - 2 * ls.length = 1 := by omega
  rw [List.take_length, e2]
  cases ls with
  | nil =>
    (repeat' (first| (intro (u_ : Unit); clear u_)| refine condT ?_| refine condF ?_| refine condp (by assumption) ?_| refine condn (by assumption) ?_| refine condN ?_| refine idxSb (by assumption) ?_| (refine condD ?_ ?_ <;> intro hq_ <;> first | (exfalso; omega) | skip)| (refine idxS (by omega) ?_; intro b_ hb_; have hl_ := b_.toNat_lt)| refine wrA (by omega) ?_| refine wrS (by omega) (by omega) ?_| refine wrI (by omega) (by omega) ?_| refine wrBA (by omega) ?_| refine wrB (by omega) (by omega) ?_| refine strC (by omega) ?_| refine nilB rfl ?_))
    exact ⟨rfl, rfl⟩
  | cons r rs =>
    (repeat' (first| (intro (u_ : Unit); clear u_)| refine condT ?_| refine condF ?_| refine condp (by assumption) ?_| refine condn (by assumption) ?_| refine condN ?_| refine idxSb (by assumption) ?_| (refine condD ?_ ?_ <;> intro hq_ <;> first | (exfalso; omega) | skip)| (refine idxS (by omega) ?_; intro b_ hb_; have hl_ := b_.toNat_lt)| refine wrA (by omega) ?_| refine wrS (by omega) (by omega) ?_| refine wrI (by omega) (by omega) ?_| refine wrBA (by omega) ?_| refine wrB (by omega) (by omega) ?_| refine strC (by omega) ?_| refine nilB rfl ?_))
    exact ⟨rfl, rfl⟩
theorem Run_d (ls : List (List UInt8)) (hl : ls.length ≤ 1000) : Ev T2 f_stream_Run [lst [cmd 100 0 0 false], lst (rowsS ls), bl false, i64 (2 * ls.length : Nat)] [] (.ret (.tup [lst [], i64 (0 : Nat), i64 (0 : Nat)])) [] := by
 have hr := rowsS_length ls
 refine ev_fn rfl rfl ?_
 (repeat' (first| (intro (u_ : Unit); clear u_)| refine condT ?_| refine condF ?_| refine condp (by assumption) ?_| refine condn (by assumption) ?_| refine condN ?_| refine idxSb (by assumption) ?_| refine mkSb (n := 1) (by decide) ?_| refine callE_ev (does_ev _ _) ?_| (refine condD ?_ ?_ <;> intro hq_ <;> first | (exfalso; omega) | skip)| (refine idxS (by omega) ?_; intro b_ hb_; have hl_ := b_.toNat_lt)| refine wrA (by omega) ?_| refine wrS (by omega) (by omega) ?_| refine wrI (by omega) (by omega) ?_| refine wrBA (by omega) ?_| refine wrB (by omega) (by omega) ?_| refine strC (by omega) ?_| refine nilB rfl ?_))
 refine loopR (fun _ : Nat => []) (fun k => [(1, mB (patL ls k) [] (lst [cmd 100 0 0 false]) ls k false (2 * ls.length - 2 * k) (.sref 0 0 1) false .nil (if k = 0 then 0 else 2) false 0)]) (fun k => ls.length - k) (fun k => k ≤ ls.length) 0 (by omega) (by rfl) (by rfl) ?_
 intro k hk
 by_cases hkl : k < ls.length
 ·obtain ⟨x, hx⟩ : ∃ x, ls[k]? = some x := ⟨ls[k], List.getElem?_eq_getElem hkl⟩
  have e1 : patL ls (k + 1) = x := getD_of hx
  have e3 := take_snoc hx
  (repeat' (first| (intro (u_ : Unit); clear u_)| refine condT ?_| refine condF ?_| refine condp (by assumption) ?_| refine condn (by assumption) ?_| refine condN ?_| refine idxSb (by assumption) ?_| refine callE_ev (burn_ev (by omega) (by omega)) ?_| refine idxLb (rowsS_get hx) rfl ?_| refine idxLb (i := 0) rfl rfl ?_| refine idxLb (i := 1) rfl rfl ?_| refine idxLb (i := 2) rfl rfl ?_| refine loopS ?_| refine callE_ev (meant_ev rfl (by decide)) ?_| refine findB rfl ?_| refine callE_ev (print_ev (by first | assumption | (simp; done) | (simp; omega))) ?_| refine callE_ev (drop_ev (Nat.le_of_ble_eq_true rfl)) ?_| refine callE_ev (quit_ev (by first | assumption | (simp; done) | (simp; omega))) ?_| refine callE_ev copy_ev ?_| refine callE_ev get_ev ?_| refine callE_ev change_ev ?_| refine callE_ev (getMore_ev (by omega)) ?_| refine callE_ev (tell_ev (by first | assumption | (simp; done) | (simp; omega))) ?_| (refine condD ?_ ?_ <;> intro hq_ <;> first | (exfalso; omega) | skip)| (refine idxS (by omega) ?_; intro b_ hb_; have hl_ := b_.toNat_lt)| refine wrA (by omega) ?_| refine wrS (by omega) (by omega) ?_| refine wrI (by omega) (by omega) ?_| refine wrBA (by omega) ?_| refine wrB (by omega) (by omega) ?_| refine strC (by omega) ?_| refine nilB rfl ?_))
  refine ⟨k + 1, by omega, by omega, rfl, ?_, rfl, rfl⟩
  have e2 : 2 * ls.length - 2 * (k + 1) = 2 * ls.length - 2 * k - 1 - 1 := by omega
  simp only [if_true, e1, e2, e3, Nat.add_one_ne_zero, if_false]
  exact (trim_same rfl).trans rfl
 ·have e1 : k = ls.length := by omega
  subst e1
  rw [Nat.sub_self]
  (repeat' (first| (intro (u_ : Unit); clear u_)| refine condT ?_| refine condF ?_| refine condp (by assumption) ?_| refine condn (by assumption) ?_| refine condN ?_| refine idxSb (by assumption) ?_| (refine condD ?_ ?_ <;> intro hq_ <;> first | (exfalso; omega) | skip)| (refine idxS (by omega) ?_; intro b_ hb_; have hl_ := b_.toNat_lt)| refine wrA (by omega) ?_| refine wrS (by omega) (by omega) ?_| refine wrI (by omega) (by omega) ?_| refine wrBA (by omega) ?_| refine wrB (by omega) (by omega) ?_| refine strC (by omega) ?_| refine nilB rfl ?_))
  exact ⟨rfl, rfl⟩
theorem tells_at {n k len : Nat} (nt : Bool) (h : k = n) : (tellsM 1 n k len == nt) = nt := by subst h; cases nt <;> simp [tellsM]
theorem tells_off {n k len : Nat} (nt : Bool) (h : k ≠ n) : (tellsM 1 n k len == nt) = !nt := by
 have : (k == n) = false := by simpa using h
 cases nt <;> simp [tellsM, this]
theorem maxz (a : Nat) : max (a : Int) ((0 : Nat) : Int) = a := by omega
theorem Run_q (ls : List (List UInt8)) (n : Nat) (hn : 1 ≤ n) (hn2 : n ≤ ls.length) (hl : ls.length ≤ 200) : Ev T2 f_stream_Run [lst [cmd 113 1 n false], lst (rowsS ls), bl false, i64 (1000 : Nat)] [] (.ret (.tup [lst (rowsS (ls.take n)), i64 (1000 - 2 * n : Nat), i64 (0 : Nat)])) [] := by
 have hr := rowsS_length ls
 refine ev_fn rfl rfl ?_
 (repeat' (first| (intro (u_ : Unit); clear u_)| refine condT ?_| refine condF ?_| refine condp (by assumption) ?_| refine condn (by assumption) ?_| refine condN ?_| refine idxSb (by assumption) ?_| refine mkSb (n := 1) (by decide) ?_| refine callE_ev (does_ev _ _) ?_| (refine condD ?_ ?_ <;> intro hq_ <;> first | (exfalso; omega) | skip)| (refine idxS (by omega) ?_; intro b_ hb_; have hl_ := b_.toNat_lt)| refine wrA (by omega) ?_| refine wrS (by omega) (by omega) ?_| refine wrI (by omega) (by omega) ?_| refine wrBA (by omega) ?_| refine wrB (by omega) (by omega) ?_| refine strC (by omega) ?_| refine nilB rfl ?_))
 refine loopR (fun _ : Nat => []) (fun k => [(1, mB (patL ls k) [] (lst [cmd 113 1 n false]) ls k false (1000 - 2 * k) (.sref 0 0 1) false (outA (ls.take k)) (if k = 0 then 0 else 1) false 0)]) (fun k => n - k) (fun k => k ≤ n - 1) 0 (by omega) (by rfl) (by rfl) ?_
 intro k hk
 obtain ⟨x, hx⟩ : ∃ x, ls[k]? = some x := ⟨ls[k], List.getElem?_eq_getElem (by omega)⟩
 have e1 : patL ls (k + 1) = x := getD_of hx
 have e3 := take_snoc hx
 by_cases hkn : k + 1 = n
 ·have hm := tells_at (len := ls.length) false hkn
  have e4 : ls.take n = ls.take k ++ [x] := by rw [← hkn]; exact e3
  have e5 : 1000 - 2 * n = 1000 - 2 * k - 1 - 1 := by omega
  rw [e4, e5]
  cases hr0 : ls.take k with
  | nil =>
    (repeat' (first| (intro (u_ : Unit); clear u_)| refine condT ?_| refine condF ?_| refine condp (by assumption) ?_| refine condn (by assumption) ?_| refine condN ?_| refine idxSb (by assumption) ?_| refine callE_ev (burn_ev (by omega) (by omega)) ?_| refine idxLb (rowsS_get hx) rfl ?_| refine idxLb (i := 0) rfl rfl ?_| refine idxLb (i := 1) rfl rfl ?_| refine idxLb (i := 2) rfl rfl ?_| refine loopS ?_| refine condt hm ?_| refine condf hm ?_| refine callE_ev (meant_ev rfl (by decide)) ?_| refine findB rfl ?_| refine callE_ev (print_ev (by first | assumption | (simp; done) | (simp; omega))) ?_| refine callE_ev (drop_ev (Nat.le_of_ble_eq_true rfl)) ?_| refine callE_ev (quit_ev (by first | assumption | (simp; done) | (simp; omega))) ?_| refine callE_ev copy_ev ?_| refine callE_ev get_ev ?_| refine callE_ev change_ev ?_| refine callE_ev (getMore_ev (by omega)) ?_| refine callE_ev (tell_ev (by first | assumption | (simp; done) | (simp; omega))) ?_| (refine condD ?_ ?_ <;> intro hq_ <;> first | (exfalso; omega) | skip)| (refine idxS (by omega) ?_; intro b_ hb_; have hl_ := b_.toNat_lt)| refine wrA (by omega) ?_| refine wrS (by omega) (by omega) ?_| refine wrI (by omega) (by omega) ?_| refine wrBA (by omega) ?_| refine wrB (by omega) (by omega) ?_| refine strC (by omega) ?_| refine nilB rfl ?_))
    exact ⟨by first | (rw [maxz]; done) | (rw [maxz]; rfl), rfl⟩
  | cons r rs =>
    have hlr : (r :: rs).length ≤ 1000 := by rw [← hr0]; simp; omega
    (repeat' (first| (intro (u_ : Unit); clear u_)| refine condT ?_| refine condF ?_| refine condp (by assumption) ?_| refine condn (by assumption) ?_| refine condN ?_| refine idxSb (by assumption) ?_| refine callE_ev (burn_ev (by omega) (by omega)) ?_| refine idxLb (rowsS_get hx) rfl ?_| refine idxLb (i := 0) rfl rfl ?_| refine idxLb (i := 1) rfl rfl ?_| refine idxLb (i := 2) rfl rfl ?_| refine loopS ?_| refine condt hm ?_| refine condf hm ?_| refine callE_ev (meant_ev rfl (by decide)) ?_| refine findB rfl ?_| refine callE_ev (print_ev (by first | assumption | (simp; done) | (simp; omega))) ?_| refine callE_ev (drop_ev (Nat.le_of_ble_eq_true rfl)) ?_| refine callE_ev (quit_ev (Nat.le_trans hlr (by decide))) ?_| refine callE_ev copy_ev ?_| refine callE_ev get_ev ?_| refine callE_ev change_ev ?_| refine callE_ev (getMore_ev (by omega)) ?_| refine callE_ev (tell_ev (by first | assumption | (simp; done) | (simp; omega))) ?_| (refine condD ?_ ?_ <;> intro hq_ <;> first | (exfalso; omega) | skip)| (refine idxS (by omega) ?_; intro b_ hb_; have hl_ := b_.toNat_lt)| refine wrA (by omega) ?_| refine wrS (by omega) (by omega) ?_| refine wrI (by omega) (by omega) ?_| refine wrBA (by omega) ?_| refine wrB (by omega) (by omega) ?_| refine strC (by omega) ?_| refine nilB rfl ?_))
    exact ⟨by first | (rw [maxz]; done) | (rw [maxz]; rfl), rfl⟩
 ·have hm := tells_off (len := ls.length) false hkn
  (repeat' (first| (intro (u_ : Unit); clear u_)| refine condT ?_| refine condF ?_| refine condp (by assumption) ?_| refine condn (by assumption) ?_| refine condN ?_| refine idxSb (by assumption) ?_| refine callE_ev (burn_ev (by omega) (by omega)) ?_| refine idxLb (rowsS_get hx) rfl ?_| refine idxLb (i := 0) rfl rfl ?_| refine idxLb (i := 1) rfl rfl ?_| refine idxLb (i := 2) rfl rfl ?_| refine loopS ?_| refine condt hm ?_| refine condf hm ?_| refine callE_ev (meant_ev rfl (by decide)) ?_| refine findB rfl ?_| refine callE_ev (print_ev (by first | assumption | (simp; done) | (simp; omega))) ?_| refine callE_ev (drop_ev (Nat.le_of_ble_eq_true rfl)) ?_| refine callE_ev (quit_ev (by first | assumption | (simp; done) | (simp; omega))) ?_| refine callE_ev copy_ev ?_| refine callE_ev get_ev ?_| refine callE_ev change_ev ?_| refine callE_ev (getMore_ev (by omega)) ?_| refine callE_ev (tell_ev (by first | assumption | (simp; done) | (simp; omega))) ?_| (refine condD ?_ ?_ <;> intro hq_ <;> first | (exfalso; omega) | skip)| (refine idxS (by omega) ?_; intro b_ hb_; have hl_ := b_.toNat_lt)| refine wrA (by omega) ?_| refine wrS (by omega) (by omega) ?_| refine wrI (by omega) (by omega) ?_| refine wrBA (by omega) ?_| refine wrB (by omega) (by omega) ?_| refine strC (by omega) ?_| refine nilB rfl ?_))
  refine ⟨k + 1, by omega, by omega, rfl, ?_, rfl, rfl⟩
  have e2 : 1000 - 2 * (k + 1) = 1000 - 2 * k - 1 - 1 := by omega
  simp only [if_true, e1, e2, e3, Nat.add_one_ne_zero, if_false, Bool.false_eq_true]
  exact (trim_same rfl).trans rfl
theorem Run_dn (ls : List (List UInt8)) (n : Nat) (hn : 1 ≤ n) (hn2 : n ≤ ls.length) (hl : ls.length ≤ 200) : Ev T2 f_stream_Run [lst [cmd 100 1 n true], lst (rowsS ls), bl false, i64 (1000 : Nat)] [] (.ret (.tup [lst (rowsS [ls.getD (n - 1) []]), i64 (1000 - 2 * ls.length : Nat), i64 (0 : Nat)])) [] := by
 have hr := rowsS_length ls
 refine ev_fn rfl rfl ?_
 (repeat' (first| (intro (u_ : Unit); clear u_)| refine condT ?_| refine condF ?_| refine condp (by assumption) ?_| refine condn (by assumption) ?_| refine condN ?_| refine idxSb (by assumption) ?_| refine mkSb (n := 1) (by decide) ?_| refine callE_ev (does_ev _ _) ?_| (refine condD ?_ ?_ <;> intro hq_ <;> first | (exfalso; omega) | skip)| (refine idxS (by omega) ?_; intro b_ hb_; have hl_ := b_.toNat_lt)| refine wrA (by omega) ?_| refine wrS (by omega) (by omega) ?_| refine wrI (by omega) (by omega) ?_| refine wrBA (by omega) ?_| refine wrB (by omega) (by omega) ?_| refine strC (by omega) ?_| refine nilB rfl ?_))
 refine loopR (fun _ : Nat => []) (fun k => [(1, mB (patL ls k) [] (lst [cmd 100 1 n true]) ls k false (1000 - 2 * k) (.sref 0 0 1) false (outA (if k < n then [] else [ls.getD (n - 1) []])) (if k = 0 then 0 else if k = n then 1 else 2) false 0)]) (fun k => ls.length - k) (fun k => k ≤ ls.length) 0 (by omega) (by rfl) (by simp only [show 0 < n from hn, if_true]; rfl) ?_
 intro k hk
 by_cases hkl : k < ls.length
 ·obtain ⟨x, hx⟩ : ∃ x, ls[k]? = some x := ⟨ls[k], List.getElem?_eq_getElem hkl⟩
  have e1 : patL ls (k + 1) = x := getD_of hx
  have e2 : 1000 - 2 * (k + 1) = 1000 - 2 * k - 1 - 1 := by omega
  by_cases hkn : k + 1 = n
  ·have hm := tells_at (len := ls.length) true hkn
   have e4 : (if k < n then [] else [ls.getD (n - 1) []]) = ([] : List (List UInt8)) := if_pos (by omega)
   have e5 : (if k + 1 < n then [] else [ls.getD (n - 1) []]) = [x] := by rw [if_neg (by omega), ← hkn, Nat.add_sub_cancel, getD_of hx]
   rw [e4]
   (repeat' (first| (intro (u_ : Unit); clear u_)| refine condT ?_| refine condF ?_| refine condp (by assumption) ?_| refine condn (by assumption) ?_| refine condN ?_| refine idxSb (by assumption) ?_| refine callE_ev (burn_ev (by omega) (by omega)) ?_| refine idxLb (rowsS_get hx) rfl ?_| refine idxLb (i := 0) rfl rfl ?_| refine idxLb (i := 1) rfl rfl ?_| refine idxLb (i := 2) rfl rfl ?_| refine loopS ?_| refine condt hm ?_| refine condf hm ?_| refine callE_ev (meant_ev rfl (by decide)) ?_| refine findB rfl ?_| refine callE_ev (print_ev (by first | assumption | (simp; done) | (simp; omega))) ?_| refine callE_ev (drop_ev (Nat.le_of_ble_eq_true rfl)) ?_| refine callE_ev (quit_ev (by first | assumption | (simp; done) | (simp; omega))) ?_| refine callE_ev copy_ev ?_| refine callE_ev get_ev ?_| refine callE_ev change_ev ?_| refine callE_ev (getMore_ev (by omega)) ?_| refine callE_ev (tell_ev (by first | assumption | (simp; done) | (simp; omega))) ?_| (refine condD ?_ ?_ <;> intro hq_ <;> first | (exfalso; omega) | skip)| (refine idxS (by omega) ?_; intro b_ hb_; have hl_ := b_.toNat_lt)| refine wrA (by omega) ?_| refine wrS (by omega) (by omega) ?_| refine wrI (by omega) (by omega) ?_| refine wrBA (by omega) ?_| refine wrB (by omega) (by omega) ?_| refine strC (by omega) ?_| refine nilB rfl ?_))
   refine ⟨k + 1, by omega, by omega, rfl, ?_, rfl, rfl⟩
   have e6 : (if k + 1 = n then 1 else 2) = 1 := if_pos hkn
   simp only [e1, e2, e5, e6, Nat.add_one_ne_zero, if_false]
   exact (trim_same rfl).trans rfl
  ·have hm := tells_off (len := ls.length) true hkn
   have e5 : (if k + 1 < n then [] else [ls.getD (n - 1) []]) = (if k < n then [] else [ls.getD (n - 1) []]) := by
    by_cases h : k < n
    ·rw [if_pos h, if_pos (by omega)]
    ·rw [if_neg h, if_neg (by omega)]
   have hlo : (if k < n then [] else [ls.getD (n - 1) []]).length ≤ 1000000 := by split <;> simp
   (repeat' (first| (intro (u_ : Unit); clear u_)| refine condT ?_| refine condF ?_| refine condp (by assumption) ?_| refine condn (by assumption) ?_| refine condN ?_| refine idxSb (by assumption) ?_| refine callE_ev (burn_ev (by omega) (by omega)) ?_| refine idxLb (rowsS_get hx) rfl ?_| refine idxLb (i := 0) rfl rfl ?_| refine idxLb (i := 1) rfl rfl ?_| refine idxLb (i := 2) rfl rfl ?_| refine loopS ?_| refine condt hm ?_| refine condf hm ?_| refine callE_ev (meant_ev rfl (by decide)) ?_| refine findB rfl ?_| refine callE_ev (print_ev (by first | assumption | (simp; done) | (simp; omega))) ?_| refine callE_ev (drop_ev (Nat.le_of_ble_eq_true rfl)) ?_| refine callE_ev (quit_ev (by first | assumption | (simp; done) | (simp; omega))) ?_| refine callE_ev copy_ev ?_| refine callE_ev get_ev ?_| refine callE_ev change_ev ?_| refine callE_ev (getMore_ev (by omega)) ?_| refine callE_ev (tell_ev (by first | assumption | (simp; done) | (simp; omega))) ?_| (refine condD ?_ ?_ <;> intro hq_ <;> first | (exfalso; omega) | skip)| (refine idxS (by omega) ?_; intro b_ hb_; have hl_ := b_.toNat_lt)| refine wrA (by omega) ?_| refine wrS (by omega) (by omega) ?_| refine wrI (by omega) (by omega) ?_| refine wrBA (by omega) ?_| refine wrB (by omega) (by omega) ?_| refine strC (by omega) ?_| refine nilB rfl ?_))
   refine ⟨k + 1, by omega, by omega, rfl, ?_, rfl, rfl⟩
   have e6 : (if k + 1 = n then 1 else 2) = 2 := if_neg hkn
   simp only [e1, e2, e5, e6, Nat.add_one_ne_zero, if_false]
   exact (trim_same rfl).trans rfl
 ·have e1 : k = ls.length := by omega
  subst e1
  have e4 : (if ls.length < n then [] else [ls.getD (n - 1) []]) = [ls.getD (n - 1) []] := if_neg (by omega)
  rw [e4]
  (repeat' (first| (intro (u_ : Unit); clear u_)| refine condT ?_| refine condF ?_| refine condp (by assumption) ?_| refine condn (by assumption) ?_| refine condN ?_| refine idxSb (by assumption) ?_| (refine condD ?_ ?_ <;> intro hq_ <;> first | (exfalso; omega) | skip)| (refine idxS (by omega) ?_; intro b_ hb_; have hl_ := b_.toNat_lt)| refine wrA (by omega) ?_| refine wrS (by omega) (by omega) ?_| refine wrI (by omega) (by omega) ?_| refine wrBA (by omega) ?_| refine wrB (by omega) (by omega) ?_| refine strC (by omega) ?_| refine nilB rfl ?_))
  exact ⟨by first | (rw [maxz]; done) | (rw [maxz]; rfl), rfl⟩
theorem Run_pn (ls : List (List UInt8)) (n : Nat) (hn : 1 ≤ n) (hn2 : n ≤ ls.length) (hl : ls.length ≤ 200) : Ev T2 f_stream_Run [lst [cmd 112 1 n false], lst (rowsS ls), bl true, i64 (1000 : Nat)] [] (.ret (.tup [lst (rowsS [ls.getD (n - 1) []]), i64 (1000 - 2 * ls.length : Nat), i64 (0 : Nat)])) [] := by
 have hr := rowsS_length ls
 refine ev_fn rfl rfl ?_
 (repeat' (first| (intro (u_ : Unit); clear u_)| refine condT ?_| refine condF ?_| refine condp (by assumption) ?_| refine condn (by assumption) ?_| refine condN ?_| refine idxSb (by assumption) ?_| refine mkSb (n := 1) (by decide) ?_| refine callE_ev (does_ev _ _) ?_| (refine condD ?_ ?_ <;> intro hq_ <;> first | (exfalso; omega) | skip)| (refine idxS (by omega) ?_; intro b_ hb_; have hl_ := b_.toNat_lt)| refine wrA (by omega) ?_| refine wrS (by omega) (by omega) ?_| refine wrI (by omega) (by omega) ?_| refine wrBA (by omega) ?_| refine wrB (by omega) (by omega) ?_| refine strC (by omega) ?_| refine nilB rfl ?_))
 refine loopR (fun _ : Nat => []) (fun k => [(1, mB (patL ls k) [] (lst [cmd 112 1 n false]) ls k true (1000 - 2 * k) (.sref 0 0 1) false (outA (if k < n then [] else [ls.getD (n - 1) []])) (if k = 0 then 0 else 1) false 0)]) (fun k => ls.length - k) (fun k => k ≤ ls.length) 0 (by omega) (by rfl) (by simp only [show 0 < n from hn, if_true]; rfl) ?_
 intro k hk
 by_cases hkl : k < ls.length
 ·obtain ⟨x, hx⟩ : ∃ x, ls[k]? = some x := ⟨ls[k], List.getElem?_eq_getElem hkl⟩
  have e1 : patL ls (k + 1) = x := getD_of hx
  have e2 : 1000 - 2 * (k + 1) = 1000 - 2 * k - 1 - 1 := by omega
  by_cases hkn : k + 1 = n
  ·have hm := tells_at (len := ls.length) false hkn
   have e4 : (if k < n then [] else [ls.getD (n - 1) []]) = ([] : List (List UInt8)) := if_pos (by omega)
   have e5 : (if k + 1 < n then [] else [ls.getD (n - 1) []]) = [x] := by rw [if_neg (by omega), ← hkn, Nat.add_sub_cancel, getD_of hx]
   rw [e4]
   (repeat' (first| (intro (u_ : Unit); clear u_)| refine condT ?_| refine condF ?_| refine condp (by assumption) ?_| refine condn (by assumption) ?_| refine condN ?_| refine idxSb (by assumption) ?_| refine callE_ev (burn_ev (by omega) (by omega)) ?_| refine idxLb (rowsS_get hx) rfl ?_| refine idxLb (i := 0) rfl rfl ?_| refine idxLb (i := 1) rfl rfl ?_| refine idxLb (i := 2) rfl rfl ?_| refine loopS ?_| refine condt hm ?_| refine condf hm ?_| refine callE_ev (meant_ev rfl (by decide)) ?_| refine findB rfl ?_| refine callE_ev (print_ev (by first | assumption | (simp; done) | (simp; omega))) ?_| refine callE_ev (drop_ev (Nat.le_of_ble_eq_true rfl)) ?_| refine callE_ev (quit_ev (by first | assumption | (simp; done) | (simp; omega))) ?_| refine callE_ev copy_ev ?_| refine callE_ev get_ev ?_| refine callE_ev change_ev ?_| refine callE_ev (getMore_ev (by omega)) ?_| refine callE_ev (tell_ev (by first | assumption | (simp; done) | (simp; omega))) ?_| (refine condD ?_ ?_ <;> intro hq_ <;> first | (exfalso; omega) | skip)| (refine idxS (by omega) ?_; intro b_ hb_; have hl_ := b_.toNat_lt)| refine wrA (by omega) ?_| refine wrS (by omega) (by omega) ?_| refine wrI (by omega) (by omega) ?_| refine wrBA (by omega) ?_| refine wrB (by omega) (by omega) ?_| refine strC (by omega) ?_| refine nilB rfl ?_))
   refine ⟨k + 1, by omega, by omega, rfl, ?_, rfl, rfl⟩
   have e6 : (if k + 1 = n then 1 else 2) = 1 := if_pos hkn
   simp only [e1, e2, e5, e6, Nat.add_one_ne_zero, if_false]
   exact (trim_same rfl).trans rfl
  ·have hm := tells_off (len := ls.length) false hkn
   have e5 : (if k + 1 < n then [] else [ls.getD (n - 1) []]) = (if k < n then [] else [ls.getD (n - 1) []]) := by
    by_cases h : k < n
    ·rw [if_pos h, if_pos (by omega)]
    ·rw [if_neg h, if_neg (by omega)]
   have hlo : (if k < n then [] else [ls.getD (n - 1) []]).length ≤ 1000000 := by split <;> simp
   (repeat' (first| (intro (u_ : Unit); clear u_)| refine condT ?_| refine condF ?_| refine condp (by assumption) ?_| refine condn (by assumption) ?_| refine condN ?_| refine idxSb (by assumption) ?_| refine callE_ev (burn_ev (by omega) (by omega)) ?_| refine idxLb (rowsS_get hx) rfl ?_| refine idxLb (i := 0) rfl rfl ?_| refine idxLb (i := 1) rfl rfl ?_| refine idxLb (i := 2) rfl rfl ?_| refine loopS ?_| refine condt hm ?_| refine condf hm ?_| refine callE_ev (meant_ev rfl (by decide)) ?_| refine findB rfl ?_| refine callE_ev (print_ev (by first | assumption | (simp; done) | (simp; omega))) ?_| refine callE_ev (drop_ev (Nat.le_of_ble_eq_true rfl)) ?_| refine callE_ev (quit_ev (by first | assumption | (simp; done) | (simp; omega))) ?_| refine callE_ev copy_ev ?_| refine callE_ev get_ev ?_| refine callE_ev change_ev ?_| refine callE_ev (getMore_ev (by omega)) ?_| refine callE_ev (tell_ev (by first | assumption | (simp; done) | (simp; omega))) ?_| (refine condD ?_ ?_ <;> intro hq_ <;> first | (exfalso; omega) | skip)| (refine idxS (by omega) ?_; intro b_ hb_; have hl_ := b_.toNat_lt)| refine wrA (by omega) ?_| refine wrS (by omega) (by omega) ?_| refine wrI (by omega) (by omega) ?_| refine wrBA (by omega) ?_| refine wrB (by omega) (by omega) ?_| refine strC (by omega) ?_| refine nilB rfl ?_))
   refine ⟨k + 1, by omega, by omega, rfl, ?_, rfl, rfl⟩
   have e6 : (if k + 1 = n then 1 else 2) = 2 := if_neg hkn
   simp only [e1, e2, e5, e6, Nat.add_one_ne_zero, if_false]
   exact (trim_same rfl).trans rfl
 ·have e1 : k = ls.length := by omega
  subst e1
  have e4 : (if ls.length < n then [] else [ls.getD (n - 1) []]) = [ls.getD (n - 1) []] := if_neg (by omega)
  rw [e4]
  (repeat' (first| (intro (u_ : Unit); clear u_)| refine condT ?_| refine condF ?_| refine condp (by assumption) ?_| refine condn (by assumption) ?_| refine condN ?_| refine idxSb (by assumption) ?_| (refine condD ?_ ?_ <;> intro hq_ <;> first | (exfalso; omega) | skip)| (refine idxS (by omega) ?_; intro b_ hb_; have hl_ := b_.toNat_lt)| refine wrA (by omega) ?_| refine wrS (by omega) (by omega) ?_| refine wrI (by omega) (by omega) ?_| refine wrBA (by omega) ?_| refine wrB (by omega) (by omega) ?_| refine strC (by omega) ?_| refine nilB rfl ?_))
  exact ⟨by first | (rw [maxz]; done) | (rw [maxz]; rfl), rfl⟩
end Go.Ab.R09
namespace Go.Ab.R09
set_option maxRecDepth 100000
set_option linter.all false
set_option maxHeartbeats 4000000
def holdL (ls : List (List UInt8)) : Nat → List UInt8
 | 0 => []
 | 1 => ls.getD 0 []
 | k + 2 => ls.getD (k + 1) [] ++ [10] ++ holdL ls (k + 1)
theorem holdL_le {ls : List (List UInt8)} : ∀ k, k ≤ ls.length → (holdL ls k).length ≤ sumL (ls.take k) + k
 | 0, _ => by simp [holdL]
 | 1, h => by
   obtain ⟨x, hx⟩ : ∃ x, ls[0]? = some x := ⟨ls[0], List.getElem?_eq_getElem (by omega)⟩
   have h1 := sumL_take hx
   simp only [holdL, getD_of hx]
   simp only [Nat.zero_add] at h1
   omega
 | k + 2, h => by
   obtain ⟨x, hx⟩ : ∃ x, ls[k + 1]? = some x := ⟨ls[k + 1], List.getElem?_eq_getElem (by omega)⟩
   have h1 : sumL (ls.take (k + 2)) = sumL (ls.take (k + 1)) + x.length := sumL_take hx
   have h2 := holdL_le (ls := ls) (k + 1) (by omega)
   have h3 : (holdL ls (k + 2)).length = x.length + 1 + (holdL ls (k + 1)).length := by simp only [holdL, getD_of hx, List.length_append, List.length_cons, List.length_nil]
   omega
theorem last_at {n k len : Nat} (nt : Bool) (h : k = len) : (tellsM 2 n k len == nt) = nt := by subst h; cases nt <;> simp [tellsM]
theorem last_off {n k len : Nat} (nt : Bool) (h : k ≠ len) : (tellsM 2 n k len == nt) = !nt := by
 have : (k == len) = false := by simpa using h
 cases nt <;> simp [tellsM, this]
theorem Run_G (ls : List (List UInt8)) (h0 : 1 ≤ ls.length) (hl : longN ls ≤ 200) : Ev T2 f_stream_Run [lst [cmd 71 1 1 true, cmd 104 0 0 false, cmd 100 2 0 true], lst (rowsS ls), bl false, i64 (1500 : Nat)] [] (.ret (.tup [lst (rowsS [holdL ls ls.length]), i64 (1500 - 4 * ls.length : Nat), i64 (0 : Nat)])) [] := by
 have hr := rowsS_length ls
 have hl : ls.length + sumL ls ≤ 200 := hl
 refine ev_fn rfl rfl ?_
 (repeat' (first| (intro (u_ : Unit); clear u_)| refine condT ?_| refine condF ?_| refine condp (by assumption) ?_| refine condn (by assumption) ?_| refine condN ?_| refine idxSb (by assumption) ?_| refine mkSb (n := 3) (by decide) ?_| refine callE_ev (does_ev _ _) ?_| (refine condD ?_ ?_ <;> intro hq_ <;> first | (exfalso; omega) | skip)| (refine idxS (by omega) ?_; intro b_ hb_; have hl_ := b_.toNat_lt)| refine wrA (by omega) ?_| refine wrS (by omega) (by omega) ?_| refine wrI (by omega) (by omega) ?_| refine wrBA (by omega) ?_| refine wrB (by omega) (by omega) ?_| refine strC (by omega) ?_| refine nilB rfl ?_))
 refine loopR (fun _ : Nat => []) (fun k => [(1, mB (holdL ls k) (holdL ls k) (lst [cmd 71 1 1 true, cmd 104 0 0 false, cmd 100 2 0 true]) ls k false (1500 - 4 * k) (.sref 0 0 3) false (outA (if k < ls.length then [] else [holdL ls ls.length])) (if k = 0 then 0 else if k < ls.length then 4 else 3) false 0)]) (fun k => ls.length - k) (fun k => k ≤ ls.length) 0 (by omega) (by rfl) (by simp only [show 0 < ls.length from h0, if_true]; rfl) ?_
 intro k hk
 by_cases hkl : k < ls.length
 ·obtain ⟨x, hx⟩ : ∃ x, ls[k]? = some x := ⟨ls[k], List.getElem?_eq_getElem hkl⟩
  have e4 : (if k < ls.length then [] else [holdL ls ls.length]) = ([] : List (List UInt8)) := if_pos hkl
  rw [e4]
  have hb := holdL_le (ls := ls) k (by omega)
  have hb2 := sumL_take hx
  have hb3 := sumL_le ls (k + 1)
  cases k with
  | zero =>
    have e1 : holdL ls 1 = x := getD_of hx
    by_cases hl2 : 0 + 1 = ls.length
    ·have hm := tells_at (n := 1) (k := 0 + 1) (len := ls.length) true (by omega)
     have hm2 := last_at (n := 0) (k := 0 + 1) (len := ls.length) true hl2
     (repeat' (first| (intro (u_ : Unit); clear u_)| refine condT ?_| refine condF ?_| refine condp (by assumption) ?_| refine condn (by assumption) ?_| refine condN ?_| refine idxSb (by assumption) ?_| refine condt hm2 ?_| refine condf hm2 ?_| refine callE_ev (burn_ev (by omega) (by omega)) ?_| refine idxLb (rowsS_get hx) rfl ?_| refine idxLb (i := 0) rfl rfl ?_| refine idxLb (i := 1) rfl rfl ?_| refine idxLb (i := 2) rfl rfl ?_| refine loopS ?_| refine condt hm ?_| refine condf hm ?_| refine callE_ev (meant_ev rfl (by decide)) ?_| refine findB rfl ?_| refine callE_ev (print_ev (by first | assumption | (simp; done) | (simp; omega))) ?_| refine callE_ev (drop_ev (Nat.le_of_ble_eq_true rfl)) ?_| refine callE_ev (quit_ev (by first | assumption | (simp; done) | (simp; omega))) ?_| refine callE_ev copy_ev ?_| refine callE_ev get_ev ?_| refine callE_ev change_ev ?_| refine callE_ev (getMore_ev (by omega)) ?_| refine callE_ev (tell_ev (by first | assumption | (simp; done) | (simp; omega))) ?_| (refine condD ?_ ?_ <;> intro hq_ <;> first | (exfalso; omega) | skip)| (refine idxS (by omega) ?_; intro b_ hb_; have hl_ := b_.toNat_lt)| refine wrA (by omega) ?_| refine wrS (by omega) (by omega) ?_| refine wrI (by omega) (by omega) ?_| refine wrBA (by omega) ?_| refine wrB (by omega) (by omega) ?_| refine strC (by omega) ?_| refine nilB rfl ?_))
     refine ⟨1, by omega, by omega, rfl, ?_, rfl, rfl⟩
     have e5 : (if 1 < ls.length then [] else [holdL ls ls.length]) = [holdL ls (1)] := by rw [if_neg (by omega), ← (show 1 = ls.length from hl2)]
     have e6 : (if 1 < ls.length then 4 else 3) = 3 := if_neg (by omega)
     have e7 : 1500 - 4 * (1) = 1500 - 4 * (0) - 1 - 1 - 1 - 1 := by omega
     simp only [e5, e6, e7, e1, Nat.add_one_ne_zero, if_false]
     exact (trim_same rfl).trans rfl
    ·have hm := tells_at (n := 1) (k := 0 + 1) (len := ls.length) true (by omega)
     have hm2 := last_off (n := 0) (k := 0 + 1) (len := ls.length) true hl2
     (repeat' (first| (intro (u_ : Unit); clear u_)| refine condT ?_| refine condF ?_| refine condp (by assumption) ?_| refine condn (by assumption) ?_| refine condN ?_| refine idxSb (by assumption) ?_| refine condt hm2 ?_| refine condf hm2 ?_| refine callE_ev (burn_ev (by omega) (by omega)) ?_| refine idxLb (rowsS_get hx) rfl ?_| refine idxLb (i := 0) rfl rfl ?_| refine idxLb (i := 1) rfl rfl ?_| refine idxLb (i := 2) rfl rfl ?_| refine loopS ?_| refine condt hm ?_| refine condf hm ?_| refine callE_ev (meant_ev rfl (by decide)) ?_| refine findB rfl ?_| refine callE_ev (print_ev (by first | assumption | (simp; done) | (simp; omega))) ?_| refine callE_ev (drop_ev (Nat.le_of_ble_eq_true rfl)) ?_| refine callE_ev (quit_ev (by first | assumption | (simp; done) | (simp; omega))) ?_| refine callE_ev copy_ev ?_| refine callE_ev get_ev ?_| refine callE_ev change_ev ?_| refine callE_ev (getMore_ev (by omega)) ?_| refine callE_ev (tell_ev (by first | assumption | (simp; done) | (simp; omega))) ?_| (refine condD ?_ ?_ <;> intro hq_ <;> first | (exfalso; omega) | skip)| (refine idxS (by omega) ?_; intro b_ hb_; have hl_ := b_.toNat_lt)| refine wrA (by omega) ?_| refine wrS (by omega) (by omega) ?_| refine wrI (by omega) (by omega) ?_| refine wrBA (by omega) ?_| refine wrB (by omega) (by omega) ?_| refine strC (by omega) ?_| refine nilB rfl ?_))
     refine ⟨1, by omega, by omega, rfl, ?_, rfl, rfl⟩
     have e5 : (if 1 < ls.length then [] else [holdL ls ls.length]) = ([] : List (List UInt8)) := if_pos (by omega)
     have e6 : (if 1 < ls.length then 4 else 3) = 4 := if_pos (by omega)
     have e7 : 1500 - 4 * (1) = 1500 - 4 * (0) - 1 - 1 - 1 - 1 := by omega
     simp only [e5, e6, e7, e1, Nat.add_one_ne_zero, if_false]
     exact (trim_same rfl).trans rfl
  | succ k =>
    have e1 : holdL ls (k + 2) = x ++ [10] ++ holdL ls (k + 1) := by simp only [holdL, getD_of hx]
    by_cases hl2 : k + 1 + 1 = ls.length
    ·have hm := tells_off (n := 1) (k := k + 1 + 1) (len := ls.length) true (by omega)
     have hm2 := last_at (n := 0) (k := k + 1 + 1) (len := ls.length) true hl2
     (repeat' (first| (intro (u_ : Unit); clear u_)| refine condT ?_| refine condF ?_| refine condp (by assumption) ?_| refine condn (by assumption) ?_| refine condN ?_| refine idxSb (by assumption) ?_| refine condt hm2 ?_| refine condf hm2 ?_| refine callE_ev (burn_ev (by omega) (by omega)) ?_| refine idxLb (rowsS_get hx) rfl ?_| refine idxLb (i := 0) rfl rfl ?_| refine idxLb (i := 1) rfl rfl ?_| refine idxLb (i := 2) rfl rfl ?_| refine loopS ?_| refine condt hm ?_| refine condf hm ?_| refine callE_ev (meant_ev rfl (by decide)) ?_| refine findB rfl ?_| refine callE_ev (print_ev (by first | assumption | (simp; done) | (simp; omega))) ?_| refine callE_ev (drop_ev (Nat.le_of_ble_eq_true rfl)) ?_| refine callE_ev (quit_ev (by first | assumption | (simp; done) | (simp; omega))) ?_| refine callE_ev copy_ev ?_| refine callE_ev get_ev ?_| refine callE_ev change_ev ?_| refine callE_ev (getMore_ev (by omega)) ?_| refine callE_ev (tell_ev (by first | assumption | (simp; done) | (simp; omega))) ?_| (refine condD ?_ ?_ <;> intro hq_ <;> first | (exfalso; omega) | skip)| (refine idxS (by omega) ?_; intro b_ hb_; have hl_ := b_.toNat_lt)| refine wrA (by omega) ?_| refine wrS (by omega) (by omega) ?_| refine wrI (by omega) (by omega) ?_| refine wrBA (by omega) ?_| refine wrB (by omega) (by omega) ?_| refine strC (by omega) ?_| refine nilB rfl ?_))
     refine ⟨k + 2, by omega, by omega, rfl, ?_, rfl, rfl⟩
     have e5 : (if k + 2 < ls.length then [] else [holdL ls ls.length]) = [holdL ls (k + 2)] := by rw [if_neg (by omega), ← (show k + 2 = ls.length from hl2)]
     have e6 : (if k + 2 < ls.length then 4 else 3) = 3 := if_neg (by omega)
     have e7 : 1500 - 4 * (k + 2) = 1500 - 4 * (k + 1) - 1 - 1 - 1 - 1 := by omega
     simp only [e5, e6, e7, e1, Nat.add_one_ne_zero, if_false]
     exact (trim_same rfl).trans rfl
    ·have hm := tells_off (n := 1) (k := k + 1 + 1) (len := ls.length) true (by omega)
     have hm2 := last_off (n := 0) (k := k + 1 + 1) (len := ls.length) true hl2
     (repeat' (first| (intro (u_ : Unit); clear u_)| refine condT ?_| refine condF ?_| refine condp (by assumption) ?_| refine condn (by assumption) ?_| refine condN ?_| refine idxSb (by assumption) ?_| refine condt hm2 ?_| refine condf hm2 ?_| refine callE_ev (burn_ev (by omega) (by omega)) ?_| refine idxLb (rowsS_get hx) rfl ?_| refine idxLb (i := 0) rfl rfl ?_| refine idxLb (i := 1) rfl rfl ?_| refine idxLb (i := 2) rfl rfl ?_| refine loopS ?_| refine condt hm ?_| refine condf hm ?_| refine callE_ev (meant_ev rfl (by decide)) ?_| refine findB rfl ?_| refine callE_ev (print_ev (by first | assumption | (simp; done) | (simp; omega))) ?_| refine callE_ev (drop_ev (Nat.le_of_ble_eq_true rfl)) ?_| refine callE_ev (quit_ev (by first | assumption | (simp; done) | (simp; omega))) ?_| refine callE_ev copy_ev ?_| refine callE_ev get_ev ?_| refine callE_ev change_ev ?_| refine callE_ev (getMore_ev (by omega)) ?_| refine callE_ev (tell_ev (by first | assumption | (simp; done) | (simp; omega))) ?_| (refine condD ?_ ?_ <;> intro hq_ <;> first | (exfalso; omega) | skip)| (refine idxS (by omega) ?_; intro b_ hb_; have hl_ := b_.toNat_lt)| refine wrA (by omega) ?_| refine wrS (by omega) (by omega) ?_| refine wrI (by omega) (by omega) ?_| refine wrBA (by omega) ?_| refine wrB (by omega) (by omega) ?_| refine strC (by omega) ?_| refine nilB rfl ?_))
     refine ⟨k + 2, by omega, by omega, rfl, ?_, rfl, rfl⟩
     have e5 : (if k + 2 < ls.length then [] else [holdL ls ls.length]) = ([] : List (List UInt8)) := if_pos (by omega)
     have e6 : (if k + 2 < ls.length then 4 else 3) = 4 := if_pos (by omega)
     have e7 : 1500 - 4 * (k + 2) = 1500 - 4 * (k + 1) - 1 - 1 - 1 - 1 := by omega
     simp only [e5, e6, e7, e1, Nat.add_one_ne_zero, if_false]
     exact (trim_same rfl).trans rfl
 ·have e1 : k = ls.length := by omega
  subst e1
  have e4 : (if ls.length < ls.length then [] else [holdL ls ls.length]) = [holdL ls ls.length] := if_neg (by omega)
  rw [e4]
  (repeat' (first| (intro (u_ : Unit); clear u_)| refine condT ?_| refine condF ?_| refine condp (by assumption) ?_| refine condn (by assumption) ?_| refine condN ?_| refine idxSb (by assumption) ?_| (refine condD ?_ ?_ <;> intro hq_ <;> first | (exfalso; omega) | skip)| (refine idxS (by omega) ?_; intro b_ hb_; have hl_ := b_.toNat_lt)| refine wrA (by omega) ?_| refine wrS (by omega) (by omega) ?_| refine wrI (by omega) (by omega) ?_| refine wrBA (by omega) ?_| refine wrB (by omega) (by omega) ?_| refine strC (by omega) ?_| refine nilB rfl ?_))
  exact ⟨by first | (rw [maxz]; done) | (rw [maxz]; rfl), rfl⟩
theorem Run_x (ls : List (List UInt8)) (hl : ls.length ≤ 200) : Ev T2 f_stream_Run [lst [cmd 104 0 0 false, cmd 120 0 0 false, cmd 103 0 0 false], lst (rowsS ls), bl false, i64 (1500 : Nat)] [] (.ret (.tup [lst (rowsS ls), i64 (1500 - 4 * ls.length : Nat), i64 (0 : Nat)])) [] := by
 have hr := rowsS_length ls
 refine ev_fn rfl rfl ?_
 (repeat' (first| (intro (u_ : Unit); clear u_)| refine condT ?_| refine condF ?_| refine condp (by assumption) ?_| refine condn (by assumption) ?_| refine condN ?_| refine idxSb (by assumption) ?_| refine mkSb (n := 3) (by decide) ?_| refine callE_ev (does_ev _ _) ?_| (refine condD ?_ ?_ <;> intro hq_ <;> first | (exfalso; omega) | skip)| (refine idxS (by omega) ?_; intro b_ hb_; have hl_ := b_.toNat_lt)| refine wrA (by omega) ?_| refine wrS (by omega) (by omega) ?_| refine wrI (by omega) (by omega) ?_| refine wrBA (by omega) ?_| refine wrB (by omega) (by omega) ?_| refine strC (by omega) ?_| refine nilB rfl ?_))
 refine loopR (fun _ : Nat => []) (fun k => [(1, mB (patL ls k) (patL ls k) (lst [cmd 104 0 0 false, cmd 120 0 0 false, cmd 103 0 0 false]) ls k false (1500 - 4 * k) (.sref 0 0 3) false (outA (ls.take k)) (if k = 0 then 0 else 3) false 0)]) (fun k => ls.length - k) (fun k => k ≤ ls.length) 0 (by omega) (by rfl) (by rfl) ?_
 intro k hk
 by_cases hkl : k < ls.length
 ·obtain ⟨x, hx⟩ : ∃ x, ls[k]? = some x := ⟨ls[k], List.getElem?_eq_getElem hkl⟩
  have e1 : patL ls (k + 1) = x := getD_of hx
  have e3 := take_snoc hx
  have e2 : 1500 - 4 * (k + 1) = 1500 - 4 * k - 1 - 1 - 1 - 1 := by omega
  (repeat' (first| (intro (u_ : Unit); clear u_)| refine condT ?_| refine condF ?_| refine condp (by assumption) ?_| refine condn (by assumption) ?_| refine condN ?_| refine idxSb (by assumption) ?_| refine callE_ev (burn_ev (by omega) (by omega)) ?_| refine idxLb (rowsS_get hx) rfl ?_| refine idxLb (i := 0) rfl rfl ?_| refine idxLb (i := 1) rfl rfl ?_| refine idxLb (i := 2) rfl rfl ?_| refine loopS ?_| refine callE_ev (meant_ev rfl (by decide)) ?_| refine findB rfl ?_| refine callE_ev (print_ev (by first | assumption | (simp; done) | (simp; omega))) ?_| refine callE_ev (drop_ev (Nat.le_of_ble_eq_true rfl)) ?_| refine callE_ev (quit_ev (by first | assumption | (simp; done) | (simp; omega))) ?_| refine callE_ev copy_ev ?_| refine callE_ev get_ev ?_| refine callE_ev change_ev ?_| refine callE_ev (getMore_ev (by omega)) ?_| refine callE_ev (tell_ev (by first | assumption | (simp; done) | (simp; omega))) ?_| (refine condD ?_ ?_ <;> intro hq_ <;> first | (exfalso; omega) | skip)| (refine idxS (by omega) ?_; intro b_ hb_; have hl_ := b_.toNat_lt)| refine wrA (by omega) ?_| refine wrS (by omega) (by omega) ?_| refine wrI (by omega) (by omega) ?_| refine wrBA (by omega) ?_| refine wrB (by omega) (by omega) ?_| refine strC (by omega) ?_| refine nilB rfl ?_))
  refine ⟨k + 1, by omega, by omega, rfl, ?_, rfl, rfl⟩
  simp only [e1, e2, e3, Nat.add_one_ne_zero, if_false]
  exact (trim_same rfl).trans rfl
 ·have e1 : k = ls.length := by omega
  subst e1
  rw [List.take_length]
  cases ls with
  | nil =>
    (repeat' (first| (intro (u_ : Unit); clear u_)| refine condT ?_| refine condF ?_| refine condp (by assumption) ?_| refine condn (by assumption) ?_| refine condN ?_| refine idxSb (by assumption) ?_| (refine condD ?_ ?_ <;> intro hq_ <;> first | (exfalso; omega) | skip)| (refine idxS (by omega) ?_; intro b_ hb_; have hl_ := b_.toNat_lt)| refine wrA (by omega) ?_| refine wrS (by omega) (by omega) ?_| refine wrI (by omega) (by omega) ?_| refine wrBA (by omega) ?_| refine wrB (by omega) (by omega) ?_| refine strC (by omega) ?_| refine nilB rfl ?_))
    exact ⟨by first | (rw [maxz]; done) | (rw [maxz]; rfl), rfl⟩
  | cons r rs =>
    (repeat' (first| (intro (u_ : Unit); clear u_)| refine condT ?_| refine condF ?_| refine condp (by assumption) ?_| refine condn (by assumption) ?_| refine condN ?_| refine idxSb (by assumption) ?_| (refine condD ?_ ?_ <;> intro hq_ <;> first | (exfalso; omega) | skip)| (refine idxS (by omega) ?_; intro b_ hb_; have hl_ := b_.toNat_lt)| refine wrA (by omega) ?_| refine wrS (by omega) (by omega) ?_| refine wrI (by omega) (by omega) ?_| refine wrBA (by omega) ?_| refine wrB (by omega) (by omega) ?_| refine strC (by omega) ?_| refine nilB rfl ?_))
    exact ⟨by first | (rw [maxz]; done) | (rw [maxz]; rfl), rfl⟩
end Go.Ab.R09
namespace Go.Ab.R09
set_option maxRecDepth 100000
set_option linter.all false
set_option maxHeartbeats 4000000
theorem rowsS_sizes (l : List (List UInt8)) : sizesB 1 (rowsS l) = true := by cases l <;> simp [rowsS, sizesB]
theorem StreamPlain_ev (ls : List (List UInt8)) (hl : longN ls ≤ 2 ^ 40) : Ev T2 f_law09_StreamPlain [lst (rowsS ls)] [] (.ret (bl true)) [] := by
 have hr := rowsS_length ls
 have hL := Long_ev ls hl
 by_cases h5 : longN ls ≤ 500
 ·have h6 : ls.length ≤ 500 := by unfold longN at h5; omega
  have h7 := Same_ev ls (by omega)
  refine ev_fn rfl rfl ?_
  (repeat' (first| (intro (u_ : Unit); clear u_)| refine condT ?_| refine condF ?_| refine condp (by assumption) ?_| refine condn (by assumption) ?_| refine condN ?_| refine idxSb (by assumption) ?_| refine callE_ev (shown_ev _) ?_| refine callE_ev (hL _) ?_| refine condn (p := ((longN ls : Nat) : Int) > ((500 : Nat) : Int)) (by omega) ?_| (rw [hr]; refine callE_ev (Run_nil ls (by omega) _) ?_)| refine callE_ev (Run_nil ls (by omega) _) ?_| refine callE_ev (Run_p ls (by omega)) ?_| refine callE_ev (Run_d ls (by omega)) ?_| refine callE_ev (h7 _) ?_| (refine condD ?_ ?_ <;> intro hq_ <;> first | (exfalso; omega) | skip)| (refine idxS (by omega) ?_; intro b_ hb_; have hl_ := b_.toNat_lt)| refine wrA (by omega) ?_| refine wrS (by omega) (by omega) ?_| refine wrI (by omega) (by omega) ?_| refine wrBA (by omega) ?_| refine wrB (by omega) (by omega) ?_| refine strC (by omega) ?_| refine nilB rfl ?_))
  exact ⟨rfl, rfl⟩
 ·refine ev_fn rfl rfl ?_
  (repeat' (first| (intro (u_ : Unit); clear u_)| refine condT ?_| refine condF ?_| refine condp (by assumption) ?_| refine condn (by assumption) ?_| refine condN ?_| refine idxSb (by assumption) ?_| refine callE_ev (shown_ev _) ?_| refine callE_ev (hL _) ?_| refine condp (p := ((longN ls : Nat) : Int) > ((500 : Nat) : Int)) (by omega) ?_| (refine condD ?_ ?_ <;> intro hq_ <;> first | (exfalso; omega) | skip)| (refine idxS (by omega) ?_; intro b_ hb_; have hl_ := b_.toNat_lt)| refine wrA (by omega) ?_| refine wrS (by omega) (by omega) ?_| refine wrI (by omega) (by omega) ?_| refine wrBA (by omega) ?_| refine wrB (by omega) (by omega) ?_| refine strC (by omega) ?_| refine nilB rfl ?_))
  exact ⟨rfl, rfl⟩
theorem StreamQuits_ev (ls : List (List UInt8)) (n : Int) (hl : longN ls ≤ 2 ^ 40) : Ev T2 f_law09_StreamQuits [lst (rowsS ls), i64 n] [] (.ret (bl true)) [] := by
 have hr := rowsS_length ls
 have hL := Long_ev ls hl
 by_cases h5 : longN ls ≤ 200 ∧ 1 ≤ n ∧ n ≤ ls.length
 ·obtain ⟨h5, h6, h7⟩ := h5
  obtain ⟨m, rfl⟩ : ∃ m : Nat, n = m := ⟨n.toNat, by omega⟩
  have h8 : ls.length ≤ 200 := by unfold longN at h5; omega
  have h9 := Same_ev (ls.take m) (by simp; omega)
  obtain ⟨x, hx⟩ : ∃ x, ls[m - 1]? = some x := ⟨ls[m - 1], List.getElem?_eq_getElem (by omega)⟩
  have hg := getD_of hx
  have hq := Run_q ls m (by omega) (by omega) h8
  have hd := Run_dn ls m (by omega) (by omega) h8
  have hp := Run_pn ls m (by omega) (by omega) h8
  rw [hg] at hd hp
  have ht : (rowsS ls).take m = rowsS (ls.take m) := by simp [rowsS, List.map_take]
  refine ev_fn rfl rfl ?_
  (repeat' (first| (intro (u_ : Unit); clear u_)| refine condT ?_| refine condF ?_| refine condp (by assumption) ?_| refine condn (by assumption) ?_| refine condN ?_| refine idxSb (by assumption) ?_| refine callE_ev (shown_ev _) ?_| refine callE_ev (hL _) ?_| refine condn (p := ((longN ls : Nat) : Int) > ((200 : Nat) : Int)) (by omega) ?_| refine callE_ev (hq.any rfl _) ?_| refine callE_ev (hd.any rfl _) ?_| refine callE_ev (hp.any rfl _) ?_| refine callE_ev (h9 _) ?_| refine subLHi (by omega) (rowsS_sizes ls) ?_| (rw [ht]; refine callE_ev (h9 _) ?_)| refine idxLb (i := 0) rfl rfl ?_| refine idxLb (i := m - 1) (rowsS_get hx) rfl ?_| (refine condD ?_ ?_ <;> intro hq_ <;> first | (exfalso; omega) | skip)| (refine idxS (by omega) ?_; intro b_ hb_; have hl_ := b_.toNat_lt)| refine wrA (by omega) ?_| refine wrS (by omega) (by omega) ?_| refine wrI (by omega) (by omega) ?_| refine wrBA (by omega) ?_| refine wrB (by omega) (by omega) ?_| refine strC (by omega) ?_| refine nilB rfl ?_))
  ·refine ⟨?_, rfl⟩
   simp
  ·exact absurd rfl (by assumption)
 ·refine ev_fn rfl rfl ?_
  (repeat' (first| (intro (u_ : Unit); clear u_)| refine condT ?_| refine condF ?_| refine condp (by assumption) ?_| refine condn (by assumption) ?_| refine condN ?_| refine idxSb (by assumption) ?_| refine callE_ev (shown_ev _) ?_| refine callE_ev (hL _) ?_| (refine condD ?_ ?_ <;> intro hq_ <;> first | (exfalso; omega) | skip)| (refine idxS (by omega) ?_; intro b_ hb_; have hl_ := b_.toNat_lt)| refine wrA (by omega) ?_| refine wrS (by omega) (by omega) ?_| refine wrI (by omega) (by omega) ?_| refine wrBA (by omega) ?_| refine wrB (by omega) (by omega) ?_| refine strC (by omega) ?_| refine nilB rfl ?_))
  all_goals first | exact ⟨rfl, rfl⟩ | (exfalso; omega)
end Go.Ab.R09
namespace Go.Ab.R09
set_option maxRecDepth 100000
set_option linter.all false
set_option maxHeartbeats 4000000
/-! plain: texts of lines -/
def joinL : List (List UInt8) → List UInt8
 | [] => []
 | [x] => x
 | x :: y :: r => x ++ 10 :: joinL (y :: r)
def accL : List (List UInt8) → List UInt8
 | [] => []
 | x :: r => x ++ 10 :: accL r
theorem accL_append (a b : List (List UInt8)) : accL (a ++ b) = accL a ++ accL b := by
 induction a with
 | nil => rfl
 | cons x a ih => simp [accL, ih]
theorem accL_length (ls : List (List UInt8)) : (accL ls).length = sumL ls + ls.length := by
 induction ls with
 | nil => rfl
 | cons x a ih => simp only [accL, sumL, List.length_append, List.length_cons, ih]; omega
theorem accL_join : ∀ {ls : List (List UInt8)}, ls ≠ [] → accL ls = joinL ls ++ [10]
 | [], h => absurd rfl h
 | [x], _ => by simp [accL, joinL]
 | x :: y :: r, _ => by
   have := accL_join (ls := y :: r) (by simp)
   simp only [accL] at this ⊢
   rw [this]; simp [joinL]
theorem joinL_last : ∀ {a : List (List UInt8)} {l : List UInt8}, ∃ w, joinL (a ++ [l]) = w ++ l
 | [], l => ⟨[], by simp [joinL]⟩
 | [x], l => ⟨x ++ [10], by simp [joinL]⟩
 | x :: y :: r, l => by
   obtain ⟨w, hw⟩ := joinL_last (a := y :: r) (l := l)
   refine ⟨x ++ 10 :: w, ?_⟩
   simp only [List.cons_append] at hw
   simp only [List.cons_append, joinL, hw, List.append_assoc]
theorem index_skip : ∀ (x t : List UInt8), (10 : UInt8) ∉ x → Lib.index (x ++ 10 :: t) [10] = x.length
 | [], t, _ => by simp [Lib.index]
 | b :: x, t, h => by
   simp only [List.mem_cons, not_or] at h
   have ih := index_skip x t h.2
   have hb : ((10 : UInt8) == b) = false := by simpa using h.1
   simp only [List.cons_append, Lib.index, ih]
   have h1 : ([10] : List UInt8).isPrefixOf (b :: (x ++ 10 :: t)) = false := by simp [List.isPrefixOf, hb]
   rw [h1]
   have h2 : ((x.length : Int) == -1) = false := by
    have : (x.length : Int) ≠ -1 := by omega
    simpa using this
   rw [h2]
   simp
theorem split_join : ∀ {ls : List (List UInt8)}, ls ≠ [] → (∀ x ∈ ls, (10 : UInt8) ∉ x) → Lib.splitK [10] 0 ((joinL ls).count 10) (joinL ls) = ls
 | [], h, _ => absurd rfl h
 | [x], _, h => by
   have : (joinL [x]).count 10 = 0 := List.count_eq_zero.2 (h x (by simp))
   rw [this]; rfl
 | x :: y :: r, _, h => by
   have hx : (10 : UInt8) ∉ x := h x (by simp)
   have ih := split_join (ls := y :: r) (by simp) (fun z hz => h z (by simp only [List.mem_cons] at hz ⊢; exact .inr hz))
   have hc : (joinL (x :: y :: r)).count 10 = (joinL (y :: r)).count 10 + 1 := by
    simp only [joinL, List.count_append, List.count_cons_self, List.count_eq_zero.2 hx]; omega
   have hi : Lib.index (joinL (x :: y :: r)) [10] = x.length := index_skip x _ hx
   rw [hc]
   simp only [Lib.splitK, hi]
   have h2 : ((x.length : Int) == -1) = false := by
    have : (x.length : Int) ≠ -1 := by omega
    simpa using this
   rw [h2]
   simp only [Bool.false_eq_true, if_false, Int.toNat_natCast, Nat.add_zero, List.length_cons, List.length_nil, Nat.zero_add]
   have e1 : (joinL (x :: y :: r)).take x.length = x := by simp [joinL]
   have e2 : (joinL (x :: y :: r)).drop (x.length + 1) = joinL (y :: r) := by
    simp only [joinL]
    rw [← List.drop_drop, List.drop_left]; rfl
   rw [e1, e2, ih]
theorem split_join' {ls : List (List UInt8)} (h0 : ls ≠ []) (h : ∀ x ∈ ls, (10 : UInt8) ∉ x) : Lib.split (joinL ls) [10] = ls := by
 unfold Lib.split
 rw [Lib.count_one]
 exact split_join h0 h
theorem splitS {s sep : List UInt8} (hs : s.length < 4294967281) (h1 : 1 ≤ sep.length) (rf : Refs) : Ev T2 f_strings_Split [str s, str sep] rf (.ret (lst (rowsS (Lib.split s sep)))) rf := by
 refine ⟨1, ?_⟩
 show call T2.tab T2.tabD T2.orc 1 f_strings_Split _ rf = _
 have : T2.orc f_strings_Split [str s, str sep] = some (lst (rowsS (Lib.split s sep))) := by
  show splitO [str s, str sep] = _
  simp only [splitO]
  rw [if_pos ⟨hs, h1⟩]
 simp only [call, this]
theorem subLoB {l r : List UInt8} {n : Int} {c : List UInt8 → Prop} (i : Nat) (hn : n = i) (h1 : i ≤ l.length) (h2 : l.drop i = r) (h : c r) : SubE l (some n) none c := by subst hn; subst h2; exact subLo h1 h
theorem subHiB {l r : List UInt8} {n : Int} {c : List UInt8 → Prop} (i : Nat) (hn : n = i) (h1 : i ≤ l.length) (h2 : l.take i = r) (h : c r) : SubE l none (some n) c := by subst hn; subst h2; exact subHi h1 h
theorem HasSuffix_ev (u : List UInt8) (x : UInt8) (hu : u.length ≤ 1000000) (rf : Refs) : Ev T2 f_stringslite_HasSuffix [str (u ++ [x]), str [10]] rf (.ret (bl (decide (x = 10)))) rf := by
 refine Ev.any ?_ rfl rf
 have h1 : (u ++ [x]).length = u.length + 1 := by simp
 have h0 : ([10] : List UInt8).length = 1 := rfl
 have h2 : (u ++ [x]).drop u.length = [x] := by simp
 refine ev_fn rfl rfl ?_
 (repeat' (first| (intro (u_ : Unit); clear u_)| refine condT ?_| refine condF ?_| refine condp (by assumption) ?_| refine condn (by assumption) ?_| refine condN ?_| refine idxSb (by assumption) ?_| refine subLoB u.length (by omega) (by omega) h2 ?_| (refine condD ?_ ?_ <;> intro hq_ <;> first | (exfalso; omega) | skip)| (refine idxS (by omega) ?_; intro b_ hb_; have hl_ := b_.toNat_lt)| refine wrA (by omega) ?_| refine wrS (by omega) (by omega) ?_| refine wrI (by omega) (by omega) ?_| refine wrBA (by omega) ?_| refine wrB (by omega) (by omega) ?_| refine strC (by omega) ?_| refine nilB rfl ?_))
 ·refine ⟨?_, rfl⟩
  simp
theorem TrimSuffix0_ev (u : List UInt8) (x : UInt8) (hu : u.length ≤ 1000000) (rf : Refs) : Ev T2 f_stringslite_TrimSuffix [str (u ++ [x]), str [10]] rf (.ret (str (if x = 10 then u else u ++ [x]))) rf := by
 refine Ev.any ?_ rfl rf
 have hH := HasSuffix_ev u x hu
 have h1 : (u ++ [x]).length = u.length + 1 := by simp
 have h0 : ([10] : List UInt8).length = 1 := rfl
 have h2 : (u ++ [x]).take u.length = u := by simp
 refine ev_fn rfl rfl ?_
 (repeat' (first| (intro (u_ : Unit); clear u_)| refine condT ?_| refine condF ?_| refine condp (by assumption) ?_| refine condn (by assumption) ?_| refine condN ?_| refine idxSb (by assumption) ?_| refine callE_ev (hH _) ?_| refine subHiB u.length (by omega) (by omega) h2 ?_| (refine condD ?_ ?_ <;> intro hq_ <;> first | (exfalso; omega) | skip)| (refine idxS (by omega) ?_; intro b_ hb_; have hl_ := b_.toNat_lt)| refine wrA (by omega) ?_| refine wrS (by omega) (by omega) ?_| refine wrI (by omega) (by omega) ?_| refine wrBA (by omega) ?_| refine wrB (by omega) (by omega) ?_| refine strC (by omega) ?_| refine nilB rfl ?_))
 ·have h : x = 10 := by assumption
  rw [if_pos h]
  exact ⟨rfl, rfl⟩
 ·have h : ¬ x = 10 := by assumption
  rw [if_neg h]
  exact ⟨rfl, rfl⟩
theorem TrimSuffix_ev (u : List UInt8) (x : UInt8) (hu : u.length ≤ 1000000) (rf : Refs) : Ev T2 f_strings_TrimSuffix [str (u ++ [x]), str [10]] rf (.ret (str (if x = 10 then u else u ++ [x]))) rf := by
 refine Ev.any ?_ rfl rf
 have hH := TrimSuffix0_ev u x hu
 refine ev_fn rfl rfl ?_
 (repeat' (first| (intro (u_ : Unit); clear u_)| refine condT ?_| refine condF ?_| refine condp (by assumption) ?_| refine condn (by assumption) ?_| refine condN ?_| refine idxSb (by assumption) ?_| refine callE_ev (hH _) ?_| (refine condD ?_ ?_ <;> intro hq_ <;> first | (exfalso; omega) | skip)| (refine idxS (by omega) ?_; intro b_ hb_; have hl_ := b_.toNat_lt)| refine wrA (by omega) ?_| refine wrS (by omega) (by omega) ?_| refine wrI (by omega) (by omega) ?_| refine wrBA (by omega) ?_| refine wrB (by omega) (by omega) ?_| refine strC (by omega) ?_| refine nilB rfl ?_))
 exact ⟨rfl, rfl⟩
theorem Lines_ev (u : List UInt8) (x : UInt8) (hu : u.length ≤ 1000000) (rf : Refs) : Ev T2 f_stream_Lines [str (u ++ [x])] rf (.ret (lst (rowsS (Lib.split (if x = 10 then u else u ++ [x]) [10])))) rf := by
 refine Ev.any ?_ rfl rf
 have hH := TrimSuffix_ev u x hu
 have hS := fun rf => splitS (s := if x = 10 then u else u ++ [x]) (sep := [10]) (by split <;> (try rw [List.length_append]) <;> (try rw [List.length_singleton]) <;> omega) (by decide) rf
 refine ev_fn rfl rfl ?_
 (repeat' (first| (intro (u_ : Unit); clear u_)| refine condT ?_| refine condF ?_| refine condp (by assumption) ?_| refine condn (by assumption) ?_| refine condN ?_| refine idxSb (by assumption) ?_| refine condn (p := u ++ [x] = []) (by simp) ?_| refine callE_ev (hH _) ?_| refine callE_ev (hS _) ?_| (refine condD ?_ ?_ <;> intro hq_ <;> first | (exfalso; omega) | skip)| (refine idxS (by omega) ?_; intro b_ hb_; have hl_ := b_.toNat_lt)| refine wrA (by omega) ?_| refine wrS (by omega) (by omega) ?_| refine wrI (by omega) (by omega) ?_| refine wrBA (by omega) ?_| refine wrB (by omega) (by omega) ?_| refine strC (by omega) ?_| refine nilB rfl ?_))
 exact ⟨rfl, rfl⟩
theorem Lines_nil (rf : Refs) : Ev T2 f_stream_Lines [str []] rf (.ret (lst [])) rf := by
 refine Ev.any ?_ rfl rf
 refine ev_fn rfl rfl ?_
 (repeat' (first| (intro (u_ : Unit); clear u_)| refine condT ?_| refine condF ?_| refine condp (by assumption) ?_| refine condn (by assumption) ?_| refine condN ?_| refine idxSb (by assumption) ?_| (refine condD ?_ ?_ <;> intro hq_ <;> first | (exfalso; omega) | skip)| (refine idxS (by omega) ?_; intro b_ hb_; have hl_ := b_.toNat_lt)| refine wrA (by omega) ?_| refine wrS (by omega) (by omega) ?_| refine wrI (by omega) (by omega) ?_| refine wrBA (by omega) ?_| refine wrB (by omega) (by omega) ?_| refine strC (by omega) ?_| refine nilB rfl ?_))
 exact ⟨rfl, rfl⟩
end Go.Ab.R09
namespace Go.Ab.R09
set_option maxRecDepth 100000
set_option linter.all false
set_option maxHeartbeats 4000000
theorem accL_take {ls : List (List UInt8)} {i : Nat} {x : List UInt8} (h : ls[i]? = some x) : accL (ls.take (i + 1)) = accL (ls.take i) ++ x ++ [10] := by
 rw [take_snoc h, accL_append]; simp [accL]
theorem accL_take_le {ls : List (List UInt8)} (i : Nat) : (accL (ls.take i)).length ≤ longN ls := by
 have h1 := accL_length (ls.take i)
 have h2 := sumL_le ls i
 have h3 : (ls.take i).length ≤ ls.length := by simp; omega
 unfold longN; omega
def fine (ls : List (List UInt8)) (i : Nat) : Prop := ∀ x ∈ ls.take i, (10 : UInt8) ∉ x
theorem fine_step {ls : List (List UInt8)} {i : Nat} {x : List UInt8} (h : ls[i]? = some x) (hf : fine ls i) (hx : (10 : UInt8) ∉ x) : fine ls (i + 1) := by
 intro y hy
 rw [take_snoc h] at hy
 rcases List.mem_append.1 hy with hy | hy
 ·exact hf y hy
 ·simp only [List.mem_singleton] at hy; subst hy; exact hx
theorem StreamLines_ev (ls : List (List UInt8)) (hl : longN ls ≤ 2 ^ 40) : Ev T2 f_law09_StreamLines [lst (rowsS ls)] [] (.ret (bl true)) [] := by
 have hr := rowsS_length ls
 have hL := Long_ev ls hl
 by_cases h5 : longN ls ≤ 500
 ·have h6 : ls.length ≤ 500 := by unfold longN at h5; omega
  have h7 := Same_ev ls (by omega)
  refine ev_fn rfl rfl ?_
  (repeat' (first| (intro (u_ : Unit); clear u_)| refine condT ?_| refine condF ?_| refine condp (by assumption) ?_| refine condn (by assumption) ?_| refine condN ?_| refine idxSb (by assumption) ?_| refine callE_ev (shown_ev _) ?_| refine callE_ev (hL _) ?_| refine condn (p := ((longN ls : Nat) : Int) > ((500 : Nat) : Int)) (by omega) ?_| (refine condD ?_ ?_ <;> intro hq_ <;> first | (exfalso; omega) | skip)| (refine idxS (by omega) ?_; intro b_ hb_; have hl_ := b_.toNat_lt)| refine wrA (by omega) ?_| refine wrS (by omega) (by omega) ?_| refine wrI (by omega) (by omega) ?_| refine wrBA (by omega) ?_| refine wrB (by omega) (by omega) ?_| refine strC (by omega) ?_| refine nilB rfl ?_))
  refine loopR (fun i : Nat => [(4, str (accL (ls.take i))), (5, i64 i)]) (fun _ => []) (fun i => ls.length - i) (fun i => i ≤ ls.length ∧ fine ls i) 0 ⟨by omega, by intro x hx; simp at hx⟩ (by rfl) (by rfl) ?_
  intro i ⟨hi, hfi⟩
  by_cases hil : i < ls.length
  ·obtain ⟨x, hx⟩ : ∃ x, ls[i]? = some x := ⟨ls[i], List.getElem?_eq_getElem hil⟩
   have hb := accL_take_le (ls := ls) (i + 1)
   have e3 := accL_take hx
   have hb2 : (accL (ls.take (i + 1))).length = (accL (ls.take i)).length + x.length + 1 := by rw [e3]; simp [Nat.add_assoc]
   (repeat' (first| (intro (u_ : Unit); clear u_)| refine condT ?_| refine condF ?_| refine condp (by assumption) ?_| refine condn (by assumption) ?_| refine condN ?_| refine idxSb (by assumption) ?_| (refine condD ?_ ?_ <;> intro hq_ <;> first | (exfalso; omega) | skip)| (refine idxS (by omega) ?_; intro b_ hb_; have hl_ := b_.toNat_lt)| refine wrA (by omega) ?_| refine wrS (by omega) (by omega) ?_| refine wrI (by omega) (by omega) ?_| refine wrBA (by omega) ?_| refine wrB (by omega) (by omega) ?_| refine strC (by omega) ?_| refine nilB rfl ?_))
   refine loopR (fun k : Nat => [(6, i64 k)]) (fun _ => []) (fun k => x.length - k) (fun k => k ≤ x.length ∧ (10 : UInt8) ∉ x.take k) 0 ⟨by omega, by simp⟩ (by rfl) (by rfl) ?_
   intro k ⟨hk, hfk⟩
   by_cases hkl : k < x.length
   ·obtain ⟨c, hc⟩ : ∃ c, x[k]? = some c := ⟨x[k], List.getElem?_eq_getElem hkl⟩
    (repeat' (first| (intro (u_ : Unit); clear u_)| refine condT ?_| refine condF ?_| refine condp (by assumption) ?_| refine condn (by assumption) ?_| refine condN ?_| refine idxSb (by assumption) ?_| refine idxLb (rowsS_get hx) rfl ?_| refine idxSb hc ?_| (refine condD ?_ ?_ <;> intro hq_ <;> first | (exfalso; omega) | skip)| (refine idxS (by omega) ?_; intro b_ hb_; have hl_ := b_.toNat_lt)| refine wrA (by omega) ?_| refine wrS (by omega) (by omega) ?_| refine wrI (by omega) (by omega) ?_| refine wrBA (by omega) ?_| refine wrB (by omega) (by omega) ?_| refine strC (by omega) ?_| refine nilB rfl ?_))
    ·exact ⟨rfl, rfl⟩
    ·refine ⟨k + 1, ⟨by omega, ?_⟩, by omega, rfl, rfl, rfl, rfl⟩
     rw [take_snoc hc]
     simp only [List.mem_append, List.mem_singleton, not_or]
     refine ⟨hfk, fun e => ?_⟩
     subst e
     exact absurd rfl (by assumption)
   ·have hkx : x.take k = x := List.take_of_length_le (by omega)
    rw [hkx] at hfk
    (repeat' (first| (intro (u_ : Unit); clear u_)| refine condT ?_| refine condF ?_| refine condp (by assumption) ?_| refine condn (by assumption) ?_| refine condN ?_| refine idxSb (by assumption) ?_| refine idxLb (rowsS_get hx) rfl ?_| refine strC (by simp only [List.length_append, List.length_cons, List.length_nil]; omega) ?_| (refine condD ?_ ?_ <;> intro hq_ <;> first | (exfalso; omega) | skip)| (refine idxS (by omega) ?_; intro b_ hb_; have hl_ := b_.toNat_lt)| refine wrA (by omega) ?_| refine wrS (by omega) (by omega) ?_| refine wrI (by omega) (by omega) ?_| refine wrBA (by omega) ?_| refine wrB (by omega) (by omega) ?_| refine strC (by omega) ?_| refine nilB rfl ?_))
    refine ⟨i + 1, ⟨by omega, fine_step hx hfi hfk⟩, by omega, ?_, rfl, rfl, rfl⟩
    rw [e3]
    rfl
  ·have e1 : i = ls.length := by omega
   subst e1
   have hall : ∀ x ∈ ls, (10 : UInt8) ∉ x := by
    have := hfi
    unfold fine at this
    rwa [List.take_length] at this
   rw [List.take_length]
   rcases List.eq_nil_or_concat ls with h0 | ⟨a, l, h0⟩
   ·subst h0
    (repeat' (first| (intro (u_ : Unit); clear u_)| refine condT ?_| refine condF ?_| refine condp (by assumption) ?_| refine condn (by assumption) ?_| refine condN ?_| refine idxSb (by assumption) ?_| refine callE_ev (Lines_nil _) ?_| refine callE_ev (h7 _) ?_| (refine condD ?_ ?_ <;> intro hq_ <;> first | (exfalso; omega) | skip)| (refine idxS (by omega) ?_; intro b_ hb_; have hl_ := b_.toNat_lt)| refine wrA (by omega) ?_| refine wrS (by omega) (by omega) ?_| refine wrI (by omega) (by omega) ?_| refine wrBA (by omega) ?_| refine wrB (by omega) (by omega) ?_| refine strC (by omega) ?_| refine nilB rfl ?_))
    exact ⟨rfl, rfl⟩
   ·rw [List.concat_eq_append] at h0
    have hne : ls ≠ [] := by rw [h0]; simp
    have hlen : ls.length = a.length + 1 := by rw [h0]; simp
    have hx : ls[ls.length - 1]? = some l := by rw [hlen, h0]; simp
    have hx' : (rowsS ls)[(rowsS ls).length - 1]? = some [.str l] := by rw [hr]; exact rowsS_get hx
    have hj := accL_join hne
    have hsp := split_join' hne hall
    have hjl : (joinL ls).length + 1 = (accL ls).length := by rw [hj]; simp
    have hal := accL_length ls
    have h5' : ls.length + sumL ls ≤ 500 := h5
    have hLA := Lines_ev (joinL ls) 10 (by omega)
    rw [if_pos rfl, hsp, ← hj] at hLA
    by_cases hl0 : l = []
    ·(repeat' (first
      | (intro (u_ : Unit); clear u_)
      | refine condT ?_
      | refine condF ?_
      | refine condp (by assumption) ?_
      | refine condn (by assumption) ?_
      | refine condN ?_
      | refine idxSb (by assumption) ?_
      | refine idxLb hx' rfl ?_
      | refine condn (p := l ≠ []) (by simpa using hl0) ?_
      | refine callE_ev (hLA _) ?_
      | refine callE_ev (h7 _) ?_
      | (refine condD ?_ ?_ <;> intro hq_ <;> first | (exfalso; omega) | skip)
      | (refine idxS (by omega) ?_; intro b_ hb_; have hl_ := b_.toNat_lt)
      | refine wrA (by omega) ?_
      | refine wrS (by omega) (by omega) ?_
      | refine wrI (by omega) (by omega) ?_
      | refine wrBA (by omega) ?_
      | refine wrB (by omega) (by omega) ?_
      | refine strC (by omega) ?_
      | refine nilB rfl ?_))
     exact ⟨rfl, rfl⟩
    ·obtain ⟨w, hw⟩ := joinL_last (a := a) (l := l)
     rw [← h0] at hw
     rcases List.eq_nil_or_concat l with hn | ⟨v, y, hv⟩
     ·exact absurd hn hl0
     rw [List.concat_eq_append] at hv
     have hy : y ≠ 10 := fun e => hall l (by rw [h0]; simp) (by rw [hv, e]; simp)
     have hju : joinL ls = (w ++ v) ++ [y] := by rw [hw, hv]; simp
     have hLJ := Lines_ev (w ++ v) y (by have : (joinL ls).length = (w ++ v).length + 1 := by rw [hju]; simp [Nat.add_assoc]
                                         omega)
     rw [if_neg hy, ← hju, hsp] at hLJ
     have htk : (accL ls).take ((accL ls).length - 1) = joinL ls := by rw [hj]; simp
     (repeat' (first| (intro (u_ : Unit); clear u_)| refine condT ?_| refine condF ?_| refine condp (by assumption) ?_| refine condn (by assumption) ?_| refine condN ?_| refine idxSb (by assumption) ?_| refine idxLb hx' rfl ?_| refine condp (p := l ≠ []) hl0 ?_| refine subHiB ((accL ls).length - 1) (by omega) (by omega) htk ?_| refine callE_ev (hLJ _) ?_| refine callE_ev (hLA _) ?_| refine callE_ev (h7 _) ?_| (refine condD ?_ ?_ <;> intro hq_ <;> first | (exfalso; omega) | skip)| (refine idxS (by omega) ?_; intro b_ hb_; have hl_ := b_.toNat_lt)| refine wrA (by omega) ?_| refine wrS (by omega) (by omega) ?_| refine wrI (by omega) (by omega) ?_| refine wrBA (by omega) ?_| refine wrB (by omega) (by omega) ?_| refine strC (by omega) ?_| refine nilB rfl ?_))
     exact ⟨rfl, rfl⟩
 ·refine ev_fn rfl rfl ?_
  (repeat' (first| (intro (u_ : Unit); clear u_)| refine condT ?_| refine condF ?_| refine condp (by assumption) ?_| refine condn (by assumption) ?_| refine condN ?_| refine idxSb (by assumption) ?_| refine callE_ev (shown_ev _) ?_| refine callE_ev (hL _) ?_| refine condp (p := ((longN ls : Nat) : Int) > ((500 : Nat) : Int)) (by omega) ?_| (refine condD ?_ ?_ <;> intro hq_ <;> first | (exfalso; omega) | skip)| (refine idxS (by omega) ?_; intro b_ hb_; have hl_ := b_.toNat_lt)| refine wrA (by omega) ?_| refine wrS (by omega) (by omega) ?_| refine wrI (by omega) (by omega) ?_| refine wrBA (by omega) ?_| refine wrB (by omega) (by omega) ?_| refine strC (by omega) ?_| refine nilB rfl ?_))
  exact ⟨rfl, rfl⟩
end Go.Ab.R09
namespace Go.Ab.R09
set_option maxRecDepth 100000
set_option linter.all false
set_option maxHeartbeats 4000000
def revA (ls : List (List UInt8)) : Nat → List UInt8
 | 0 => []
 | k + 1 => ls.getD k [] ++ [10] ++ revA ls k
theorem revA_hold (ls : List (List UInt8)) : ∀ k, holdL ls (k + 1) ++ [10] = revA ls (k + 1)
 | 0 => by simp [holdL, revA]
 | k + 1 => by
   have := revA_hold ls k
   rw [revA, ← this]
   simp [holdL]
theorem revA_len {ls : List (List UInt8)} : ∀ k, k ≤ ls.length → (revA ls k).length ≤ sumL (ls.take k) + k
 | 0, _ => by simp [revA]
 | k + 1, h => by
   obtain ⟨x, hx⟩ : ∃ x, ls[k]? = some x := ⟨ls[k], List.getElem?_eq_getElem (by omega)⟩
   have h1 := sumL_take hx
   have h2 := revA_len (ls := ls) k (by omega)
   simp only [revA, getD_of hx, List.length_append, List.length_cons, List.length_nil]
   omega
theorem StreamHolds_ev (ls : List (List UInt8)) (hl : longN ls ≤ 2 ^ 40) : Ev T2 f_law09_StreamHolds [lst (rowsS ls)] [] (.ret (bl true)) [] := by
 have hr := rowsS_length ls
 have hL := Long_ev ls hl
 by_cases h5 : longN ls ≤ 200 ∧ 1 ≤ ls.length
 ·obtain ⟨h5, h0⟩ := h5
  have h6 : ls.length ≤ 200 := by unfold longN at h5; omega
  have h5' : ls.length + sumL ls ≤ 200 := h5
  have h7 := Same_ev ls (by omega)
  have hG := Run_G ls h0 h5
  have hX := Run_x ls h6
  refine ev_fn rfl rfl ?_
  (repeat' (first| (intro (u_ : Unit); clear u_)| refine condT ?_| refine condF ?_| refine condp (by assumption) ?_| refine condn (by assumption) ?_| refine condN ?_| refine idxSb (by assumption) ?_| refine callE_ev (shown_ev _) ?_| refine callE_ev (hL _) ?_| refine condn (p := ((longN ls : Nat) : Int) > ((200 : Nat) : Int)) (by omega) ?_| (refine condD ?_ ?_ <;> intro hq_ <;> first | (exfalso; omega) | skip)| (refine idxS (by omega) ?_; intro b_ hb_; have hl_ := b_.toNat_lt)| refine wrA (by omega) ?_| refine wrS (by omega) (by omega) ?_| refine wrI (by omega) (by omega) ?_| refine wrBA (by omega) ?_| refine wrB (by omega) (by omega) ?_| refine strC (by omega) ?_| refine nilB rfl ?_))
  refine loopR (fun i : Nat => [(4, str (revA ls i)), (5, i64 i)]) (fun _ => []) (fun i => ls.length - i) (fun i => i ≤ ls.length) 0 (by omega) (by rfl) (by rfl) ?_
  intro i hi
  by_cases hil : i < ls.length
  ·obtain ⟨x, hx⟩ : ∃ x, ls[i]? = some x := ⟨ls[i], List.getElem?_eq_getElem hil⟩
   have hb := revA_len (ls := ls) i (by omega)
   have hb1 := sumL_le ls i
   have hb2 := sumL_mem hx
   (repeat' (first| (intro (u_ : Unit); clear u_)| refine condT ?_| refine condF ?_| refine condp (by assumption) ?_| refine condn (by assumption) ?_| refine condN ?_| refine idxSb (by assumption) ?_| (refine condD ?_ ?_ <;> intro hq_ <;> first | (exfalso; omega) | skip)| (refine idxS (by omega) ?_; intro b_ hb_; have hl_ := b_.toNat_lt)| refine wrA (by omega) ?_| refine wrS (by omega) (by omega) ?_| refine wrI (by omega) (by omega) ?_| refine wrBA (by omega) ?_| refine wrB (by omega) (by omega) ?_| refine strC (by omega) ?_| refine nilB rfl ?_))
   refine loopR (fun k : Nat => [(6, i64 k)]) (fun _ => []) (fun k => x.length - k) (fun k => k ≤ x.length) 0 (by omega) (by rfl) (by rfl) ?_
   intro k hk
   by_cases hkl : k < x.length
   ·obtain ⟨c, hc⟩ : ∃ c, x[k]? = some c := ⟨x[k], List.getElem?_eq_getElem hkl⟩
    (repeat' (first| (intro (u_ : Unit); clear u_)| refine condT ?_| refine condF ?_| refine condp (by assumption) ?_| refine condn (by assumption) ?_| refine condN ?_| refine idxSb (by assumption) ?_| refine idxLb (rowsS_get hx) rfl ?_| refine idxSb hc ?_| (refine condD ?_ ?_ <;> intro hq_ <;> first | (exfalso; omega) | skip)| (refine idxS (by omega) ?_; intro b_ hb_; have hl_ := b_.toNat_lt)| refine wrA (by omega) ?_| refine wrS (by omega) (by omega) ?_| refine wrI (by omega) (by omega) ?_| refine wrBA (by omega) ?_| refine wrB (by omega) (by omega) ?_| refine strC (by omega) ?_| refine nilB rfl ?_))
    ·exact ⟨rfl, rfl⟩
    ·exact ⟨k + 1, by omega, by omega, rfl, rfl, rfl, rfl⟩
   ·(repeat' (first
     | (intro (u_ : Unit); clear u_)
     | refine condT ?_
     | refine condF ?_
     | refine condp (by assumption) ?_
     | refine condn (by assumption) ?_
     | refine condN ?_
     | refine idxSb (by assumption) ?_
     | refine idxLb (rowsS_get hx) rfl ?_
     | refine strC (by simp only [List.length_append, List.length_cons, List.length_nil]; omega) ?_
     | (refine condD ?_ ?_ <;> intro hq_ <;> first | (exfalso; omega) | skip)
     | (refine idxS (by omega) ?_; intro b_ hb_; have hl_ := b_.toNat_lt)
     | refine wrA (by omega) ?_
     | refine wrS (by omega) (by omega) ?_
     | refine wrI (by omega) (by omega) ?_
     | refine wrBA (by omega) ?_
     | refine wrB (by omega) (by omega) ?_
     | refine strC (by omega) ?_
     | refine nilB rfl ?_))
    refine ⟨i + 1, by omega, by omega, ?_, rfl, rfl, rfl⟩
    simp only [revA, getD_of hx]
    rfl
  ·have e1 : i = ls.length := by omega
   subst e1
   have hrev : holdL ls ls.length ++ [10] = revA ls ls.length := by
    obtain ⟨m, hm⟩ : ∃ m, ls.length = m + 1 := ⟨ls.length - 1, by omega⟩
    rw [hm]; exact revA_hold ls m
   have hhl := holdL_le (ls := ls) ls.length (Nat.le_refl _)
   have hhl2 := sumL_le ls ls.length
   (repeat' (first| (intro (u_ : Unit); clear u_)| refine condT ?_| refine condF ?_| refine condp (by assumption) ?_| refine condn (by assumption) ?_| refine condN ?_| refine idxSb (by assumption) ?_| refine callE_ev (hG.any rfl _) ?_| refine callE_ev (hX.any rfl _) ?_| refine idxLb (i := 0) rfl rfl ?_| refine strC (by simp only [List.length_cons, List.length_nil]; omega) ?_| refine condp (p := holdL ls ls.length ++ [10] = revA ls ls.length) hrev ?_| refine callE_ev (h7 _) ?_| (refine condD ?_ ?_ <;> intro hq_ <;> first | (exfalso; omega) | skip)| (refine idxS (by omega) ?_; intro b_ hb_; have hl_ := b_.toNat_lt)| refine wrA (by omega) ?_| refine wrS (by omega) (by omega) ?_| refine wrI (by omega) (by omega) ?_| refine wrBA (by omega) ?_| refine wrB (by omega) (by omega) ?_| refine strC (by omega) ?_| refine nilB rfl ?_))
   exact ⟨rfl, rfl⟩
 ·refine ev_fn rfl rfl ?_
  (repeat' (first| (intro (u_ : Unit); clear u_)| refine condT ?_| refine condF ?_| refine condp (by assumption) ?_| refine condn (by assumption) ?_| refine condN ?_| refine idxSb (by assumption) ?_| refine callE_ev (shown_ev _) ?_| refine callE_ev (hL _) ?_| (refine condD ?_ ?_ <;> intro hq_ <;> first | (exfalso; omega) | skip)| (refine idxS (by omega) ?_; intro b_ hb_; have hl_ := b_.toNat_lt)| refine wrA (by omega) ?_| refine wrS (by omega) (by omega) ?_| refine wrI (by omega) (by omega) ?_| refine wrBA (by omega) ?_| refine wrB (by omega) (by omega) ?_| refine strC (by omega) ?_| refine nilB rfl ?_))
  all_goals first | exact ⟨rfl, rfl⟩ | (exfalso; omega)
end Go.Ab.R09
