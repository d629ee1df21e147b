/- Each operation does what the abstract one says: equality of structs and arrays. -/
import Derived.Test.YtpdfcjgehdlheaaA12
import Derived.DeepKeys
set_option linter.all false
namespace Go.Ab
section
variable {P : Program} {E : Env} {K : Ctx} {s : St} {a : Act} {w : World}

theorem eqCells_append : ∀ {k1 k2 : List PK} {x1 x2 y1 y2 : List AV} {r : Bool}, x1.length = k1.length → y1.length = k1.length → eqCells (k1 ++ k2) (x1 ++ x2) (y1 ++ y2) = some r →
    ∃ r1 r2, eqCells k1 x1 y1 = some r1 ∧ eqCells k2 x2 y2 = some r2 ∧ r = (r1 && r2)
  | [], k2, x1, x2, y1, y2, r, h1, h2, h => by
    have e1 : x1 = [] := List.length_eq_zero_iff.1 (by simpa using h1)
    have e2 : y1 = [] := List.length_eq_zero_iff.1 (by simpa using h2)
    subst e1 e2
    exact ⟨true, r, rfl, by simpa using h, by simp⟩
  | k :: k1, k2, x1, x2, y1, y2, r, h1, h2, h => by
    cases x1 with
    | nil => simp at h1
    | cons x x1 =>
      cases y1 with
      | nil => simp at h2
      | cons y y1 =>
        simp only [List.cons_append] at h
        cases x <;> try (simp [eqCells] at h; done)
        cases y <;> try (simp [eqCells] at h; done)
        rename_i dx dy
        simp only [eqCells] at h
        split at h
        · rename_i hk
          simp only [Option.map_eq_some_iff] at h
          obtain ⟨q, hq, rfl⟩ := h
          obtain ⟨r1, r2, g1, g2, rfl⟩ := eqCells_append (by simpa using h1) (by simpa using h2) hq
          exact ⟨dx.eqP dy && r1, r2, by simp [eqCells, hk, g1], g2, by rw [Bool.and_assoc]⟩
        · simp at h

theorem eqCells_len : ∀ {ks : List PK} {xs ys : List AV} {r : Bool}, eqCells ks xs ys = some r → xs.length = ks.length ∧ ys.length = ks.length
  | [], xs, ys, r, h => by
    cases xs <;> cases ys <;> simp [eqCells] at h
    simp
  | k :: ks, xs, ys, r, h => by
    cases xs with
    | nil => simp [eqCells] at h
    | cons x xs =>
      cases ys with
      | nil => cases x <;> simp [eqCells] at h
      | cons y ys =>
        cases x <;> try (simp [eqCells] at h; done)
        cases y <;> try (simp [eqCells] at h; done)
        simp only [eqCells] at h
        split at h
        · simp only [Option.map_eq_some_iff] at h
          obtain ⟨q, hq, _⟩ := h
          have := eqCells_len hq
          simp [this.1, this.2]
        · simp at h

/-- two values of a plain type, held against each other -/
def EqP (P : Program) (d : Nat) (t : TypeId) (ks : List PK) : Prop := ∀ (K : Ctx) (w : World) (x y : Value) (cx cy : List AV) (r : Bool) (n : Nat), d ≤ n → RepL K cx x.cells.toList → RepL K cy y.cells.toList → eqCells ks cx cy = some r →
  (aggT P t = some true → (∃ c, x = .agg c) ∧ ∃ c, y = .agg c) → (aggT P t = some false → x.oneCell' = true ∧ y.oneCell' = true) → (Op.equalIn n t x y).run P w = .ok r w

theorem cells_agg (c : Array Value) : (Value.agg c).cells = c := rfl
theorem cells_one {v : Value} (h : v.oneCell' = true) : v.cells = #[v] := by cases v <;> simp [Value.oneCell', Value.cells] at h ⊢

/-- the part at an offset -/
theorem eq_part {t : TypeId} {ks : List PK} {d n off : Nat} {xs ys : Array Value} {cx cy : List AV} {r : Bool} (IH : EqP P d t ks) (hd : d ≤ n) (hsz : sizeT P t = some ks.length) (hag : ∃ b, aggT P t = some b) (h1 : aggT P t = some false → ks.length = 1)
    (hx : RepL K cx ((xs.toList.drop off).take ks.length)) (hy : RepL K cy ((ys.toList.drop off).take ks.length)) (he : eqCells ks cx cy = some r) :
    ∃ u v, (part t xs off).run P w = .ok u w ∧ (part t ys off).run P w = .ok v w ∧ (Op.equalIn n t u v).run P w = .ok r w := by
  obtain ⟨b, hb⟩ := hag
  have hlen := eqCells_len he
  cases b with
  | true =>
    refine ⟨.agg (xs.extract off (off + ks.length)), .agg (ys.extract off (off + ks.length)), by simp [part, run_isAgg hb, run_sizeOf hsz], by simp [part, run_isAgg hb, run_sizeOf hsz], ?_⟩
    exact IH K w _ _ cx cy r n hd (by rw [cells_agg, toList_extract]; exact hx) (by rw [cells_agg, toList_extract]; exact hy) he (fun _ => ⟨⟨_, rfl⟩, ⟨_, rfl⟩⟩) (fun hh => by rw [hb] at hh; cases hh)
  | false =>
    have hl1 := h1 hb
    rw [hl1] at hx hy hlen
    obtain ⟨ux, hux⟩ : ∃ u, cx = [u] := List.length_eq_one_iff.1 hlen.1
    obtain ⟨uy, huy⟩ : ∃ u, cy = [u] := List.length_eq_one_iff.1 hlen.2
    subst hux huy
    simp only [RepL] at hx hy
    obtain ⟨vx, rx, hvx, hrx, hnx⟩ := hx
    obtain ⟨vy, ry, hvy, hry, hny⟩ := hy
    subst hnx hny
    have gx : xs[off]? = some vx := by
      have : ((xs.toList.drop off).take 1)[0]? = some vx := by rw [hvx]; rfl
      rw [List.getElem?_take, if_pos (by omega), List.getElem?_drop] at this
      simpa using this
    have gy : ys[off]? = some vy := by
      have : ((ys.toList.drop off).take 1)[0]? = some vy := by rw [hvy]; rfl
      rw [List.getElem?_take, if_pos (by omega), List.getElem?_drop] at this
      simpa using this
    have hk : ∃ dx dy, ux = .d dx ∧ uy = .d dy := by
      obtain ⟨k, rfl⟩ : ∃ k, ks = [k] := List.length_eq_one_iff.1 hl1
      cases ux <;> try (simp [eqCells] at he; done)
      cases uy <;> try (simp [eqCells] at he; done)
      exact ⟨_, _, rfl, rfl⟩
    obtain ⟨dx, dy, rfl, rfl⟩ := hk
    have ox : vx.oneCell' = true := repD_one (by simpa [Rep] using hrx)
    have oy : vy.oneCell' = true := repD_one (by simpa [Rep] using hry)
    refine ⟨vx, vy, by simp [part, run_isAgg hb, gx], by simp [part, run_isAgg hb, gy], ?_⟩
    exact IH K w vx vy [.d dx] [.d dy] r n hd (by rw [cells_one ox]; simp [RepL, hrx]) (by rw [cells_one oy]; simp [RepL, hry]) he (fun hh => by rw [hb] at hh; cases hh) (fun _ => ⟨ox, oy⟩)

theorem eq_fields {d n : Nat} (IH : ∀ t ks, plainK P d t = some ks → EqP P d t ks ∧ (∃ b, aggT P t = some b) ∧ (aggT P t = some false → ks.length = 1)) (hd : d ≤ n) {xs ys : Array Value} : ∀ {fs : List Field} {off : Nat} {ks : List PK} {cx cy : List AV} {r : Bool}, plainFs P (plainK P d) off fs = some ks →
    RepL K cx ((xs.toList.drop off).take ks.length) → RepL K cy ((ys.toList.drop off).take ks.length) → eqCells ks cx cy = some r → (Op.eqFields n xs ys fs).run P w = .ok r w
  | [], off, ks, cx, cy, r, hp, hx, hy, he => by
    simp only [plainFs, Option.some.injEq] at hp
    subst hp
    simp only [List.length_nil, List.take_zero] at hx hy
    have e1 : cx = [] := List.length_eq_zero_iff.1 hx.length.symm
    have e2 : cy = [] := List.length_eq_zero_iff.1 hy.length.symm
    subst e1 e2
    simp only [eqCells, Option.some.injEq] at he
    subst he
    simp [Op.eqFields]
  | f :: fs, off, ks, cx, cy, r, hp, hx, hy, he => by
    simp only [plainFs] at hp
    split at hp
    · simp at hp
    · rename_i hno
      simp only [Bool.or_eq_true, not_or, Bool.not_eq_true, beq_eq_false_iff_ne, bne_eq_false_iff_eq] at hno
      split at hp
      · rename_i k1 hk1
        split at hp
        · rename_i hsz
          simp only [beq_iff_eq] at hsz
          simp only [Option.map_eq_some_iff] at hp
          obtain ⟨k2, hk2, rfl⟩ := hp
          obtain ⟨ih1, ih2, ih3⟩ := IH _ _ hk1
          have hlen := eqCells_len he
          simp only [List.length_append] at hx hy hlen
          have sx : RepL K (cx.take k1.length) ((xs.toList.drop off).take k1.length) := by
            have := RepL.take k1.length hx
            rwa [List.take_take, Nat.min_eq_left (by omega)] at this
          have sy : RepL K (cy.take k1.length) ((ys.toList.drop off).take k1.length) := by
            have := RepL.take k1.length hy
            rwa [List.take_take, Nat.min_eq_left (by omega)] at this
          have tx : RepL K (cx.drop k1.length) ((xs.toList.drop (off + k1.length)).take k2.length) := by
            have := RepL.drop k1.length hx
            rwa [List.drop_take, List.drop_drop, show k1.length + k2.length - k1.length = k2.length by omega] at this
          have ty : RepL K (cy.drop k1.length) ((ys.toList.drop (off + k1.length)).take k2.length) := by
            have := RepL.drop k1.length hy
            rwa [List.drop_take, List.drop_drop, show k1.length + k2.length - k1.length = k2.length by omega] at this
          rw [← List.take_append_drop k1.length cx, ← List.take_append_drop k1.length cy] at he
          obtain ⟨r1, r2, g1, g2, rfl⟩ := eqCells_append (by simp; omega) (by simp; omega) he
          obtain ⟨u, v, p1, p2, p3⟩ := eq_part (w := w) ih1 hd hsz ih2 ih3 sx sy g1
          have hrest := eq_fields IH hd (xs := xs) (ys := ys) hk2 tx ty g2
          have hn : f.name ≠ "_" := hno.1
          have ho : f.offset = off := hno.2
          simp only [Op.eqFields, hn, ne_eq, not_false_eq_true, if_true, Sem.run_bind, ho, p1, p2, p3, Result.andThen_ok]
          cases r1
          · simp
          · simpa using hrest
        · simp at hp
      · simp at hp

theorem eq_items {d n : Nat} {e : TypeId} {ks : List PK} (IH : EqP P d e ks) (hag : ∃ b, aggT P e = some b) (h1 : aggT P e = some false → ks.length = 1) (hsz : sizeT P e = some ks.length) (hd : d ≤ n) {xs ys : Array Value} : ∀ {m i : Nat} {cx cy : List AV} {r : Bool},
    RepL K cx ((xs.toList.drop (i * ks.length)).take (m * ks.length)) → RepL K cy ((ys.toList.drop (i * ks.length)).take (m * ks.length)) → eqCells ((List.replicate m ks).flatten) cx cy = some r → (Op.eqItems n e ks.length xs ys (List.range' i m)).run P w = .ok r w
  | 0, i, cx, cy, r, hx, hy, he => by
    simp only [Nat.zero_mul, List.take_zero] at hx hy
    have e1 : cx = [] := List.length_eq_zero_iff.1 hx.length.symm
    have e2 : cy = [] := List.length_eq_zero_iff.1 hy.length.symm
    subst e1 e2
    simp only [List.replicate_zero, List.flatten_nil, eqCells, Option.some.injEq] at he
    subst he
    simp [Op.eqItems]
  | m + 1, i, cx, cy, r, hx, hy, he => by
    simp only [List.replicate_succ, List.flatten_cons] at he
    have hlen := eqCells_len he
    have hfl : (List.replicate m ks).flatten.length = m * ks.length := by simp
    simp only [List.length_append, hfl] at hlen
    rw [Nat.add_mul, Nat.one_mul] at hx hy
    have sx : RepL K (cx.take ks.length) ((xs.toList.drop (i * ks.length)).take ks.length) := by
      have := RepL.take ks.length hx
      rwa [List.take_take, Nat.min_eq_left (by omega)] at this
    have sy : RepL K (cy.take ks.length) ((ys.toList.drop (i * ks.length)).take ks.length) := by
      have := RepL.take ks.length hy
      rwa [List.take_take, Nat.min_eq_left (by omega)] at this
    have tx : RepL K (cx.drop ks.length) ((xs.toList.drop ((i + 1) * ks.length)).take (m * ks.length)) := by
      have := RepL.drop ks.length hx
      rwa [List.drop_take, List.drop_drop, show m * ks.length + ks.length - ks.length = m * ks.length by omega, show i * ks.length + ks.length = (i + 1) * ks.length by rw [Nat.add_mul]; omega] at this
    have ty : RepL K (cy.drop ks.length) ((ys.toList.drop ((i + 1) * ks.length)).take (m * ks.length)) := by
      have := RepL.drop ks.length hy
      rwa [List.drop_take, List.drop_drop, show m * ks.length + ks.length - ks.length = m * ks.length by omega, show i * ks.length + ks.length = (i + 1) * ks.length by rw [Nat.add_mul]; omega] at this
    rw [← List.take_append_drop ks.length cx, ← List.take_append_drop ks.length cy] at he
    obtain ⟨r1, r2, g1, g2, rfl⟩ := eqCells_append (by simp; omega) (by simp; omega) he
    obtain ⟨u, v, p1, p2, p3⟩ := eq_part (w := w) IH hd hsz hag h1 sx sy g1
    have hrest := eq_items IH hag h1 hsz hd (xs := xs) (ys := ys) (m := m) (i := i + 1) tx ty g2
    simp only [List.range'_succ, Op.eqItems, Sem.run_bind, p1, p2, p3, Result.andThen_ok]
    cases r1
    · simp
    · simpa using hrest

theorem one_of_kind {k : PK} {cx cy : List AV} {r : Bool} (he : eqCells [k] cx cy = some r) : ∃ dx dy, cx = [.d dx] ∧ cy = [.d dy] ∧ dx.kind? = some k ∧ dy.kind? = some k ∧ r = dx.eqP dy := by
  have hlen := eqCells_len he
  obtain ⟨ux, rfl⟩ : ∃ u, cx = [u] := List.length_eq_one_iff.1 hlen.1
  obtain ⟨uy, rfl⟩ : ∃ u, cy = [u] := List.length_eq_one_iff.1 hlen.2
  cases ux <;> try (simp [eqCells] at he; done)
  cases uy <;> try (simp [eqCells] at he; done)
  rename_i dx dy
  simp only [eqCells] at he
  split at he
  · rename_i hk
    simp only [Option.map_some, Option.some.injEq] at he
    exact ⟨dx, dy, rfl, rfl, hk.1, hk.2, by rw [← he]; simp⟩
  · simp at he

theorem cells_single {x : Value} {u : Value} (h : x.oneCell' = true) (hc : x.cells.toList = [u]) : x = u := by
  rw [cells_one h] at hc
  simpa using hc

theorem plain_eq : ∀ (d : Nat) (t : TypeId) (ks : List PK), plainK P d t = some ks → EqP P d t ks ∧ (∃ b, aggT P t = some b) ∧ (aggT P t = some false → ks.length = 1)
  | 0, t, ks, h => by simp [plainK] at h
  | d + 1, t, ks, h => by
    have IH := plain_eq d
    unfold plainK at h
    split at h
    · rename_i k hu
      cases h
      have hag : aggT P t = some false := by simp [aggT, hu]
      refine ⟨fun K w x y cx cy r n hn hx hy he _ h2 => ?_, ⟨_, hag⟩, fun _ => rfl⟩
      obtain ⟨dx, dy, rfl, rfl, kx, ky, rfl⟩ := one_of_kind he
      obtain ⟨ox, oy⟩ := h2 hag
      simp only [RepL] at hx hy
      obtain ⟨vx, rx, hvx, hrx, rfl⟩ := hx
      obtain ⟨vy, ry, hvy, hry, rfl⟩ := hy
      have := cells_single ox hvx
      subst this
      have := cells_single oy hvy
      subst this
      cases dx <;> simp [D.kind?] at kx
      cases dy <;> simp [D.kind?] at ky
      subst kx ky
      obtain ⟨m, rfl⟩ : ∃ m, n = m + 1 := ⟨n - 1, by omega⟩
      rw [rep_int hrx, rep_int hry]
      exact run_equalIn_int w m t _ _ _ _ hu
    · rename_i hu
      cases h
      have hag : aggT P t = some false := by simp [aggT, hu]
      refine ⟨fun K w x y cx cy r n hn hx hy he _ h2 => ?_, ⟨_, hag⟩, fun _ => rfl⟩
      obtain ⟨dx, dy, rfl, rfl, kx, ky, rfl⟩ := one_of_kind he
      obtain ⟨ox, oy⟩ := h2 hag
      simp only [RepL] at hx hy
      obtain ⟨vx, rx, hvx, hrx, rfl⟩ := hx
      obtain ⟨vy, ry, hvy, hry, rfl⟩ := hy
      have := cells_single ox hvx
      subst this
      have := cells_single oy hvy
      subst this
      cases dx <;> simp [D.kind?] at kx
      cases dy <;> simp [D.kind?] at ky
      obtain ⟨m, rfl⟩ : ∃ m, n = m + 1 := ⟨n - 1, by omega⟩
      rw [rep_bool hrx, rep_bool hry]
      exact run_equalIn_bool' w m t _ _ hu
    · rename_i hu
      cases h
      have hag : aggT P t = some false := by simp [aggT, hu]
      refine ⟨fun K w x y cx cy r n hn hx hy he _ h2 => ?_, ⟨_, hag⟩, fun _ => rfl⟩
      obtain ⟨dx, dy, rfl, rfl, kx, ky, rfl⟩ := one_of_kind he
      obtain ⟨ox, oy⟩ := h2 hag
      simp only [RepL] at hx hy
      obtain ⟨vx, rx, hvx, hrx, rfl⟩ := hx
      obtain ⟨vy, ry, hvy, hry, rfl⟩ := hy
      have := cells_single ox hvx
      subst this
      have := cells_single oy hvy
      subst this
      cases dx <;> simp [D.kind?] at kx
      cases dy <;> simp [D.kind?] at ky
      obtain ⟨m, rfl⟩ : ∃ m, n = m + 1 := ⟨n - 1, by omega⟩
      rw [rep_str hrx, rep_str hry, run_equalIn_string w m t _ _ hu]
      simp [D.eqP]
    · rename_i fs hu
      split at h
      · simp at h
      · rename_i hst
        have hag : aggT P t = some true := by simp [aggT, hu]
        refine ⟨fun K w x y cx cy r n hn hx hy he h1 _ => ?_, ⟨_, hag⟩, fun hh => by rw [hag] at hh; cases hh⟩
        obtain ⟨⟨xs, rfl⟩, ⟨ys, rfl⟩⟩ := h1 hag
        obtain ⟨m, rfl⟩ : ∃ m, n = m + 1 := ⟨n - 1, by omega⟩
        have hfs : P.fieldsOf t = fs := by simp [Program.fieldsOf, hu]
        rw [run_equalIn_struct w m t xs ys (by rw [hfs]; exact hu) (by simpa using hst), hfs]
        have hlen := eqCells_len he
        rw [cells_agg] at hx hy
        refine eq_fields IH (by omega) h (cx := cx) (cy := cy) (K := K) ?_ ?_ he
        · rw [List.drop_zero, List.take_of_length_le (by rw [hx.length]; omega)]; exact hx
        · rw [List.drop_zero, List.take_of_length_le (by rw [hy.length]; omega)]; exact hy
    · rename_i n0 e hu
      split at h
      · rename_i k1 hk1
        split at h
        · rename_i hsz
          simp only [beq_iff_eq] at hsz
          cases h
          obtain ⟨ih1, ih2, ih3⟩ := IH _ _ hk1
          have hag : aggT P t = some true := by simp [aggT, hu]
          refine ⟨fun K w x y cx cy r n hn hx hy he h1 _ => ?_, ⟨_, hag⟩, fun hh => by rw [hag] at hh; cases hh⟩
          obtain ⟨⟨xs, rfl⟩, ⟨ys, rfl⟩⟩ := h1 hag
          obtain ⟨m, rfl⟩ : ∃ m, n = m + 1 := ⟨n - 1, by omega⟩
          have hlen := eqCells_len he
          have hfl : (List.replicate n0 k1).flatten.length = n0 * k1.length := by simp
          rw [hfl] at hlen
          rw [cells_agg] at hx hy
          obtain ⟨i, hi⟩ : ∃ i, P.info? e = some i := by
            unfold sizeT at hsz
            simp only [Option.map_eq_some_iff] at hsz
            obtain ⟨i, hi, _⟩ := hsz
            exact ⟨i, hi⟩
          have hco : P.cellsOf e = k1.length := by
            unfold sizeT at hsz
            simp [Program.cellsOf, hsz]
          rw [run_equalIn_array w m xs ys hu hi, hco, List.range_eq_range']
          refine eq_items ih1 ih2 ih3 hsz (by omega) (cx := cx) (cy := cy) (K := K) ?_ ?_ he
          · rw [Nat.zero_mul, List.drop_zero, List.take_of_length_le (by rw [hx.length]; omega)]; exact hx
          · rw [Nat.zero_mul, List.drop_zero, List.take_of_length_le (by rw [hy.length]; omega)]; exact hy
        · simp at h
      · simp at h
    · simp at h

theorem ok_eqc {ne : Bool} {ks : List PK} {op : BinOp} {t yt : TypeId} {x y : Opd} {x' y' : Operand} {o : Oper} {cx cy : List AV} {d : Did} (ho : o.op = .binOp op t x' y' yt) (hop : op = if ne then BinOp.neq else BinOp.eql) (h : Sim E K s a.tmps w)
    (h1 : chkO x x' = true) (h2 : chkO y y' = true) (hp : plainK P 50 t = some ks) (hag : aggT P t = some true) (hg : P.eqGuardType P.depth t = false)
    (hx : getO s.sl x = some (.agg cx)) (hy : getO s.sl y = some (.agg cy)) (hd : vl s ((eqCells ks cx cy).map fun t => .d (.bool (t != ne))) = some d) : OpOK P E K s a w o d := by
  obtain ⟨r, hr, rfl⟩ := vl_of hd
  simp only [Option.map_eq_some_iff] at hr
  obtain ⟨b, hb, rfl⟩ := hr
  have p := getO_rep h h1 hx
  have q := getO_rep h h2 hy
  simp only [Rep] at p q
  obtain ⟨xs, hxs, hrx⟩ := p
  obtain ⟨ys, hys, hry⟩ := q
  have heq : (Op.equalIn 10000 t (.agg xs) (.agg ys)).run P w = .ok b w := (plain_eq 50 t ks hp).1 K w _ _ cx cy b 10000 (by omega) hrx hry hb (fun _ => ⟨⟨_, rfl⟩, ⟨_, rfl⟩⟩) (fun hh => by rw [hag] at hh; cases hh)
  refine opOK_pure h (pv := .bool (b != ne)) ?_ (rep_bool' _) (fun _ e => by cases e)
  simp only [execOp, ho, Sem.run_bind, hxs, hys, run_eqGuard_agg w op t x' y' xs ys hg, Result.andThen_ok]
  cases ne <;> simp only [Bool.false_eq_true, if_false, if_true] at hop <;> subst hop
  · rw [run_eql_struct, heq]; simp
  · rw [run_neq_struct, heq]; simp

end
end Go.Ab
