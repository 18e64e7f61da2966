/-
  The operations, sixth part: append, clear, slice expressions.
-/
import Derived.Test.YtcoejfgecnaphaaAb7
set_option linter.unusedSimpArgs false
set_option linter.unusedVariables false
namespace Go.Ab
section
variable {P : Program} {T : TT}

theorem ask_eq {x y c : Bool} {l l' : List Dec} (h : ask x l = some (y, c, l')) (hc : c = true) : y = x := by
  cases l with
  | nil => simp [ask] at h; exact h.1.symm
  | cons d l =>
    cases d with
    | a n => cases n <;> (simp [ask] at h; exact h.1.symm)
    | t => simp [ask] at h; obtain ⟨rfl, rfl, _⟩ := h; exact hc.symm
    | f => simp [ask] at h; obtain ⟨rfl, rfl, _⟩ := h; simpa using hc.symm
    | stop => simp [ask] at h

theorem growBy_le (newLen : Nat) (hn : 256 ≤ newLen) : ∀ (rounds c : Nat), c ≤ 2 * newLen → Builtin.growBy newLen rounds c ≤ 2 * newLen
  | 0, c, h => h
  | n + 1, c, h => by
    unfold Builtin.growBy
    split
    · exact h
    · exact growBy_le newLen hn n _ (by omega)

theorem nextcap_le (need cap : Nat) (h : cap < need) : Builtin.nextslicecap need cap ≤ 2 * need := by
  unfold Builtin.nextslicecap
  split
  · omega
  · split
    · omega
    · exact growBy_le need (by omega) 4 cap (by omega)

theorem both_lt {f g : Nat → List AV} {n j : Nat} (h : j < n) : both f g n j = f j := by
  unfold both
  have : Nat.blt j n = true := Nat.ble_eq_true_of_le h
  rw [this]

theorem both_ge {f g : Nat → List AV} {n j : Nat} (h : n ≤ j) : both f g n j = g (j - n) := by
  unfold both
  have : Nat.blt j n = false := by
    cases hb : Nat.blt j n with
    | false => rfl
    | true => have : j + 1 ≤ n := Nat.le_of_ble_eq_true hb; omega
  rw [this]

theorem over_in {f g : Nat → List AV} {a m j : Nat} (h : a ≤ j) (h' : j < a + m) : over f g a m j = g (j - a) := by
  unfold over
  have h1 : Nat.ble a j = true := Nat.ble_eq_true_of_le h
  have h2 : Nat.blt j (a + m) = true := Nat.ble_eq_true_of_le h'
  rw [h1, h2]; rfl

theorem over_out {f g : Nat → List AV} {a m j : Nat} (h : j < a ∨ a + m ≤ j) : over f g a m j = f j := by
  unfold over
  have : (Nat.ble a j && Nat.blt j (a + m)) = false := by
    cases h1 : Nat.ble a j <;> cases h2 : Nat.blt j (a + m) <;> try rfl
    have h1 := Nat.le_of_ble_eq_true h1
    have h2 : j + 1 ≤ a + m := Nat.le_of_ble_eq_true h2
    omega
  rw [this]

theorem cellsAt_of_rows {ι : Ren} {g : Nat → List AV} {m e : Nat} {CS : List Value} (h : RowsIn ι g m e CS) {C : Array Value} {at_ : Nat} (hC : ∀ j, j < m * e → C[at_ + j]? = CS[j]?) {j : Nat} (hj : j < m) :
    (g j).length = e ∧ CellsAt ι (g j) C (at_ + j * e) := by
  obtain ⟨h1, h2, h3⟩ := h
  obtain ⟨a, b⟩ := h3 j hj
  refine ⟨a, fun q x hx => ?_⟩
  have hq : q < e := by
    apply Nat.lt_of_not_le; intro h'; rw [List.getElem?_eq_none (by omega)] at hx; cases hx
  obtain ⟨y, hy, r⟩ := b q x hx
  have := rows_apart (e := e) hj
  exact ⟨y, by rw [Nat.add_assoc, hC _ (by omega), hy], r, h2 y (List.mem_of_getElem? hy)⟩

/-- A new row of rows. -/
theorem new_rows {ι : Ren} {H : Heap} {w w' : World} {C : Array Value} {ty : TypeId} {e n cap : Nat} {f : Nat → List AV} (hf : ι H.length = none)
    (hw : w'.heap = w.heap.push (Obj.cells C ty)) (hrows : ∀ j, j < n → (f j).length = e ∧ CellsAt ι (f j) C (j * e)) (hcap : n ≤ cap) (hsz : C.size = cap * e) :
    let l : Loc := ⟨w.heap.size, 0, cap * e, e⟩
    ObjAt (ι.set H.length l) (.rows e n f true) l w' ∧ VR (ι.set H.length l) (.sl H.length 0 e n n) (.slice (some ⟨w.heap.size, 0, none⟩) n cap) := by
  refine ⟨⟨rfl, C, ty, (0, 0), by rw [hw]; simp, fun _ => rfl, hsz, fun _ => ?_, fun j hj => ?_⟩, _, _, cap, by simp [Ren.set]; rfl, rfl, hcap, hcap, rfl, .inr ⟨by simp [addr], by simp⟩⟩
  · simp only [Nat.zero_add]; exact Nat.mul_le_mul_right e hcap
  · obtain ⟨a, b⟩ := hrows j hj
    exact ⟨a, by simpa using b.mono (Ren.le_set hf)⟩

theorem zero_cells_one (K : TOK P T) {t : Nat} {z : List AV} (h : zerosA T t = some z) (h1 : z.all AV.one = true) : ∃ y : Value, (∀ w, (zeroValue t).run P w = .ok y w) ∧ y.cells.size = z.length ∧ (∀ v ∈ y.cells.toList, v.oneCell' = true) ∧ ∀ ι, VRs ι z y.cells.toList := by
  obtain ⟨y, h2, h3, h4⟩ := zerosA_run K h
  have := (h4 (fun _ => none)).length
  exact ⟨y, fun w => K.run_zero h2 w, by rw [← Array.length_toList, this], one_cells (h4 (fun _ => none)) h1, h4⟩

theorem zeroCells_size (z : Array Value) (n : Nat) : (Builtin.zeroCells z n).size = n * z.size := by simp [Builtin.zeroCells]

/-- The run of an append, in both its ways. -/
theorem append_run (K : TOK P T) {ι : Ren} {H : Heap} {w : World} {t t' rt el : Nat} {d' : TypeDesc} {i : TypeInfo} {z : List AV} {x : AV} {x' : Value} {m : Nat} {g : Nat → List AV} (E : Emb ι (hget H) w)
    (hx : VR ι x x') (ht' : T.und t' = some d') (hnt : ∀ k, d' ≠ .int k) (hu : T.und t = some (.slice el)) (hi : T.inf el = some i) (hz : zerosA T el = some z)
    (hel : elems H i.size x = some (m, g)) (hok : (elemsOk H x && Nat.beq z.length i.size && z.all AV.one && Nat.blt 0 i.bytes) = true) (base : Option Addr) (sLen sCap : Nat) :
    ∃ CS : List Value, RowsIn ι g m i.size CS ∧
      (sLen + m ≤ sCap → (Builtin.append_ #[t, t'] rt #[.slice base sLen sCap, x']).run P w = (match base with
          | some a => (fun _ => Value.slice base (sLen + m) sCap) <$> storeCells (a.add (sLen * i.size)) CS
          | none => pure (.slice base (sLen + m) sCap)).run P w) ∧
      (∀ OS : List Value, sCap < sLen + m → (sLen + m) * i.bytes ≤ 2 ^ 47 → (∀ w' : World, w'.heap = w.heap → (Builtin.firstCells i.size sLen (.slice base sLen sCap)).run P w' = .ok OS.toArray w') →
          ∃ (cap : Nat) (rest : Array Value), sLen + m ≤ cap ∧ rest.size = (cap - (sLen + m)) * i.size ∧
            (Builtin.append_ #[t, t'] rt #[.slice base sLen sCap, x']).run P w = .ok (.slice (some ⟨w.heap.size, 0, none⟩) (sLen + m) cap) (w.drew.alloc (Obj.cells (OS.toArray ++ CS.toArray ++ rest) el))) := by
  have hszT : sizeT T el = some i.size := by simp [sizeT, hi]
  have hint : ∀ w', ((underlying t').run P w') = .ok d' w' := fun w' => K.run_und ht' w'
  simp only [Bool.and_eq_true] at hok
  obtain ⟨⟨⟨hok1, hok2⟩, hok3⟩, hok4⟩ := hok
  have hok2 := Nat.eq_of_beq_eq_true hok2
  have hok4 : 0 < i.bytes := Nat.le_of_ble_eq_true hok4
  obtain ⟨hlen, CS, hfirst, hrows⟩ := elems_sound K E hx hel hok1
  obtain ⟨zy, hz1, hz2, hz3, hz4⟩ := zero_cells_one K hz hok3
  refine ⟨CS, hrows, fun hfit => ?_, fun OS hgr hroom hold => ?_⟩
  · have hf0 := hfirst w rfl
    simp [Builtin.append_, K.run_und hu, K.run_size hszT, hint, hlen, hf0]
    rw [if_pos hfit]
    cases base <;> simp
  · have hf1 := hfirst w.drew rfl
    have ho1 := hold w.drew rfl
    have hcap := nextcap_le (sLen + m) sCap hgr
    have hb : Builtin.nextslicecap (sLen + m) sCap * i.bytes ≤ 2 ^ 48 := by
      have := Nat.mul_le_mul_right i.bytes hcap
      have e : 2 * (sLen + m) * i.bytes = 2 * ((sLen + m) * i.bytes) := Nat.mul_assoc _ _ _
      omega
    have hq : (Question.appendCap (sLen + m) sCap el).forced = false := rfl
    refine ⟨(Question.appendCap (sLen + m) sCap el).cut (w.tape w.drawn (.appendCap (sLen + m) sCap el)), Builtin.zeroCells zy.cells ((Question.appendCap (sLen + m) sCap el).cut (w.tape w.drawn (.appendCap (sLen + m) sCap el)) - (sLen + m)), ?_, ?_, ?_⟩
    · simp [Question.cut]
    · rw [zeroCells_size, hz2, hok2]
    · have h1 : ¬ (sLen + m ≤ sCap) := by omega
      have h2 : ¬ ((9223372036854775807 : Int) < (sLen : Int) + (m : Int) ∧ i.bytes = 0) := by omega
      have h3 : ¬ (281474976710656 < Builtin.nextslicecap (sLen + m) sCap * i.bytes) := by omega
      simp [Builtin.append_, K.run_und hu, K.run_size hszT, hint, hlen, hf1, ho1, K.run_info hi, hz1, if_neg h1, if_neg h2, if_neg h3, hq, newRow]
      rw [← Array.append_assoc]; simp

/-- The row behind a growth: the old rows, the new ones, and what is spare. -/
theorem grown_rows {ι : Ren} {f g : Nat → List AV} {n m e : Nat} {OS CS : List Value} {rest : Array Value} (ho : RowsIn ι f n e OS) (hg : RowsIn ι g m e CS) :
    ∀ j, j < n + m → (both f g n j).length = e ∧ CellsAt ι (both f g n j) (OS.toArray ++ CS.toArray ++ rest) (j * e) := by
  intro j hj
  by_cases h : j < n
  · rw [both_lt h]
    have := cellsAt_of_rows (at_ := 0) (C := OS.toArray ++ CS.toArray ++ rest) ho (fun q hq => by
      have : q < OS.length := by rw [ho.1]; exact hq
      simp [Array.getElem?_append, this, show q < OS.length + CS.length from by omega]) h
    simpa using this
  · rw [both_ge (by omega)]
    have := cellsAt_of_rows (at_ := n * e) (C := OS.toArray ++ CS.toArray ++ rest) hg (fun q hq => by
      have h1 : q < CS.length := by rw [hg.1]; exact hq
      have h2 : n * e = OS.length := ho.1.symm
      simp [Array.getElem?_append, h2, h1]) (j := j - n) (by omega)
    have e1 : n * e + (j - n) * e = j * e := by rw [← Nat.add_mul]; congr 1; omega
    rw [e1] at this
    exact this

theorem append_sound (K : TOK P T) {ι : Ren} {H : Heap} {w : World} {t t' rt : Nat} {d' : TypeDesc} {s x : AV} {s' x' : Value} {orc : List Dec} {r : OR} (E : Emb ι (hget H) w)
    (hs : VR ι s s') (hx : VR ι x x') (ht' : T.und t' = some d') (hnt : ∀ k, d' ≠ .int k) (h : appendA T t s x H orc = some r) (hc : r.c = true) (hf : Fresh ι H.length r.H.length) :
    ∃ w' ι' y, (Builtin.append_ #[t, t'] rt #[s', x']).run P w = .ok y w' ∧ VR ι' r.v y ∧ Emb ι' (hget r.H) w' ∧ Tr ι ι' (hget H) (hget r.H) H.length r.H.length r.wr w w' := by
  unfold appendA at h
  cases hu : T.und t with
  | none => rw [hu] at h; cases h
  | some d =>
    rw [hu] at h
    cases d <;> try (cases h; done)
    rename_i el
    dsimp only at h
    cases hi : T.inf el with
    | none => rw [hi] at h; cases h
    | some i =>
      cases hz : zerosA T el with
      | none => rw [hi, hz] at h; cases h
      | some z =>
        rw [hi, hz] at h
        dsimp only at h
        cases hel : elems H i.size x with
        | none => rw [hel] at h; cases h
        | some mg =>
          obtain ⟨m, g⟩ := mg
          rw [hel] at h
          dsimp only at h
          -- a slice of no length and no capacity
          have empty : ∀ base : Option Addr, VR ι s (.slice base 0 0) → (match ask (Nat.beq m 0) orc with
              | some (true, c, orc) => some (⟨s, H, [], c && (elemsOk H x && Nat.beq z.length i.size && z.all AV.one && Nat.blt 0 i.bytes), orc⟩ : OR)
              | some (false, c, orc) => some ⟨.sl H.length 0 i.size m m, H ++ [some (.rows i.size m g true)], [], c && (elemsOk H x && Nat.beq z.length i.size && z.all AV.one && Nat.blt 0 i.bytes) && Nat.ble (m * i.bytes) (2 ^ 47), orc⟩
              | none => none) = some r →
              ∃ w' ι' y, (Builtin.append_ #[t, t'] rt #[.slice base 0 0, x']).run P w = .ok y w' ∧ VR ι' r.v y ∧ Emb ι' (hget r.H) w' ∧ Tr ι ι' (hget H) (hget r.H) H.length r.H.length r.wr w w' := by
            intro base hsb h
            cases ha : ask (Nat.beq m 0) orc with
            | none => rw [ha] at h; cases h
            | some q =>
              obtain ⟨b, c, orc'⟩ := q
              rw [ha] at h
              cases b with
              | true =>
                dsimp only at h
                cases h
                simp only [Bool.and_eq_true] at hc
                have hm := Nat.eq_of_beq_eq_true (ask_eq ha hc.1).symm
                obtain ⟨CS, h1, h2, _⟩ := append_run K (rt := rt) E hx ht' hnt hu hi hz hel (by simp only [Bool.and_eq_true]; exact hc.2) base 0 0
                subst hm
                have hCS : CS = [] := by
                  have := h1.1; simpa using this
                subst hCS
                refine ⟨w, ι, .slice base 0 0, ?_, hsb, E, Tr.refl _ _ _ _⟩
                rw [h2 (by omega)]
                cases base <;> simp [storeCells]
              | false =>
                dsimp only at h
                cases h
                simp only [Bool.and_eq_true] at hc
                obtain ⟨⟨hc1, hc2⟩, hc3⟩ := hc
                have hm := Nat.ne_of_beq_eq_false (ask_eq ha hc1).symm
                have hc3 := Nat.le_of_ble_eq_true hc3
                obtain ⟨CS, h1, _, h2⟩ := append_run K (rt := rt) E hx ht' hnt hu hi hz hel (by simp only [Bool.and_eq_true]; exact hc2) base 0 0
                obtain ⟨cap, rest, h3, h4, h5⟩ := h2 [] (by omega) (by simpa using hc3) (fun w' _ => by cases base <;> simp [Builtin.firstCells, loadCells, loadCellsFrom])
                have hfn : ι H.length = none := hf _ (Nat.le_refl _) (by simp)
                have hrows := grown_rows (rest := rest) (rowsIn_nil ι (fun _ => []) i.size) h1
                have hb : ∀ j, both (fun _ => []) g 0 j = g j := fun j => by rw [both_ge (Nat.zero_le _)]; rfl
                simp only [Nat.zero_add, hb] at hrows h3 h4
                have hsz : ([].toArray ++ CS.toArray ++ rest : Array Value).size = cap * i.size := by
                  simp [h1.1, h4]; rw [← Nat.add_mul]; congr 1; omega
                obtain ⟨n1, n2⟩ := new_rows (w := w) (w' := w.drew.alloc (Obj.cells ([].toArray ++ CS.toArray ++ rest) el)) hfn rfl hrows h3 hsz
                have nb := new_block (w' := w.drew.alloc (Obj.cells ([].toArray ++ CS.toArray ++ rest) el)) E hfn rfl rfl n1
                exact ⟨_, _, _, h5, by simpa using n2, nb.1, nb.2⟩
          cases s <;> try (cases h; done)
          · -- nil
            rename_i v
            cases hs
            cases s' <;> try (cases h; done)
            rename_i a n c
            cases a <;> try (cases h; done)
            cases n <;> try (cases h; done)
            cases c <;> try (cases h; done)
            exact empty none rfl h
          · -- sl
            rename_i b rr e' n k
            dsimp only at h
            cases hb : hget H b with
            | none => rw [hb] at h; cases h
            | some ob =>
              rw [hb] at h
              cases ob <;> try (cases h; done)
              rename_i e'' N f rw
              cases rw <;> try (cases h; done)
              cases he : Nat.beq i.size e' with
              | false => rw [he] at h; cases h
              | true =>
                rw [he] at h
                dsimp only at h
                have he := Nat.eq_of_beq_eq_true he
                subst he
                cases ha : ask (Nat.ble (n + m) k) orc with
                | none => rw [ha] at h; cases h
                | some q =>
                  obtain ⟨bb, c, orc'⟩ := q
                  rw [ha] at h
                  obtain ⟨l, a, cap, hl, rfl, hn, hk, hrow, haddr⟩ := hs
                  obtain ⟨l2, hl2, h3, C, ty, fz, h4, h5, h6, h7, h8⟩ := E.obj b _ hb
                  rw [hl] at hl2; cases hl2
                  have hfz := h5 rfl
                  subst hfz
                  cases bb with
                  | true =>
                    dsimp only at h
                    cases h
                    simp only [Bool.and_eq_true] at hc
                    obtain ⟨⟨⟨hc1, hc2⟩, hc3⟩, hc4⟩ := hc
                    have hc3 := Nat.eq_of_beq_eq_true hc3
                    subst hc3
                    have hc4 := Nat.le_of_ble_eq_true hc4
                    have hle := Nat.le_of_ble_eq_true (ask_eq ha hc1).symm
                    obtain ⟨CS, g1, g2, _⟩ := append_run K (rt := rt) E hx ht' hnt hu hi hz hel (by simp only [Bool.and_eq_true]; exact hc2) (some a) n cap
                    have hrun := g2 (by omega)
                    have at_e : l.base + (rr + n) * i.size + CS.length ≤ C.size ∨ m = 0 := by
                      rcases Nat.eq_zero_or_pos m with h0 | h0
                      · exact .inr h0
                      · left
                        have := h7 (by omega)
                        have e1 : (rr + n) * i.size + m * i.size ≤ N * i.size := by
                          rw [← Nat.add_mul]; exact Nat.mul_le_mul_right _ (by omega)
                        rw [g1.1]; omega
                    rcases at_e with hfit | h0
                    · rcases haddr with hcap0 | ⟨haddr, htot⟩
                      · -- no capacity: nothing is appended
                        have hm0 : m = 0 := by omega
                        have hn0 : n = 0 := by omega
                        subst hm0; subst hn0; subst hcap0
                        have hCS : CS = [] := by have := g1.1; simpa using this
                        subst hCS
                        have sb := set_block (o' := .rows i.size N (over f g (rr + 0) 0) true) (w' := w) E hb hl rfl (fun _ _ => rfl)
                          ⟨hrow, C, ty, (0, 0), h4, fun _ => rfl, h6, h7, fun q hq => by
                            rw [over_out (by omega)]; exact h8 q hq⟩
                        refine ⟨w, ι, .slice (some a) 0 0, by rw [hrun]; simp [storeCells], ⟨l, a, 0, hl, rfl, by omega, by omega, hrow, .inl rfl⟩, sb.1, sb.2⟩
                      · subst haddr
                        have hadd : (addr l rr 0).add (n * i.size) = ⟨l.blk, l.base + (rr + n) * i.size, none⟩ := by
                          rw [addr_row l rr n i.size hrow]; simp [addr, hrow]
                        have hst := run_storeCells_at P l.blk (l.base + (rr + n) * i.size) ty CS 0 C w h4 (by simpa using hfit) g1.2.1
                        refine ⟨w.setRow l.blk (rowPut C (l.base + (rr + n) * i.size) CS), ι, .slice (some (addr l rr 0)) (n + m) cap, ?_, ⟨l, _, cap, hl, rfl, by omega, by omega, hrow, .inr ⟨rfl, htot⟩⟩, ?_⟩
                        · rw [hrun]; simp only [hadd, Sem.run_map, hst, Result.andThen_ok]; simp [rowPut]
                        · refine set_block E hb hl (setRow_size _ _ _) (fun B hB => setRow_other _ _ _ _ hB)
                            ⟨hrow, _, ty, (0, 0), setRow_heap w l.blk C _ ty (0, 0) h4, fun _ => rfl, by rw [rowPut_size _ _ _ hfit]; exact h6, h7, fun q hq => ?_⟩
                          by_cases hlt : q < rr + n
                          · rw [over_out (.inl hlt)]
                            obtain ⟨a1, a2⟩ := h8 q hq
                            have := rows_apart (e := i.size) hlt
                            exact ⟨a1, a2.keep hfit (by rw [a1]; left; omega)⟩
                          · by_cases hge : rr + n + m ≤ q
                            · rw [over_out (.inr hge)]
                              obtain ⟨a1, a2⟩ := h8 q hq
                              have e1 : (rr + n) * i.size + m * i.size ≤ q * i.size := by
                                rw [← Nat.add_mul]; exact Nat.mul_le_mul_right _ hge
                              exact ⟨a1, a2.keep hfit (by rw [g1.1]; right; omega)⟩
                            · rw [over_in (by omega) (by omega)]
                              have := cellsAt_of_rows (at_ := l.base + (rr + n) * i.size) (C := rowPut C (l.base + (rr + n) * i.size) CS) g1 (fun j hj => by
                                rw [rowPut_get _ _ _ _ hfit, if_pos ⟨by omega, by rw [g1.1]; omega⟩]; congr 1; omega) (j := q - (rr + n)) (by omega)
                              have e1 : l.base + (rr + n) * i.size + (q - (rr + n)) * i.size = l.base + q * i.size := by
                                rw [Nat.add_assoc, ← Nat.add_mul]; congr 2; omega
                              rw [e1] at this; exact this
                    · subst h0
                      have hCS : CS = [] := by have := g1.1; simpa using this
                      subst hCS
                      have sb := set_block (o' := .rows i.size N (over f g (rr + n) 0) true) (w' := w) E hb hl rfl (fun _ _ => rfl)
                        ⟨hrow, C, ty, (0, 0), h4, fun _ => rfl, h6, h7, fun q hq => by
                          rw [over_out (by omega)]; exact h8 q hq⟩
                      refine ⟨w, ι, .slice (some a) n cap, by rw [hrun]; simp [storeCells], ⟨l, a, cap, hl, rfl, by omega, by omega, hrow, haddr⟩, sb.1, sb.2⟩
                  | false =>
                    dsimp only at h
                    cases h
                    simp only [Bool.and_eq_true] at hc
                    obtain ⟨⟨⟨⟨hc1, hc2⟩, hc3⟩, hc4⟩, hc5⟩ := hc
                    have hc3 := Nat.eq_of_beq_eq_true hc3
                    subst hc3
                    have hc4 := Nat.eq_of_beq_eq_true hc4
                    have hc5 := Nat.le_of_ble_eq_true hc5
                    have hgt : ¬ (n + m ≤ k) := fun h' => by
                      have e1 := ask_eq ha hc1
                      rw [Nat.ble_eq_true_of_le h'] at e1; cases e1
                    have hfn : ι H.length = none := hf _ (Nat.le_refl _) (by simp [length_hset])
                    obtain ⟨CS, g1, g2, g3⟩ := append_run K (rt := rt) E hx ht' hnt hu hi hz hel (by simp only [Bool.and_eq_true]; exact hc2) (some a) n cap
                    by_cases hfits : n + m ≤ cap
                    · -- in its place
                      have hrun := g2 hfits
                      rcases haddr with hcap0 | ⟨haddr, htot⟩
                      · omega
                      · subst haddr
                        have hadd : (addr l rr 0).add (n * i.size) = ⟨l.blk, l.base + (rr + n) * i.size, none⟩ := by
                          rw [addr_row l rr n i.size hrow]; simp [addr, hrow]
                        have hfit : l.base + (rr + n) * i.size + CS.length ≤ C.size := by
                          have e1 : (rr + n) * i.size + m * i.size ≤ (rr + cap) * i.size := by
                            rw [← Nat.add_mul]; exact Nat.mul_le_mul_right _ (by omega)
                          rw [g1.1]; omega
                        have hst := run_storeCells_at P l.blk (l.base + (rr + n) * i.size) ty CS 0 C w h4 (by simpa using hfit) g1.2.1
                        have e2 : l.base + rr * i.size + (n + m) * i.size ≤ l.total := by
                          have : (rr + (n + m)) * i.size ≤ (rr + cap) * i.size := Nat.mul_le_mul_right _ (by omega)
                          rw [Nat.add_mul] at this; omega
                        have mb := move_block (o' := .rows i.size (n + m) (both (fun j => f (rr + j)) g n) true) (l' := ⟨l.blk, l.base + rr * i.size, l.total, i.size⟩)
                          (w' := w.setRow l.blk (rowPut C (l.base + (rr + n) * i.size) CS)) E hb hl hfn (by rw [setRow_size]; exact Nat.le_refl _) (fun B _ hB => setRow_other _ _ _ _ hB) (.inl rfl)
                          ⟨rfl, _, ty, (0, 0), setRow_heap w l.blk C _ ty (0, 0) h4, fun _ => rfl, by rw [rowPut_size _ _ _ hfit]; exact h6, fun _ => e2, fun q hq => by
                            by_cases hqn : q < n
                            · rw [both_lt hqn]
                              obtain ⟨a1, a2⟩ := h8 (rr + q) (by omega)
                              have := rows_apart (e := i.size) (show rr + q < rr + n from by omega)
                              have a3 := a2.keep hfit (by rw [a1]; left; omega)
                              rw [show l.base + rr * i.size + q * i.size = l.base + (rr + q) * i.size from by rw [Nat.add_mul]; omega]
                              exact ⟨a1, a3.mono (Ren.le_set hfn)⟩
                            · rw [both_ge (by omega)]
                              have := cellsAt_of_rows (at_ := l.base + (rr + n) * i.size) (C := rowPut C (l.base + (rr + n) * i.size) CS) g1 (fun j hj => by
                                rw [rowPut_get _ _ _ _ hfit, if_pos ⟨by omega, by rw [g1.1]; omega⟩]; congr 1; omega) (j := q - n) (by omega)
                              have e1 : l.base + (rr + n) * i.size + (q - n) * i.size = l.base + rr * i.size + q * i.size := by
                                have : (rr + n) * i.size + (q - n) * i.size = rr * i.size + q * i.size := by
                                  rw [← Nat.add_mul, ← Nat.add_mul]; congr 1; omega
                                omega
                              rw [e1] at this
                              exact ⟨this.1, this.2.mono (Ren.le_set hfn)⟩⟩
                        refine ⟨_, _, .slice (some (addr l rr 0)) (n + m) cap, ?_, ⟨_, _, cap, by simp [Ren.set]; rfl, rfl, hfits, hfits, rfl, .inr ⟨by simp [addr, hrow], ?_⟩⟩, mb.1, mb.2⟩
                        · rw [hrun]; simp only [hadd, Sem.run_map, hst, Result.andThen_ok]; simp [rowPut]
                        · simp only [Nat.zero_add]
                          rw [Nat.add_mul] at htot; omega
                    · -- it grows
                      have hold : ∃ OS : List Value, (∀ w' : World, w'.heap = w.heap → (Builtin.firstCells i.size n (.slice (some a) n cap)).run P w' = .ok OS.toArray w') ∧ RowsIn ι (fun j => f (rr + j)) n i.size OS := by
                        rcases Nat.eq_zero_or_pos n with h0 | h0
                        · subst h0
                          exact ⟨[], fun w' _ => by simp [Builtin.firstCells, loadCells, loadCellsFrom], rowsIn_nil _ _ _⟩
                        · have haddr : a = addr l rr 0 := by rcases haddr with h' | h'; omega; exact h'.1
                          subst haddr
                          obtain ⟨OS, o1, o2⟩ := load_rows (P := P) (g := fun j => f (rr + j)) (m := n) (from_ := l.base + rr * i.size) h4 (fun j hj => by
                            obtain ⟨a1, a2⟩ := h8 (rr + j) (by omega)
                            exact ⟨a1, by rw [show l.base + rr * i.size + j * i.size = l.base + (rr + j) * i.size from by rw [Nat.add_mul]; omega]; exact a2⟩)
                          exact ⟨OS, fun w' hw' => by simpa [Builtin.firstCells, addr, hrow] using o1 w' hw', o2⟩
                      obtain ⟨OS, ho1, ho2⟩ := hold
                      obtain ⟨ncap, rest, q1, q2, q3⟩ := g3 OS (by omega) hc5 ho1
                      have hrows := grown_rows (rest := rest) ho2 g1
                      have hsz : (OS.toArray ++ CS.toArray ++ rest : Array Value).size = ncap * i.size := by
                        simp [g1.1, ho2.1, q2]; rw [← Nat.add_mul, ← Nat.add_mul]; congr 1; omega
                      obtain ⟨n1, n2⟩ := new_rows (w := w) (w' := w.drew.alloc (Obj.cells (OS.toArray ++ CS.toArray ++ rest) el)) hfn rfl hrows q1 hsz
                      have mb := move_block (w' := w.drew.alloc (Obj.cells (OS.toArray ++ CS.toArray ++ rest) el)) E hb hl hfn (by simp) (fun B hB _ => by
                        show (w.heap.push _)[B]? = _
                        rw [Array.getElem?_push, if_neg (by omega)]) (.inr (Nat.le_refl _)) n1
                      exact ⟨_, _, _, q3, n2, mb.1, mb.2⟩
          · -- sle
            obtain ⟨a, rfl⟩ := hs
            exact empty (some a) ⟨a, rfl⟩ h
end
end Go.Ab
