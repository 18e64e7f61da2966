/-
  The operations, fourth part: stores, new blocks, structs and slices that are built, addresses.
-/
import Derived.Test.YtcoejfgecnaphaaAb5
import Derived.Laws.Tables
set_option linter.unusedSimpArgs false
set_option linter.unusedVariables false
namespace Go.Ab
section
variable {P : Program} {T : TT}

theorem CellsAt.put {ι : Ren} {c : List AV} {C : Array Value} {at_ o : Nat} {xs : List AV} {ys : List Value} (h : CellsAt ι c C at_) (hv : VRs ι xs ys) (h1 : ∀ y ∈ ys, y.oneCell' = true) (hfit : o + xs.length ≤ c.length)
    (hC : at_ + o + ys.length ≤ C.size) : CellsAt ι (Ab.put c o xs) (rowPut C (at_ + o) ys) at_ := by
  intro j x hx
  have hl := hv.length
  rw [put_get _ _ _ _ hfit] at hx
  rw [rowPut_get _ _ _ _ hC]
  split at hx
  · rename_i hj
    obtain ⟨y, hy, r⟩ := hv.nth _ _ hx
    rw [if_pos (by omega)]
    exact ⟨y, by rw [← hy]; congr 1; omega, r, h1 y (List.mem_of_getElem? hy)⟩
  · rename_i hj
    obtain ⟨y, hy, r, s⟩ := h _ _ hx
    rw [if_neg (by omega)]
    exact ⟨y, hy, r, s⟩

theorem CellsAt.keep {ι : Ren} {c : List AV} {C : Array Value} {at_ o : Nat} {ys : List Value} (h : CellsAt ι c C at_) (hC : o + ys.length ≤ C.size)
    (hap : at_ + c.length ≤ o ∨ o + ys.length ≤ at_) : CellsAt ι c (rowPut C o ys) at_ := by
  intro j x hx
  have hj : j < c.length := by
    apply Nat.lt_of_not_le; intro h'; rw [List.getElem?_eq_none h'] at hx; cases hx
  obtain ⟨y, hy, r⟩ := h _ _ hx
  rw [rowPut_get _ _ _ _ hC, if_neg (by omega)]
  exact ⟨y, hy, r⟩

theorem CellsAt.fits {ι : Ren} {c : List AV} {C : Array Value} {at_ : Nat} (h : CellsAt ι c C at_) (hc : 0 < c.length) : at_ + c.length ≤ C.size := by
  obtain ⟨y, hy, _⟩ := h (c.length - 1) _ (List.getElem?_eq_getElem (by omega))
  have : at_ + (c.length - 1) < C.size := by
    apply Nat.lt_of_not_le; intro h'
    rw [Array.getElem?_eq_none h'] at hy; cases hy
  omega

theorem cellsAt_of {ι : Ren} {c : List AV} {C : Array Value} (h : VRs ι c C.toList) (h1 : c.all AV.one = true) : CellsAt ι c C 0 := fun j x hx => by
  obtain ⟨y, hy, r⟩ := h.nth _ _ hx
  exact ⟨y, by simpa using hy, r, one_cell r (List.all_eq_true.1 h1 x (List.mem_of_getElem? hx))⟩

theorem rows_apart {r q e : Nat} (h : r < q) : r * e + e ≤ q * e := by
  have : (r + 1) * e ≤ q * e := Nat.mul_le_mul_right e h
  rw [Nat.add_mul, Nat.one_mul] at this; exact this

theorem store_sound (K : TOK P T) {ι : Ren} {H : Heap} {w : World} {t : Nat} {x y : AV} {x' y' : Value} {orc : List Dec} {r : OR} (E : Emb ι (hget H) w)
    (hx : VR ι x x') (hy : VR ι y y') (h : storeA T t x y H orc = some r) (hc : r.c = true) :
    ∃ w', (Instr.storeAt t x' y').run P w = .ok () w' ∧ Emb ι (hget r.H) w' ∧ Tr ι ι (hget H) (hget r.H) H.length r.H.length r.wr w w' ∧ r.v = .v (.tuple #[]) := by
  unfold storeA at h
  cases x <;> try (cases h; done)
  rename_i i rr o
  obtain ⟨l, hl, rfl⟩ := hx
  cases hs : sizeT T t with
  | none => rw [hs] at h; cases h
  | some s =>
    rw [hs] at h
    dsimp only at h
    cases ho : hget H i with
    | none => rw [ho] at h; cases h
    | some ob =>
      rw [ho] at h
      obtain ⟨l', hl', hob⟩ := E.obj i ob ho
      rw [hl] at hl'; cases hl'
      cases hk : (Nat.beq y.cells.length s && y.cells.all AV.one && Nat.blt 0 s) with
      | false =>
        simp only [hk] at h
        cases ob with
        | cells c rw => cases rw <;> cases h
        | rows e n f rw => cases rw <;> cases h
        | map => cases h
      | true =>
        simp only [hk] at h
        simp only [Bool.and_eq_true] at hk
        obtain ⟨⟨hk1, hk2⟩, hk3⟩ := hk
        have hk1 := Nat.eq_of_beq_eq_true hk1
        have hk3 : 0 < s := Nat.le_of_ble_eq_true hk3
        have hj : y ≠ .junk := by
          rintro rfl
          simp [AV.cells, AV.one] at hk2
        have hcells := hy.cells hj
        have hlen := hcells.length
        have hone := one_cells hcells hk2
        have hsz : y'.cells.size = s := by rw [← Array.length_toList, hlen, hk1]
        cases ob with
        | map => cases h
        | cells c rw =>
          cases rw with
          | false => cases h
          | true =>
            dsimp only at h
            cases hz : Nat.beq rr 0 with
            | false => simp only [hz] at h; cases h
            | true =>
              cases hb : Nat.ble (o + s) c.length with
              | false => simp only [hz, hb] at h; cases h
              | true =>
                simp only [hz, hb] at h
                cases h
                have hz' := Nat.eq_of_beq_eq_true hz
                subst hz'
                have hb' := Nat.le_of_ble_eq_true hb
                obtain ⟨h0, C, ty, fz, h1, h2, h3, h4⟩ := hob
                have hfz := h2 rfl
                subst hfz
                have hfit := h4.fits (by omega)
                have hrun := run_storeVar_cells K (at_ := l.base + o) hs hsz hone h1 (by omega)
                refine ⟨_, by simpa [Instr.storeAt, Instr.sureAddr, addr, h0] using hrun, ?_⟩
                have := set_block (o' := .cells (Ab.put c o y.cells) true) (w' := w.setRow l.blk (rowPut C (l.base + o) y'.cells.toList)) E ho hl (setRow_size _ _ _) (fun B hB => setRow_other _ _ _ _ hB)
                  ⟨h0, _, ty, (0, 0), setRow_heap w l.blk C _ ty (0, 0) h1, fun _ => rfl, by rw [rowPut_size _ _ _ (by rw [hlen]; omega)]; exact h3,
                    h4.put hcells hone (by omega) (by rw [hlen]; omega)⟩
                exact ⟨this.1, this.2, rfl⟩
        | rows e n f rw =>
          cases rw with
          | false => cases h
          | true =>
            dsimp only at h
            cases h
            simp only [Bool.and_eq_true] at hc
            obtain ⟨hc1, hc2⟩ := hc
            have hc1 : rr < n := Nat.le_of_ble_eq_true hc1
            have hc2 := Nat.le_of_ble_eq_true hc2
            obtain ⟨h0, C, ty, fz, h1, h2, h3, h3', h4⟩ := hob
            have hfz := h2 rfl
            subst hfz
            have htot := h3' (by omega)
            have hra : rr * e + e ≤ n * e := rows_apart hc1
            obtain ⟨h5, h6⟩ := h4 rr hc1
            have hrun := run_storeVar_cells K (at_ := l.base + rr * e + o) hs hsz hone h1 (by omega)
            refine ⟨_, by simpa [Instr.storeAt, Instr.sureAddr, addr, h0] using hrun, ?_⟩
            have := set_block (o' := .rows e n (fun j => match Nat.beq j rr with
                | true => Ab.put (f rr) o y.cells
                | false => f j) true) (w' := w.setRow l.blk (rowPut C (l.base + rr * e + o) y'.cells.toList)) E ho hl (setRow_size _ _ _) (fun B hB => setRow_other _ _ _ _ hB)
              ⟨h0, _, ty, (0, 0), setRow_heap w l.blk C _ ty (0, 0) h1, fun _ => rfl, by rw [rowPut_size _ _ _ (by rw [hlen]; omega)]; exact h3, h3', fun q hq => by
                dsimp only
                cases hqr : Nat.beq q rr with
                | true =>
                  have := Nat.eq_of_beq_eq_true hqr
                  subst this
                  dsimp only
                  exact ⟨by rw [put_length, h5], h6.put hcells hone (by omega) (by rw [hlen]; omega)⟩
                | false =>
                  have hne := Nat.ne_of_beq_eq_false hqr
                  dsimp only
                  obtain ⟨h7, h8⟩ := h4 q hq
                  refine ⟨h7, h8.keep (by rw [hlen]; omega) ?_⟩
                  rw [hlen, h7]
                  rcases Nat.lt_or_gt_of_ne hne with hlt | hlt
                  · left; have := rows_apart (e := e) hlt; omega
                  · right; have := rows_apart (e := e) hlt; omega⟩
            exact ⟨this.1, this.2, rfl⟩

theorem zerosA_run (K : TOK P T) {t : Nat} {z : List AV} (h : zerosA T t = some z) : ∃ y : Value, zeroT T t = some y ∧ z = (AV.v y).cells ∧ ∀ ι, VRs ι z y.cells.toList := by
  unfold zerosA at h
  cases hz : zeroT T t with
  | none => simp [hz] at h
  | some y => simp [hz] at h; subst h; exact ⟨y, rfl, rfl, fun ι => VR.cells (ι := ι) (x := .v y) rfl (by simp)⟩

/-- A new row of cells, by its values. -/
theorem new_cells {ι : Ren} {H : Heap} {w : World} {c : List AV} {C : Array Value} {ty : TypeId} (E : Emb ι (hget H) w) (hf : ι H.length = none) (hc : VRs ι c C.toList) (h1 : c.all AV.one = true) :
    ∃ ι', Emb ι' (hget (H ++ [some (AObj.cells c true)])) (w.alloc (Obj.cells C ty)) ∧ Tr ι ι' (hget H) (hget (H ++ [some (AObj.cells c true)])) H.length (H ++ [some (AObj.cells c true)]).length [] w (w.alloc (Obj.cells C ty)) ∧
      VR ι' (.ptr H.length 0 0) (.pointer (some ⟨w.heap.size, 0, none⟩)) := by
  have := new_block (w' := w.alloc (Obj.cells C ty)) (ob := Obj.cells C ty) (o := .cells c true) (l := ⟨w.heap.size, 0, C.size, 0⟩) E hf rfl rfl
    ⟨rfl, C, ty, (0, 0), by show (w.heap.push (Obj.cells C ty))[w.heap.size]? = _; simp, fun _ => rfl, rfl, (cellsAt_of hc h1).mono (Ren.le_set hf)⟩
  exact ⟨_, this.1, this.2, _, by simp [Ren.set]; rfl, by simp [addr]⟩

theorem foldl_put (off : Nat) : ∀ (vs : List Value) (k : Nat) (cs : Array Value), off + k + vs.length ≤ cs.size →
    ∀ j, ((vs.zipIdx k).foldl (fun cs (x : Value × Nat) => cs.setIfInBounds (off + x.2) x.1) cs)[j]? = if off + k ≤ j ∧ j < off + k + vs.length then vs[j - (off + k)]? else cs[j]?
  | [], k, cs, _, j => by simp; intro h1 h2; omega
  | v :: vs, k, cs, h, j => by
    simp only [List.zipIdx_cons, List.foldl_cons]
    rw [foldl_put off vs (k + 1) _ (by simp at h ⊢; omega)]
    simp only [List.length_cons] at h ⊢
    by_cases h1 : j = off + k
    · subst h1
      rw [if_neg (by omega), if_pos (by omega)]
      simp [Array.getElem?_setIfInBounds, show off + k < cs.size from by omega]
    · by_cases h2 : off + k ≤ j ∧ j < off + k + (vs.length + 1)
      · rw [if_pos (by omega), if_pos h2]
        rw [show j - (off + k) = (j - (off + (k + 1))) + 1 from by omega]; simp
      · rw [if_neg (by omega), if_neg h2]
        rw [Array.getElem?_setIfInBounds_ne (by omega)]

theorem foldl_put_size (off : Nat) : ∀ (vs : List Value) (k : Nat) (cs : Array Value),
    ((vs.zipIdx k).foldl (fun cs (x : Value × Nat) => cs.setIfInBounds (off + x.2) x.1) cs).size = cs.size
  | [], _, _ => rfl
  | v :: vs, k, cs => by simp only [List.zipIdx_cons, List.foldl_cons]; rw [foldl_put_size off vs (k + 1)]; simp

theorem fill_sound {ι : Ren} {place : Nat → Option (Nat × Nat)} : ∀ {parts : List (Nat × AV)} {parts' : List (Nat × Value)} {cells l : List AV} {cells' : Array Value},
    fillA place cells parts = some l → parts'.length = parts.length → (∀ (j : Nat) (p : Nat × AV), parts[j]? = some p → ∃ q : Nat × Value, parts'[j]? = some q ∧ q.1 = p.1 ∧ VR ι p.2 q.2) → VRs ι cells cells'.toList →
    ∃ l' : Array Value, Instr.fill place cells' parts' = some l' ∧ VRs ι l l'.toList
  | [], parts', cells, l, cells', h, hl, _, hc => by
    cases parts' with
    | cons a b => simp at hl
    | nil => simp only [fillA, Option.some.injEq] at h; subst h; exact ⟨cells', rfl, hc⟩
  | (i, v) :: rest, parts', cells, l, cells', h, hl, hp, hc => by
    cases parts' with
    | nil => simp at hl
    | cons q rest' =>
      obtain ⟨q', hq1, hq2, hq3⟩ := hp 0 (i, v) rfl
      simp at hq1; subst hq1
      obtain ⟨i', y⟩ := q
      dsimp only at hq2 hq3
      subst hq2
      simp only [fillA] at h
      cases hpl : place i' with
      | none => rw [hpl] at h; cases h
      | some os =>
        obtain ⟨off, size⟩ := os
        rw [hpl] at h
        dsimp only at h
        cases hk : (Nat.beq v.cells.length size && v.real) with
        | false => rw [hk] at h; cases h
        | true =>
          cases hb : Nat.ble (off + size) cells.length with
          | false => rw [hk, hb] at h; cases h
          | true =>
            rw [hk, hb] at h
            dsimp only at h
            simp only [Bool.and_eq_true] at hk
            have hk1 := Nat.eq_of_beq_eq_true hk.1
            have hb' := Nat.le_of_ble_eq_true hb
            have hj : v ≠ .junk := by rintro rfl; simp [AV.real] at hk
            have hv := hq3.cells hj
            have hvl := hv.length
            have hcl := hc.length
            have hcs : cells'.size = cells.length := by rw [← Array.length_toList, hcl]
            have hys : y.cells.size = size := by rw [← Array.length_toList, hvl, hk1]
            have hnew : VRs ι (Ab.put cells off v.cells) ((y.cells.toList.zipIdx).foldl (fun cs (x : Value × Nat) => cs.setIfInBounds (off + x.2) x.1) cells').toList := by
              refine VRs.of_nth (by rw [put_length, Array.length_toList, foldl_put_size, hcs]) fun j x hx => ?_
              rw [put_get _ _ _ _ (by omega)] at hx
              have hfg := foldl_put off y.cells.toList 0 cells' (by rw [hvl]; omega) j
              simp only [Nat.add_zero] at hfg
              rw [Array.getElem?_toList, hfg]
              split at hx
              · obtain ⟨z, hz, r⟩ := hv.nth _ _ hx
                rw [if_pos (by omega)]
                exact ⟨z, hz, r⟩
              · obtain ⟨z, hz, r⟩ := hc.nth _ _ hx
                rw [if_neg (by omega)]
                exact ⟨z, by simpa using hz, r⟩
            obtain ⟨l', h1, h2⟩ := fill_sound h (parts' := rest') (by simpa using hl) (fun (j : Nat) (p : Nat × AV) hp' => by simpa using hp (j + 1) p (by simpa using hp')) hnew
            refine ⟨l', ?_, h2⟩
            simp only [Instr.fill, hpl]
            rw [if_neg]
            · rw [← Array.foldl_toList, Array.toList_zipIdx]; exact h1
            · simp [hys, hcs]; omega

theorem repl_get {α : Type} (z : List α) (hz : 0 < z.length) : ∀ (n j : Nat), (repl n z)[j]? = if j < n * z.length then z[j % z.length]? else none
  | 0, j => by simp [repl]
  | n + 1, j => by
    simp only [repl]
    by_cases h : j < z.length
    · rw [List.getElem?_append_left h, if_pos (by rw [Nat.add_mul]; omega), Nat.mod_eq_of_lt h]
    · rw [List.getElem?_append_right (by omega), repl_get z hz n]
      have e : j % z.length = (j - z.length) % z.length := by rw [Nat.mod_eq_sub_mod (by omega)]
      rw [e]
      by_cases h2 : j - z.length < n * z.length
      · rw [if_pos h2, if_pos (by rw [Nat.add_mul]; omega)]
      · rw [if_neg h2, if_neg (by rw [Nat.add_mul]; omega)]

theorem repl_length {α : Type} (z : List α) : ∀ n, (repl n z).length = n * z.length
  | 0 => by simp [repl]
  | n + 1 => by simp [repl, repl_length z n, Nat.add_mul]; omega

theorem zeros_row {ι : Ren} {z : List AV} {zc : Array Value} (h : VRs ι z zc.toList) (hz : 0 < z.length) (n : Nat) :
    VRs ι (repl n z) (((Array.range (n * z.length)).map (fun i => zc[i % zc.size]!)).toList) := by
  have hl := h.length
  have hs : zc.size = z.length := by rw [← Array.length_toList, hl]
  refine VRs.of_nth (by simp [repl_length]) fun j x hx => ?_
  rw [repl_get z hz] at hx
  split at hx
  · rename_i hj
    obtain ⟨y, hy, r⟩ := h.nth _ _ hx
    refine ⟨y, ?_, r⟩
    have hm : j % z.length < zc.size := by rw [hs]; exact Nat.mod_lt _ hz
    simp only [Array.getElem?_toList] at hy
    simp [hj, hs]
    rw [getElem!_pos zc (j % z.length) hm]
    rw [Array.getElem?_eq_getElem hm] at hy
    simpa using hy
  · cases hx

theorem VR.slice_index {ι : Ren} {i r e n k : Nat} {y : Value} (h : VR ι (.sl i r e n k) y) : ∃ l a cap, ι i = some l ∧ y = .slice (some a) n cap ∧ l.row = e ∧ n ≤ cap ∧ (0 < n → a = addr l r 0) := by
  obtain ⟨l, a, cap, h1, h2, h3, h4, h5, h6⟩ := h
  exact ⟨l, a, cap, h1, h2, h5, h3, fun hn => by rcases h6 with h6 | h6; omega; exact h6.1⟩

theorem asI_int {ι : Ren} {x : AV} {y : Value} {j : Int} (h : VR ι x y) (hx : asI x = some j) : ∃ k, y = .int k j := by
  cases x <;> try (cases hx; done)
  rename_i v
  cases v <;> try (cases hx; done)
  cases hx
  exact ⟨_, h⟩

theorem addr_row (l : Loc) (r j : Nat) (e : Nat) (h : l.row = e) : (addr l r 0).add (j * e) = addr l (r + j) 0 := by
  rw [addr_add]; unfold addr; simp [h, Nat.add_mul]; omega

theorem addr_cell (l : Loc) (o n : Nat) : (addr l 0 o).add n = addr l 0 (o + n) := addr_add l 0 o n

theorem indexAddr_sound (K : TOK P T) {ι : Ren} {H : Heap} {w : World} {t : Nat} {x ix : AV} {x' ix' : Value} {orc : List Dec} {r : OR}
    (hx : VR ι x x') (hi : VR ι ix ix') (h : indexAddrA T t x ix H orc = some r) (hc : r.c = true) :
    ∃ y, (Instr.indexAt t x' ix').run P w = .ok y w ∧ VR ι r.v y ∧ r.H = H ∧ r.wr = [] := by
  unfold indexAddrA at h
  cases hu : T.und t with
  | none => rw [hu] at h; cases h
  | some d =>
    cases hj : asI ix with
    | none => rw [hu, hj] at h; cases d <;> cases x <;> first | (cases h; done) | (rename_i r0 _; cases r0 <;> cases h)
    | some j =>
      obtain ⟨kk, rfl⟩ := asI_int hi hj
      rw [hu, hj] at h
      have hP := K.und t d hu
      cases d <;> try (cases h; done)
      · -- slice
        rename_i el
        cases x <;> try (cases h; done)
        · rename_i i rr e n k
          dsimp only at h
          cases hs : sizeT T el with
          | none => rw [hs] at h; cases h
          | some s =>
            rw [hs] at h; cases h
            simp only [Bool.and_eq_true, decide_eq_true_eq] at hc
            obtain ⟨⟨h1, h2⟩, h3⟩ := hc
            have h3 := Nat.eq_of_beq_eq_true h3
            subst h3
            obtain ⟨l, a, cap, hl, rfl, hrow, _, ha⟩ := hx.slice_index
            have ha := ha (by omega)
            subst ha
            refine ⟨.pointer (some (addr l (rr + j.toNat) 0)), ?_, ⟨l, hl, rfl⟩, rfl, rfl⟩
            rw [← addr_row l rr j.toNat s hrow]
            simp [Instr.indexAt, asIntOf, run_underlying hP, h1, h2, K.run_size hs]
        · rename_i i o e n
          dsimp only at h
          cases hs : sizeT T el with
          | none => rw [hs] at h; cases h
          | some s =>
            rw [hs] at h; cases h
            simp only [Bool.and_eq_true, decide_eq_true_eq] at hc
            obtain ⟨⟨h1, h2⟩, h3⟩ := hc
            have h3 := Nat.eq_of_beq_eq_true h3
            subst h3
            obtain ⟨l, a, cap, hl, rfl, hcap, ha⟩ := hx
            have ha : a = addr l 0 o := by rcases ha with ha | ha; omega; exact ha
            subst ha
            refine ⟨.pointer (some (addr l 0 (o + j.toNat * s))), ?_, ⟨l, hl, rfl⟩, rfl, rfl⟩
            rw [← addr_cell]
            simp [Instr.indexAt, asIntOf, run_underlying hP, h1, h2, K.run_size hs]
      · -- array
        rename_i len el
        cases x <;> try (cases h; done)
        rename_i i rr o
        cases rr <;> try (cases h; done)
        replace h : (match sizeT T el with
          | some e => some (⟨.ptr i 0 (o + j.toNat * e), H, [], decide (0 ≤ j) && decide (j < (len : Int)), orc⟩ : OR)
          | none => none) = some r := h
        cases hs : sizeT T el with
        | none => rw [hs] at h; cases h
        | some s =>
          rw [hs] at h; cases h
          simp only [Bool.and_eq_true, decide_eq_true_eq] at hc
          obtain ⟨h1, h2⟩ := hc
          obtain ⟨l, hl, rfl⟩ := hx
          refine ⟨.pointer (some (addr l 0 (o + j.toNat * s))), ?_, ⟨l, hl, rfl⟩, rfl, rfl⟩
          rw [← addr_cell]
          simp [Instr.indexAt, asIntOf, run_underlying hP, h1, h2, K.run_size hs, Instr.sureAddr]

theorem bytes_get (s : ByteArray) (j : Nat) (h : j < s.size) : s[j]? = some (s.get! j) := by
  rw [getElem?_pos s j h]; congr 1
  obtain ⟨d⟩ := s
  have hd : j < d.size := h
  show d[j] = d[j]!
  rw [getElem!_pos d j hd]

theorem index_sound (K : TOK P T) {ι : Ren} {H : Heap} {w : World} {t : Nat} {x ix : AV} {x' ix' : Value} {orc : List Dec} {r : OR}
    (hx : VR ι x x') (hi : VR ι ix ix') (h : indexA T t x ix H orc = some r) (hc : r.c = true) :
    ∃ y, (Instr.index t x' ix').run P w = .ok y w ∧ VR ι r.v y ∧ r.H = H ∧ r.wr = [] := by
  unfold indexA at h
  cases hu : T.und t with
  | none => rw [hu] at h; cases h
  | some d =>
    have hP := K.und t d hu
    cases hj : asI ix with
    | none => rw [hu, hj] at h; cases d <;> cases x <;> first | (cases h; done) | (rename_i v; cases v <;> cases h)
    | some j =>
      obtain ⟨kk, rfl⟩ := asI_int hi hj
      rw [hu, hj] at h
      cases d <;> try (cases h; done)
      · -- string
        cases x <;> try (cases h; done)
        rename_i v
        cases v <;> try (cases h; done)
        rename_i s
        cases h
        cases hx
        simp only [Bool.and_eq_true, decide_eq_true_eq] at hc
        refine ⟨_, ?_, rfl, rfl, rfl⟩
        simp [Instr.index, asIntOf, run_underlying hP, hc.1, bytes_get s j.toNat (by omega)]
      · rename_i len el
        cases x <;> try (cases h; done)
        rename_i cs
        dsimp only at h
        cases hs : sizeT T el with
        | none => rw [hs] at h; cases h
        | some e =>
          rw [hs] at h
          dsimp only at h
          cases hp : partA T el cs (j.toNat * e) with
          | none => rw [hp] at h; cases h
          | some v =>
            rw [hp] at h
            cases h
            simp only [Bool.and_eq_true, decide_eq_true_eq] at hc
            obtain ⟨cs', rfl, hcs⟩ := hx
            obtain ⟨y, h1, h2⟩ := run_part K hp hcs w
            refine ⟨y, ?_, h2, rfl, rfl⟩
            simp [Instr.index, asIntOf, run_underlying hP, hc.1, hc.2, K.run_size hs, h1]
end
end Go.Ab
