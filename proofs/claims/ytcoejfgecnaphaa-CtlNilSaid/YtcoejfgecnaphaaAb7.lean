/-
  The operations, fifth part: slices of slices, appends, maps.
-/
import Derived.Test.YtcoejfgecnaphaaAb6
set_option linter.unusedSimpArgs false
set_option linter.unusedVariables false
namespace Go.Ab
section
variable {P : Program} {T : TT}

/-- A block goes over into a new one: in its place, or in a new block. -/
theorem move_block {ι : Ren} {H : Heap} {w w' : World} {b : Nat} {o o' : AObj} {l l' : Loc} (E : Emb ι (hget H) w) (hb : hget H b = some o) (hl : ι b = some l) (hf : ι H.length = none)
    (hsz : w.heap.size ≤ w'.heap.size) (hoth : ∀ B, B < w.heap.size → B ≠ l.blk → w'.heap[B]? = w.heap[B]?) (hl' : l'.blk = l.blk ∨ w.heap.size ≤ l'.blk)
    (ho : ObjAt (ι.set H.length l') o' l' w') (hos : Still w w' := by first | exact ⟨rfl, rfl⟩ | exact setRow_still _ _ _) :
    Emb (ι.set H.length l') (hget (hset H b none ++ [some o'])) w' ∧
      Tr ι (ι.set H.length l') (hget H) (hget (hset H b none ++ [some o'])) H.length (hset H b none ++ [some o']).length [b] w w' := by
  have hlt := hget_lt hb
  have hg := Ren.le_set (l := l') hf
  have lenH : (hset H b none).length = H.length := length_hset _ _ _
  have at_ : ∀ i, hget (hset H b none ++ [some o']) i = if i = H.length then some o' else if i = b then none else hget H i := fun i => by
    by_cases h1 : i < H.length
    · rw [hget_append_left _ _ _ (by rw [lenH]; exact h1), hget_hset]
      by_cases h2 : b = i
      · subst h2; simp [hlt, Nat.ne_of_lt h1]
      · simp [h2, Ne.symm h2, Nat.ne_of_lt h1]
    · by_cases h2 : i = H.length
      · subst h2
        have := hget_append_right (hset H b none) [some o'] 0
        rw [Nat.add_zero, lenH] at this
        rw [this, if_pos rfl]; rfl
      · rw [if_neg h2, if_neg (by omega), hget_none H i (by omega), hget_none _ i (by simp [lenH]; omega)]
  have key : ∀ a la, a ≠ H.length → hget (hset H b none ++ [some o']) a ≠ none → (ι.set H.length l') a = some la → hget H a ≠ none ∧ ι a = some la ∧ a ≠ b ∧ la.blk < w.heap.size ∧ la.blk ≠ l.blk := by
    intro a la ha hne hla
    rw [at_, if_neg ha] at hne
    simp only [Ren.set, if_neg ha] at hla
    by_cases hab : a = b
    · rw [if_pos hab] at hne; exact absurd rfl hne
    · rw [if_neg hab] at hne
      refine ⟨hne, hla, hab, ?_, fun e => hab (E.inj a b la l hne (by rw [hb]; simp) hla hl e)⟩
      cases e' : hget H a with
      | none => exact absurd e' hne
      | some x => obtain ⟨m, hm, hom⟩ := E.obj a x e'; rw [hla] at hm; cases hm; exact hom.lt
  have at_new : ∀ la, (ι.set H.length l') H.length = some la → la = l' := fun la h => by simp [Ren.set] at h; exact h.symm
  refine ⟨⟨fun i x hx => ?_, fun i j li lj hi hj hli hlj e => ?_⟩,
    ⟨by simp [lenH], fun i hi => ?_, fun i hi hw => ?_, fun i hi _ => ?_, fun i hi => ?_, hsz, fun B hB hk => ?_, fun i h1 h2 m hm hne => ?_, hos⟩⟩
  · by_cases h1 : i = H.length
    · rw [at_, if_pos h1] at hx; cases hx; exact ⟨l', by simp [Ren.set, h1], ho⟩
    · have hx' := hx
      rw [at_, if_neg h1] at hx
      by_cases h2 : i = b
      · rw [if_pos h2] at hx; cases hx
      · rw [if_neg h2] at hx
        obtain ⟨m, hm, hom⟩ := E.obj i x hx
        have hm' : (ι.set H.length l') i = some m := hg _ _ hm
        obtain ⟨_, _, _, h5, h6⟩ := key i m h1 (by rw [hx']; simp) hm'
        exact ⟨m, hm', hom.mono hg (hoth _ h5 h6)⟩
  · by_cases h1 : i = H.length <;> by_cases h2 : j = H.length
    · rw [h1, h2]
    · obtain ⟨_, _, _, h5, h6⟩ := key j lj h2 hj hlj
      subst h1; have := at_new li hli; subst this
      rcases hl' with h | h <;> omega
    · obtain ⟨_, _, _, h5, h6⟩ := key i li h1 hi hli
      subst h2; have := at_new lj hlj; subst this
      rcases hl' with h | h <;> omega
    · obtain ⟨a1, a2, _⟩ := key i li h1 hi hli
      obtain ⟨b1, b2, _⟩ := key j lj h2 hj hlj
      exact E.inj i j li lj a1 b1 a2 b2 e
  · simp only [Ren.set]; rw [if_neg]; simp [lenH] at hi; omega
  · rw [at_, if_neg (by omega), if_neg (fun h => hw (by simp [h]))]
  · simp at hi; subst hi; rw [hb]; simp
  · simp at hi; subst hi; simp [lenH]; omega
  · exact hoth B hB fun e => hk b (by simp) l hl (by rw [hb]; simp) e.symm
  · simp [lenH] at h2
    have : i = H.length := by omega
    subst this
    have := at_new m hm; subst this
    rcases hl' with h | h
    · exact .inr ⟨b, by simp, by rw [hb]; simp, l, hl, h⟩
    · exact .inl h

/-! ### what a slice bears -/

/-- The elements g 0 .. g (m - 1) lie in CS, one behind the other. -/
def RowsIn (ι : Ren) (g : Nat → List AV) (m e : Nat) (CS : List Value) : Prop :=
  CS.length = m * e ∧ (∀ v ∈ CS, v.oneCell' = true) ∧ ∀ j, j < m → (g j).length = e ∧ ∀ q x, (g j)[q]? = some x → ∃ y, CS[j * e + q]? = some y ∧ VR ι x y

theorem rowsIn_nil (ι : Ren) (g : Nat → List AV) (e : Nat) : RowsIn ι g 0 e [] := ⟨by simp, by simp, fun j hj => by omega⟩

theorem div_row {j e m : Nat} (he : 0 < e) (h : j < m * e) : j / e < m ∧ j % e < e ∧ j = (j / e) * e + j % e := by
  refine ⟨(Nat.div_lt_iff_lt_mul he).2 h, Nat.mod_lt _ he, ?_⟩
  rw [Nat.mul_comm]; exact (Nat.div_add_mod j e).symm

/-- Loading a stretch of cells that rows lie in. -/
theorem load_rows {ι : Ren} {w : World} {B from_ : Nat} {C : Array Value} {ty : TypeId} {fz : Nat × Nat} {g : Nat → List AV} {m e : Nat} (hg : w.heap[B]? = some (.cells C ty fz))
    (h : ∀ j, j < m → (g j).length = e ∧ CellsAt ι (g j) C (from_ + j * e)) :
    ∃ CS : List Value, (∀ w' : World, w'.heap = w.heap → (loadCells ⟨B, from_, none⟩ (m * e)).run P w' = .ok CS.toArray w') ∧ RowsIn ι g m e CS := by
  have hcs : (cut C.toList from_ (m * e)).length = m * e := by
    rcases Nat.eq_zero_or_pos (m * e) with h0 | h0
    · rw [h0]; simp [cut]
    · have he : 0 < e := Nat.pos_of_mul_pos_left h0 |> fun _ => by
        rcases Nat.eq_zero_or_pos e with h1 | h1
        · rw [h1, Nat.mul_zero] at h0; omega
        · exact h1
      have hm : 0 < m := by
        rcases Nat.eq_zero_or_pos m with h1 | h1
        · rw [h1, Nat.zero_mul] at h0; omega
        · exact h1
      obtain ⟨h1, h2⟩ := h (m - 1) (by omega)
      have := h2.fits (by omega)
      have e1 : (m - 1) * e + e = m * e := by
        rw [← Nat.succ_mul]; congr 1; omega
      exact cut_length _ _ _ (by simp; omega)
  have cellAt : ∀ j, j < m * e → ∃ x y, (g (j / e))[j % e]? = some x ∧ C[from_ + j]? = some y ∧ VR ι x y ∧ y.oneCell' = true := by
    intro j hj
    have he : 0 < e := by
      rcases Nat.eq_zero_or_pos e with h1 | h1
      · rw [h1, Nat.mul_zero] at hj; omega
      · exact h1
    obtain ⟨d1, d2, d3⟩ := div_row he hj
    obtain ⟨h1, h2⟩ := h _ d1
    obtain ⟨y, hy, r, s⟩ := h2 (j % e) _ (List.getElem?_eq_getElem (by omega))
    exact ⟨_, y, List.getElem?_eq_getElem (by omega), by rw [← hy]; congr 1; omega, r, s⟩
  refine ⟨cut C.toList from_ (m * e), ?_, hcs, ?_, ?_⟩
  · intro w' hw'
    have := run_loadCells_list (P := P) w' ⟨B, from_, none⟩ (cut C.toList from_ (m * e)) (fun j v hv => by
      rw [cut_get] at hv
      split at hv
      · have : (⟨B, from_, none⟩ : Addr).add j = ⟨B, from_ + j, none⟩ := by unfold Addr.add; split <;> simp_all
        rw [this, cell_of_row w' B _ C ty fz (by rw [hw']; exact hg)]; simpa using hv
      · cases hv)
    rwa [hcs] at this
  · intro v hv
    obtain ⟨j, hj, hjv⟩ := List.getElem_of_mem hv
    rw [hcs] at hj
    obtain ⟨x, y, _, hy, _, hone⟩ := cellAt j hj
    have : (cut C.toList from_ (m * e))[j]? = some y := by rw [cut_get, if_pos hj]; simpa using hy
    rw [List.getElem?_eq_getElem (by rw [hcs]; exact hj)] at this
    rw [← hjv]; cases this; exact hone
  · intro j hj
    obtain ⟨h1, h2⟩ := h j hj
    refine ⟨h1, fun q x hx => ?_⟩
    have hq : q < e := by
      apply Nat.lt_of_not_le; intro h'; rw [List.getElem?_eq_none (by omega)] at hx; cases hx
    obtain ⟨y, hy, r, _⟩ := h2 q x hx
    have := rows_apart (e := e) hj
    exact ⟨y, by rw [cut_get, if_pos (by omega)]; simpa [Nat.add_assoc] using hy, r⟩

theorem elems_sound (K : TOK P T) {ι : Ren} {H : Heap} {w : World} {e m : Nat} {x : AV} {x' : Value} {g : Nat → List AV} (E : Emb ι (hget H) w)
    (hx : VR ι x x') (h : elems H e x = some (m, g)) (hok : elemsOk H x = true) :
    (∀ w', (Builtin.lenOf x').run P w' = .ok m w') ∧ ∃ CS : List Value, (∀ w' : World, w'.heap = w.heap → (Builtin.firstCells e m x').run P w' = .ok CS.toArray w') ∧ RowsIn ι g m e CS := by
  cases x <;> try (cases h; done)
  · -- flat
    rename_i v
    cases hx
    cases x' <;> try (cases h; done)
    · rename_i s
      replace h : (match Nat.beq e 1 with
        | true => some (s.size, fun j => [AV.v (.int .u8 (s.get! j).toNat)])
        | false => none) = some (m, g) := h
      cases he : Nat.beq e 1 with
      | false => rw [he] at h; cases h
      | true =>
        rw [he] at h; cases h
        have he := Nat.eq_of_beq_eq_true he
        subst he
        refine ⟨fun w' => rfl, ((s.extract 0 s.size).data.map fun b => Value.int .u8 b.toNat).toList, fun w' _ => ?_, ?_⟩
        · simp [Builtin.firstCells]; rw [← Array.toList_map]
        · have hex : (s.extract 0 s.size) = s := by simp
          rw [hex]
          refine ⟨by simp, by simp [Value.oneCell'], fun j hj => ⟨rfl, fun q x hx => ?_⟩⟩
          cases q with
          | succ q => simp at hx
          | zero =>
            simp at hx; subst hx
            refine ⟨.int .u8 (s.get! j).toNat, ?_, rfl⟩
            have := bytes_get s j hj
            obtain ⟨d⟩ := s
            have hj : j < d.size := hj
            simp only [Nat.mul_one, Nat.add_zero, Array.toList_map, List.getElem?_map, Array.getElem?_toList]
            rw [Array.getElem?_eq_getElem hj]
            simp [ByteArray.get!, getElem!_pos d j hj]
    · rename_i a n c
      cases a <;> try (cases h; done)
      cases n <;> try (cases h; done)
      cases h
      exact ⟨fun w' => rfl, [], fun w' _ => rfl, rowsIn_nil _ _ _⟩
  · -- sl
    rename_i i r e' n k
    simp only [elems] at h
    cases ho : hget H i with
    | none => rw [ho] at h; cases h
    | some ob =>
      rw [ho] at h
      cases ob <;> try (cases h; done)
      rename_i e'' N f rw
      cases h1 : Nat.beq e e' with
      | false => rw [h1] at h; cases h
      | true =>
        cases h2 : Nat.beq e' e'' with
        | false => rw [h1] at h; dsimp only at h; rw [h2] at h; cases h
        | true =>
          rw [h1] at h; dsimp only at h; rw [h2] at h; cases h
          have h1 := Nat.eq_of_beq_eq_true h1
          have h2 := Nat.eq_of_beq_eq_true h2
          subst h1; subst h2
          simp only [elemsOk, ho] at hok
          have hok := Nat.le_of_ble_eq_true hok
          obtain ⟨l, a, cap, hl, rfl, hrow, hcap, ha⟩ := hx.slice_index
          refine ⟨fun w' => rfl, ?_⟩
          rcases Nat.eq_zero_or_pos m with h0 | h0
          · subst h0
            exact ⟨[], fun w' _ => by simp [Builtin.firstCells, loadCells, loadCellsFrom], rowsIn_nil _ _ _⟩
          · have ha := ha h0
            subst ha
            obtain ⟨l2, hl2, h3, C, ty, fz, h4, h5, h6, h7, h8⟩ := E.obj i _ ho
            rw [hl] at hl2; cases hl2
            have hh : ∀ j, j < m → (f (r + j)).length = e ∧ CellsAt ι (f (r + j)) C ((l.base + r * e) + j * e) := fun j hj => by
              obtain ⟨a1, a2⟩ := h8 (r + j) (by omega)
              refine ⟨a1, ?_⟩
              rw [show l.base + r * e + j * e = l.base + (r + j) * e from by rw [Nat.add_mul]; omega]; exact a2
            obtain ⟨CS, hc1, hc2⟩ := load_rows (P := P) (g := fun j => f (r + j)) h4 hh
            refine ⟨CS, fun w' hw' => ?_, hc2⟩
            have e1 : Builtin.firstCells e m (.slice (some (addr l r 0)) m cap) = loadCells ⟨l.blk, l.base + r * e, none⟩ (m * e) := by
              simp [Builtin.firstCells, addr, hrow]
            rw [e1]
            exact hc1 w' hw'
  · -- sla
    rename_i i o e' n
    simp only [elems] at h
    cases ho : hget H i with
    | none => rw [ho] at h; cases h
    | some ob =>
      rw [ho] at h
      cases ob <;> try (cases h; done)
      rename_i c rw
      cases h1 : Nat.beq e e' with
      | false => rw [h1] at h; cases h
      | true =>
        cases h2 : Nat.ble (o + n * e') c.length with
        | false => rw [h1] at h; dsimp only at h; rw [h2] at h; cases h
        | true =>
          rw [h1] at h; dsimp only at h; rw [h2] at h; cases h
          have h1 := Nat.eq_of_beq_eq_true h1
          have h2 := Nat.le_of_ble_eq_true h2
          subst h1
          obtain ⟨l, a, cap, hl, rfl, hcap, ha⟩ := hx
          refine ⟨fun w' => rfl, ?_⟩
          rcases Nat.eq_zero_or_pos m with h0 | h0
          · subst h0
            exact ⟨[], fun w' _ => by simp [Builtin.firstCells, loadCells, loadCellsFrom], rowsIn_nil _ _ _⟩
          · have ha : a = addr l 0 o := by rcases ha with ha | ha; omega; exact ha
            subst ha
            obtain ⟨l2, hl2, h3, C, ty, fz, h4, h5, h6, h7⟩ := E.obj i _ ho
            rw [hl] at hl2; cases hl2
            have hh : ∀ j, j < m → (cut c (o + j * e) e).length = e ∧ CellsAt ι (cut c (o + j * e) e) C ((l.base + o) + j * e) := fun j hj => by
              have := rows_apart (e := e) hj
              refine ⟨cut_length _ _ _ (by omega), fun q x hx => ?_⟩
              rw [cut_get] at hx
              split at hx
              · obtain ⟨y, hy, s⟩ := h7 _ x hx
                exact ⟨y, by rw [← hy]; congr 1; omega, s⟩
              · cases hx
            obtain ⟨CS, hc1, hc2⟩ := load_rows (P := P) (g := fun j => cut c (o + j * e) e) h4 hh
            refine ⟨CS, fun w' hw' => ?_, hc2⟩
            have e1 : Builtin.firstCells e m (.slice (some (addr l 0 o)) m cap) = loadCells ⟨l.blk, l.base + o, none⟩ (m * e) := by
              simp [Builtin.firstCells, addr]
            rw [e1]
            exact hc1 w' hw'
  · -- sle
    obtain ⟨a, rfl⟩ := hx
    cases h
    exact ⟨fun w' => rfl, [], fun w' _ => by simp [Builtin.firstCells, loadCells, loadCellsFrom], rowsIn_nil _ _ _⟩
end
end Go.Ab
