/-
  The operations, seventh part: slice expressions, clear, maps.
-/
import Derived.Test.YtcoejfgecnaphaaAb8
set_option linter.unusedSimpArgs false
set_option linter.unusedVariables false
namespace Go.Ab
section
variable {P : Program} {T : TT}

/-- A bound that may be left out. -/
def OptVR (ι : Ren) : Option AV → Option Value → Prop
  | none, none => True
  | some x, some y => VR ι x y
  | _, _ => False

theorem sliceBound_run {k : IntKind} {i : Int} {y : Nat} {code : BoundsCode} (h : bound i y = true) (w : World) : (Instr.sliceBound (.int k i) y code).run P w = .ok i.toNat w := by
  unfold bound at h
  simp only [Bool.and_eq_true, decide_eq_true_eq] at h
  simp [Instr.sliceBound, asIntOf, h.1, h.2]

theorem bounds_run {ι : Ren} {b : Bool} {len cap : Nat} {lo hi : Option AV} {lo' hi' : Option Value} {l h : Int} (hlo : OptVR ι lo lo') (hhi : OptVR ι hi hi')
    (el : optI lo 0 = some l) (eh : optI hi len = some h) (h1 : bound h cap = true) (h2 : bound l h.toNat = true) (w : World) :
    (Instr.sliceBounds b len cap lo' hi' none).run P w = .ok (l.toNat, h.toNat, cap) w := by
  cases hi with
  | none =>
    cases hi' with
    | some v => cases hhi
    | none =>
      simp [optI] at eh; subst eh
      cases lo with
      | none =>
        cases lo' with
        | some v => cases hlo
        | none => simp [optI] at el; subst el; simp [Instr.sliceBounds]
      | some x =>
        cases lo' with
        | none => cases hlo
        | some v =>
          obtain ⟨k, rfl⟩ := asI_int (show VR ι x v from hlo) el
          simp at h2
          simp [Instr.sliceBounds, sliceBound_run h2]
  | some x =>
    cases hi' with
    | none => cases hhi
    | some v =>
      obtain ⟨k, rfl⟩ := asI_int (show VR ι x v from hhi) eh
      cases lo with
      | none =>
        cases lo' with
        | some v => cases hlo
        | none => simp [optI] at el; subst el; simp [Instr.sliceBounds, sliceBound_run h1]
      | some x =>
        cases lo' with
        | none => cases hlo
        | some v =>
          obtain ⟨k, rfl⟩ := asI_int (show VR ι x v from hlo) el
          simp [Instr.sliceBounds, sliceBound_run h1, sliceBound_run h2]

theorem bound_le {i : Int} {n : Nat} (h : bound i n = true) : 0 ≤ i ∧ i ≤ n := by
  unfold bound at h
  simpa [Bool.and_eq_true, decide_eq_true_eq] using h

theorem slice_sound (K : TOK P T) {ι : Ren} {H : Heap} {w : World} {t : Nat} {x : AV} {x' : Value} {lo hi mx : Option AV} {lo' hi' mx' : Option Value} {orc : List Dec} {r : OR}
    (hx : VR ι x x') (hlo : OptVR ι lo lo') (hhi : OptVR ι hi hi') (hmx : OptVR ι mx mx') (h : sliceA T t x lo hi mx H orc = some r) (hc : r.c = true) :
    ∃ y, (Instr.sliceAt t x' lo' hi' mx').run P w = .ok y w ∧ VR ι r.v y ∧ r.H = H ∧ r.wr = [] := by
  unfold sliceA at h
  split at h <;> try (cases h; done)
  · -- string
    rename_i s hu
    cases mx' with
    | some v => cases hmx
    | none =>
      split at h <;> try (cases h; done)
      rename_i l hh el eh
      cases h; cases hx
      simp only [Bool.and_eq_true] at hc
      have hb := bounds_run (P := P) (b := false) hlo hhi el eh hc.1 hc.2 w
      exact ⟨_, by simp [Instr.sliceAt, Instr.slice, K.run_und hu, hb], rfl, rfl, rfl⟩
  · -- nil
    rename_i el0 hu
    cases mx' with
    | some v => cases hmx
    | none =>
      split at h <;> try (cases h; done)
      rename_i l hh _ el eh hs
      cases h; cases hx
      simp only [Bool.and_eq_true] at hc
      have b1 := bound_le hc.1
      have b2 := bound_le hc.2
      have hb := bounds_run (P := P) (b := true) hlo hhi el eh hc.1 hc.2 w
      have e1 : l.toNat = 0 := by omega
      have e2 : hh.toNat = 0 := by omega
      rw [e1, e2] at hb
      exact ⟨_, by simp [Instr.sliceAt, Instr.slice, K.run_und hu, hb, K.run_size hs], rfl, rfl, rfl⟩
  · -- slice
    rename_i el0 i r0 e n k hu
    cases mx' with
    | some v => cases hmx
    | none =>
      split at h <;> try (cases h; done)
      rename_i l hh el eh
      cases h
      simp only [Bool.and_eq_true] at hc
      obtain ⟨⟨hc1, hc2⟩, hc3⟩ := hc
      cases hs : sizeT T el0 with
      | none => rw [hs] at hc3; cases hc3
      | some s =>
        rw [hs] at hc3
        have hc3 := Nat.eq_of_beq_eq_true hc3
        subst hc3
        obtain ⟨lc, a, cap, hl, rfl, hn, hk, hrow, ha⟩ := hx
        have b1 := bound_le hc1
        have b2 := bound_le hc2
        have hc1' : bound hh cap = true := by unfold bound; simp; omega
        have hb := bounds_run (P := P) (b := true) hlo hhi el eh hc1' hc2 w
        refine ⟨.slice (if cap = l.toNat then some a else some (a.add (l.toNat * s))) (hh.toNat - l.toNat) (cap - l.toNat), ?_, ?_, rfl, rfl⟩
        · simp [Instr.sliceAt, Instr.slice, K.run_und hu, hb, K.run_size hs]
        · by_cases h0 : cap = l.toNat
          · rw [if_pos h0]
            exact ⟨lc, a, cap - l.toNat, hl, rfl, by omega, by omega, hrow, .inl (by omega)⟩
          · rw [if_neg h0]
            rcases ha with ha | ⟨ha, hb⟩
            · omega
            · subst ha
              refine ⟨lc, _, cap - l.toNat, hl, rfl, by omega, by omega, hrow, .inr ⟨addr_row lc r0 l.toNat s hrow, ?_⟩⟩
              rw [show r0 + l.toNat + (cap - l.toNat) = r0 + cap from by omega]; exact hb
  · -- an empty one
    rename_i el0 hu
    cases mx' with
    | some v => cases hmx
    | none =>
      split at h <;> try (cases h; done)
      rename_i l hh _ el eh hs
      cases h
      obtain ⟨a, rfl⟩ := hx
      simp only [Bool.and_eq_true] at hc
      have b1 := bound_le hc.1
      have b2 := bound_le hc.2
      have hb := bounds_run (P := P) (b := true) hlo hhi el eh hc.1 hc.2 w
      have e1 : l.toNat = 0 := by omega
      have e2 : hh.toNat = 0 := by omega
      rw [e1, e2] at hb
      exact ⟨.slice (some a) 0 0, by simp [Instr.sliceAt, Instr.slice, K.run_und hu, hb, K.run_size hs], ⟨a, rfl⟩, rfl, rfl⟩
  · -- array
    rename_i n el0 i o hu
    cases mx' with
    | some v => cases hmx
    | none =>
      split at h <;> try (cases h; done)
      rename_i l hh e el eh hs
      cases h
      obtain ⟨lc, hl, rfl⟩ := hx
      simp only [Bool.and_eq_true] at hc
      have b1 := bound_le hc.1
      have b2 := bound_le hc.2
      have hb := bounds_run (P := P) (b := false) hlo hhi el eh hc.1 hc.2 w
      refine ⟨.slice (some (if n = l.toNat then addr lc 0 o else (addr lc 0 o).add (l.toNat * e))) (hh.toNat - l.toNat) (n - l.toNat), ?_, ?_, rfl, rfl⟩
      · simp [Instr.sliceAt, Instr.sureAddr, K.run_und hu, hb, K.run_size hs]
      · by_cases h0 : n = l.toNat
        · rw [if_pos h0]
          exact ⟨lc, _, n - l.toNat, hl, rfl, by omega, .inl (by omega)⟩
        · rw [if_neg h0]
          exact ⟨lc, _, n - l.toNat, hl, rfl, by omega, .inr (addr_add lc 0 o _)⟩

theorem clear_sound (K : TOK P T) {ι : Ren} {H : Heap} {w : World} {t rt : Nat} {x : AV} {x' : Value} {orc : List Dec} {r : OR} (E : Emb ι (hget H) w)
    (hx : VR ι x x') (h : clearA T t x H orc = some r) (hc : r.c = true) :
    ∃ w', (Builtin.clear_ #[t] rt #[x']).run P w = .ok (.tuple #[]) w' ∧ Emb ι (hget r.H) w' ∧ Tr ι ι (hget H) (hget r.H) H.length r.H.length r.wr w w' ∧ r.v = .v (.tuple #[]) := by
  unfold clearA at h
  split at h <;> try (cases h; done)
  · rename_i el n c hu
    cases h; cases hx
    exact ⟨w, by simp [Builtin.clear_, K.run_und hu], E, Tr.refl _ _ _ _, rfl⟩
  · rename_i el hu
    cases h
    obtain ⟨a, rfl⟩ := hx
    exact ⟨w, by simp [Builtin.clear_, K.run_und hu], E, Tr.refl _ _ _ _, rfl⟩
  · rename_i el b rr e n k hu
    split at h <;> try (cases h; done)
    rename_i e' N f z hb hz
    split at h <;> try (cases h; done)
    rename_i hone
    cases h
    simp only [Bool.and_eq_true] at hc
    obtain ⟨⟨hc1, hc2⟩, hc3⟩ := hc
    have hc1 := Nat.eq_of_beq_eq_true hc1
    have hc2 := Nat.eq_of_beq_eq_true hc2
    have hc3 := Nat.le_of_ble_eq_true hc3
    subst hc1
    obtain ⟨l, a, cap, hl, rfl, hn, hk, hrow, haddr⟩ := hx
    obtain ⟨l2, hl2, h3, C, ty, fz, h4, h5, h6, h7, h8⟩ := E.obj b _ hb
    rw [hl] at hl2; cases hl2
    have hfz := h5 rfl
    subst hfz
    obtain ⟨zy, hz1, hz2, hz3, hz4⟩ := zero_cells_one K hz hone
    rcases Nat.eq_zero_or_pos n with h0 | h0
    · subst h0
      have sb := set_block (o' := .rows e N (over f (fun _ => z) rr 0) true) (w' := w) E hb hl rfl (fun _ _ => rfl)
        ⟨hrow, C, ty, (0, 0), h4, fun _ => rfl, h6, h7, fun q hq => by rw [over_out (a := rr) (m := 0) (j := q) (by omega)]; exact h8 q hq⟩
      exact ⟨w, by simp [Builtin.clear_, K.run_und hu], sb.1, sb.2, rfl⟩
    · have ha : a = addr l rr 0 := by rcases haddr with h' | h'; omega; exact h'.1
      subst ha
      have hzr : RowsIn ι (fun _ => z) n e (Builtin.zeroCells zy.cells n).toList := by
        rcases Nat.eq_zero_or_pos z.length with hz0 | hz0
        · have he0 : e = 0 := by omega
          have : (Builtin.zeroCells zy.cells n).toList = [] := by
            rw [← List.length_eq_zero_iff, Array.length_toList, zeroCells_size, hz2, hz0, Nat.mul_zero]
          rw [this]
          refine ⟨by simp [he0], by simp, fun j hj => ⟨hc2, fun q x hx => ?_⟩⟩
          have hx : z[q]? = some x := hx
          rw [List.getElem?_eq_none (by omega)] at hx; cases hx
        · have key : ∀ p, p < n * e → ∃ y, (Builtin.zeroCells zy.cells n).toList[p]? = some y ∧ zy.cells.toList[p % e]? = some y := by
            intro p hp
            have hlt : p % e < zy.cells.size := by rw [hz2, hc2]; exact Nat.mod_lt _ (by omega)
            refine ⟨zy.cells[p % e], ?_, by simp [hlt]⟩
            simp [Builtin.zeroCells, hz2, hc2, hp, getElem!_pos zy.cells (p % e) hlt]
          refine ⟨by rw [Array.length_toList, zeroCells_size, hz2, hc2], fun v hv => ?_, fun j hj => ⟨hc2, fun q x hx => ?_⟩⟩
          · obtain ⟨p, hp, hpv⟩ := List.getElem_of_mem hv
            rw [Array.length_toList, zeroCells_size, hz2, hc2] at hp
            obtain ⟨y, k1, k2⟩ := key p hp
            rw [List.getElem?_eq_getElem (by rw [Array.length_toList, zeroCells_size, hz2, hc2]; exact hp)] at k1
            rw [← hpv]; cases k1
            exact hz3 _ (List.mem_of_getElem? k2)
          · have hx : z[q]? = some x := hx
            have hq : q < e := by
              apply Nat.lt_of_not_le; intro h'; rw [List.getElem?_eq_none (by omega)] at hx; cases hx
            have := rows_apart (e := e) hj
            obtain ⟨y, k1, k2⟩ := key (j * e + q) (by omega)
            have hm : (j * e + q) % e = q := by rw [Nat.mul_comm, Nat.mul_add_mod, Nat.mod_eq_of_lt hq]
            rw [hm] at k2
            obtain ⟨y', k3, k4⟩ := (hz4 ι).nth _ _ hx
            rw [k2] at k3; cases k3
            exact ⟨y, k1, k4⟩
      have hfit : l.base + rr * e + n * e ≤ C.size := by
        have := h7 (by omega)
        have e1 : rr * e + n * e ≤ N * e := by rw [← Nat.add_mul]; exact Nat.mul_le_mul_right _ hc3
        omega
      have hst := run_storeCells_at P l.blk (l.base + rr * e) ty (Builtin.zeroCells zy.cells n).toList 0 C w h4 (by rw [hzr.1]; omega) hzr.2.1
      refine ⟨w.setRow l.blk (rowPut C (l.base + rr * e) (Builtin.zeroCells zy.cells n).toList), ?_, ?_⟩
      · have hn0 : n ≠ 0 := by omega
        obtain ⟨n, rfl⟩ : ∃ k, n = k + 1 := ⟨n - 1, by omega⟩
        have e2 : (addr l rr 0) = ⟨l.blk, l.base + rr * e, none⟩ := by simp [addr, hrow]
        rw [e2]
        simp [Builtin.clear_, K.run_und hu, hz1, hst]
        simp [rowPut]
      · have sb := set_block (o' := .rows e N (over f (fun _ => z) rr n) true) E hb hl (setRow_size _ _ _) (fun B hB => setRow_other w l.blk B (rowPut C (l.base + rr * e) (Builtin.zeroCells zy.cells n).toList) hB)
          ⟨hrow, _, ty, (0, 0), setRow_heap w l.blk C _ ty (0, 0) h4, fun _ => rfl, by rw [rowPut_size _ _ _ (by rw [hzr.1]; omega)]; exact h6, h7, fun q hq => by
            by_cases hlt : q < rr
            · rw [over_out (.inl hlt)]
              obtain ⟨a1, a2⟩ := h8 q hq
              have := rows_apart (e := e) hlt
              exact ⟨a1, a2.keep (by rw [hzr.1]; omega) (by rw [a1]; left; omega)⟩
            · by_cases hge : rr + n ≤ q
              · rw [over_out (.inr hge)]
                obtain ⟨a1, a2⟩ := h8 q hq
                have e1 : rr * e + n * e ≤ q * e := by rw [← Nat.add_mul]; exact Nat.mul_le_mul_right _ hge
                exact ⟨a1, a2.keep (by rw [hzr.1]; omega) (by rw [hzr.1]; right; omega)⟩
              · rw [over_in (by omega) (by omega)]
                have := cellsAt_of_rows (at_ := l.base + rr * e) (C := rowPut C (l.base + rr * e) (Builtin.zeroCells zy.cells n).toList) hzr (fun j hj => by
                  rw [rowPut_get _ _ _ _ (by rw [hzr.1]; omega), if_pos ⟨by omega, by rw [hzr.1]; omega⟩]; congr 1; omega) (j := q - rr) (by omega)
                have e1 : l.base + rr * e + (q - rr) * e = l.base + q * e := by
                  have : rr * e + (q - rr) * e = q * e := by rw [← Nat.add_mul]; congr 1; omega
                  omega
                rw [e1] at this; exact this⟩
        exact ⟨sb.1, sb.2, rfl⟩
end
end Go.Ab
