/-
  The operations: each abstract step stands for the concrete one. First part: types, loads, stores, new blocks.
-/
import Derived.Test.YtcoejfgecnaphaaAb2
import Derived.Laws.CopyRow
set_option linter.unusedSimpArgs false
set_option linter.unusedVariables false
namespace Go.Ab

structure TOK (P : Program) (T : TT) : Prop where
  plain : ∀ t, T.plain t = true → P.stoodInHeld t = false ∧ P.eqGuardType P.depth t = false ∧ ∀ fs, P.underlying t = some (.struct fs) → ∀ f ∈ fs.toList, f.name ≠ "_"
  und : ∀ t d, T.und t = some d → P.underlying t = some d
  inf : ∀ t i, T.inf t = some i → P.info? t = some i
  fn : ∀ f g, T.fn f = some g → P.funcs[f]? = some g ∧ (g.name == "runtime.NumGoroutine") = false


section
variable {P : Program} {T : TT}

theorem TOK.run_und (K : TOK P T) {t : Nat} {d : TypeDesc} (h : T.und t = some d) (w : World) : (underlying t).run P w = .ok d w := run_underlying (K.und t d h) w

theorem TOK.run_info (K : TOK P T) {t : Nat} {i : TypeInfo} (h : T.inf t = some i) (w : World) : (typeInfo t).run P w = .ok i w := by
  simp [typeInfo, K.inf t i h]

theorem TOK.run_size (K : TOK P T) {t n : Nat} (h : sizeT T t = some n) (w : World) : (sizeOf t).run P w = .ok n w := by
  unfold sizeT at h
  cases hi : T.inf t with
  | none => simp [hi] at h
  | some i => simp [hi] at h; subst h; simp [sizeOf, K.run_info hi]

theorem TOK.run_zero (K : TOK P T) {t : Nat} {z : Value} (h : zeroT T t = some z) (w : World) : (zeroValue t).run P w = .ok z w := by
  unfold zeroT at h
  cases hi : T.inf t with
  | none => simp [hi] at h
  | some i => simp [hi] at h; simp [zeroValue, K.run_info hi, h]

theorem TOK.run_isAgg (K : TOK P T) {t : Nat} {b : Bool} (h : isAggT T t = some b) (w : World) : (isAgg t).run P w = .ok b w := by
  unfold isAggT at h
  cases hu : T.und t with
  | none => simp [hu] at h
  | some d =>
    have := K.run_und hu w
    rw [hu] at h
    cases d <;> simp at h <;> subst h <;> simp [isAgg, this]

theorem VR.cells {ι : Ren} {x : AV} {y : Value} (h : VR ι x y) (hj : x ≠ .junk) : VRs ι x.cells y.cells.toList := by
  cases x with
  | v x =>
    cases h
    cases y <;> first
      | exact VRs.vals _
      | exact ⟨_, [], rfl, rfl, rfl⟩
  | b x => cases h; exact ⟨_, [], rfl, rfl, rfl⟩
  | ptr i r o => obtain ⟨l, h1, rfl⟩ := h; exact ⟨_, [], rfl, ⟨l, h1, rfl⟩, rfl⟩
  | sl i r e n k => obtain ⟨l, a, cap, h1, rfl, h2⟩ := h; exact ⟨_, [], rfl, ⟨l, a, cap, h1, rfl, h2⟩, rfl⟩
  | sla i o e n => obtain ⟨l, a, cap, h1, rfl, h2⟩ := h; exact ⟨_, [], rfl, ⟨l, a, cap, h1, rfl, h2⟩, rfl⟩
  | sle => obtain ⟨a, rfl⟩ := h; exact ⟨_, [], rfl, ⟨a, rfl⟩, rfl⟩
  | map i => obtain ⟨l, h1, rfl⟩ := h; exact ⟨_, [], rfl, ⟨l, h1, rfl⟩, rfl⟩
  | fn f a b => obtain ⟨a', b', rfl, h1, h2⟩ := h; exact ⟨_, [], rfl, ⟨a', b', rfl, h1, h2⟩, rfl⟩
  | iface t x => obtain ⟨x', rfl, h1⟩ := h; exact ⟨_, [], rfl, ⟨x', rfl, h1⟩, rfl⟩
  | agg l => obtain ⟨l', rfl, h1⟩ := h; exact h1
  | tup l => obtain ⟨l', rfl, h1⟩ := h; exact ⟨_, [], rfl, ⟨l', rfl, h1⟩, rfl⟩
  | junk => exact absurd rfl hj

theorem cut_get {α : Type} (l : List α) (o n j : Nat) : (cut l o n)[j]? = if j < n then l[o + j]? else none := by
  unfold cut; simp [List.getElem?_take, List.getElem?_drop]

theorem cut_length {α : Type} (l : List α) (o n : Nat) (h : o + n ≤ l.length) : (cut l o n).length = n := by
  unfold cut; simp; omega

theorem VRs.cut {ι : Ren} {l : List AV} {l' : List Value} (o n : Nat) (h : VRs ι l l') : VRs ι (Ab.cut l o n) (Ab.cut l' o n) := by
  have hl := h.length
  refine VRs.of_nth (by unfold Ab.cut; simp [hl]) fun j x hx => ?_
  rw [cut_get] at hx ⊢
  split at hx
  · rename_i hj; simp only [hj, if_true]; exact h.nth _ _ hx
  · cases hx

theorem run_part (K : TOK P T) {ι : Ren} {t off : Nat} {cs : List AV} {cs' : List Value} {v : AV} (h : partA T t cs off = some v) (hc : VRs ι cs cs') (w : World) :
    ∃ y, (part t (List.toArray cs') off).run P w = .ok y w ∧ VR ι v y := by
  have hl := hc.length
  unfold partA at h
  cases ha : isAggT T t with
  | none => simp [ha] at h
  | some b =>
    cases b with
    | true =>
      simp only [ha] at h
      cases hs : sizeT T t with
      | none => simp [hs] at h
      | some n =>
        simp only [hs] at h
        cases hb : Nat.ble (off + n) cs.length with
        | false => simp [hb] at h
        | true =>
          simp only [hb] at h
          cases h
          have hb' := Nat.le_of_ble_eq_true hb
          refine ⟨.agg (List.toArray (Ab.cut cs' off n)), ?_, _, rfl, hc.cut off n⟩
          simp [part, K.run_isAgg ha, K.run_size hs]
          rfl
    | false =>
      simp only [ha, nth_eq] at h
      obtain ⟨y, hy, r⟩ := hc.nth _ _ h
      exact ⟨y, by simp [part, K.run_isAgg ha, hy], r⟩

theorem run_loadVar_cells (K : TOK P T) {ι : Ren} {t o b B : Nat} {c : List AV} {C : Array Value} {ty : TypeId} {fz : Nat × Nat} {v : AV} {w : World}
    (hg : w.heap[B]? = some (.cells C ty fz)) (hc : CellsAt ι c C b) (h : partA T t c o = some v) :
    ∃ y, (loadVar t ⟨B, b + o, none⟩).run P w = .ok y w ∧ VR ι v y := by
  unfold partA at h
  cases ha : isAggT T t with
  | none => simp [ha] at h
  | some bb =>
    cases bb with
    | true =>
      simp only [ha] at h
      cases hs : sizeT T t with
      | none => simp [hs] at h
      | some n =>
        simp only [hs] at h
        cases hb : Nat.ble (o + n) c.length with
        | false => simp [hb] at h
        | true =>
          simp only [hb] at h
          cases h
          have hb' := Nat.le_of_ble_eq_true hb
          have hsz : n = 0 ∨ b + o + n ≤ C.size := by
            rcases Nat.eq_zero_or_pos n with h0 | h0
            · exact .inl h0
            · right
              obtain ⟨y, hy, _⟩ := hc (o + n - 1) _ (List.getElem?_eq_getElem (by omega))
              have : b + (o + n - 1) < C.size := by
                apply Nat.lt_of_not_le; intro h'
                rw [Array.getElem?_eq_none h'] at hy; cases hy
              omega
          have hys : VRs ι (Ab.cut c o n) (Ab.cut C.toList (b + o) n) := by
            refine VRs.of_nth ?_ fun j x hx => ?_
            · rw [cut_length c o n hb']
              rcases hsz with rfl | h'
              · simp [Ab.cut]
              · rw [cut_length _ _ _ (by simpa using h')]
            · rw [cut_get] at hx ⊢
              split at hx
              · rename_i hj
                simp only [hj, if_true]
                obtain ⟨y, hy, r, _⟩ := hc (o + j) x hx
                exact ⟨y, by simpa [Nat.add_assoc] using hy, r⟩
              · cases hx
          refine ⟨.agg (List.toArray (Ab.cut C.toList (b + o) n)), ?_, _, rfl, hys⟩
          have hlen : (Ab.cut C.toList (b + o) n).length = n := by
            have := hys.length; rw [cut_length c o n hb'] at this; exact this
          have hl := run_loadCells_list (P := P) w ⟨B, b + o, none⟩ (Ab.cut C.toList (b + o) n) (fun j v hv => by
            rw [cut_get] at hv
            split at hv
            · have : (⟨B, b + o, none⟩ : Addr).add j = ⟨B, b + o + j, none⟩ := by unfold Addr.add; split <;> simp_all
              rw [this, cell_of_row w B _ C ty fz hg]; simpa using hv
            · cases hv)
          rw [hlen] at hl
          simp [loadVar, K.run_isAgg ha, K.run_size hs, hl]
    | false =>
      simp only [ha, nth_eq] at h
      obtain ⟨y, hy, r, _⟩ := hc _ _ h
      refine ⟨y, ?_, r⟩
      simp [loadVar, K.run_isAgg ha, cell_of_row w B _ C ty fz hg, Nat.add_assoc, hy]

theorem one_cell {ι : Ren} {x : AV} {y : Value} (h : VR ι x y) (h1 : x.one = true) : y.oneCell' = true := by
  cases x with
  | v x => cases h; cases y <;> first | rfl | simp [AV.one] at h1
  | b x => cases h; rfl
  | ptr i r o => obtain ⟨l, h1, rfl⟩ := h; rfl
  | sl i r e n k => obtain ⟨l, a, cap, h1, rfl, h2⟩ := h; rfl
  | sla i o e n => obtain ⟨l, a, cap, h1, rfl, h2⟩ := h; rfl
  | sle => obtain ⟨a, rfl⟩ := h; rfl
  | map i => obtain ⟨l, h1, rfl⟩ := h; rfl
  | fn f a b => obtain ⟨a', b', rfl, h1, h2⟩ := h; rfl
  | iface t x => obtain ⟨x', rfl, h1⟩ := h; rfl
  | agg l => simp [AV.one] at h1
  | tup l => simp [AV.one] at h1
  | junk => simp [AV.one] at h1

theorem one_cells {ι : Ren} : ∀ {xs : List AV} {ys : List Value}, VRs ι xs ys → xs.all AV.one = true → ∀ y ∈ ys, y.oneCell' = true
  | [], _, h, _, y, hy => by cases h; cases hy
  | x :: xs, _, ⟨z, zs, e, p, q⟩, h1, y, hy => by
    subst e
    simp only [List.all_cons, Bool.and_eq_true] at h1
    rcases List.mem_cons.1 hy with rfl | hy
    · exact one_cell p h1.1
    · exact one_cells q h1.2 y hy

theorem put_length {α : Type} : ∀ (l : List α) (o : Nat) (ys : List α), (put l o ys).length = l.length
  | [], _, _ => by simp [put]
  | _ :: _, 0, [] => rfl
  | _ :: l, 0, _ :: ys => by simp [put, put_length l 0 ys]
  | _ :: l, o + 1, ys => by simp [put, put_length l o ys]

theorem put_get {α : Type} : ∀ (l : List α) (o : Nat) (ys : List α) (j : Nat), o + ys.length ≤ l.length →
    (put l o ys)[j]? = if o ≤ j ∧ j < o + ys.length then ys[j - o]? else l[j]?
  | [], o, ys, j, h => by
    have : ys = [] := by cases ys <;> simp_all
    subst this; simp [put]
  | x :: l, 0, [], j, _ => by simp [put]
  | x :: l, 0, y :: ys, j, h => by
    cases j with
    | zero => simp [put]
    | succ j =>
      have := put_get l 0 ys j (by simpa using h)
      simp [put, this]
  | x :: l, o + 1, ys, j, h => by
    cases j with
    | zero => simp [put]
    | succ j =>
      have := put_get l o ys j (by simp at h; omega)
      simp only [put, List.getElem?_cons_succ, this]
      by_cases hc : o ≤ j ∧ j < o + ys.length
      · simp [hc, show o + 1 ≤ j + 1 ∧ j + 1 < o + 1 + ys.length from by omega]
      · rw [if_neg hc, if_neg (by omega)]

/-- The row behind a store. -/
def rowPut (C : Array Value) (o : Nat) (vs : List Value) : Array Value := (C.toList.take o ++ vs ++ C.toList.drop (o + vs.length)).toArray

theorem rowPut_size (C : Array Value) (o : Nat) (vs : List Value) (h : o + vs.length ≤ C.size) : (rowPut C o vs).size = C.size := by
  unfold rowPut; simp; omega

theorem rowPut_get (C : Array Value) (o : Nat) (vs : List Value) (j : Nat) (h : o + vs.length ≤ C.size) :
    (rowPut C o vs)[j]? = if o ≤ j ∧ j < o + vs.length then vs[j - o]? else C[j]? := by
  unfold rowPut
  simp only [List.getElem?_toArray, List.append_assoc]
  by_cases h1 : j < o
  · rw [List.getElem?_append_left (by simp; omega), if_neg (by omega)]
    simp [List.getElem?_take, h1]
  · rw [List.getElem?_append_right (by simp; omega)]
    have hm : min o C.size = o := by omega
    simp only [List.length_take, Array.length_toList, hm]
    by_cases h2 : j < o + vs.length
    · rw [List.getElem?_append_left (by omega), if_pos (by omega)]
    · rw [List.getElem?_append_right (by omega), if_neg (by omega)]
      simp only [List.getElem?_drop, Array.getElem?_toList]
      congr 1; omega

theorem run_storeVar_cells (K : TOK P T) {t n B at_ : Nat} {C : Array Value} {ty : TypeId} {w : World} {y : Value}
    (hs : sizeT T t = some n) (hy : y.cells.size = n) (h1 : ∀ v ∈ y.cells.toList, v.oneCell' = true)
    (hg : w.heap[B]? = some (.cells C ty (0, 0))) (hfit : at_ + n ≤ C.size) :
    (storeVar t ⟨B, at_, none⟩ y).run P w = .ok () (w.setRow B (rowPut C at_ y.cells.toList)) := by
  have := run_storeCells_at P B at_ ty y.cells.toList 0 C w hg (by simpa [hy] using hfit) h1
  simp [storeVar, K.run_size hs, hy]
  simpa [rowPut] using this

theorem setRow_size (w : World) (g : Nat) (c : Array Value) : (w.setRow g c).heap.size = w.heap.size := by simp [World.setRow]
theorem setRow_other (w : World) (g B : Nat) (c : Array Value) (h : B ≠ g) : (w.setRow g c).heap[B]? = w.heap[B]? := by
  simp [World.setRow, Array.getElem?_modify, Ne.symm h]

def Ren.set (ι : Ren) (i : Nat) (l : Loc) : Ren := fun j => if j = i then some l else ι j

theorem Ren.le_set {ι : Ren} {i : Nat} {l : Loc} (h : ι i = none) : Le ι (ι.set i l) := fun j m hj => by
  unfold Ren.set; split
  · rename_i e; rw [e, h] at hj; cases hj
  · exact hj

theorem setRow_still (w : World) (b : Nat) (r : Array Value) : Still w (w.setRow b r) := ⟨rfl, rfl⟩

/-- A new block. -/
theorem new_block {ι : Ren} {H : Heap} {w w' : World} {ob : Obj} {o : AObj} {l : Loc} (E : Emb ι (hget H) w) (hf : ι H.length = none)
    (hw : w'.heap = w.heap.push ob) (hl : l.blk = w.heap.size) (ho : ObjAt (ι.set H.length l) o l w') (hos : Still w w' := by first | exact ⟨rfl, rfl⟩ | exact setRow_still _ _ _) :
    Emb (ι.set H.length l) (hget (H ++ [some o])) w' ∧ Tr ι (ι.set H.length l) (hget H) (hget (H ++ [some o])) H.length (H ++ [some o]).length [] w w' := by
  have hg := Ren.le_set (l := l) hf
  have old : ∀ B, B < w.heap.size → w'.heap[B]? = w.heap[B]? := fun B hB => by rw [hw, Array.getElem?_push, if_neg (by omega)]
  have at_ : ∀ i, hget (H ++ [some o]) i = if i = H.length then some o else hget H i := fun i => by
    by_cases h1 : i < H.length
    · rw [hget_append_left _ _ _ h1, if_neg (by omega)]
    · by_cases h2 : i = H.length
      · subst h2; have := hget_append_right H [some o] 0; rw [Nat.add_zero] at this; rw [this, if_pos rfl]; rfl
      · rw [if_neg h2, hget_none H i (by omega), hget_none _ i (by simp; omega)]
  refine ⟨⟨fun i x hx => ?_, fun i j li lj hi hj hli hlj e => ?_⟩, ⟨by simp, fun i hi => ?_, fun i hi _ => ?_, fun _ hi => (by cases hi), fun _ hi => (by cases hi), by rw [hw]; simp, fun B hB _ => old B hB, fun i h1 h2 m hm hne => ?_, hos⟩⟩
  · rw [at_] at hx
    split at hx
    · rename_i e; cases hx; exact ⟨l, by simp [Ren.set, e], ho⟩
    · obtain ⟨m, hm, hom⟩ := E.obj i x hx
      exact ⟨m, hg _ _ hm, hom.mono hg (old _ hom.lt)⟩
  · rw [at_] at hi hj
    have key : ∀ a la, a ≠ H.length → hget H a ≠ none → (ι.set H.length l) a = some la → la.blk < w.heap.size ∧ ι a = some la := by
      intro a la ha hne hla
      simp only [Ren.set, if_neg ha] at hla
      refine ⟨?_, hla⟩
      cases e' : hget H a with
      | none => exact absurd e' hne
      | some x => obtain ⟨m, hm, hom⟩ := E.obj a x e'; rw [hla] at hm; cases hm; exact hom.lt
    by_cases h1 : i = H.length <;> by_cases h2 : j = H.length
    · rw [h1, h2]
    · rw [if_neg h2] at hj
      have := key j lj h2 hj hlj
      simp [Ren.set, h1] at hli; subst hli; omega
    · rw [if_neg h1] at hi
      have := key i li h1 hi hli
      simp [Ren.set, h2] at hlj; subst hlj; omega
    · rw [if_neg h1] at hi; rw [if_neg h2] at hj
      exact E.inj i j li lj hi hj (key i li h1 hi hli).2 (key j lj h2 hj hlj).2 e
  · simp only [Ren.set]; rw [if_neg]; simp at hi; omega
  · rw [at_, if_neg (by omega)]
  · simp at h2
    have : i = H.length := by omega
    subst this
    simp [Ren.set] at hm; subst hm
    exact .inl (by omega)

/-- A block is changed in its place. -/
theorem set_block {ι : Ren} {H : Heap} {w w' : World} {i : Nat} {o o' : AObj} {l : Loc} (E : Emb ι (hget H) w) (hi : hget H i = some o) (hl : ι i = some l)
    (hsz : w'.heap.size = w.heap.size) (hoth : ∀ B, B ≠ l.blk → w'.heap[B]? = w.heap[B]?) (ho : ObjAt ι o' l w') (hos : Still w w' := by first | exact ⟨rfl, rfl⟩ | exact setRow_still _ _ _) :
    Emb ι (hget (hset H i (some o'))) w' ∧ Tr ι ι (hget H) (hget (hset H i (some o'))) H.length (hset H i (some o')).length [i] w w' := by
  have hlt := hget_lt hi
  have at_ : ∀ j, hget (hset H i (some o')) j = if i = j then some o' else hget H j := fun j => by rw [hget_hset]; simp [hlt]
  refine ⟨⟨fun j x hx => ?_, fun a b la lb ha hb hla hlb e => ?_⟩, ⟨by simp [length_hset], fun _ _ => rfl, fun j _ hj => ?_, fun j hj _ => ?_, fun j hj => ?_, by omega, fun B _ hk => ?_, fun j h1 h2 => ?_, hos⟩⟩
  · rw [at_] at hx
    split at hx
    · rename_i e; subst e; cases hx; exact ⟨l, hl, ho⟩
    · rename_i e
      obtain ⟨m, hm, hom⟩ := E.obj j x hx
      exact ⟨m, hm, hom.mono (fun _ _ z => z) (hoth _ fun e' => e (E.inj i j l m (by rw [hi]; simp) (by rw [hx]; simp) hl hm e'.symm))⟩
  · have ne : ∀ c, hget (hset H i (some o')) c ≠ none → hget H c ≠ none := fun c hc => by
      rw [at_] at hc; split at hc
      · rename_i e; subst e; rw [hi]; simp
      · exact hc
    exact E.inj a b la lb (ne a ha) (ne b hb) hla hlb e
  · rw [at_, if_neg]; intro e; exact hj (by simp [e])
  · simp at hj; subst hj; rw [hi]; simp
  · simp at hj; subst hj; rw [length_hset]; exact hlt
  · exact hoth B fun e => hk i (by simp) l hl (by rw [hi]; simp) e.symm
  · rw [length_hset] at h2; omega

def nextVal : Next → Option Value
  | .value v => some v
  | .skip => some undef
  | _ => none

/-- An abstract answer stands for what a run comes to. -/
def Sound (ι : Ren) (H : Heap) (w : World) (r : OR) (x : Result Next) : Prop :=
  ∃ nx w' ι' y, x = .ok nx w' ∧ nextVal nx = some y ∧ VR ι' r.v y ∧ Emb ι' (hget r.H) w' ∧ Tr ι ι' (hget H) (hget r.H) H.length r.H.length r.wr w w'

theorem Sound.pure {ι : Ren} {H : Heap} {w : World} {v : AV} {y : Value} {c : Bool} {orc : List Dec} {x : Result Next} (E : Emb ι (hget H) w) (hx : x = .ok (.value y) w)
    (hv : VR ι v y) : Sound ι H w ⟨v, H, [], c, orc⟩ x :=
  ⟨_, w, ι, y, hx, rfl, hv, E, Tr.refl _ _ _ _⟩

theorem load_sound (K : TOK P T) {ι : Ren} {H : Heap} {w : World} {t : Nat} {x : AV} {y : Value} {orc : List Dec} {r : OR} (E : Emb ι (hget H) w)
    (hx : VR ι x y) (h : loadA T t x H orc = some r) (hc : r.c = true) : ∃ z, (Instr.loadAt t y).run P w = .ok z w ∧ VR ι r.v z ∧ r.H = H ∧ r.wr = [] := by
  unfold loadA at h
  cases x <;> simp only at h <;> try (cases h; done)
  rename_i i rr o
  obtain ⟨l, hl, rfl⟩ := hx
  cases ho : hget H i with
  | none => simp [ho] at h
  | some ob =>
    rw [ho] at h
    obtain ⟨l', hl', hob⟩ := E.obj i ob ho
    rw [hl] at hl'; cases hl'
    cases ob with
    | cells c rw =>
      simp only at h
      cases hz : Nat.beq rr 0 with
      | false => simp [hz] at h
      | true =>
        have hz' := Nat.eq_of_beq_eq_true hz
        subst hz'
        simp only [hz] at h
        cases hp : partA T t c o with
        | none => simp [hp] at h
        | some v =>
          simp [hp] at h
          subst h
          obtain ⟨h0, C, ty, fz, h1, h2, h3, h4⟩ := hob
          obtain ⟨z, hz1, hz2⟩ := run_loadVar_cells K h1 h4 hp
          refine ⟨z, ?_, hz2, rfl, rfl⟩
          simp only [Instr.loadAt, Instr.sureAddr, addr, h0, Nat.mul_zero, Nat.add_zero]
          simpa using hz1
    | rows e n f rw =>
      simp only at h
      cases hp : partA T t (f rr) o with
      | none => simp [hp] at h
      | some v =>
        simp [hp] at h
        subst h
        obtain ⟨h0, C, ty, fz, h1, h2, h3, h3', h4⟩ := hob
        have hlt := Nat.le_of_ble_eq_true (show Nat.ble (rr + 1) n = true from hc)
        obtain ⟨z, hz1, hz2⟩ := run_loadVar_cells K h1 (h4 rr hlt).2 hp
        refine ⟨z, ?_, hz2, rfl, rfl⟩
        simp only [Instr.loadAt, Instr.sureAddr, addr, h0]
        simpa using hz1
    | map a b c d => simp at h
end
end Go.Ab
