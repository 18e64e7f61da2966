/-
  The relation between abstract and concrete: values, blocks, heaps; what a step may change.
-/
import Derived.Test.YtcoejfgecnaphaaAb1
import Derived.WalkKit
namespace Go.Ab

structure Loc where
  blk : Nat
  base : Nat
  total : Nat
  row : Nat

abbrev Ren := Nat → Option Loc

def addr (l : Loc) (r o : Nat) : Addr := ⟨l.blk, l.base + r * l.row + o, none⟩

mutual
def VR (ι : Ren) : AV → Value → Prop
  | .v x, y => y = x
  | .b x, y => y = .bool x
  | .ptr i r o, y => ∃ l, ι i = some l ∧ y = .pointer (some (addr l r o))
  | .sl i r e n k, y => ∃ l a cap, ι i = some l ∧ y = .slice (some a) n cap ∧ n ≤ cap ∧ k ≤ cap ∧ l.row = e ∧
      (cap = 0 ∨ (a = addr l r 0 ∧ l.base + (r + cap) * e ≤ l.total))
  | .sla i o _ n, y => ∃ l a cap, ι i = some l ∧ y = .slice (some a) n cap ∧ n ≤ cap ∧ (cap = 0 ∨ a = addr l 0 o)
  | .sle, y => ∃ a, y = .slice (some a) 0 0
  | .map i, y => ∃ l, ι i = some l ∧ y = .map (some l.blk)
  | .fn f a b, y => ∃ a' b', y = .func f (List.toArray a') (List.toArray b') ∧ VRs ι a a' ∧ VRs ι b b'
  | .iface t x, y => ∃ x', y = .iface t x' ∧ VR ι x x'
  | .agg l, y => ∃ l', y = .agg (List.toArray l') ∧ VRs ι l l'
  | .tup l, y => ∃ l', y = .tuple (List.toArray l') ∧ VRs ι l l'
  | .junk, _ => True
def VRs (ι : Ren) : List AV → List Value → Prop
  | [], ys => ys = []
  | x :: xs, ys => ∃ y ys', ys = y :: ys' ∧ VR ι x y ∧ VRs ι xs ys'
end

def Le (ι ι' : Ren) : Prop := ∀ i l, ι i = some l → ι' i = some l

mutual
theorem VR.mono {ι ι' : Ren} (h : Le ι ι') : ∀ (x : AV) (y : Value), VR ι x y → VR ι' x y
  | .v _, _, r => r
  | .b _, _, r => r
  | .ptr _ _ _, _, ⟨l, a, b⟩ => ⟨l, h _ _ a, b⟩
  | .sl _ _ _ _ _, _, ⟨l, a, cap, q, r⟩ => ⟨l, a, cap, h _ _ q, r⟩
  | .sla _ _ _ _, _, ⟨l, a, cap, q, r⟩ => ⟨l, a, cap, h _ _ q, r⟩
  | .sle, _, r => r
  | .map _, _, ⟨l, a, b⟩ => ⟨l, h _ _ a, b⟩
  | .fn _ a b, _, ⟨a', b', e, p, q⟩ => ⟨a', b', e, VRs.mono h a a' p, VRs.mono h b b' q⟩
  | .iface _ x, _, ⟨x', e, p⟩ => ⟨x', e, VR.mono h x x' p⟩
  | .agg l, _, ⟨l', e, p⟩ => ⟨l', e, VRs.mono h l l' p⟩
  | .tup l, _, ⟨l', e, p⟩ => ⟨l', e, VRs.mono h l l' p⟩
  | .junk, _, _ => trivial
theorem VRs.mono {ι ι' : Ren} (h : Le ι ι') : ∀ (x : List AV) (y : List Value), VRs ι x y → VRs ι' x y
  | [], _, r => r
  | x :: xs, _, ⟨y, ys', e, p, q⟩ => ⟨y, ys', e, VR.mono h x y p, VRs.mono h xs ys' q⟩
end

theorem VRs.length {ι : Ren} : ∀ {xs : List AV} {ys : List Value}, VRs ι xs ys → ys.length = xs.length
  | [], _, r => by cases r; rfl
  | _ :: _, _, ⟨_, _, e, _, q⟩ => by subst e; simp [VRs.length q]

theorem VRs.nth {ι : Ren} : ∀ {xs : List AV} {ys : List Value} (j : Nat) (x : AV), VRs ι xs ys → xs[j]? = some x → ∃ y, ys[j]? = some y ∧ VR ι x y
  | [], _, j, x, _, h => by simp at h
  | z :: xs, _, 0, x, ⟨y, ys', e, p, _⟩, h => by subst e; simp at h; subst h; exact ⟨y, rfl, p⟩
  | z :: xs, _, j + 1, x, ⟨y, ys', e, _, q⟩, h => by
    subst e
    obtain ⟨w, hw, r⟩ := VRs.nth j x q (by simpa using h)
    exact ⟨w, by simpa using hw, r⟩

theorem VRs.of_nth {ι : Ren} : ∀ {xs : List AV} {ys : List Value}, ys.length = xs.length → (∀ (j : Nat) (x : AV), xs[j]? = some x → ∃ y, ys[j]? = some y ∧ VR ι x y) → VRs ι xs ys
  | [], ys, hl, _ => by cases ys <;> simp_all [VRs]
  | x :: xs, ys, hl, h => by
    cases ys with
    | nil => simp at hl
    | cons y ys =>
      refine ⟨y, ys, rfl, ?_, VRs.of_nth (by simpa using hl) fun (j : Nat) (z : AV) hz => by simpa using h (j + 1) z (by simpa using hz)⟩
      obtain ⟨w, hw, r⟩ := h 0 x rfl
      simp at hw; subst hw; exact r

theorem VRs.append {ι : Ren} : ∀ {xs : List AV} {ys : List Value} {us : List AV} {vs : List Value}, VRs ι xs ys → VRs ι us vs → VRs ι (xs ++ us) (ys ++ vs)
  | [], _, _, _, h, h' => by cases h; exact h'
  | _ :: _, _, _, _, ⟨y, ys', e, p, q⟩, h' => by subst e; exact ⟨y, _, rfl, p, VRs.append q h'⟩

theorem VRs.vals {ι : Ren} (l : List Value) : VRs ι (l.map .v) l := by
  induction l with
  | nil => rfl
  | cons x l ih => exact ⟨x, l, rfl, rfl, ih⟩

theorem nth_eq {α : Type} : ∀ (l : List α) (i : Nat), nth l i = l[i]?
  | [], i => by simp [nth]
  | _ :: _, 0 => rfl
  | _ :: l, i + 1 => by simp [nth, nth_eq l i]

theorem mem_iff {x : Nat} : ∀ {l : List Nat}, mem x l = true ↔ x ∈ l
  | [] => by simp [mem]
  | y :: l => by
    unfold mem
    cases h : Nat.beq x y with
    | true => simp [Nat.eq_of_beq_eq_true h]
    | false => simp [mem_iff (l := l), Nat.ne_of_beq_eq_false h]

theorem mem_false {x : Nat} {l : List Nat} : mem x l = false ↔ x ∉ l := by
  rw [← mem_iff (x := x) (l := l)]; cases mem x l <;> simp

theorem hget_hset (H : Heap) (i j : Nat) (x : Option AObj) : hget (hset H i x) j = if i = j ∧ i < H.length then x else hget H j := by
  induction H generalizing i j with
  | nil => simp [hset, hget]
  | cons o H ih =>
    cases i with
    | zero => cases j <;> simp [hset, hget]
    | succ i => cases j <;> simp [hset, hget, ih]

theorem length_hset (H : Heap) (i : Nat) (x : Option AObj) : (hset H i x).length = H.length := by
  induction H generalizing i with
  | nil => rfl
  | cons o H ih => cases i <;> simp [hset, ih]

theorem hget_append_left (H K : Heap) (i : Nat) (h : i < H.length) : hget (H ++ K) i = hget H i := by
  induction H generalizing i with
  | nil => simp at h
  | cons o H ih => cases i with
    | zero => rfl
    | succ i => simpa [hget] using ih i (by simpa using h)

theorem hget_append_right (H K : Heap) (i : Nat) : hget (H ++ K) (H.length + i) = hget K i := by
  induction H with
  | nil => simp
  | cons o H ih =>
    simp only [List.cons_append, List.length_cons]
    rw [show H.length + 1 + i = (H.length + i) + 1 from by omega]
    simpa [hget] using ih

theorem hget_none (H : Heap) (i : Nat) (h : H.length ≤ i) : hget H i = none := by
  induction H generalizing i with
  | nil => rfl
  | cons o H ih => cases i with
    | zero => simp at h
    | succ i => simpa [hget] using ih i (by simpa using h)

theorem hget_lt {H : Heap} {i : Nat} {o : AObj} (h : hget H i = some o) : i < H.length := by
  apply Nat.lt_of_not_le; intro h'; rw [hget_none H i h'] at h; cases h

theorem hget_rst_from (fp : List Nat) (H : Heap) (k i : Nat) : hget (rst fp k H) i = if mem (k + i) fp = true then hget H i else none := by
  induction H generalizing k i with
  | nil => simp [rst, hget]
  | cons o H ih =>
    cases i with
    | zero => simp only [rst, hget, Nat.add_zero]; cases mem k fp <;> simp
    | succ i => simp only [rst, hget]; rw [ih]; rw [show k + 1 + i = k + (i + 1) from by omega]

theorem hget_rst (fp : List Nat) (H : Heap) (i : Nat) : hget (rst fp 0 H) i = if i ∈ fp then hget H i else none := by
  rw [hget_rst_from]; simp [mem_iff]

theorem length_rst (fp : List Nat) (k : Nat) (H : Heap) : (rst fp k H).length = H.length := by
  induction H generalizing k with
  | nil => rfl
  | cons o H ih => simp [rst, ih]

theorem hget_mrg_from (wr : List Nat) (H H' : Heap) (k i : Nat) (hl : H.length ≤ H'.length) :
    hget (mrg wr k H H') i = if i < H.length ∧ mem (k + i) wr = false then hget H i else hget H' i := by
  induction H generalizing k i H' with
  | nil => simp [mrg]
  | cons o H ih =>
    cases H' with
    | nil => simp at hl
    | cons o' H' =>
      cases i with
      | zero => simp only [mrg, hget, Nat.add_zero]; cases mem k wr <;> simp
      | succ i =>
        simp only [mrg, hget]; rw [ih _ _ _ (by simpa using hl)]; rw [show k + 1 + i = k + (i + 1) from by omega]; simp

theorem hget_mrg (wr : List Nat) (H H' : Heap) (i : Nat) (hl : H.length ≤ H'.length) :
    hget (mrg wr 0 H H') i = if i < H.length ∧ i ∉ wr then hget H i else hget H' i := by
  rw [hget_mrg_from _ _ _ _ _ hl]; simp [mem_false]

theorem length_mrg (wr : List Nat) (H H' : Heap) (k : Nat) (hl : H.length ≤ H'.length) : (mrg wr k H H').length = H'.length := by
  induction H generalizing k H' with
  | nil => rfl
  | cons o H ih =>
    cases H' with
    | nil => simp at hl
    | cons o' H' => simp [mrg, ih _ _ (by simpa using hl)]

def keyV : AKey → Value
  | .i n => .int .i64 n
  | .s b => .string b

structure MapAt (ι : Ren) (strs : Bool) (sz : Nat) (has : AKey → Bool) (get : AKey → AV) (ES : Array MapEntry) (clock : Nat) : Prop where
  size : ES.size = sz
  each : ∀ e ∈ ES.toList, ∃ k, k.str = strs ∧ e.key = keyV k ∧ has k = true ∧ VR ι (get k) e.val
  all : ∀ k, k.str = strs → has k = true → ∃ e ∈ ES.toList, e.key = keyV k
  apart : ES.toList.Pairwise fun a b => a.key ≠ b.key ∧ a.born ≠ b.born
  born : ∀ e ∈ ES.toList, e.born < clock

/-- Cells from 'at' on read as 'c' says. -/
def CellsAt (ι : Ren) (c : List AV) (C : Array Value) (from_ : Nat) : Prop := ∀ j x, c[j]? = some x → ∃ y, C[from_ + j]? = some y ∧ VR ι x y ∧ y.oneCell' = true

def ObjAt (ι : Ren) : AObj → Loc → World → Prop
  | .cells c rw, l, w => l.row = 0 ∧ ∃ C t fz, w.heap[l.blk]? = some (.cells C t fz) ∧ (rw = true → fz = (0, 0)) ∧ C.size = l.total ∧ CellsAt ι c C l.base
  | .rows e n f rw, l, w => l.row = e ∧ ∃ C t fz, w.heap[l.blk]? = some (.cells C t fz) ∧ (rw = true → fz = (0, 0)) ∧ C.size = l.total ∧ (0 < n → l.base + n * e ≤ l.total) ∧
      ∀ r, r < n → (f r).length = e ∧ CellsAt ι (f r) C (l.base + r * e)
  | .map strs sz has get, l, w => ∃ ES clock, w.heap[l.blk]? = some (.map ES clock) ∧ MapAt ι strs sz has get ES clock

theorem CellsAt.mono {ι ι' : Ren} (h : Le ι ι') {c : List AV} {C : Array Value} {k : Nat} (hc : CellsAt ι c C k) : CellsAt ι' c C k :=
  fun j x hx => let ⟨y, hy, r, s⟩ := hc j x hx; ⟨y, hy, r.mono h, s⟩

theorem ObjAt.mono {ι ι' : Ren} (h : Le ι ι') {o : AObj} {l : Loc} {w w' : World} (hw : w'.heap[l.blk]? = w.heap[l.blk]?) (ho : ObjAt ι o l w) : ObjAt ι' o l w' := by
  cases o with
  | cells c rw =>
    obtain ⟨h0, C, t, fz, h1, h2, h3, h4⟩ := ho
    exact ⟨h0, C, t, fz, by rw [hw, h1], h2, h3, h4.mono h⟩
  | rows e n f rw =>
    obtain ⟨h0, C, t, fz, h1, h2, h3, h3', h4⟩ := ho
    exact ⟨h0, C, t, fz, by rw [hw, h1], h2, h3, h3', fun r hr => ⟨(h4 r hr).1, (h4 r hr).2.mono h⟩⟩
  | map strs sz has get =>
    obtain ⟨ES, clock, h1, h2⟩ := ho
    refine ⟨ES, clock, by rw [hw, h1], { h2 with each := fun e he => ?_ }⟩
    obtain ⟨k, a, b, c, d⟩ := h2.each e he
    exact ⟨k, a, b, c, d.mono h⟩

theorem ObjAt.lt {ι : Ren} {o : AObj} {l : Loc} {w : World} (h : ObjAt ι o l w) : l.blk < w.heap.size := by
  have : ∃ x, w.heap[l.blk]? = some x := by
    cases o with
    | cells c rw => obtain ⟨_, C, t, fz, h1, _⟩ := h; exact ⟨_, h1⟩
    | rows e n f rw => obtain ⟨_, C, t, fz, h1, _⟩ := h; exact ⟨_, h1⟩
    | map strs sz has get => obtain ⟨ES, clock, h1, _⟩ := h; exact ⟨_, h1⟩
  obtain ⟨x, hx⟩ := this
  apply Nat.lt_of_not_le; intro h'
  rw [Array.getElem?_eq_none h'] at hx; cases hx

structure Emb (ι : Ren) (h : Nat → Option AObj) (w : World) : Prop where
  obj : ∀ i o, h i = some o → ∃ l, ι i = some l ∧ ObjAt ι o l w
  inj : ∀ i j li lj, h i ≠ none → h j ≠ none → ι i = some li → ι j = some lj → li.blk = lj.blk → i = j

/-- What is beside the heap stays. -/
def Still (w w' : World) : Prop := w'.os = w.os ∧ w'.output = w.output

theorem Still.refl (w : World) : Still w w := ⟨rfl, rfl⟩
theorem Still.trans {w w' w'' : World} (h : Still w w') (h' : Still w' w'') : Still w w'' := ⟨h'.1.trans h.1, h'.2.trans h.2⟩

/-- What a step does: 'n' blocks before, 'n'' behind; the old blocks of 'wr' alone may change. -/
structure Tr (ι ι' : Ren) (h h' : Nat → Option AObj) (n n' : Nat) (wr : List Nat) (w w' : World) : Prop where
  le : n ≤ n'
  ext : ∀ i, (i < n ∨ n' ≤ i) → ι' i = ι i
  same : ∀ i, i < n → i ∉ wr → h' i = h i
  live : ∀ i ∈ wr, i < n → h i ≠ none
  bnd : ∀ i ∈ wr, i < n'
  mono : w.heap.size ≤ w'.heap.size
  kept : ∀ B, B < w.heap.size → (∀ i ∈ wr, ∀ l, ι i = some l → h i ≠ none → l.blk ≠ B) → w'.heap[B]? = w.heap[B]?
  neu : ∀ i, n ≤ i → i < n' → ∀ l, ι' i = some l → h' i ≠ none → w.heap.size ≤ l.blk ∨ ∃ j ∈ wr, h j ≠ none ∧ ∃ l0, ι j = some l0 ∧ l.blk = l0.blk
  os : Still w w'

def Fresh (ι : Ren) (n n' : Nat) : Prop := ∀ i, n ≤ i → i < n' → ι i = none

theorem Tr.grows {ι ι' : Ren} {h h' : Nat → Option AObj} {n n' : Nat} {wr : List Nat} {w w' : World} (t : Tr ι ι' h h' n n' wr w w') (hf : Fresh ι n n') : Le ι ι' := by
  intro i l hi
  by_cases h1 : i < n
  · rw [t.ext i (.inl h1)]; exact hi
  · by_cases h2 : i < n'
    · rw [hf i (by omega) h2] at hi; cases hi
    · rw [t.ext i (.inr (by omega))]; exact hi

theorem Tr.refl (ι : Ren) (h : Nat → Option AObj) (n : Nat) (w : World) : Tr ι ι h h n n [] w w :=
  ⟨Nat.le_refl _, fun _ _ => rfl, fun _ _ _ => rfl, fun _ hi => (by cases hi), fun _ hi => (by cases hi), Nat.le_refl _, fun _ _ _ => rfl, fun i h1 h2 => by omega, .refl _⟩

/-- A step that only draws. -/
theorem Tr.heap (ι : Ren) (h : Nat → Option AObj) (n : Nat) (w w' : World) (e : w'.heap = w.heap) (hos : Still w w') : Tr ι ι h h n n [] w w' :=
  ⟨Nat.le_refl _, fun _ _ => rfl, fun _ _ _ => rfl, fun _ hi => (by cases hi), fun _ hi => (by cases hi), by rw [e]; exact Nat.le_refl _, fun _ _ _ => by rw [e], fun i h1 h2 => by omega, hos⟩

theorem Emb.heap {ι : Ren} {h : Nat → Option AObj} {w w' : World} (e : w'.heap = w.heap) (E : Emb ι h w) : Emb ι h w' :=
  ⟨fun i o ho => let ⟨l, a, b⟩ := E.obj i o ho; ⟨l, a, b.mono (fun _ _ x => x) (by rw [e])⟩, E.inj⟩

theorem Emb.less {ι : Ren} {h h' : Nat → Option AObj} {w : World} (hs : ∀ i o, h' i = some o → h i = some o) (E : Emb ι h w) : Emb ι h' w := by
  have ne : ∀ i, h' i ≠ none → h i ≠ none := fun i hi => by
    cases e : h' i with
    | none => exact absurd e hi
    | some o => rw [hs i o e]; simp
  exact ⟨fun i o ho => E.obj i o (hs i o ho), fun i j li lj a b => E.inj i j li lj (ne i a) (ne j b)⟩

/-- THE FRAME: a step over the blocks 'hr' (a part of 'h'), seen over all of 'h'. -/
theorem Emb.frame {ι ι' : Ren} {h hr hr' hh : Nat → Option AObj} {n n' : Nat} {wr : List Nat} {w w' : World}
    (E : Emb ι h w) (hn : ∀ i, n ≤ i → h i = none) (hpart : ∀ i o, hr i = some o → h i = some o)
    (hwr : ∀ i ∈ wr, hr i ≠ none) (hf : Fresh ι n n') (E' : Emb ι' hr' w') (t : Tr ι ι' hr hr' n n' wr w w')
    (hh1 : ∀ i, i < n → i ∉ wr → hh i = h i) (hh2 : ∀ i, (n ≤ i ∨ i ∈ wr) → hh i = hr' i) (hn' : ∀ i, n' ≤ i → hr' i = none) :
    Emb ι' hh w' ∧ Tr ι ι' h hh n n' wr w w' := by
  have hg := t.grows hf
  have part_ne : ∀ i, hr i ≠ none → h i ≠ none := fun i hi => by
    cases e : hr i with
    | none => exact absurd e hi
    | some o => rw [hpart i o e]; simp
  have lt_of : ∀ i, h i ≠ none → i < n := fun i hi => Nat.lt_of_not_le fun h' => hi (hn i h')
  -- the place of a block that is kept lies apart from what was changed
  have apart : ∀ i o l, i < n → i ∉ wr → h i = some o → ι i = some l → ∀ j ∈ wr, ∀ lj, ι j = some lj → hr j ≠ none → lj.blk ≠ l.blk := by
    intro i o l hi hiw ho hl j hj lj hlj hjn e
    exact hiw (E.inj j i lj l (part_ne j hjn) (by rw [ho]; simp) hlj hl e ▸ hj)
  have keep : ∀ i o l, i < n → i ∉ wr → h i = some o → ι i = some l → ObjAt ι o l w → w'.heap[l.blk]? = w.heap[l.blk]? := by
    intro i o l hi hiw ho hl ha
    exact t.kept _ ha.lt (apart i o l hi hiw ho hl)
  refine ⟨⟨?_, ?_⟩, ?_⟩
  · intro i o ho
    by_cases hc : i < n ∧ i ∉ wr
    · rw [hh1 i hc.1 hc.2] at ho
      obtain ⟨l, hl, ha⟩ := E.obj i o ho
      exact ⟨l, hg _ _ hl, ha.mono hg (keep i o l hc.1 hc.2 ho hl ha)⟩
    · rw [hh2 i (by by_cases h1 : i < n <;> by_cases h2 : i ∈ wr <;> simp_all)] at ho
      exact E'.obj i o ho
  · -- where does block i lie: a kept one at its old place; else where hr' has it
    have old : ∀ i, i < n → i ∉ wr → ∀ li, ι' i = some li → ι i = some li := fun i hi _ li hli => by rwa [t.ext i (.inl hi)] at hli
    have mixed : ∀ i j li lj, hh i ≠ none → hh j ≠ none → ι' i = some li → ι' j = some lj → li.blk = lj.blk → (i < n ∧ i ∉ wr) → ¬ (j < n ∧ j ∉ wr) → False := by
      intro i j li lj hi hj hli hlj e ⟨hi1, hi2⟩ hjc
      rw [hh1 i hi1 hi2] at hi
      have hli0 := old i hi1 hi2 li hli
      obtain ⟨o, ho⟩ : ∃ o, h i = some o := by cases e' : h i with
        | none => exact absurd e' hi
        | some o => exact ⟨o, rfl⟩
      obtain ⟨l, hl, ha⟩ := E.obj i o ho
      rw [hli0] at hl; cases hl
      rw [hh2 j (by by_cases h1 : j < n <;> by_cases h2 : j ∈ wr <;> simp_all)] at hj
      by_cases hjn : j < n
      · have hjw : j ∈ wr := by by_cases h2 : j ∈ wr; exact h2; exact absurd ⟨hjn, h2⟩ hjc
        have hlj0 : ι j = some lj := by rwa [t.ext j (.inl hjn)] at hlj
        exact apart i o li hi1 hi2 ho hli0 j hjw lj hlj0 (hwr j hjw) e.symm
      · have hjn' : j < n' := Nat.lt_of_not_le fun h' => hj (hn' j h')
        rcases t.neu j (by omega) hjn' lj hlj hj with hb | ⟨k, hk, hkn, l0, hl0, hb⟩
        · have := ha.lt; omega
        · exact apart i o li hi1 hi2 ho hli0 k hk l0 hl0 hkn (by rw [← hb, ← e])
    intro i j li lj hi hj hli hlj e
    by_cases hic : i < n ∧ i ∉ wr <;> by_cases hjc : j < n ∧ j ∉ wr
    · rw [hh1 i hic.1 hic.2] at hi
      rw [hh1 j hjc.1 hjc.2] at hj
      exact E.inj i j li lj hi hj (old i hic.1 hic.2 li hli) (old j hjc.1 hjc.2 lj hlj) e
    · exact (mixed i j li lj hi hj hli hlj e hic hjc).elim
    · exact (mixed j i lj li hj hi hlj hli e.symm hjc hic).elim
    · rw [hh2 i (by by_cases h1 : i < n <;> by_cases h2 : i ∈ wr <;> simp_all)] at hi
      rw [hh2 j (by by_cases h1 : j < n <;> by_cases h2 : j ∈ wr <;> simp_all)] at hj
      exact E'.inj i j li lj hi hj hli hlj e
  · refine ⟨t.le, t.ext, hh1, fun i hi _ => part_ne i (hwr i hi), t.bnd, t.mono, fun B hB hk => t.kept B hB fun i hi l hl hn2 => hk i hi l hl (part_ne i hn2), fun i h1 h2 l hl hne => ?_, t.os⟩
    rw [hh2 i (.inl h1)] at hne
    rcases t.neu i h1 h2 l hl hne with hb | ⟨j, hj, hjn, l0, hl0, hb⟩
    · exact .inl hb
    · exact .inr ⟨j, hj, part_ne j hjn, l0, hl0, hb⟩

/-- Two steps, one behind the other. -/
theorem Tr.trans {ι ι' ι'' : Ren} {h h' h'' : Nat → Option AObj} {n n' n'' : Nat} {wr wr' : List Nat} {w w' w'' : World}
    (hn' : ∀ i, n' ≤ i → h' i = none)
    (t : Tr ι ι' h h' n n' wr w w') (t' : Tr ι' ι'' h' h'' n' n'' wr' w' w'') : Tr ι ι'' h h'' n n'' (wr' ++ wr) w w'' := by
  have l1 := t.le
  have l2 := t'.le
  have lv : ∀ i, i < n → h' i ≠ none → h i ≠ none := fun i hi hne => by
    by_cases hw : i ∈ wr
    · exact t.live i hw hi
    · rwa [t.same i hi hw] at hne
  have lt' : ∀ i, h' i ≠ none → i < n' := fun i hi => Nat.lt_of_not_le fun h0 => hi (hn' i h0)
  refine ⟨by omega, fun i hi => ?_, fun i hi hw => ?_, fun i hi hin => ?_, fun i hi => ?_, Nat.le_trans t.mono t'.mono, fun B hB hk => ?_, fun i h1 h2 l hl hne => ?_, t.os.trans t'.os⟩
  · rw [t'.ext i (by omega), t.ext i (by omega)]
  · simp only [List.mem_append, not_or] at hw
    rw [t'.same i (by omega) hw.1, t.same i hi hw.2]
  · rcases List.mem_append.1 hi with hi | hi
    · exact lv i hin (t'.live i hi (by omega))
    · exact t.live i hi hin
  · rcases List.mem_append.1 hi with hi | hi
    · exact t'.bnd i hi
    · have := t.bnd i hi; omega
  · rw [t'.kept B (Nat.lt_of_lt_of_le hB t.mono), t.kept B hB]
    · exact fun i hi l hl hne => hk i (List.mem_append_right _ hi) l hl hne
    · intro i hi l hl hne e
      by_cases hin : i < n
      · rw [t.ext i (.inl hin)] at hl
        exact hk i (List.mem_append_left _ hi) l hl (lv i hin hne) e
      · rcases t.neu i (by omega) (lt' i hne) l hl hne with hb | ⟨j, hj, hjn, l0, hl0, hb⟩
        · omega
        · exact hk j (List.mem_append_right _ hj) l0 hl0 hjn (by rw [← hb, e])
  · have first : ∀ i l, n ≤ i → ι' i = some l → h' i ≠ none → w.heap.size ≤ l.blk ∨ ∃ j ∈ wr' ++ wr, h j ≠ none ∧ ∃ l0, ι j = some l0 ∧ l.blk = l0.blk := by
      intro i l hi hl hne
      rcases t.neu i hi (lt' i hne) l hl hne with hb | ⟨j, hj, hjn, l0, hl0, hb⟩
      · exact .inl hb
      · exact .inr ⟨j, List.mem_append_right _ hj, hjn, l0, hl0, hb⟩
    by_cases hin : i < n'
    · rw [t'.ext i (.inl hin)] at hl
      refine first i l h1 hl ?_
      by_cases hw : i ∈ wr'
      · exact t'.live i hw hin
      · rwa [t'.same i hin hw] at hne
    · rcases t'.neu i (by omega) h2 l hl hne with hb | ⟨j, hj, hjn, l0, hl0, hb⟩
      · have := t.mono; exact .inl (by omega)
      · by_cases hjn' : j < n
        · rw [t.ext j (.inl hjn')] at hl0
          exact .inr ⟨j, List.mem_append_left _ hj, lv j hjn' hjn, l0, hl0, hb⟩
        · have := first j l0 (by omega) hl0 hjn
          rw [hb]; exact this
end Go.Ab
