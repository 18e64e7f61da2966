/-
  Regions: in the text's order; in any order that the edges allow.
-/
import Derived.Test.YtcoejfgecnaphaaAbD
set_option linter.unusedSimpArgs false
set_option linter.unusedVariables false
namespace Go.Ab

/-- A frame's slots and the world stand for an abstract state. -/
structure Rel (ι0 : Ren) (H0 : Heap) (w0 : World) (ι : Ren) (N : Nat) (s : RS) (a : Act) (w : World) : Prop where
  tmps : ∀ x, VR ι (s.σ x) (a.tmps.getD x undef)
  size : a.tmps.size = N
  defers : a.defers = []
  emb : Emb ι (hget s.H) w
  le : H0.length ≤ s.H.length
  tr : TrG ι0 ι (hget H0) (hget s.H) (fun i => H0.length ≤ i ∧ i < s.H.length) (fun i => i ∈ s.wr) w0 w

section
variable {P : Program} {T : TT}

theorem Le.of_ext {ι ι' : Ren} {new : Nat → Prop} (h : ∀ i, ¬ new i → ι' i = ι i) (hf : ∀ i, new i → ι i = none) : Le ι ι' := fun i l hi => by
  rw [h i (fun hc => by rw [hf i hc] at hi; cases hi)]; exact hi

/-- THE TEXT's ORDER. -/
theorem seq_region (K : TOK P T) {call : CallF} (C : CallsOK P call) {N : Nat} {all : List Oper} {Q : Exit → Act → World → Prop} {ι0 : Ren} {H0 : Heap} {w0 : World} {s s' : RS} {tr : List TE}
    (h : regGo P T call N all all 0 s = some (s', tr)) (hc : s'.c = true) (hf : ∀ i, s.H.length ≤ i → i < s'.H.length → ι0 i = none) {ι : Ren} {a : Act} {w : World} (R : Rel ι0 H0 w0 ι N s a w)
    (hq : ∀ a' w' ι', Rel ι0 H0 w0 ι' N s' a' w' → Q .normal a' w') : wpOps P all.toArray Q (List.range all.length) a w := by
  obtain ⟨b1, b2, b3, b4, b5, b6, b7⟩ := trace_at (σ0 := s.σ) (h0 := hget s.H) tr all 0 s s' tr [] h hc rfl rfl rfl rfl
  have hlen : tr.length = all.length := by rw [← b3]; simp
  have main : ∀ (m k : Nat), k + m = all.length → ∀ (ι1 : Ren) (a1 : Act) (w1 : World) (wr : Nat → Prop) (hh : Nat → Option AObj),
      (∀ x, VR ι1 (gD (fS tr) s.σ (fun _ => true) k x) (a1.tmps.getD x undef)) → a1.tmps.size = N → a1.defers = [] → Emb ι1 hh w1 → hh = gD (fH tr) (hget s.H) (fun _ => true) k →
      (∀ i, wr i ↔ i ∈ s.wr ∨ ∃ j t, tr[j]? = some t ∧ j < k ∧ i ∈ t.wr) →
      TrG ι0 ι1 (hget H0) hh (fun i => (H0.length ≤ i ∧ i < s.H.length) ∨ ∃ j t, tr[j]? = some t ∧ j < k ∧ t.n ≤ i ∧ i < t.H'.length) wr w0 w1 →
      wpOps P all.toArray Q (List.range' k m) a1 w1 := by
    intro m
    induction m with
    | zero =>
      intro k hk ι1 a1 w1 wr hh h1 h2 h3 h4 h5 h6 h7
      have hk' : k = tr.length := by omega
      subst hk'
      simp only [List.range'_zero, wpOps]
      rw [← b4] at h1
      rw [← b5] at h5
      subst h5
      refine hq a1 w1 ι1 ⟨h1, h2, h3, h4, by have := R.le; omega, ?_⟩
      have hwr : ∀ i, wr i ↔ i ∈ s'.wr := fun i => by
        rw [h6, b6]
        constructor
        · rintro (h | ⟨j, t, a, b, c⟩)
          · exact .inl h
          · exact .inr ⟨t, List.mem_of_getElem? a, c⟩
        · rintro (h | ⟨t, a, c⟩)
          · exact .inl h
          · obtain ⟨j, hj, e⟩ := List.getElem_of_mem a
            exact .inr ⟨j, t, by rw [List.getElem?_eq_getElem hj, e], hj, c⟩
      have e : wr = fun i => i ∈ s'.wr := funext fun i => propext (hwr i)
      subst e
      -- the new blocks: all between the two lengths; those that none made are none
      refine ⟨fun i hi => h7.ext i fun hn => hi ?_, fun i hi hw => h7.same i (fun hn => hi ?_) hw, fun i hw hi => h7.live i hw (fun hn => hi ?_), h7.mono, h7.kept, fun i hi l hl hne => ?_, h7.os⟩
      · rcases hn with hn | ⟨j, t, a, b, c⟩
        · have := R.le; omega
        · obtain ⟨d1, d2, d3, _⟩ := b7 j t a (Nat.zero_le _); have := R.le; omega
      · rcases hn with hn | ⟨j, t, a, b, c⟩
        · have := R.le; omega
        · obtain ⟨d1, d2, d3, _⟩ := b7 j t a (Nat.zero_le _); have := R.le; omega
      · rcases hn with hn | ⟨j, t, a, b, c⟩
        · have := R.le; omega
        · obtain ⟨d1, d2, d3, _⟩ := b7 j t a (Nat.zero_le _); have := R.le; omega
      · by_cases hn : (H0.length ≤ i ∧ i < s.H.length) ∨ ∃ j t, tr[j]? = some t ∧ j < tr.length ∧ t.n ≤ i ∧ i < t.H'.length
        · exact h7.neu i hn l hl hne
        · rw [h7.ext i hn] at hl
          rw [hf i (by
            apply Nat.le_of_not_lt; intro h'; exact hn (.inl ⟨hi.1, h'⟩)) hi.2] at hl
          cases hl
    | succ m ih =>
      intro k hk ι1 a1 w1 wr hh h1 h2 h3 h4 h5 h6 h7
      have hkl : k < tr.length := by omega
      obtain ⟨t, ht⟩ : ∃ t, tr[k]? = some t := ⟨_, List.getElem?_eq_getElem hkl⟩
      obtain ⟨d1, d2, d3, d4, sk, e1, e2, rec⟩ := b7 k t ht (Nat.zero_le _)
      have hall : all[k]? = some t.o := by rw [← b3]; simp [ht]
      rw [List.range'_succ, wpOps_cons]
      have hnone : ∀ i, t.n ≤ i → i < t.H'.length → hh i = none ∧ ι1 i = none := by
        intro i hi1 hi2
        refine ⟨by rw [h5, ← e2]; exact hget_none _ _ (by rw [← rec.n]; exact hi1), ?_⟩
        rw [h7.ext i]
        · exact hf i (by omega) (by omega)
        · rintro (hn | ⟨j, t', a, b, c⟩)
          · omega
          · have := d4 j t' a (Nat.zero_le _) b; omega
      refine step_at K C rec hall (fun x _ => by rw [e1]) (fun i _ => by rw [h5, e2]) hnone h1 h2 h4 fun a' w' ι' hc' g1 g2 g3 g4 g5 g6 => ?_
      refine ih (k + 1) (by omega) ι' a' w' (fun i => wr i ∨ i ∈ t.wr) hc' ?_ g2 (by rw [g3, h3]) g4 ?_ ?_ ?_
      · intro x
        have := g1 x
        rw [updO_at] at this
        simp only [gD, fS, ht]
        by_cases hx : t.o.dst = some x
        · rw [if_pos hx] at this; simpa [hx] using this
        · rw [if_neg hx] at this; simpa [hx] using this
      · funext i
        rw [g5]
        simp only [gD, fH, ht]
        by_cases hi : i ∈ t.ws
        · rw [if_pos hi, if_pos hi]
        · rw [if_neg hi, if_neg hi, h5]
      · intro i
        rw [h6]
        constructor
        · rintro ((h | ⟨j, t', a, b, c⟩) | h)
          · exact .inl h
          · exact .inr ⟨j, t', a, by omega, c⟩
          · exact .inr ⟨k, t, ht, by omega, h⟩
        · rintro (h | ⟨j, t', a, b, c⟩)
          · exact .inl (.inl h)
          · by_cases e : j = k
            · subst e; rw [ht] at a; cases a; exact .inr c
            · exact .inl (.inr ⟨j, t', a, by omega, c⟩)
      · refine (h7.trans g6).iff (fun i => ?_) (fun i => Iff.rfl)
        constructor
        · rintro ((h | ⟨j, t', a, b, c⟩) | h)
          · exact .inl h
          · exact .inr ⟨j, t', a, by omega, c⟩
          · exact .inr ⟨k, t, ht, by omega, h⟩
        · rintro (h | ⟨j, t', a, b, c⟩)
          · exact .inl (.inl h)
          · by_cases e : j = k
            · subst e; rw [ht] at a; cases a; exact .inr c
            · exact .inl (.inr ⟨j, t', a, by omega, c⟩)
  have := main all.length 0 (by omega) ι a w (fun i => i ∈ s.wr) (hget s.H) R.tmps R.size R.defers R.emb rfl (fun i => by simp) (R.tr.iff (fun i => by simp) (fun i => Iff.rfl))
  rwa [List.range_eq_range']

/-! ### any order -/

theorem addNew_mem {x : Nat} : ∀ {l acc : List Nat}, x ∈ addNew l acc ↔ x ∈ l ∨ x ∈ acc
  | [], acc => by simp [addNew]
  | y :: l, acc => by
    simp only [addNew]
    cases hm : mem y acc with
    | true =>
      have := mem_iff.1 hm
      rw [addNew_mem (l := l)]
      simp only [List.mem_cons]
      constructor
      · rintro (h | h)
        · exact .inl (.inr h)
        · exact .inr h
      · rintro ((rfl | h) | h)
        · exact .inr this
        · exact .inl h
        · exact .inr h
    | false =>
      rw [addNew_mem (l := l)]
      simp only [List.mem_cons]
      constructor
      · rintro (h | rfl | h)
        · exact .inl (.inr h)
        · exact .inl (.inl rfl)
        · exact .inr h
      · rintro ((rfl | h) | h)
        · exact .inr (.inl rfl)
        · exact .inl h
        · exact .inr (.inr h)

theorem foldl_addNew {x : Nat} (g : Nat → List Nat) : ∀ (l : List Nat) (s : List Nat), x ∈ l.foldl (fun s j => addNew (j :: g j) s) s ↔ x ∈ s ∨ ∃ j ∈ l, x = j ∨ x ∈ g j
  | [], s => by simp
  | y :: l, s => by
    simp only [List.foldl_cons]
    rw [foldl_addNew g l]
    simp only [addNew_mem, List.mem_cons, exists_eq_or_imp]
    constructor
    · rintro ((h | h) | h)
      · exact .inr (.inl h)
      · exact .inl h
      · exact .inr (.inr h)
    · rintro (h | h | h)
      · exact .inl (.inr h)
      · exact .inl (.inl h)
      · exact .inr h

theorem ancs_prefix : ∀ (l : List Oper) (acc : List (List Nat)), ∃ t, ancs l acc = acc ++ t ∧ t.length = l.length
  | [], acc => ⟨[], by simp [ancs], rfl⟩
  | o :: l, acc => by
    simp only [ancs]
    obtain ⟨t, h1, h2⟩ := ancs_prefix l (acc ++ [(preds o).foldl (fun s j => addNew (j :: (nth acc j).getD []) s) []])
    exact ⟨_ :: t, by rw [h1]; simp; rfl, by simp [h2]⟩

theorem ancs_at : ∀ (l : List Oper) (acc : List (List Nat)) (k : Nat) (o : Oper), l[k]? = some o → ∃ A, (ancs l acc)[acc.length + k]? = some A ∧
    ∃ acc', (∃ t, ancs l acc = acc' ++ t) ∧ acc'.length = acc.length + k ∧ A = (preds o).foldl (fun s j => addNew (j :: (nth acc' j).getD []) s) []
  | [], acc, k, o, h => by simp at h
  | o' :: l, acc, 0, o, h => by
    simp at h; subst h
    simp only [ancs]
    obtain ⟨t, h1, h2⟩ := ancs_prefix l (acc ++ [(preds o').foldl (fun s j => addNew (j :: (nth acc j).getD []) s) []])
    exact ⟨_, by rw [h1]; simp, acc, ⟨_, by rw [h1, List.append_assoc]⟩, rfl, rfl⟩
  | o' :: l, acc, k + 1, o, h => by
    simp only [ancs]
    obtain ⟨A, h1, acc', h2, h3, h4⟩ := ancs_at l (acc ++ [(preds o').foldl (fun s j => addNew (j :: (nth acc j).getD []) s) []]) k o (by simpa using h)
    refine ⟨A, by rw [← h1]; congr 1; simp; omega, acc', h2, by rw [h3]; simp; omega, h4⟩

/-- The ancestors of an operation: its predecessors, and theirs. -/
theorem ancs_spec {all : List Oper} {k : Nat} {o : Oper} (h : all[k]? = some o) (hp : ∀ j ∈ preds o, j < k) {x : Nat} :
    x ∈ (nth (ancs all []) k).getD [] ↔ ∃ j ∈ preds o, x = j ∨ x ∈ (nth (ancs all []) j).getD [] := by
  obtain ⟨A, h1, acc', ⟨t, h2⟩, h3, h4⟩ := ancs_at all [] k o h
  simp at h1 h3
  rw [nth_eq, h1]
  simp only [Option.getD_some]
  rw [h4, foldl_addNew]
  simp only [List.not_mem_nil, false_or]
  have : ∀ j, j < k → (nth acc' j) = nth (ancs all []) j := fun j hj => by
    rw [nth_eq, nth_eq, h2, List.getElem?_append_left (by omega)]
  constructor
  · rintro ⟨j, hj, hx⟩; exact ⟨j, hj, by rwa [← this j (hp j hj)]⟩
  · rintro ⟨j, hj, hx⟩; exact ⟨j, hj, by rwa [this j (hp j hj)]⟩

theorem disj_spec : ∀ {l m : List Nat}, disj l m = true → ∀ x ∈ l, x ∉ m
  | [], _, _, x, hx => by cases hx
  | y :: l, m, h, x, hx => by
    simp only [disj] at h
    cases hm : mem y m with
    | true => rw [hm] at h; cases h
    | false =>
      rw [hm] at h
      rcases List.mem_cons.1 hx with rfl | hx
      · exact mem_false.1 hm
      · exact disj_spec h x hx

theorem indepFrom_spec {all : List Oper} {y : TE} {anc : List Nat} : ∀ {l : List TE} {j : Nat}, indepFrom all y anc l j = true → ∀ i x, l[i]? = some x → (j + i) ∈ anc ∨ free all x y = true
  | [], j, _, i, x, hx => by simp at hx
  | z :: l, j, h, i, x, hx => by
    simp only [indepFrom, Bool.and_eq_true] at h
    cases i with
    | zero =>
      simp at hx; subst hx
      cases hm : mem j anc with
      | true => exact .inl (by simpa using mem_iff.1 hm)
      | false => rw [hm] at h; exact .inr h.1
    | succ i =>
      have := indepFrom_spec h.2 i x (by simpa using hx)
      rwa [show j + 1 + i = j + (i + 1) from by omega] at this

theorem indepAll_spec {all : List Oper} {as : List (List Nat)} : ∀ {l before : List TE} {k : Nat}, indepAll all as l before k = true → k = before.length →
    ∀ j y, l[j]? = some y → (∀ p ∈ preds y.o, p < k + j) ∧ ∀ i x, (before ++ l)[i]? = some x → i < k + j → i ∈ (nth as (k + j)).getD [] ∨ free all x y = true
  | [], _, _, _, _, j, y, hy => by simp at hy
  | z :: l, before, k, h, hk, j, y, hy => by
    simp only [indepAll, Bool.and_eq_true, List.all_eq_true] at h
    obtain ⟨⟨h1, h2⟩, h3⟩ := h
    cases j with
    | zero =>
      simp at hy; subst hy
      refine ⟨fun p hp => Nat.le_of_ble_eq_true (h1 p hp), fun i x hx hi => ?_⟩
      rw [List.getElem?_append_left (by omega)] at hx
      have := indepFrom_spec h2 i x hx
      simpa using this
    | succ j =>
      have := indepAll_spec h3 (by simp [hk]) j y (by simpa using hy)
      rw [show k + 1 + j = k + (j + 1) from by omega] at this
      refine ⟨this.1, fun i x hx hi => this.2 i x (by simpa using hx) hi⟩

theorem free_spec {all : List Oper} {x y : TE} (h : free all x y = true) :
    (∀ d, x.o.dst = some d → d ∉ looks all y.o ∧ y.o.dst ≠ some d) ∧ (∀ d, y.o.dst = some d → d ∉ looks all x.o) ∧ (∀ i ∈ x.ws, i ∉ y.fp) ∧ (∀ i ∈ y.ws, i ∉ x.fp) := by
  unfold free at h
  simp only [Bool.and_eq_true] at h
  obtain ⟨⟨⟨h1, h2⟩, h3⟩, h4⟩ := h
  refine ⟨fun d hd => ?_, fun d hd => ?_, disj_spec h3, disj_spec h4⟩
  · rw [hd] at h1
    simp only [Bool.and_eq_true, Bool.not_eq_true'] at h1
    refine ⟨mem_false.1 h1.1, fun e => ?_⟩
    rw [e] at h1
    simp at h1
  · rw [hd] at h2
    simp only [Bool.not_eq_true'] at h2
    exact mem_false.1 h2
end
end Go.Ab
