/-
  A law that is answered from an empty heap; arguments that are plain rows of cells, opened.
-/
import Derived.Test.YtcoejfgecnaphaaAbI
set_option linter.unusedSimpArgs false
set_option linter.unusedVariables false
namespace Go.Ab

def yesB : Option OR → Bool
  | some ⟨.v (.bool b), _, _, c, _⟩ => b && c
  | some ⟨.b b, _, _, c, _⟩ => b && c
  | _ => false

theorem yesB_inv {r : Option OR} (h : yesB r = true) : ∃ o, r = some o ∧ o.c = true ∧ (o.v = .v (.bool true) ∨ o.v = .b true) := by
  unfold yesB at h
  split at h
  · simp only [Bool.and_eq_true] at h
    obtain ⟨rfl, rfl⟩ := h
    exact ⟨_, rfl, rfl, .inl rfl⟩
  · simp only [Bool.and_eq_true] at h
    obtain ⟨rfl, rfl⟩ := h
    exact ⟨_, rfl, rfl, .inr rfl⟩
  · cases h

/-- What a law leaves. -/
def Left1 (W : World) (v : Value) (e : Ending) (W' : World) : Prop :=
  e = .returned v ∧ Still W W' ∧ (∀ B, B < W.heap.size → W'.heap[B]? = W.heap[B]?) ∧ W.heap.size ≤ W'.heap.size

theorem law_calls {P : Program} {call : CallF} (C : CallsOK P call) {f : Nat} {args : List AV} (h : yesB (call f args [] []) = true) {cargs : List Value} (ha : VRs (fun _ => none) args cargs) (w : World) :
    Calls P f (List.toArray cargs) w (Left1 w (.bool true)) := by
  obtain ⟨r, h1, h2, h3⟩ := yesB_inv h
  have k := (C f args [] [] r h1 h2).run (fun _ => none) w cargs ⟨fun i o ho => by simp [hget] at ho, fun i j li lj hi => by simp [hget] at hi⟩ ha (fun _ _ _ => rfl)
  refine k.mono fun e w' => ?_
  rintro ⟨ι', y, rfl, hy, _, t⟩
  have : y = .bool true := by
    rcases h3 with e | e <;> rw [e] at hy <;> exact hy
  subst this
  exact ⟨rfl, t.os, fun B hB => t.kept B hB fun i _ l hl => (by cases hl), t.mono⟩

/-! ### rows of plain cells -/

def Flat1 (P : Program) (u : Nat) (v : Value) : Prop :=
  match P.underlying u with
  | some (.int k) => ∃ n, v = .int k n ∧ k.has n
  | some .bool => ∃ b, v = .bool b
  | some .string => ∃ s : ByteArray, v = .string s ∧ (s.size : Int) ≤ IntKind.i64.max
  | _ => True

def Flats (P : Program) : List Nat → List Value → Prop
  | [], vs => vs = []
  | u :: us, vs => ∃ v vs', vs = v :: vs' ∧ Flat1 P u v ∧ Flats P us vs'

theorem flat1_of {P : Program} {w : World} {r : Reach} {base u : Nat} {v : Value} (h : Cell.okWide P w r base u v) : Flat1 P u v := by
  unfold Flat1
  split
  · rename_i k hk
    unfold Cell.okWide Cell.ok at h
    rw [hk] at h
    cases v <;> simp at h
    obtain ⟨rfl, h⟩ := h
    exact ⟨_, rfl, h⟩
  · rename_i hk
    unfold Cell.okWide Cell.ok at h
    rw [hk] at h
    cases v <;> simp at h
    exact ⟨_, rfl⟩
  · rename_i hk
    unfold Cell.okWide Cell.ok at h
    rw [hk] at h
    cases v <;> simp at h
    exact ⟨_, rfl, h⟩
  · trivial

theorem flats_of {P : Program} : ∀ {ts : List Nat} {vs : List Value}, vs.length = ts.length → (∀ (i : Nat) (v : Value), vs[i]? = some v → ∃ u, ts[i]? = some u ∧ Flat1 P u v) → Flats P ts vs
  | [], [], _, _ => rfl
  | t :: ts, v :: vs, hl, h => by
    obtain ⟨u, h1, h2⟩ := h 0 v rfl
    cases h1
    exact ⟨v, vs, rfl, h2, flats_of (by simpa using hl) fun i x hx => h (i + 1) x hx⟩

/-- A struct or array argument, opened into its cells. -/
theorem open_flat {P : Program} {w : World} {r : Reach} {base t : Nat} {v : Value} {ts : List Nat} (h : Value.okWide P w r base t v)
    (hs : (match P.underlying t with | some (.struct _) | some (.array _ _) => true | _ => false) = true) (hc : P.cellTypes P.depth t = some ts) (hn : P.cellsOf t = ts.length) :
    ∃ cs : List Value, v = .agg (List.toArray cs) ∧ Flats P ts cs := by
  unfold Value.okWide at h
  have key : (∃ cs : Array Value, v = .agg cs ∧ cs.size = P.cellsOf t ∧ Row.okWide P w r base t cs) → ∃ cs : List Value, v = .agg (List.toArray cs) ∧ Flats P ts cs := by
    rintro ⟨cs, rfl, h1, ts', h2, _, h3⟩
    rw [hc] at h2
    cases h2
    refine ⟨cs.toList, by simp, flats_of (by simp [h1, hn]) fun i x hx => ?_⟩
    have hi : i < ts.length := by
      have := (List.getElem?_eq_some_iff.1 hx).1
      simpa [h1, hn] using this
    obtain ⟨u, a, b⟩ := h3 i x (by simpa using hx)
    rw [Nat.mod_eq_of_lt hi] at a
    exact ⟨u, a, flat1_of b⟩
  split at h
  · exact key h
  · exact key h
  · rename_i h1 h2
    split at hs
    · rename_i fs e; exact absurd e (h1 _)
    · rename_i n e' e; exact absurd e (h2 _ _)
    · cases hs

theorem Flats.nil {P : Program} {vs : List Value} (h : Flats P [] vs) : vs = [] := h
theorem Flats.int {P : Program} {u : Nat} {us : List Nat} {vs : List Value} {k : IntKind} (hu : P.underlying u = some (.int k)) (h : Flats P (u :: us) vs) : ∃ n vs', vs = .int k n :: vs' ∧ k.has n ∧ Flats P us vs' := by
  obtain ⟨v, vs', e, h1, h2⟩ := h
  unfold Flat1 at h1
  rw [hu] at h1
  obtain ⟨n, rfl, hn⟩ := h1
  exact ⟨n, vs', e, hn, h2⟩
theorem Flats.str {P : Program} {u : Nat} {us : List Nat} {vs : List Value} (hu : P.underlying u = some .string) (h : Flats P (u :: us) vs) :
    ∃ (s : ByteArray) (vs' : List Value), vs = .string s :: vs' ∧ (s.size : Int) ≤ IntKind.i64.max ∧ Flats P us vs' := by
  obtain ⟨v, vs', e, h1, h2⟩ := h
  unfold Flat1 at h1
  rw [hu] at h1
  obtain ⟨n, rfl, hn⟩ := h1
  exact ⟨n, vs', e, hn, h2⟩
theorem Flats.bool {P : Program} {u : Nat} {us : List Nat} {vs : List Value} (hu : P.underlying u = some .bool) (h : Flats P (u :: us) vs) : ∃ b vs', vs = .bool b :: vs' ∧ Flats P us vs' := by
  obtain ⟨v, vs', e, h1, h2⟩ := h
  unfold Flat1 at h1
  rw [hu] at h1
  obtain ⟨n, rfl⟩ := h1
  exact ⟨n, vs', e, h2⟩

theorem one_int {P : Program} {w : World} {r : Reach} {base t : Nat} {v : Value} {k : IntKind} (hu : P.underlying t = some (.int k)) (h : Value.okWide P w r base t v) : ∃ n, v = .int k n ∧ k.has n := by
  have h' : Cell.okWide P w r base t v := by
    unfold Value.okWide at h; rw [hu] at h; exact h
  have := flat1_of h'
  unfold Flat1 at this
  rw [hu] at this
  exact this
end Go.Ab
