/-
  Frames: each step of the abstract frame stands for steps of the machine; calls by their texts.
-/
import Derived.Test.YtcoejfgecnaphaaAbF
import Derived.ScopeJumps
set_option linter.unusedSimpArgs false
set_option linter.unusedVariables false
namespace Go.Ab
section
variable {P : Program} {T : TT}

/-- A frame comes to its end so. -/
def Ends (P : Program) (fr : Frame) (w : World) (R : Ending → World → Prop) : Prop :=
  ∀ cs, ∃ e w' fr', R e w' ∧ Comes P (lone fr cs w) (lone fr' cs w') e ∧ fr'.fn = fr.fn ∧ fr'.leaving P w' e

theorem Ends.of_steps {fr fr1 : Frame} {w w1 : World} {R : Ending → World → Prop} (hs : ∀ cs, Steps P (lone fr cs w) (lone fr1 cs w1)) (hf : fr1.fn = fr.fn) (h : Ends P fr1 w1 R) : Ends P fr w R := by
  intro cs
  obtain ⟨e, w', fr', a, b, c, d⟩ := h cs
  exact ⟨e, w', fr', a, Comes.of_steps (hs cs) b, by rw [c, hf], d⟩

theorem Ends.mono {fr : Frame} {w : World} {R R' : Ending → World → Prop} (h : Ends P fr w R) (hr : ∀ e w', R e w' → R' e w') : Ends P fr w R' :=
  fun cs => let ⟨e, w', fr', a, b⟩ := h cs; ⟨e, w', fr', hr _ _ a, b⟩

theorem step_scope' {b : Frame} {a : Act} {k : List Item} {cs : List Frame} {w : World} {c : Code} :
    step P (lone (b.at a (.code (.scope c) :: k)) cs w) = .next (lone (b.at a (.code c :: .inScope c :: k)) cs w) :=
  step_lone_go (by simp [stepG, stepG.exec, Frame.at])
theorem step_inScope' {b : Frame} {a : Act} {k : List Item} {cs : List Frame} {w : World} {c : Code} :
    step P (lone (b.at a (.inScope c :: k)) cs w) = .next (lone (b.at a k) cs w) :=
  step_lone_go (by simp [stepG, stepG.exec, Frame.at])

theorem at_fn (b : Frame) (a : Act) (k : List Item) : (b.at a k).fn = b.fn := rfl

theorem ask_true {x y c : Bool} {l l' : List Dec} (h : ask x l = some (y, c, l')) : c = true → y = x := ask_eq h

/-- A region. -/
theorem region_ends (K : TOK P T) (hm : P.follows .mixedOrders = true) {call : CallF} (C : CallsOK P call) {N : Nat} {id : Nat} {ops : Array Oper} {draw : Bool} {s s' : RS} (h : region P T call N ops draw s = some s') (hc : s'.c = true)
    {ι0 : Ren} {H0 : Heap} {w0 : World} (hf : ∀ i, s.H.length ≤ i → i < s'.H.length → ι0 i = none) {ι : Ren} {a : Act} {w : World} (R : Rel ι0 H0 w0 ι N s a w) {b : Frame} {k : List Item} {RR : Ending → World → Prop}
    (hq : ∀ a' w' ι', Rel ι0 H0 w0 ι' N s' a' w' → Ends P (b.at a' k) w' RR) : Ends P (b.at a (.code (.region id ops draw) :: k)) w RR := by
  unfold region at h
  split at h <;> try (cases h; done)
  rename_i s1 tr hr
  have wp : ((Code.region id ops draw).wp P (fun e a' w' => e = .normal ∧ ∃ ι', Rel ι0 H0 w0 ι' N s' a' w') a w) := by
    have e : ops.toList.toArray = ops := by simp
    have e2 : ops.toList.length = ops.size := by simp
    cases draw with
    | false =>
      cases h
      refine wp_region ?_
      have := seq_region K C (Q := fun e a' w' => e = .normal ∧ ∃ ι', Rel ι0 H0 w0 ι' N s' a' w') hr hc hf R (fun a' w' ι' r => ⟨rfl, ι', r⟩)
      rwa [e, e2] at this
    | true =>
      dsimp only at h
      split at h <;> try (cases h; done)
      rename_i hind
      cases h
      refine wp_region_any hm ?_
      have R' : Rel ι0 H0 w0 ι N s a { w with drawn := w.drawn + 1 } := ⟨R.tmps, R.size, R.defers, Emb.heap (w := w) (w' := { w with drawn := w.drawn + 1 }) rfl R.emb, R.le, ⟨R.tr.ext, R.tr.same, R.tr.live, R.tr.mono, R.tr.kept, R.tr.neu, R.tr.os⟩⟩
      have := draw_region K C (Q := fun e a' w' => e = .normal ∧ ∃ ι', Rel ι0 H0 w0 ι' N s' a' w') hr hc hind hf R' (fun a' w' ι' r => ⟨rfl, ι', r⟩)
      rwa [e, e2] at this
  intro cs
  obtain ⟨e, a', w', ⟨rfl, ι', r⟩, harr⟩ := wp b k cs
  obtain ⟨e, w2, fr', h1, h2, h3, h4⟩ := hq a' w' ι' r cs
  exact ⟨e, w2, fr', h1, Comes.of_steps harr h2, h3, h4⟩

/-- What a region leaves of the conditions and of the heap's length. -/
theorem region_mono {call : CallF} {N : Nat} {ops : Array Oper} {draw : Bool} {s s' : RS} (h : region P T call N ops draw s = some s') (hc : s'.c = true) : s.c = true ∧ s.H.length ≤ s'.H.length := by
  unfold region at h
  split at h <;> try (cases h; done)
  rename_i s1 tr hr
  have e : s1 = s' := by
    cases draw
    · cases h; rfl
    · dsimp only at h
      split at h <;> try (cases h; done)
      cases h; rfl
  subst e
  obtain ⟨b1, b2, _⟩ := trace_at (σ0 := s.σ) (h0 := hget s.H) tr ops.toList 0 s s1 tr [] hr hc rfl rfl rfl rfl
  exact ⟨b1, b2⟩

theorem step_mono {call : CallF} {N : Nat} {S : FS} (hc : (stepF P T call N S).s.c = true) : S.s.c = true ∧ S.s.H.length ≤ (stepF P T call N S).s.H.length := by
  obtain ⟨s, todo, st⟩ := S
  unfold stepF at hc ⊢
  dsimp only at hc ⊢
  split at hc
  all_goals try exact ⟨hc, Nat.le_refl _⟩
  · rename_i c x y k
    cases hb : asB (evS s.σ c) s.orc with
    | none => rw [hb] at hc; exact ⟨hc, Nat.le_refl _⟩
    | some q =>
      obtain ⟨t, cc, orc⟩ := q
      rw [hb] at hc
      cases t <;> (dsimp only at hc ⊢; simp only [Bool.and_eq_true] at hc; exact ⟨hc.1, Nat.le_refl _⟩)
  · rename_i id k
    cases he : exitTo id k with
    | none => rw [he] at hc; exact ⟨hc, Nat.le_refl _⟩
    | some k' => rw [he] at hc; exact ⟨hc, Nat.le_refl _⟩
  · rename_i l k
    cases he : gotoIn l k with
    | none => rw [he] at hc; exact ⟨hc, Nat.le_refl _⟩
    | some k' => rw [he] at hc; exact ⟨hc, Nat.le_refl _⟩
  · rename_i id ops draw k
    cases he : region P T call N ops draw s with
    | none => rw [he] at hc; exact ⟨hc, Nat.le_refl _⟩
    | some s' => rw [he] at hc; exact region_mono he hc

theorem step_ends (K : TOK P T) (hm : P.follows .mixedOrders = true) {call : CallF} (C : CallsOK P call) {N : Nat} {S : FS} (hst : (stepF P T call N S).st ≠ 2) (hc : (stepF P T call N S).s.c = true)
    {ι0 : Ren} {H0 : Heap} {w0 : World} (hf : ∀ i, S.s.H.length ≤ i → i < (stepF P T call N S).s.H.length → ι0 i = none) {ι : Ren} {a : Act} {w : World} (R : Rel ι0 H0 w0 ι N S.s a w) {b : Frame} {RR : Ending → World → Prop}
    (hq : ∀ a' w' ι', Rel ι0 H0 w0 ι' N (stepF P T call N S).s a' w' → Ends P (b.at a' (stepF P T call N S).todo) w' RR) : Ends P (b.at a S.todo) w RR := by
  obtain ⟨s, todo, st⟩ := S
  unfold stepF at hst hc hf hq
  dsimp only at hst hc hf hq R ⊢
  split at hst
  · exact hq a w ι R
  · exact hq a w ι R
  · exact Ends.of_steps (fun cs => .one step_skip) rfl (hq a w ι R)
  · exact Ends.of_steps (fun cs => .one step_label) rfl (hq a w ι R)
  · exact Ends.of_steps (fun cs => .one step_inBlock) rfl (hq a w ι R)
  · exact Ends.of_steps (fun cs => .one step_inScope') rfl (hq a w ι R)
  · exact Ends.of_steps (fun cs => .one step_seq) rfl (hq a w ι R)
  · -- a test
    rename_i c x y k
    dsimp only at hst hc hf hq
    have hv : VR ι (evS s.σ c) (a.eval c) := evS_VR fun t ht => R.tmps t
    cases hb : asB (evS s.σ c) s.orc with
    | none => rw [hb] at hst; exact absurd rfl hst
    | some q =>
      obtain ⟨t, cc, orc⟩ := q
      rw [hb] at hst hc hf hq
      cases t with
      | true =>
        dsimp only at hst hc hf hq
        simp only [Bool.and_eq_true] at hc
        have he := asB_run hv hb hc.2
        refine Ends.of_steps (fun cs => .one (step_cond he)) rfl ?_
        exact hq a w ι ⟨R.tmps, R.size, R.defers, R.emb, R.le, R.tr⟩
      | false =>
        dsimp only at hst hc hf hq
        simp only [Bool.and_eq_true] at hc
        have he := asB_run hv hb hc.2
        refine Ends.of_steps (fun cs => .one (step_cond he)) rfl ?_
        exact hq a w ι ⟨R.tmps, R.size, R.defers, R.emb, R.le, R.tr⟩
  · exact Ends.of_steps (fun cs => .one step_block) rfl (hq a w ι R)
  · exact Ends.of_steps (fun cs => .one step_loop) rfl (hq a w ι R)
  · exact Ends.of_steps (fun cs => .one step_inLoop) rfl (hq a w ι R)
  · exact Ends.of_steps (fun cs => .one step_scope') rfl (hq a w ι R)
  · rename_i id k
    dsimp only at hst hc hf hq
    cases he : exitTo id k with
    | none => rw [he] at hst; exact absurd rfl hst
    | some k' =>
      rw [he] at hst hc hf hq
      exact Ends.of_steps (fun cs => .one (step_exit he)) rfl (hq a w ι R)
  · rename_i l k
    dsimp only at hst hc hf hq
    cases he : gotoIn l k with
    | none => rw [he] at hst; exact absurd rfl hst
    | some k' =>
      rw [he] at hst hc hf hq
      exact Ends.of_steps (fun cs => .one (step_goto he)) rfl (hq a w ι R)
  · rename_i id ops draw k
    dsimp only at hst hc hf hq
    cases he : region P T call N ops draw s with
    | none => rw [he] at hst; exact absurd rfl hst
    | some s' =>
      rw [he] at hst hc hf hq
      exact region_ends K hm C he hc hf R hq
  · exact absurd rfl hst
end
end Go.Ab
