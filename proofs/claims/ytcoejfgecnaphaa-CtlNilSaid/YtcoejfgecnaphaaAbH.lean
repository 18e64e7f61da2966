/-
  Runs of frames, calls, and what a proof works with: 'AEnds'.
-/
import Derived.Test.YtcoejfgecnaphaaAbG
set_option linter.unusedSimpArgs false
set_option linter.unusedVariables false
namespace Go.Ab
section
variable {P : Program} {T : TT}

theorem runF_mono {call : CallF} {N : Nat} : ∀ (n : Nat) (S : FS), (runF P T call N n S).s.c = true → S.s.c = true ∧ S.s.H.length ≤ (runF P T call N n S).s.H.length
  | 0, S, hc => ⟨hc, Nat.le_refl _⟩
  | n + 1, S, hc => by
    unfold runF at hc ⊢
    split at hc
    · obtain ⟨h1, h2⟩ := runF_mono n _ hc
      obtain ⟨h3, h4⟩ := step_mono h1
      exact ⟨h3, by omega⟩
    · exact ⟨hc, Nat.le_refl _⟩

theorem runF_ends (K : TOK P T) (hm : P.follows .mixedOrders = true) {call : CallF} (C : CallsOK P call) {N : Nat} {ι0 : Ren} {H0 : Heap} {w0 : World} {b : Frame} {RR : Ending → World → Prop} :
    ∀ (n : Nat) (S : FS), (runF P T call N n S).st ≠ 2 → (runF P T call N n S).s.c = true → (∀ i, S.s.H.length ≤ i → i < (runF P T call N n S).s.H.length → ι0 i = none) →
      ∀ (ι : Ren) (a : Act) (w : World), Rel ι0 H0 w0 ι N S.s a w →
      (∀ a' w' ι', Rel ι0 H0 w0 ι' N (runF P T call N n S).s a' w' → Ends P (b.at a' (runF P T call N n S).todo) w' RR) → Ends P (b.at a S.todo) w RR
  | 0, S, _, _, _, ι, a, w, R, hq => hq a w ι R
  | n + 1, S, hst, hc, hf, ι, a, w, R, hq => by
    unfold runF at hst hc hf hq
    split at hst
    · rename_i hs
      simp only [hs] at hc hf hq
      have h1 := runF_mono n _ hc
      have hst1 : (stepF P T call N S).st ≠ 2 := by
        intro e
        have : ∀ n, (runF P T call N n (stepF P T call N S)).st = 2 := fun n => by
          cases n with
          | zero => exact e
          | succ n => simp only [runF, e]
        exact hst (this n)
      have h2 := step_mono h1.1
      exact step_ends K hm C hst1 h1.1 (fun i hi1 hi2 => hf i hi1 (by omega)) R fun a' w' ι' r =>
        runF_ends K hm C n _ hst hc (fun i hi1 hi2 => hf i (by omega) hi2) ι' a' w' r hq
    · rename_i hs
      split at hq
      · rename_i h0; exact absurd h0 hs
      · exact hq a w ι R

theorem mapO_run {α : Type} {f : α → Option AV} {g : α → Sem Value} {ι : Ren} {w : World} (h : ∀ x v, f x = some v → ∃ y, (g x).run P w = .ok y w ∧ VR ι v y) :
    ∀ (l : List α) (vs : List AV), mapO f l = some vs → ∃ ys, (l.mapM g).run P w = .ok ys w ∧ VRs ι vs ys
  | [], vs, hl => by simp only [mapO, Option.some.injEq] at hl; subst hl; exact ⟨[], by simp, rfl⟩
  | x :: l, vs, hl => by
    simp only [mapO] at hl
    split at hl <;> try (cases hl; done)
    rename_i v m h1 h2
    cases hl
    obtain ⟨y, a, b⟩ := h x v h1
    obtain ⟨ys, c, d⟩ := mapO_run h l m h2
    exact ⟨y :: ys, by simp [List.mapM_cons, a, c], y, ys, rfl, b, d⟩

def resF (tmps : Array Value) : ResultVar → Sem Value
  | .tmp t => pure (tmps.getD t undef)
  | .cell c t => do loadVar t (← asAddr (tmps.getD c undef))

theorem results_eq (fn : Func) (tmps : Array Value) : results fn tmps = (do
    let vs ← List.toArray <$> fn.results.toList.mapM (resF tmps)
    pure (if h : vs.size = 1 then vs[0] else .tuple vs) : Sem Value) := by
  unfold results
  rw [Array.mapM_eq_mapM_toList]
  have : (fun x => match x with
      | ResultVar.tmp t => (pure (tmps.getD t undef) : Sem Value)
      | ResultVar.cell a t => do loadVar t (← asAddr (tmps.getD a undef))) = resF tmps := by
    funext x; cases x <;> rfl
  rw [← this]
  rfl

theorem resultA_run (K : TOK P T) {ι0 : Ren} {H0 : Heap} {w0 : World} {ι : Ren} {N : Nat} {s : RS} {a : Act} {w : World} (R : Rel ι0 H0 w0 ι N s a w) (x : ResultVar) (v : AV) (h : resultA T s x = some v) :
    ∃ y, (resF a.tmps x).run P w = .ok y w ∧ VR ι v y := by
  cases x with
  | tmp t => simp only [resultA, Option.some.injEq] at h; subst h; exact ⟨_, rfl, R.tmps t⟩
  | cell c t =>
    simp only [resultA] at h
    cases hl : loadA T t (s.σ c) s.H [] with
    | none => rw [hl] at h; cases h
    | some r =>
      rw [hl] at h
      simp only [Option.bind_some] at h
      split at h <;> try (cases h; done)
      rename_i hc
      cases h
      obtain ⟨z, h1, h2, _⟩ := load_sound K R.emb (R.tmps c) hl hc
      refine ⟨z, ?_, h2⟩
      have hv := R.tmps c
      cases hσ : s.σ c <;> rw [hσ] at hl hv <;> try (cases hl; done)
      obtain ⟨l, _, e⟩ := hv
      simp only [resF]
      rw [e] at h1 ⊢
      simpa [Instr.loadAt, Instr.sureAddr, asAddr] using h1

theorem results_run (K : TOK P T) {ι0 : Ren} {H0 : Heap} {w0 : World} {ι : Ren} {N : Nat} {s : RS} {a : Act} {w : World} (R : Rel ι0 H0 w0 ι N s a w) {fn : Func} {v : AV} (h : resultsA T fn s = some v) :
    ∃ y, (results fn a.tmps).run P w = .ok y w ∧ VR ι v y := by
  unfold resultsA at h
  have key := fun vs => mapO_run (P := P) (g := resF a.tmps) (fun x v hx => resultA_run K R x v hx) fn.results.toList vs
  rw [results_eq]
  split at h <;> try (cases h; done)
  · rename_i x hx
    cases h
    obtain ⟨ys, h1, h2⟩ := key _ hx
    obtain ⟨y, ys', rfl, h3, h4⟩ := h2
    cases h4
    exact ⟨y, by simp [h1], h3⟩
  · rename_i l hne hx
    cases h
    obtain ⟨ys, h1, h2⟩ := key _ hx
    have hl := h2.length
    have : ys.length ≠ 1 := by
      rw [hl]; intro e
      match l, e with
      | [x], _ => exact hne x rfl
    refine ⟨.tuple ys.toArray, ?_, ys, rfl, h2⟩
    simp [h1, this]

/-- The end of a frame. -/
theorem ret_ends (K : TOK P T) {ι0 : Ren} {H0 : Heap} {w0 : World} {ι : Ren} {N : Nat} {s : RS} {a : Act} {w : World} (R : Rel ι0 H0 w0 ι N s a w) {b : Frame} {fn : Func} {v : AV} {todo : List Item}
    (hb : P.funcs[b.fn]? = some fn) (hk : b.kind = .normal) (ht : todo = [] ∨ ∃ k, todo = .code .ret :: k) (h : resultsA T fn s = some v) {RR : Ending → World → Prop}
    (hR : ∀ y, VR ι v y → RR (.returned y) w) : Ends P (b.at a todo) w RR := by
  obtain ⟨y, h1, h2⟩ := results_run K R h
  intro cs
  rcases ht with rfl | ⟨k, rfl⟩
  · exact ⟨.returned y, w, { b.at a [] with mode := .returning }, hR y h2, .one step_end, rfl, rfl, R.defers, hk, fn, hb, h1⟩
  · exact ⟨.returned y, w, { b.at a (.code .ret :: k) with mode := .returning }, hR y h2, .one step_ret, rfl, rfl, R.defers, hk, fn, hb, h1⟩

/-- Behind a whole run the frame is at its end. -/
theorem stepF_done {call : CallF} {N : Nat} {S : FS} (h0 : S.st = 0) (h : (stepF P T call N S).st = 1) : (stepF P T call N S).todo = [] ∨ ∃ k, (stepF P T call N S).todo = .code .ret :: k := by
  obtain ⟨s, todo, st⟩ := S
  dsimp only at h0
  subst h0
  unfold stepF at h ⊢
  dsimp only at h ⊢
  split at h
  · exact .inl rfl
  · exact .inr ⟨_, rfl⟩
  all_goals try (cases h; done)
  · rename_i c x y k
    cases hb : asB (evS s.σ c) s.orc with
    | none => rw [hb] at h; cases h
    | some q => obtain ⟨t, cc, orc⟩ := q; rw [hb] at h; cases t <;> cases h
  · rename_i id k
    cases he : exitTo id k with
    | none => rw [he] at h; cases h
    | some k' => rw [he] at h; cases h
  · rename_i l k
    cases he : gotoIn l k with
    | none => rw [he] at h; cases h
    | some k' => rw [he] at h; cases h
  · rename_i id ops draw k
    cases he : region P T call N ops draw s with
    | none => rw [he] at h; cases h
    | some s' => rw [he] at h; cases h

theorem runF_done {call : CallF} {N : Nat} : ∀ (n : Nat) (S : FS), S.st = 0 → (runF P T call N n S).st = 1 → (runF P T call N n S).todo = [] ∨ ∃ k, (runF P T call N n S).todo = .code .ret :: k
  | 0, S, h0, h => by rw [runF] at h; omega
  | n + 1, S, h0, h => by
    simp only [runF, h0] at h ⊢
    by_cases h1 : (stepF P T call N S).st = 0
    · exact runF_done n _ h1 h
    · have e : runF P T call N n (stepF P T call N S) = stepF P T call N S := by
        cases n with
        | zero => rfl
        | succ n =>
          rw [runF]
          split
          · rename_i h2; exact absurd h2 h1
          · rfl
      rw [e] at h ⊢
      exact stepF_done h0 h

theorem enter_at {f : Nat} {fn : Func} {c : Code} (hf : P.funcs[f]? = some fn) (hb : fn.body = some c) (args : Array Value) :
    Frame.enter P f args .normal = ({ (default : Frame) with fn := f, kind := .normal } : Frame).at { tmps := args ++ Array.replicate (fn.ntmps - args.size) undef, defers := [] } [.code c] := by
  simp [Frame.enter, Frame.at, hf, hb]

theorem calls_of_ends {f : Nat} {args : Array Value} {w : World} {R : Ending → World → Prop} (h : Ends P (Frame.enter P f args .normal) w R) : Calls P f args w R := by
  intro cs
  obtain ⟨e, w', fr', a, b, c, d⟩ := h cs
  exact ⟨e, w', fr', a, b, c, d⟩

theorem enter_rel {ι : Ren} {H : Heap} {w : World} {fn : Func} {args : List AV} {cargs : List Value} {orc : List Dec} (E : Emb ι (hget H) w) (ha : VRs ι args cargs) (hn : args.length ≤ fn.ntmps) :
    Rel ι H w ι fn.ntmps (enterA fn args H orc).s { tmps := cargs.toArray ++ Array.replicate (fn.ntmps - cargs.toArray.size) undef, defers := [] } w := by
  have hl := ha.length
  refine ⟨fun x => ?_, by simp [hl]; omega, rfl, E, Nat.le_refl _, (TrG.refl ι (hget H) w).iff (fun i => by simp [enterA]) (fun i => by simp [enterA])⟩
  simp only [enterA, slots, nth_eq]
  by_cases hx : x < args.length
  · obtain ⟨y, hy, r⟩ := ha.nth x _ (List.getElem?_eq_getElem hx)
    rw [List.getElem?_eq_getElem hx]
    have : (cargs.toArray ++ Array.replicate (fn.ntmps - cargs.toArray.size) undef).getD x undef = y := by
      rw [Array.getD_eq_getD_getElem?, Array.getElem?_append, if_pos (by simp; omega)]
      simp [hy]
    rw [this]; exact r
  · rw [List.getElem?_eq_none (by omega)]
    have : (cargs.toArray ++ Array.replicate (fn.ntmps - cargs.toArray.size) undef).getD x undef = undef := by
      rw [Array.getD_eq_getD_getElem?, Array.getElem?_append, if_neg (by simp; omega)]
      rw [Array.getElem?_replicate]
      split <;> simp
    rw [this]; exact rfl

theorem finish_ok (K : TOK P T) (hm : P.follows .mixedOrders = true) {call : CallF} (C : CallsOK P call) (big : Nat) {f : Nat} {fn : Func} (hfn : T.fn f = some fn) {args : List AV} {H : Heap} {orc : List Dec} (hble : Nat.ble args.length fn.ntmps = true)
    (hbody : fn.body.isSome = true) {r : OR} (h : finishA T fn (runF P T call fn.ntmps big (enterA fn args H orc)) = some r) (hc : r.c = true) : CallOK P f args H r := by
  generalize hrun : runF P T call fn.ntmps big (enterA fn args H orc) = F at h
  obtain ⟨s, todo, st⟩ := F
  unfold finishA at h
  split at h <;> try (cases h; done)
  rename_i s' todo' heq
  cases heq
  split at h <;> try (cases h; done)
  rename_i v hv
  cases h
  dsimp only at hc
  obtain ⟨hP, hname⟩ := K.fn f fn hfn
  obtain ⟨c, hcb⟩ : ∃ c, fn.body = some c := by cases hb : fn.body with
    | none => rw [hb] at hbody; cases hbody
    | some c => exact ⟨c, rfl⟩
  have hn := Nat.le_of_ble_eq_true hble
  have hm1 := runF_mono (P := P) (T := T) (call := call) (N := fn.ntmps) big (enterA fn args H orc) (by rw [hrun]; exact hc)
  rw [hrun] at hm1
  refine ⟨⟨fn, hP, hbody, hname⟩, hm1.2, fun ι w cargs E ha hfr => calls_of_ends ?_⟩
  rw [enter_at hP hcb]
  have R := enter_rel (orc := orc) E ha hn
  have hto : (enterA fn args H orc).todo = [.code c] := by simp [enterA, hcb]
  rw [← hto]
  refine runF_ends K hm C big (enterA fn args H orc) (by rw [hrun]; exact fun e => by cases e) (by rw [hrun]; exact hc) (fun i h1 h2 => hfr i h1 (by rw [hrun] at h2; exact h2)) ι _ w R fun a' w' ι' r => ?_
  have hd := runF_done (P := P) (T := T) (call := call) (N := fn.ntmps) big (enterA fn args H orc) rfl (by rw [hrun])
  rw [hrun] at r hd ⊢
  exact ret_ends K r hP rfl hd hv fun y hy => ⟨ι', y, rfl, hy, r.emb, r.tr⟩

/-- CALLS BY THE TEXTS. -/
theorem callA_ok (K : TOK P T) (hm : P.follows .mixedOrders = true) {X : CallF} (hX : CallsOK P X) : ∀ d, CallsOK P (callA P T X d)
  | 0 => fun f args H orc r h hc => hX f args H orc r h hc
  | d + 1 => fun f args H orc r h hc => by
    simp only [callA] at h
    split at h
    · rename_i r' hx; cases h; exact hX f args H orc r hx hc
    · split at h <;> try (cases h; done)
      rename_i fn hfn
      split at h <;> try (cases h; done)
      rename_i hble
      split at h <;> try (cases h; done)
      rename_i hbody
      exact finish_ok K hm (callA_ok K hm hX d) bigN hfn hble hbody h hc

/-! ### what a proof works with -/

def Post := AV → Heap → List Nat → Prop

/-- The abstract frame S comes to an end at which Q holds (and so does each concrete frame that it stands for). -/
def AEnds (P : Program) (f N : Nat) (H0 : Heap) (S : FS) (Q : Post) : Prop :=
  ∃ m, ∀ (ι0 : Ren) (w0 : World) (ι : Ren) (a : Act) (w : World) (b : Frame), (∀ i, S.s.H.length ≤ i → i < S.s.H.length + m → ι0 i = none) → Rel ι0 H0 w0 ι N S.s a w → b.fn = f → b.kind = .normal →
    Ends P (b.at a S.todo) w fun e w' => ∃ ι' y rv H' wr, e = .returned y ∧ VR ι' rv y ∧ Q rv H' wr ∧ Emb ι' (hget H') w' ∧ H0.length ≤ H'.length ∧ H'.length ≤ S.s.H.length + m ∧
      TrG ι0 ι' (hget H0) (hget H') (fun i => H0.length ≤ i ∧ i < H'.length) (fun i => i ∈ wr) w0 w'

theorem AEnds.run (K : TOK P T) (hm : P.follows .mixedOrders = true) {call : CallF} (C : CallsOK P call) {f N : Nat} {H0 : Heap} {S : FS} {Q : Post} (n : Nat) (hst : (runF P T call N n S).st ≠ 2)
    (hc : (runF P T call N n S).s.c = true) (h : AEnds P f N H0 (runF P T call N n S) Q) : AEnds P f N H0 S Q := by
  obtain ⟨m, hm2⟩ := h
  have hmono := (runF_mono n S hc).2
  refine ⟨(runF P T call N n S).s.H.length - S.s.H.length + m, fun ι0 w0 ι a w b hfr R hb hk => ?_⟩
  refine runF_ends K hm C n S hst hc (fun i h1 h2 => hfr i h1 (by omega)) ι a w R fun a' w' ι' r => ?_
  refine (hm2 ι0 w0 ι' a' w' b (fun i h1 h2 => hfr i (by omega) (by omega)) r hb hk).mono fun e w'' => ?_
  rintro ⟨ι2, y, rv, H', wr, h1, h2, h3, h4, h5, h6, h7⟩
  exact ⟨ι2, y, rv, H', wr, h1, h2, h3, h4, h5, by omega, h7⟩

theorem AEnds.ret (K : TOK P T) {f N : Nat} {fn : Func} (hf : P.funcs[f]? = some fn) {H0 : Heap} {S : FS} {Q : Post} {v : AV} (ht : S.todo = [] ∨ ∃ k, S.todo = .code .ret :: k) (hv : resultsA T fn S.s = some v)
    (hq : Q v S.s.H S.s.wr) : AEnds P f N H0 S Q := by
  refine ⟨0, fun ι0 w0 ι a w b _ R hb hk => ?_⟩
  refine ret_ends K R (by rw [hb]; exact hf) hk ht hv fun y hy => ?_
  exact ⟨ι, y, v, S.s.H, S.s.wr, rfl, hy, hq, R.emb, R.le, by omega, R.tr⟩

theorem AEnds.mono {f N : Nat} {H0 : Heap} {S : FS} {Q Q' : Post} (h : AEnds P f N H0 S Q) (hq : ∀ v H wr, Q v H wr → Q' v H wr) : AEnds P f N H0 S Q' := by
  obtain ⟨m, h⟩ := h
  refine ⟨m, fun ι0 w0 ι a w b hfr R hb hk => (h ι0 w0 ι a w b hfr R hb hk).mono fun e w' => ?_⟩
  rintro ⟨ι2, y, rv, H', wr, h1, h2, h3, h4⟩
  exact ⟨ι2, y, rv, H', wr, h1, h2, hq _ _ _ h3, h4⟩

/-- Blocks are forgotten, values too. -/
theorem AEnds.forget {f N : Nat} {H0 : Heap} {S S' : FS} {Q : Post} (hto : S'.todo = S.todo) (hσ : ∀ x, S'.s.σ x = S.s.σ x ∨ S'.s.σ x = .junk) (hl : S'.s.H.length = S.s.H.length)
    (hh : ∀ i o, hget S'.s.H i = some o → hget S.s.H i = some o) (hgone : ∀ i, i < S.s.H.length → hget S'.s.H i = none → hget S.s.H i = none ∨ H0.length ≤ i) (hwr : S'.s.wr = S.s.wr)
    (h : AEnds P f N H0 S' Q) : AEnds P f N H0 S Q := by
  obtain ⟨m, h⟩ := h
  refine ⟨m, fun ι0 w0 ι a w b hfr R hb hk => ?_⟩
  rw [← hto, ← hl]
  refine h ι0 w0 ι a w b (fun i h1 h2 => hfr i (by omega) (by omega)) ⟨fun x => ?_, R.size, R.defers, R.emb.less hh, by rw [hl]; exact R.le, ?_⟩ hb hk
  · rcases hσ x with e | e
    · rw [e]; exact R.tmps x
    · rw [e]; trivial
  · have t := R.tr
    rw [hwr, hl]
    refine ⟨t.ext, fun i hi hw => ?_, t.live, t.mono, t.kept, fun i hi l hli hne => t.neu i hi l hli (fun e => ?_), t.os⟩
    · -- an old block that was not written is as it was; it is not forgotten
      by_cases h1 : i < S.s.H.length
      · cases e : hget S'.s.H i with
        | some o => rw [← t.same i hi hw, hh i o e]
        | none =>
          rcases hgone i h1 e with h2 | h2
          · rw [← t.same i hi hw, h2]
          · exact absurd ⟨h2, h1⟩ hi
      · rw [hget_none _ _ (by omega), ← t.same i hi hw, hget_none _ _ (by omega)]
    · cases e' : hget S'.s.H i with
      | none => exact hne e'
      | some o => rw [hh i o e'] at e; cases e
end
end Go.Ab
