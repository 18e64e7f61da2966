/-
  Regions: what a run in the text's order leaves as its trace; one operation at any time; regions in the text's order.
-/
import Derived.Test.YtcoejfgecnaphaaAbC
set_option linter.unusedSimpArgs false
set_option linter.unusedVariables false
namespace Go.Ab
section
variable {P : Program} {T : TT}

theorem rng_mem {i : Nat} : ∀ {n a : Nat}, i ∈ rng a n ↔ a ≤ i ∧ i < a + n
  | 0, a => by simp [rng]
  | n + 1, a => by simp only [rng, List.mem_cons, rng_mem (n := n)]; omega

theorem ws_mem {t : TE} {i : Nat} : i ∈ t.ws ↔ i ∈ t.wr ∨ (t.n ≤ i ∧ i < t.H'.length) := by
  unfold TE.ws
  rw [List.mem_append, rng_mem]
  constructor
  · rintro (h | h)
    · exact .inl h
    · exact .inr (by omega)
  · rintro (h | h)
    · exact .inl h
    · exact .inr (by omega)

def fS (tr : List TE) (k x : Nat) : Option AV := match tr[k]? with
  | some t => if t.o.dst = some x then some t.v else none
  | none => none

def fH (tr : List TE) (k i : Nat) : Option (Option AObj) := match tr[k]? with
  | some t => if i ∈ t.ws then some (hget t.H' i) else none
  | none => none

theorem updO_at (σ : Nat → AV) (d : Option Nat) (v : AV) (x : Nat) : updO σ d v x = if d = some x then v else σ x := by
  cases d with
  | none => simp [updO]
  | some t =>
    simp only [updO, upd]
    cases h : Nat.beq x t with
    | true => have := Nat.eq_of_beq_eq_true h; subst this; simp
    | false => have := Nat.ne_of_beq_eq_false h; simp [Ne.symm this]

/-- What the trace says of one operation, met in state s. -/
structure Rec (P : Program) (T : TT) (call : CallF) (N : Nat) (all : List Oper) (s : RS) (t : TE) : Prop where
  dst : ∀ d, t.o.dst = some d → d < N
  n : t.n = s.H.length
  skip : t.ran = false → wantA N all s.σ t.o = some false ∧ t.v = .v undef ∧ t.fp = [] ∧ t.wr = [] ∧ t.H' = []
  run : t.ran = true → wantA N all s.σ t.o = some true ∧ t.fp = fpA (evS s.σ) t.o s.H ∧
    ∃ r g c orc, opC P T call (evS s.σ) t.o (rst t.fp 0 s.H) s.orc = some r ∧ r.c = true ∧ refine g r.v r.orc = some (t.v, c, orc) ∧ c = true ∧ t.wr = r.wr ∧ t.H' = r.H ∧ s.H.length ≤ r.H.length
  wr : ∀ i ∈ t.wr, i < t.H'.length ∧ (i ∈ t.fp ∨ t.n ≤ i)

/-- THE TRACE. -/
theorem trace_at {call : CallF} {N : Nat} {all : List Oper} {σ0 : Nat → AV} {h0 : Nat → Option AObj} (full : List TE) :
    ∀ (rest : List Oper) (k : Nat) (s s' : RS) (tr pre : List TE), regGo P T call N all rest k s = some (s', tr) → s'.c = true → full = pre ++ tr → k = pre.length →
      s.σ = gD (fS full) σ0 (fun _ => true) k → hget s.H = gD (fH full) h0 (fun _ => true) k →
      s.c = true ∧ s.H.length ≤ s'.H.length ∧ tr.map (·.o) = rest ∧ s'.σ = gD (fS full) σ0 (fun _ => true) full.length ∧ hget s'.H = gD (fH full) h0 (fun _ => true) full.length ∧
      (∀ i, i ∈ s'.wr ↔ i ∈ s.wr ∨ ∃ t ∈ tr, i ∈ t.wr) ∧
      ∀ j t, full[j]? = some t → k ≤ j → s.H.length ≤ t.n ∧ t.n ≤ s'.H.length ∧ t.H'.length ≤ s'.H.length ∧
        (∀ i t', full[i]? = some t' → k ≤ i → i < j → t'.H'.length ≤ t.n) ∧
        ∃ sj : RS, sj.σ = gD (fS full) σ0 (fun _ => true) j ∧ hget sj.H = gD (fH full) h0 (fun _ => true) j ∧ Rec P T call N all sj t := by
  intro rest
  induction rest with
  | nil =>
    intro k s s' tr pre h hc hf hk hσ hH
    simp only [regGo, Option.some.injEq, Prod.mk.injEq] at h
    obtain ⟨rfl, rfl⟩ := h
    simp only [List.append_nil] at hf
    subst hf
    refine ⟨hc, Nat.le_refl _, rfl, by rw [hσ, hk], by rw [hH, hk], by simp, fun j t ht hj => ?_⟩
    rw [List.getElem?_eq_none (by omega)] at ht; cases ht
  | cons o rest ih =>
    intro k s s' tr pre h hc hf hk hσ hH
    simp only [regGo] at h
    split at h <;> try (cases h; done)
    · -- it is passed over
      rename_i hd hw
      split at h <;> try (cases h; done)
      rename_i s1 l hr
      cases h
      have hat : full[k]? = some ⟨o, .v undef, [], [], s.H.length, [], [], false⟩ := by rw [hf, hk]; simp
      have hws : ∀ i, ¬ (i ∈ (⟨o, .v undef, [], [], s.H.length, [], [], false⟩ : TE).ws) := fun i hi => by
        rw [ws_mem] at hi; rcases hi with hi | hi
        · cases hi
        · exact absurd hi.2 (by simp)
      obtain ⟨a1, a2, a3, a4, a5, a6, a7⟩ := ih (k + 1) _ s' l (pre ++ [⟨o, .v undef, [], [], s.H.length, [], [], false⟩]) hr hc (by rw [hf]; simp) (by simp [hk])
        (by
          funext x
          simp only [updO_at, gD, fS, hat]
          by_cases hx : o.dst = some x
          · rw [if_pos hx]; simp [hx]
          · rw [if_neg hx]; simp [hx, hσ])
        (by
          funext i
          simp only [gD, fH, hat, if_neg (hws i)]
          rw [hH])
      have rec0 : Rec P T call N all s ⟨o, .v undef, [], [], s.H.length, [], [], false⟩ :=
        ⟨fun d hd' => by dsimp only at hd'; rw [hd'] at hd; exact Nat.le_of_ble_eq_true hd, rfl, fun _ => ⟨hw, rfl, rfl, rfl, rfl⟩, fun hr => (by cases hr), fun i hi => (by cases hi)⟩
      refine ⟨a1, a2, by simp [a3], a4, a5, fun i => by rw [a6]; simp, fun j t ht hj => ?_⟩
      by_cases e : j = k
      · subst e
        rw [hat] at ht; cases ht
        exact ⟨Nat.le_refl _, a2, Nat.zero_le _, fun i t' _ h1 h2 => by omega, s, hσ, hH, rec0⟩
      · obtain ⟨b1, b2, b3, b4, b5⟩ := a7 j t ht (by omega)
        refine ⟨b1, b2, b3, fun i t' hi h1 h2 => ?_, b5⟩
        by_cases e' : i = k
        · subst e'; rw [hat] at hi; cases hi; exact Nat.zero_le _
        · exact b4 i t' hi (by omega) h2
    · -- it is run
      rename_i hd hw
      split at h <;> try (cases h; done)
      rename_i r hop
      split at h <;> try (cases h; done)
      rename_i v c orc hle href
      split at h <;> try (cases h; done)
      rename_i s1 l hr
      cases h
      simp only [Bool.and_eq_true, List.all_eq_true, Bool.or_eq_true] at hle
      obtain ⟨hle, hwr⟩ := hle
      have hle := Nat.le_of_ble_eq_true hle
      have hat : full[k]? = some ⟨o, v, fpA (evS s.σ) o s.H, r.wr, s.H.length, rst (fpA (evS s.σ) o s.H) 0 s.H, r.H, true⟩ := by rw [hf, hk]; simp
      obtain ⟨a1, a2, a3, a4, a5, a6, a7⟩ := ih (k + 1) _ s' l (pre ++ [⟨o, v, fpA (evS s.σ) o s.H, r.wr, s.H.length, rst (fpA (evS s.σ) o s.H) 0 s.H, r.H, true⟩]) hr hc (by rw [hf]; simp) (by simp [hk])
        (by
          funext x
          simp only [updO_at, gD, fS, hat]
          by_cases hx : o.dst = some x
          · rw [if_pos hx]; simp [hx]
          · rw [if_neg hx]; simp [hx, hσ])
        (by
          funext i
          simp only [gD, fH, hat]
          rw [hget_mrg _ _ _ _ hle]
          by_cases hi : i ∈ (⟨o, v, fpA (evS s.σ) o s.H, r.wr, s.H.length, rst (fpA (evS s.σ) o s.H) 0 s.H, r.H, true⟩ : TE).ws
          · rw [if_pos hi]
            rw [ws_mem] at hi
            dsimp only at hi
            rw [if_neg]
            rintro ⟨h1, h2⟩
            rcases hi with hi | hi
            · exact h2 hi
            · omega
          · rw [if_neg hi]
            rw [ws_mem] at hi
            dsimp only at hi
            by_cases h1 : i < s.H.length
            · rw [if_pos ⟨h1, fun h => hi (.inl h)⟩, hH]
            · rw [if_neg (fun h => h1 h.1), hget_none r.H i (Nat.le_of_not_lt fun h => hi (.inr ⟨by omega, h⟩))]
              dsimp only
              rw [← hH, hget_none s.H i (by omega)])
      dsimp only at a1 a2 a6 a7
      simp only [Bool.and_eq_true] at a1
      obtain ⟨⟨c1, c2⟩, c3⟩ := a1
      rw [length_mrg _ _ _ _ hle] at a2 a7
      have rec0 : Rec P T call N all s ⟨o, v, fpA (evS s.σ) o s.H, r.wr, s.H.length, rst (fpA (evS s.σ) o s.H) 0 s.H, r.H, true⟩ :=
        ⟨fun d hd' => by dsimp only at hd'; rw [hd'] at hd; exact Nat.le_of_ble_eq_true hd, rfl, fun hr => (by cases hr), fun _ => ⟨hw, rfl, r, _, c, orc, hop, c2, href, c3, rfl, rfl, hle⟩, fun i hi => ⟨Nat.le_of_ble_eq_true (hwr i hi).1, (hwr i hi).2.elim (fun h => .inl (mem_iff.1 h)) (fun h => .inr (Nat.le_of_ble_eq_true h))⟩⟩
      refine ⟨c1, by omega, by simp [a3], a4, a5, fun i => ?_, fun j t ht hj => ?_⟩
      · rw [a6]; simp only [List.mem_append, List.mem_cons, exists_eq_or_imp]
        constructor
        · rintro ((h | h) | h)
          · exact .inr (.inl h)
          · exact .inl h
          · exact .inr (.inr h)
        · rintro (h | h | h)
          · exact .inl (.inr h)
          · exact .inl (.inl h)
          · exact .inr h
      · by_cases e : j = k
        · subst e
          rw [hat] at ht; cases ht
          exact ⟨Nat.le_refl _, by dsimp only; omega, a2, fun i t' _ h1 h2 => by omega, s, hσ, hH, rec0⟩
        · obtain ⟨b1, b2, b3, b4, b5⟩ := a7 j t ht (by omega)
          refine ⟨by omega, b2, b3, fun i t' hi h1 h2 => ?_, b5⟩
          by_cases e' : i = k
          · subst e'; rw [hat] at hi; cases hi; exact b1
          · exact b4 i t' hi (by omega) h2

theorem want_run {ι : Ren} {N : Nat} {all : List Oper} {σ : Nat → AV} {o : Oper} {b : Bool} {tmps : Array Value} (h : wantA N all σ o = some b) (hs : tmps.size = N)
    (hv : ∀ t ∈ looks all o, VR ι (σ t) (tmps.getD t undef)) : Region.wanted o (yielded all.toArray tmps) = b := by
  unfold wantA at h
  unfold Region.wanted
  cases hg : o.guard with
  | none => rw [hg] at h; cases h; rfl
  | some jw =>
    obtain ⟨j, want⟩ := jw
    rw [hg] at h
    dsimp only at h ⊢
    cases hd : (nth all j).bind (·.dst) with
    | none => rw [hd] at h; cases h
    | some t =>
      rw [hd] at h
      dsimp only at h
      have hl : t ∈ looks all o := by
        unfold looks
        rw [hg]
        apply List.mem_append_right
        dsimp only
        rw [hd]; simp
      have hvt := hv t hl
      cases hb : Nat.blt t N with
      | false => rw [hb] at h; cases h
      | true =>
        have hlt : t < N := Nat.le_of_ble_eq_true hb
        have hlt' : t < tmps.size := by rw [hs]; exact hlt
        rw [hb] at h
        have hy : yielded all.toArray tmps j = match tmps[t]? with
            | some (.bool b) => some b
            | _ => none := by
          unfold yielded
          rw [nth_eq] at hd
          have : ((all.toArray[j]?).bind (·.dst)) = some t := by simpa using hd
          rw [this]; rfl
        rw [hy, Array.getElem?_eq_getElem hlt']
        have hg2 : tmps.getD t undef = tmps[t] := by simp [Array.getD, hlt']
        rw [hg2] at hvt
        cases hσ : σ t <;> rw [hσ] at h hvt <;> try (cases h; done)
        · rename_i v
          cases v <;> try (cases h; done)
          cases h
          rw [show tmps[t] = _ from hvt]
          rfl
        · rename_i x
          cases h
          rw [show tmps[t] = _ from hvt]
          cases x <;> cases want <;> rfl

theorem evS_VR {ι : Ren} {σ : Nat → AV} {a : Act} {x : Operand} (h : ∀ t, x = .tmp t → VR ι (σ t) (a.tmps.getD t undef)) : VR ι (evS σ x) (a.eval x) := by
  cases x with
  | tmp t => exact h t rfl
  | const v => rfl
  | global g => trivial
  | func f => exact ⟨[], [], rfl, rfl, rfl⟩

theorem refine_VR {ι : Ren} {g : Bool} {x v : AV} {y : Value} {orc orc' : List Dec} {c : Bool} (h : refine g x orc = some (v, c, orc')) (hc : c = true) (hx : VR ι x y) : VR ι v y := by
  cases g with
  | false => simp [refine] at h; obtain ⟨rfl, _⟩ := h; exact hx
  | true =>
    simp only [refine] at h
    split at h
    · rename_i b c' orc'' hb
      cases h
      exact asB_run hx hb hc
    · cases h; exact hx

/-- ONE OPERATION, at a time when what it looks at is as it was in the text's order. -/
theorem step_at (K : TOK P T) {call : CallF} (C : CallsOK P call) {N : Nat} {all : List Oper} {s : RS} {t : TE} (R : Rec P T call N all s t) {k : Nat} (hk : all[k]? = some t.o) {Q : Exit → Act → World → Prop}
    {ι : Ren} {σc : Nat → AV} {hc : Nat → Option AObj} {a : Act} {w : World} (hσ : ∀ x ∈ looks all t.o, σc x = s.σ x) (hh : ∀ i ∈ t.fp, hc i = hget s.H i)
    (hn : ∀ i, t.n ≤ i → i < t.H'.length → hc i = none ∧ ι i = none) (hv : ∀ x, VR ι (σc x) (a.tmps.getD x undef)) (hsz : a.tmps.size = N) (E : Emb ι hc w)
    {next : Act → World → Prop}
    (hk2 : ∀ a' w' ι' hc', (∀ x, VR ι' (updO σc t.o.dst t.v x) (a'.tmps.getD x undef)) → a'.tmps.size = N → a'.defers = a.defers → Emb ι' hc' w' →
      (∀ i, hc' i = if i ∈ t.ws then hget t.H' i else hc i) → TrG ι ι' hc hc' (fun i => t.n ≤ i ∧ i < t.H'.length) (fun i => i ∈ t.wr) w w' → next a' w') :
    wpOp P all.toArray Q k next a w := by
  have hsl : ∀ x ∈ looks all t.o, VR ι (s.σ x) (a.tmps.getD x undef) := fun x hx => by rw [← hσ x hx]; exact hv x
  have puts : ∀ {ι' : Ren} {v' : Value}, Le ι ι' → VR ι' t.v v' → (∀ x, VR ι' (updO σc t.o.dst t.v x) ((a.put t.o.dst v').tmps.getD x undef)) ∧ (a.put t.o.dst v').tmps.size = N ∧ (a.put t.o.dst v').defers = a.defers := by
    intro ι' v' hle hv'
    cases hd : t.o.dst with
    | none => exact ⟨fun x => by simp only [updO, Act.put]; exact (hv x).mono hle, hsz, rfl⟩
    | some d =>
      have hdN := R.dst d hd
      refine ⟨fun x => ?_, by simp [Act.put, hsz], rfl⟩
      rw [updO_at]
      by_cases e : d = x
      · subst e
        rw [if_pos rfl]
        have : (a.put (some d) v').tmps.getD d undef = v' := by
          have hlt : d < a.tmps.size := by rw [hsz]; exact hdN
          simp [Act.put, Array.getD, hlt]
        rw [this]; exact hv'
      · rw [if_neg (by simp [e])]
        have : (a.put (some d) v').tmps.getD x undef = a.tmps.getD x undef := by
          simp [Act.put, Array.getElem?_setIfInBounds_ne e]
        rw [this]; exact (hv x).mono hle
  unfold wpOp
  have hk' : all.toArray[k]? = some t.o := by simpa using hk
  rw [hk']
  dsimp only
  cases hr : t.ran with
  | false =>
    obtain ⟨h1, h2, h3, h4, h5⟩ := R.skip hr
    rw [want_run h1 hsz hsl]
    simp only [Bool.false_eq_true, if_false]
    obtain ⟨p1, p2, p3⟩ := puts (ι' := ι) (v' := undef) (fun _ _ h => h) (by rw [h2]; rfl)
    have hw0 : ∀ i, ¬ i ∈ t.ws := fun i hi => by
      rw [ws_mem, h4, h5] at hi; rcases hi with hi | hi
      · cases hi
      · exact absurd hi.2 (by simp)
    refine hk2 _ w ι hc p1 p2 p3 E (fun i => by rw [if_neg (hw0 i)]) ((TrG.refl ι hc w).iff (fun i => ?_) (fun i => ?_))
    · rw [h5]; simp
    · rw [h4]; simp
  | true =>
    obtain ⟨h1, hfp, r, g, c, orc, h2, h3, h4, h5, h6, h7, h8⟩ := R.run hr
    rw [want_run h1 hsz hsl]
    simp only [if_true]
    left
    have part : ∀ i o, hget (rst t.fp 0 s.H) i = some o → hc i = some o := by
      intro i o ho
      rw [hget_rst] at ho
      split at ho
      · rename_i hi; rw [hh i hi]; exact ho
      · cases ho
    have Er := E.less part
    have hlen : (rst t.fp 0 s.H).length = t.n := by rw [length_rst, R.n]
    refine opC_wp K C Er h2 h3 (fun x hx => evS_VR fun u hu => hsl u ?_) ?_ ?_
    · unfold looks
      apply List.mem_append_left
      rw [List.mem_filterMap]
      exact ⟨x, hx, by rw [hu]⟩
    · intro i hi1 hi2
      rw [hlen] at hi1
      exact (hn i hi1 (by rw [h7]; exact hi2)).2
    · intro v' w' ι' hv' E' t'
      rw [hlen] at t'
      rw [← h7, ← h6] at t'
      rw [← h7] at E'
      have hle : Le ι ι' := fun i l hi => by
        rw [t'.ext i (fun hc' => by rw [(hn i hc'.1 hc'.2).2] at hi; cases hi)]; exact hi
      obtain ⟨p1, p2, p3⟩ := puts hle (refine_VR h4 h5 hv')
      have fr := Emb.frameG (hh := fun i => if i ∈ t.ws then hget t.H' i else hc i) E (fun i hi => (hn i hi.1 hi.2).1) part (fun i hi => (hn i hi.1 hi.2).2) E' t'
        (fun i h1 h2 => by rw [if_neg]; rw [ws_mem]; exact fun h => h.elim h2 h1) (fun i hi => by rw [if_pos]; rw [ws_mem]; exact hi.symm)
      exact hk2 _ w' ι' _ p1 p2 p3 fr.1 (fun i => rfl) fr.2
end
end Go.Ab
