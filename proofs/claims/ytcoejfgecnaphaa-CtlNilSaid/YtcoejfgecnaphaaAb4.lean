/-
  The operations, second part: numbers, comparisons, structs, addresses, slices.
-/
import Derived.Test.YtcoejfgecnaphaaAb3
set_option linter.unusedSimpArgs false
set_option linter.unusedVariables false
namespace Go.Ab
section
variable {P : Program} {T : TT}

theorem addr_add (l : Loc) (r o n : Nat) : (addr l r o).add n = addr l r (o + n) := by
  unfold Addr.add addr; split
  · rename_i h; subst h; rfl
  · simp [Nat.add_assoc]

theorem pureRun_run {α : Type} (s : Sem α) : ∀ {a : α} (w : World), pureRun P s = some a → s.run P w = .ok a w := by
  induction s with
  | pure a => intro b w h; simp only [pureRun, Option.some.injEq] at h; subst h; rfl
  | program k ih => intro b w h; exact ih P w h
  | mark m k ih => intro b w h; exact ih w h
  | _ => intro b w h; simp [pureRun] at h

theorem seq_eq (a b : ByteArray) : seq a b = (a.toList == b.toList) := by
  rw [ByteArray.toList_eq, ByteArray.toList_eq]; rfl

theorem seq_beq (a b : ByteArray) : seq a b = (a == b) := by rw [beq_toListBytes, seq_eq]

theorem seq_iff {a b : ByteArray} : seq a b = true ↔ a = b := by
  unfold seq
  rw [beq_iff_eq]
  constructor
  · intro h; cases a; cases b; simp at h; congr
  · intro h; rw [h]

theorem agg_ofVR {ι : Ren} {x : AV} {y : Value} {xs : List AV} (h : VR ι x y) (hx : x.agg? = some xs) : ∃ ys, y = .agg (List.toArray ys) ∧ VRs ι xs ys := by
  cases x <;> simp only [AV.agg?] at hx <;> try (cases hx; done)
  · rename_i v
    cases v <;> simp only [] at hx <;> try (cases hx; done)
    rename_i cs
    cases h; cases hx
    exact ⟨cs.toList, rfl, VRs.vals _⟩
  · rename_i l
    cases hx; exact h

theorem eqFl_run (K : TOK P T) {ι : Ren} {d : Nat} {eq : Nat → AV → AV → Option Bool} {xs ys : List AV} {xs' ys' : List Value} (hx : VRs ι xs xs') (hy : VRs ι ys ys') (w : World)
    (ih : ∀ t x y x' y' c, eq t x y = some c → VR ι x x' → VR ι y y' → (Op.equalIn d t x' y').run P w = .ok c w) :
    ∀ (fs : List Field) (c : Bool), (∀ f ∈ fs, f.name ≠ "_") → eqFl T eq xs ys fs = some c → (Op.eqFields d (List.toArray xs') (List.toArray ys') fs).run P w = .ok c w
  | [], c, _, h => by simp only [eqFl, Option.some.injEq] at h; subst h; rfl
  | f :: fs, c, hn, h => by
    simp only [eqFl] at h
    cases ha : partA T f.type xs f.offset with
    | none => simp [ha] at h
    | some a =>
      cases hb : partA T f.type ys f.offset with
      | none => simp [ha, hb] at h
      | some b =>
        cases hr : eq f.type a b with
        | none => simp [ha, hb, hr] at h
        | some r =>
          cases hs : eqFl T eq xs ys fs with
          | none => simp [ha, hb, hr, hs] at h
          | some s =>
            simp only [ha, hb, hr, hs, Option.some.injEq] at h
            subst h
            obtain ⟨a', ha1, ha2⟩ := run_part K ha hx w
            obtain ⟨b', hb1, hb2⟩ := run_part K hb hy w
            have h1 := ih _ _ _ _ _ _ hr ha2 hb2
            have h2 := eqFl_run K hx hy w ih fs s (fun f hf => hn f (by simp [hf])) hs
            simp only [Op.eqFields, if_pos (hn f (by simp)), Sem.run_bind, ha1, hb1, h1, Result.andThen_ok]
            cases r <;> simp [h2]

/-- The loop over an array's places. -/
def eqPlaces (d : Nat) (e m : Nat) (xs ys : Array Value) : Nat → Nat → Sem Bool
  | 0, _ => pure true
  | n + 1, i => do
    let a ← part e xs (i * m)
    let b ← part e ys (i * m)
    let r ← Op.equalIn d e a b
    if (!r) = true then pure false else eqPlaces d e m xs ys n (i + 1)

theorem run_equalIn_array (d t n e m : Nat) (xs ys : Array Value) (w : World) (ht : P.underlying t = some (.array n e)) (hm : (sizeOf e).run P w = .ok m w) :
    (Op.equalIn (d + 1) t (.agg xs) (.agg ys)).run P w = (eqPlaces d e m xs ys n 0).run P w := by
  simp only [Op.equalIn, Sem.run_bind, run_underlying ht, Result.andThen_ok, hm]
  rw [Std.Legacy.Range.forIn_eq_forIn_range']
  simp only [Std.Legacy.Range.size, Nat.sub_zero, Nat.add_sub_cancel, Nat.div_one]
  have key : ∀ (k i : Nat) (w : World), ((forIn (List.range' i k 1) ((none, ()) : Option Bool × Unit) fun i r => do
        let a ← part e xs (i * m)
        let b ← part e ys (i * m)
        let r ← Op.equalIn d e a b
        if (!r) = true then pure (ForInStep.done (some false, ())) else pure (ForInStep.yield (none, ()))) >>= fun (r : Option Bool × Unit) => match r.1 with
          | some a => pure a
          | none => pure true : Sem Bool).run P w = (eqPlaces d e m xs ys k i).run P w := by
    intro k
    induction k with
    | zero => intro i w; simp [eqPlaces]
    | succ k ih =>
      intro i w
      simp only [List.range'_succ, List.forIn_cons, eqPlaces, Sem.run_bind]
      generalize (part e xs (i * m)).run P w = r1
      cases r1 with
      | halt x w1 => simp [Result.andThen]
      | ok a w1 =>
        simp only [Result.andThen_ok]
        generalize (part e ys (i * m)).run P w1 = r2
        cases r2 with
        | halt x w2 => simp [Result.andThen]
        | ok b w2 =>
          simp only [Result.andThen_ok]
          generalize (Op.equalIn d e a b).run P w2 = r3
          cases r3 with
          | halt x w3 => simp [Result.andThen]
          | ok r w3 =>
            cases r
            · simp
            · simp only [Result.andThen_ok, Bool.not_true, Bool.false_eq_true, if_false, Sem.run_pure]
              have := ih (i + 1) w3
              simp only [Sem.run_bind] at this
              exact this
  have := key n 0 w
  simp only [Sem.run_bind] at this ⊢
  refine Eq.trans ?_ this
  congr 1
  funext a w'
  rcases a with ⟨_ | _, _⟩ <;> rfl

theorem eqAr_run (K : TOK P T) {ι : Ren} {d e m : Nat} {eq : AV → AV → Option Bool} {xs ys : List AV} {xs' ys' : List Value} (hx : VRs ι xs xs') (hy : VRs ι ys ys') (w : World)
    (ih : ∀ x y x' y' c, eq x y = some c → VR ι x x' → VR ι y y' → (Op.equalIn d e x' y').run P w = .ok c w) :
    ∀ (n i : Nat) (c : Bool), eqAr T eq e m xs ys n i = some c → (eqPlaces d e m (List.toArray xs') (List.toArray ys') n i).run P w = .ok c w
  | 0, i, c, h => by simp only [eqAr, Option.some.injEq] at h; subst h; rfl
  | n + 1, i, c, h => by
    simp only [eqAr] at h
    cases ha : partA T e xs (i * m) with
    | none => simp [ha] at h
    | some a =>
      cases hb : partA T e ys (i * m) with
      | none => simp [ha, hb] at h
      | some b =>
        cases hr : eq a b with
        | none => simp [ha, hb, hr] at h
        | some r =>
          cases hs : eqAr T eq e m xs ys n (i + 1) with
          | none => simp [ha, hb, hr, hs] at h
          | some s =>
            simp only [ha, hb, hr, hs, Option.some.injEq] at h
            subst h
            obtain ⟨a', ha1, ha2⟩ := run_part K ha hx w
            obtain ⟨b', hb1, hb2⟩ := run_part K hb hy w
            have h1 := ih _ _ _ _ _ hr ha2 hb2
            have h2 := eqAr_run K hx hy w ih n (i + 1) s hs
            simp only [eqPlaces, Sem.run_bind, ha1, hb1, h1, Result.andThen_ok]
            cases r <;> simp [h2]

theorem flat_ofVR {ι : Ren} {x : AV} {y v : Value} (h : VR ι x y) (hx : x.flat? = some v) : y = v := by
  cases x <;> simp only [AV.flat?] at hx <;> try (cases hx; done)
  · cases hx; exact h
  · cases hx; exact h

theorem eqAt_run (K : TOK P T) {ι : Ren} (w : World) : ∀ (d d' t : Nat) (x y : AV) (x' y' : Value) (c : Bool), d ≤ d' → eqAt T d t x y = some c → VR ι x x' → VR ι y y' →
    (Op.equalIn d' t x' y').run P w = .ok c w
  | 0, _, _, _, _, _, _, _, _, h, _, _ => by simp [eqAt] at h
  | d + 1, d', t, x, y, x', y', c, hd, h, hx, hy => by
    obtain ⟨d', rfl⟩ : ∃ k, d' = k + 1 := ⟨d' - 1, by omega⟩
    simp only [eqAt] at h
    cases hu : T.und t with
    | none => simp [hu] at h
    | some ds =>
      have hP := K.und t ds hu
      simp only [hu] at h
      cases ds <;> simp only [] at h <;> try (cases h; done)
      · -- bool
        cases h1 : x.flat? with
        | none => simp [h1] at h
        | some a =>
          cases h2 : y.flat? with
          | none => rw [h1, h2] at h; cases a <;> simp at h
          | some b =>
            have e1 := flat_ofVR hx h1
            have e2 := flat_ofVR hy h2
            subst e1; subst e2
            rw [h1, h2] at h
            cases x' <;> try (cases h; done)
            cases y' <;> try (cases h; done)
            cases h
            exact run_equalIn_bool' w d' t _ _ hP
      · -- int
        cases x <;> try (cases h; done)
        rename_i vx
        cases vx <;> try (cases h; done)
        rename_i k1 a
        cases y <;> try (cases h; done)
        rename_i vy
        cases vy <;> try (cases h; done)
        rename_i k2 b
        replace h : (if k1 = k2 then some (a == b) else none) = some c := h
        split at h
        · rename_i e; subst e; cases h; cases hx; cases hy
          exact run_equalIn_int w d' t _ _ _ _ hP
        · cases h
      · -- string
        cases x <;> try (cases h; done)
        rename_i vx
        cases vx <;> try (cases h; done)
        cases y <;> try (cases h; done)
        rename_i vy
        cases vy <;> try (cases h; done)
        cases h; cases hx; cases hy
        rw [seq_eq]
        exact run_equalIn_string w d' t _ _ hP
      · -- array
        rename_i n e
        cases hs : sizeT T e with
        | none => simp [hs] at h
        | some m =>
          cases h1 : x.agg? with
          | none => simp [hs, h1] at h
          | some xs =>
            cases h2 : y.agg? with
            | none => simp [hs, h1, h2] at h
            | some ys =>
              simp only [hs, h1, h2] at h
              obtain ⟨xs', rfl, hxs⟩ := agg_ofVR hx h1
              obtain ⟨ys', rfl, hys⟩ := agg_ofVR hy h2
              rw [run_equalIn_array d' t n e m _ _ w hP (K.run_size hs w)]
              exact eqAr_run K hxs hys w (fun a b a' b' c' hc' ha hb => eqAt_run K w d d' e a b a' b' c' (by omega) hc' ha hb) n 0 c h
      · -- struct
        rename_i fs
        cases hp : T.plain t with
        | false => simp [hp] at h
        | true =>
          cases h1 : x.agg? with
          | none => simp [hp, h1] at h
          | some xs =>
            cases h2 : y.agg? with
            | none => simp [hp, h1, h2] at h
            | some ys =>
              simp only [hp, h1, h2] at h
              obtain ⟨xs', rfl, hxs⟩ := agg_ofVR hx h1
              obtain ⟨ys', rfl, hys⟩ := agg_ofVR hy h2
              obtain ⟨p1, _, p3⟩ := K.plain t hp
              have hf : P.fieldsOf t = fs := by simp [Program.fieldsOf, hP]
              rw [run_equalIn_struct w d' t _ _ (by rw [hf]; exact hP) p1, hf]
              exact eqFl_run K hxs hys w (fun t' a b a' b' c' hc' ha hb => eqAt_run K w d d' t' a b a' b' c' (by omega) hc' ha hb) fs.toList c (p3 fs hP) h
end
end Go.Ab
