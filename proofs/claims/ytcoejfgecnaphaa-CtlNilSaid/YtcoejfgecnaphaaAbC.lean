/-
  Regions: in the text's order, and in whatever order their edges allow.
-/
import Derived.Test.YtcoejfgecnaphaaAbB
import Derived.Orders
set_option linter.unusedSimpArgs false
set_option linter.unusedVariables false
namespace Go.Ab

/-- What a step changes: the new blocks, the old ones that it wrote. -/
structure TrG (ι ι' : Ren) (h h' : Nat → Option AObj) (new wr : Nat → Prop) (w w' : World) : Prop where
  ext : ∀ i, ¬ new i → ι' i = ι i
  same : ∀ i, ¬ new i → ¬ wr i → h' i = h i
  live : ∀ i, wr i → ¬ new i → h i ≠ none
  mono : w.heap.size ≤ w'.heap.size
  kept : ∀ B, B < w.heap.size → (∀ i, wr i → ∀ l, ι i = some l → h i ≠ none → l.blk ≠ B) → w'.heap[B]? = w.heap[B]?
  neu : ∀ i, new i → ∀ l, ι' i = some l → h' i ≠ none → w.heap.size ≤ l.blk ∨ ∃ j, wr j ∧ h j ≠ none ∧ ∃ l0, ι j = some l0 ∧ l.blk = l0.blk
  os : Still w w'

theorem Tr.toG {ι ι' : Ren} {h h' : Nat → Option AObj} {n n' : Nat} {wr : List Nat} {w w' : World} (t : Tr ι ι' h h' n n' wr w w') (h1 : ∀ i, n' ≤ i → h' i = h i) :
    TrG ι ι' h h' (fun i => n ≤ i ∧ i < n') (fun i => i ∈ wr) w w' := by
  have hle := t.le
  refine ⟨fun i hi => t.ext i (by omega), fun i hi hw => ?_, fun i hw hi => t.live i hw (by have := t.bnd i hw; omega), t.mono, fun B hB hk => t.kept B hB fun i hi => hk i hi, fun i hi l hl hne => ?_, t.os⟩
  · by_cases h2 : i < n
    · exact t.same i h2 hw
    · exact h1 i (by omega)
  · rcases t.neu i hi.1 hi.2 l hl hne with hb | ⟨j, a, b⟩
    · exact .inl hb
    · exact .inr ⟨j, a, b⟩

theorem TrG.refl (ι : Ren) (h : Nat → Option AObj) (w : World) : TrG ι ι h h (fun _ => False) (fun _ => False) w w :=
  ⟨fun _ _ => rfl, fun _ _ _ => rfl, fun _ h => h.elim, Nat.le_refl _, fun _ _ _ => rfl, fun _ h => h.elim, .refl _⟩

theorem TrG.iff {ι ι' : Ren} {h h' : Nat → Option AObj} {new wr new' wr' : Nat → Prop} {w w' : World} (t : TrG ι ι' h h' new wr w w') (hn : ∀ i, new i ↔ new' i) (hw : ∀ i, wr i ↔ wr' i) :
    TrG ι ι' h h' new' wr' w w' := by
  have e1 : new = new' := funext fun i => propext (hn i)
  have e2 : wr = wr' := funext fun i => propext (hw i)
  subst e1; subst e2; exact t

theorem TrG.trans {ι ι' ι'' : Ren} {h h' h'' : Nat → Option AObj} {A B wr wr' : Nat → Prop} {w w' w'' : World}
    (t : TrG ι ι' h h' A wr w w') (t' : TrG ι' ι'' h' h'' B wr' w' w'') : TrG ι ι'' h h'' (fun i => A i ∨ B i) (fun i => wr i ∨ wr' i) w w'' := by
  have lv : ∀ i, ¬ A i → h' i ≠ none → h i ≠ none := fun i hi hne => by
    by_cases hw : wr i
    · exact t.live i hw hi
    · rwa [t.same i hi hw] at hne
  refine ⟨fun i hi => ?_, fun i hi hw => ?_, fun i hi hin => ?_, Nat.le_trans t.mono t'.mono, fun C hC hk => ?_, fun i hi l hl hne => ?_, t.os.trans t'.os⟩
  · rw [t'.ext i (fun h => hi (.inr h)), t.ext i (fun h => hi (.inl h))]
  · rw [t'.same i (fun h => hi (.inr h)) (fun h => hw (.inr h)), t.same i (fun h => hi (.inl h)) (fun h => hw (.inl h))]
  · rcases hi with hi | hi
    · exact t.live i hi (fun h => hin (.inl h))
    · exact lv i (fun h => hin (.inl h)) (t'.live i hi (fun h => hin (.inr h)))
  · rw [t'.kept C (Nat.lt_of_lt_of_le hC t.mono), t.kept C hC]
    · exact fun i hi l hl hne => hk i (.inl hi) l hl hne
    · intro i hi l hl hne e
      by_cases hin : A i
      · rcases t.neu i hin l hl hne with hb | ⟨j, hj, hjn, l0, hl0, hb⟩
        · omega
        · exact hk j (.inl hj) l0 hl0 hjn (by rw [← hb, e])
      · rw [t.ext i hin] at hl
        exact hk i (.inr hi) l hl (lv i hin hne) e
  · have first : ∀ i l, A i → ι' i = some l → h' i ≠ none → w.heap.size ≤ l.blk ∨ ∃ j, (wr j ∨ wr' j) ∧ h j ≠ none ∧ ∃ l0, ι j = some l0 ∧ l.blk = l0.blk := by
      intro i l hi hl hne
      rcases t.neu i hi l hl hne with hb | ⟨j, hj, hjn, l0, hl0, hb⟩
      · exact .inl hb
      · exact .inr ⟨j, .inl hj, hjn, l0, hl0, hb⟩
    by_cases hin : B i
    · rcases t'.neu i hin l hl hne with hb | ⟨j, hj, hjn, l0, hl0, hb⟩
      · have := t.mono; exact .inl (by omega)
      · by_cases hjn' : A j
        · have := first j l0 hjn' hl0 hjn
          rw [hb]; exact this
        · rw [t.ext j hjn'] at hl0
          exact .inr ⟨j, .inr hj, lv j hjn' hjn, l0, hl0, hb⟩
    · rw [t'.ext i hin] at hl
      refine first i l (hi.resolve_right hin) hl ?_
      by_cases hw : wr' i
      · exact t'.live i hw hin
      · rwa [t'.same i hin hw] at hne

/-- THE FRAME: a step over the blocks 'hr' (a part of 'h'), seen over all of 'h'. -/
theorem Emb.frameG {ι ι' : Ren} {h hr hr' hh : Nat → Option AObj} {new wr : Nat → Prop} {w w' : World}
    (E : Emb ι h w) (hn : ∀ i, new i → h i = none) (hpart : ∀ i o, hr i = some o → h i = some o) (hf : ∀ i, new i → ι i = none) (E' : Emb ι' hr' w') (t : TrG ι ι' hr hr' new wr w w')
    (hh1 : ∀ i, ¬ new i → ¬ wr i → hh i = h i) (hh2 : ∀ i, (new i ∨ wr i) → hh i = hr' i) :
    Emb ι' hh w' ∧ TrG ι ι' h hh new wr w w' := by
  have hg : Le ι ι' := fun i l hi => by
    rw [t.ext i (fun hc => by rw [hf i hc] at hi; cases hi)]; exact hi
  have part_ne : ∀ i, hr i ≠ none → h i ≠ none := fun i hi => by
    cases e : hr i with
    | none => exact absurd e hi
    | some o => rw [hpart i o e]; simp
  have apart : ∀ i o l, ¬ new i → ¬ wr i → h i = some o → ι i = some l → ∀ j, wr j → ∀ lj, ι j = some lj → hr j ≠ none → lj.blk ≠ l.blk := by
    intro i o l hi hiw ho hl j hj lj hlj hjn e
    exact hiw (E.inj j i lj l (part_ne j hjn) (by rw [ho]; simp) hlj hl e ▸ hj)
  have keep : ∀ i o l, ¬ new i → ¬ wr i → h i = some o → ι i = some l → ObjAt ι o l w → w'.heap[l.blk]? = w.heap[l.blk]? := by
    intro i o l hi hiw ho hl ha
    exact t.kept _ ha.lt (apart i o l hi hiw ho hl)
  have cases_ : ∀ i, (¬ new i ∧ ¬ wr i) ∨ (new i ∨ wr i) := fun i => by
    by_cases h1 : new i <;> by_cases h2 : wr i <;> simp [h1, h2]
  refine ⟨⟨?_, ?_⟩, ?_⟩
  · intro i o ho
    rcases cases_ i with hc | hc
    · rw [hh1 i hc.1 hc.2] at ho
      obtain ⟨l, hl, ha⟩ := E.obj i o ho
      exact ⟨l, hg _ _ hl, ha.mono hg (keep i o l hc.1 hc.2 ho hl ha)⟩
    · rw [hh2 i hc] at ho
      exact E'.obj i o ho
  · have old : ∀ i, ¬ new i → ∀ li, ι' i = some li → ι i = some li := fun i hi li hli => by rwa [t.ext i hi] at hli
    have mixed : ∀ i j li lj, hh i ≠ none → hh j ≠ none → ι' i = some li → ι' j = some lj → li.blk = lj.blk → (¬ new i ∧ ¬ wr i) → (new j ∨ wr j) → False := by
      intro i j li lj hi hj hli hlj e ⟨hi1, hi2⟩ hjc
      rw [hh1 i hi1 hi2] at hi
      have hli0 := old i hi1 li hli
      obtain ⟨o, ho⟩ : ∃ o, h i = some o := by cases e' : h i with
        | none => exact absurd e' hi
        | some o => exact ⟨o, rfl⟩
      obtain ⟨l, hl, ha⟩ := E.obj i o ho
      rw [hli0] at hl; cases hl
      rw [hh2 j hjc] at hj
      by_cases hjn : new j
      · rcases t.neu j hjn lj hlj hj with hb | ⟨k, hk, hkn, l0, hl0, hb⟩
        · have := ha.lt; omega
        · exact apart i o li hi1 hi2 ho hli0 k hk l0 hl0 hkn (by rw [← hb, ← e])
      · have hjw := hjc.resolve_left hjn
        exact apart i o li hi1 hi2 ho hli0 j hjw lj (old j hjn lj hlj) (t.live j hjw hjn) e.symm
    intro i j li lj hi hj hli hlj e
    rcases cases_ i with hic | hic <;> rcases cases_ j with hjc | hjc
    · rw [hh1 i hic.1 hic.2] at hi
      rw [hh1 j hjc.1 hjc.2] at hj
      exact E.inj i j li lj hi hj (old i hic.1 li hli) (old j hjc.1 lj hlj) e
    · exact (mixed i j li lj hi hj hli hlj e hic hjc).elim
    · exact (mixed j i lj li hj hi hlj hli e.symm hjc hic).elim
    · rw [hh2 i hic] at hi
      rw [hh2 j hjc] at hj
      exact E'.inj i j li lj hi hj hli hlj e
  · refine ⟨t.ext, hh1, fun i hi hin => part_ne i (t.live i hi hin), t.mono, fun B hB hk => t.kept B hB fun i hi l hl hn2 => hk i hi l hl (part_ne i hn2), fun i hi l hl hne => ?_, t.os⟩
    rw [hh2 i (.inl hi)] at hne
    rcases t.neu i hi l hl hne with hb | ⟨j, hj, hjn, l0, hl0, hb⟩
    · exact .inl hb
    · exact .inr ⟨j, hj, part_ne j hjn, l0, hl0, hb⟩

/-! ### calls -/

/-- A call, told by its abstract answer. -/
structure CallOK (P : Program) (f : Nat) (args : List AV) (H : Heap) (r : OR) : Prop where
  fn : ∃ g, P.funcs[f]? = some g ∧ g.body.isSome = true ∧ (g.name == "runtime.NumGoroutine") = false
  le : H.length ≤ r.H.length
  run : ∀ (ι : Ren) (w : World) (cargs : List Value), Emb ι (hget H) w → VRs ι args cargs → Fresh ι H.length r.H.length →
    Calls P f (List.toArray cargs) w fun e w' => ∃ ι' y, e = .returned y ∧ VR ι' r.v y ∧ Emb ι' (hget r.H) w' ∧
      TrG ι ι' (hget H) (hget r.H) (fun i => H.length ≤ i ∧ i < r.H.length) (fun i => i ∈ r.wr) w w'

def CallsOK (P : Program) (call : CallF) : Prop := ∀ f args H orc r, call f args H orc = some r → r.c = true → CallOK P f args H r

section
variable {P : Program} {T : TT}

theorem calleeOf_run {ι : Ren} {ev : Operand → AV} {ρ : Operand → Value} {o : Oper} {f : Nat} {args : List AV} (h : calleeOf ev o = some (f, args)) (hv : ∀ x ∈ o.op.operands.toList, VR ι (ev x) (ρ x))
    (hf : ∃ g, P.funcs[f]? = some g ∧ g.body.isSome = true ∧ (g.name == "runtime.NumGoroutine") = false) (w : World) :
    ∃ cargs : List Value, VRs ι args cargs ∧ (execOp ρ o).run P w = .ok (.enter f (List.toArray cargs)) w := by
  unfold calleeOf at h
  split at h <;> try (cases h; done)
  rename_i g cas cts hop
  split at h <;> try (cases h; done)
  rename_i f' first cap he
  cases h
  have hg := hv g (by rw [hop]; simp [Op.operands, Call.operands])
  rw [he] at hg
  obtain ⟨a', b', h1, h2, h3⟩ := hg
  have hargs : VRs ι (cas.toList.map ev) (cas.toList.map ρ) := VRs_map fun x hx => hv x (by rw [hop]; simp only [Op.operands, Call.operands, Array.toList_append, List.mem_append]; exact .inr hx)
  obtain ⟨fn, q1, q2, q3⟩ := hf
  have q4 : fn.body.isNone = false := by cases hb : fn.body <;> simp_all
  refine ⟨a' ++ cas.toList.map ρ ++ b', VRs.append (VRs.append h2 hargs) h3, ?_⟩
  have e2 : a'.toArray ++ cas.map ρ ++ b'.toArray = (a' ++ cas.toList.map ρ ++ b').toArray := by
    apply Array.ext'; simp
  have q5 : ¬ fn.name = "runtime.NumGoroutine" := by simpa using q3
  have q6 : ¬ fn.body = none := by intro e; rw [e] at q2; cases q2
  simp [execOp, hop, resolve, h1, Deferred.ofValue, invoke, callFunc, q1, if_neg q5, if_neg q6]

theorem opC_wp (K : TOK P T) {call : CallF} (C : CallsOK P call) {ι : Ren} {H : Heap} {w : World} {ev : Operand → AV} {a : Act} {o : Oper} {orc : List Dec} {r : OR} (E : Emb ι (hget H) w)
    (h : opC P T call ev o H orc = some r) (hc : r.c = true) (hv : ∀ x ∈ o.op.operands.toList, VR ι (ev x) (a.eval x)) (hf : Fresh ι H.length r.H.length) {next : Act → World → Prop} {Q : Exit → Act → World → Prop}
    (hk : ∀ v' w' ι', VR ι' r.v v' → Emb ι' (hget r.H) w' → TrG ι ι' (hget H) (hget r.H) (fun i => H.length ≤ i ∧ i < r.H.length) (fun i => i ∈ r.wr) w w' → next (a.put o.dst v') w') :
    o.wp P a w next Q := by
  unfold opC at h
  unfold Oper.wp
  split at h
  · rename_i f args hcal
    have c1 := C f args H orc r h hc
    obtain ⟨cargs, h1, h2⟩ := calleeOf_run hcal hv c1.fn w
    rw [h2, Oper.upon_enter]
    refine (c1.run ι w cargs E h1 hf).mono fun e w' he => ?_
    obtain ⟨ι', y, rfl, h3, h4, h5⟩ := he
    exact hk y w' ι' h3 h4 h5
  · obtain ⟨nx, w', ι', y, h1, h2, h3, h4, h5⟩ := opA_sound K E h hc hv hf
    have h6 := h5.toG (fun i hi => by rw [hget_none r.H i hi, hget_none H i (by have := h5.le; omega)])
    rw [h1]
    cases nx <;> simp [nextVal] at h2
    · subst h2; exact hk _ w' ι' h3 h4 h6
    · subst h2; exact hk _ w' ι' h3 h4 h6

/-! ### writers, the last of whom counts -/

/-- What stands at each place behind those of the writers 0 .. n - 1 that D names. -/
def gD {L V : Type} (f : Nat → L → Option V) (g0 : L → V) (D : Nat → Bool) : Nat → L → V
  | 0, x => g0 x
  | n + 1, x => match D n, f n x with
    | true, some v => v
    | _, _ => gD f g0 D n x

theorem gD_congr {L V : Type} {f : Nat → L → Option V} {g0 : L → V} {D D' : Nat → Bool} {x : L} : ∀ n, (∀ j, j < n → f j x ≠ none → D j = D' j) → gD f g0 D n x = gD f g0 D' n x
  | 0, _ => rfl
  | n + 1, h => by
    have ih := gD_congr (g0 := g0) n (fun j hj => h j (by omega))
    simp only [gD]
    cases hf : f n x with
    | none => cases D n <;> cases D' n <;> exact ih
    | some v => rw [h n (by omega) (by rw [hf]; simp)]; cases D' n <;> simp [ih]

theorem gD_last {L V : Type} {f : Nat → L → Option V} {g0 : L → V} {D : Nat → Bool} {x : L} {k : Nat} {v : V} (hk : D k = true) (hv : f k x = some v) :
    ∀ n, k < n → (∀ j, k < j → j < n → D j = true → f j x = none) → gD f g0 D n x = v
  | 0, h, _ => by omega
  | n + 1, h, h' => by
    simp only [gD]
    by_cases e : k = n
    · subst e; rw [hk, hv]
    · have ih := gD_last (g0 := g0) hk hv n (by omega) (fun j a b c => h' j a (by omega) c)
      cases hD : D n with
      | false => exact ih
      | true => rw [h' n (by omega) (by omega) hD]; exact ih

theorem gD_upto {L V : Type} {f : Nat → L → Option V} {g0 : L → V} {x : L} {k : Nat} : ∀ n, k ≤ n → gD f g0 (fun j => decide (j < k)) n x = gD f g0 (fun _ => true) k x
  | 0, h => by
    have : k = 0 := by omega
    subst this; rfl
  | n + 1, h => by
    by_cases e : k = n + 1
    · subst e; exact gD_congr _ (fun j hj _ => by simp [hj])
    · simp only [gD]
      rw [show decide (n < k) = false from by simp; omega]
      exact gD_upto n (by omega)

/-- One more writer. -/
theorem gD_add {L V : Type} {f : Nat → L → Option V} {g0 : L → V} {D : Nat → Bool} {x : L} {k n : Nat} (hk : k < n) (hlate : ∀ j, k < j → j < n → D j = true → f k x ≠ none → f j x = none) :
    gD f g0 (fun j => D j || j == k) n x = match f k x with
      | some v => v
      | none => gD f g0 D n x := by
  cases hf : f k x with
  | some v => exact gD_last (by simp) hf n hk (fun j a b c => hlate j a b (by simpa [show j ≠ k from by omega] using c) (by rw [hf]; simp))
  | none => exact gD_congr n (fun j hj hne => by
      have : j ≠ k := by rintro rfl; exact hne hf
      simp [this])
end
end Go.Ab
