/-
  The operations, last part: each operation that is no call of a function.
-/
import Derived.Test.YtcoejfgecnaphaaAbA
set_option linter.unusedSimpArgs false
set_option linter.unusedVariables false
namespace Go.Ab
section
variable {P : Program} {T : TT}

theorem Sound.keep {ι : Ren} {H : Heap} {w : World} {r : OR} {y : Value} {x : Result Next} (E : Emb ι (hget H) w) (hx : x = .ok (.value y) w) (hv : VR ι r.v y) (h1 : r.H = H) (h2 : r.wr = []) :
    Sound ι H w r x := by
  obtain ⟨v, H', wr, c, orc⟩ := r
  dsimp only at h1 h2 hv
  subst h1; subst h2
  exact Sound.pure E hx hv

theorem bind_value {w w' : World} {s : Sem Value} {y : Value} (h : s.run P w = .ok y w') : (do pure (Next.value (← s)) : Sem Next).run P w = .ok (.value y) w' := by simp [h]
theorem bind_skip {w w' : World} {s : Sem Unit} (h : s.run P w = .ok () w') : (do s; pure Next.skip : Sem Next).run P w = .ok .skip w' := by simp [h]

theorem fieldOf_und (K : TOK P T) {t f : Nat} {fd : Field} (h : fieldOf T t f = some fd) : ∃ fs, P.underlying t = some (.struct fs) ∧ fs[f]? = some fd := by
  unfold fieldOf at h
  split at h
  · rename_i fs hu; exact ⟨fs, K.und _ _ hu, h⟩
  · cases h

theorem mapEv_get {ev : Operand → AV} {l : List Operand} {j : Nat} : (l.map ev)[j]? = (l[j]?).map ev := by simp

theorem VRs_map {ι : Ren} {ev : Operand → AV} {ρ : Operand → Value} : ∀ {l : List Operand}, (∀ x ∈ l, VR ι (ev x) (ρ x)) → VRs ι (l.map ev) (l.map ρ)
  | [], _ => rfl
  | x :: l, h => ⟨ρ x, l.map ρ, rfl, h x (by simp), VRs_map (fun y hy => h y (by simp [hy]))⟩

theorem optVR_map {ι : Ren} {ev : Operand → AV} {ρ : Operand → Value} {x : Option Operand} (h : ∀ y ∈ x.toList, VR ι (ev y) (ρ y)) : OptVR ι (x.map ev) (x.map ρ) := by
  cases x with
  | none => trivial
  | some y => exact h y (by simp)

theorem parts_VR {ι : Ren} {ev : Operand → AV} {ρ : Operand → Value} {ps : Array (Nat × Operand)} (h : ∀ x ∈ ps.toList.map (·.2), VR ι (ev x) (ρ x)) :
    ((ps.map fun (i, x) => (i, ρ x)).toList.length = (ps.toList.map fun (i, x) => (i, ev x)).length) ∧
    ∀ (j : Nat) (p : Nat × AV), (ps.toList.map fun (i, x) => (i, ev x))[j]? = some p → ∃ q : Nat × Value, (ps.map fun (i, x) => (i, ρ x)).toList[j]? = some q ∧ q.1 = p.1 ∧ VR ι p.2 q.2 := by
  refine ⟨by simp, fun j p hp => ?_⟩
  simp only [List.getElem?_map, Option.map_eq_some_iff] at hp
  obtain ⟨⟨i, x⟩, h1, rfl⟩ := hp
  refine ⟨(i, ρ x), ?_, rfl, h x ?_⟩
  · simp only [Array.toList_map, List.getElem?_map, h1]; rfl
  · exact List.mem_map.2 ⟨(i, x), List.mem_of_getElem? h1, rfl⟩

theorem min_fold {ι : Ren} {k : IntKind} : ∀ {l : List AV} {l' : List Value} {a : Int} {v : AV}, foldI (fun x y => if y < x then y else x) k a l = some v → VRs ι l l' → ∀ w, ∃ y, (l'.foldlM Builtin.min2 (.int k a)).run P w = .ok y w ∧ VR ι v y
  | [], l', a, v, h, hl, w => by cases hl; cases h; exact ⟨_, rfl, rfl⟩
  | x :: l, l', a, v, h, ⟨y, ys, e, p, q⟩, w => by
    subst e
    cases x <;> try (cases h; done)
    rename_i vx
    cases vx <;> try (cases h; done)
    rename_i kk b
    cases p
    replace h : foldI (fun x y => if y < x then y else x) k (if b < a then b else a) l = some v := h
    obtain ⟨z, h1, h2⟩ := min_fold h q w
    exact ⟨z, by simp [Builtin.min2, h1], h2⟩

theorem max_fold {ι : Ren} {k : IntKind} : ∀ {l : List AV} {l' : List Value} {a : Int} {v : AV}, foldI (fun x y => if y > x then y else x) k a l = some v → VRs ι l l' → ∀ w, ∃ y, (l'.foldlM Builtin.max2 (.int k a)).run P w = .ok y w ∧ VR ι v y
  | [], l', a, v, h, hl, w => by cases hl; cases h; exact ⟨_, rfl, rfl⟩
  | x :: l, l', a, v, h, ⟨y, ys, e, p, q⟩, w => by
    subst e
    cases x <;> try (cases h; done)
    rename_i vx
    cases vx <;> try (cases h; done)
    rename_i kk b
    cases p
    replace h : foldI (fun x y => if y > x then y else x) k (if b > a then b else a) l = some v := h
    obtain ⟨z, h1, h2⟩ := max_fold h q w
    exact ⟨z, by simpa [Builtin.max2] using h1, h2⟩

theorem len_sound (K : TOK P T) {ι : Ren} {H : Heap} {w : World} {t : Nat} {rt : TypeId} {x : AV} {x' : Value} {n : Nat} (E : Emb ι (hget H) w) (hx : VR ι x x') (h : lenA T t H x = some n) :
    (Builtin.len_ #[t] rt #[x']).run P w = .ok (goInt n) w := by
  unfold lenA at h
  split at h <;> try (cases h; done)
  · rename_i hu; cases h; cases hx; simp [Builtin.len_, K.run_und hu]
  · rename_i hu; cases h; obtain ⟨a, rfl⟩ := hx; simp [Builtin.len_, K.run_und hu]
  · rename_i hu; cases h; obtain ⟨l, a, cap, _, rfl, _⟩ := hx; simp [Builtin.len_, K.run_und hu]
  · rename_i hu; cases h; obtain ⟨l, a, cap, _, rfl, _⟩ := hx; simp [Builtin.len_, K.run_und hu]
  · rename_i hu; cases h; cases hx; simp [Builtin.len_, K.run_und hu]
  · rename_i hu; cases h; cases hx; simp [Builtin.len_, K.run_und hu]
  · rename_i i hu
    split at h <;> try (cases h; done)
    rename_i strs sz has get ho
    cases h
    obtain ⟨l, hl, rfl⟩ := hx
    obtain ⟨l2, hl2, ES, clock, h1, M⟩ := E.obj i _ ho
    rw [hl] at hl2; cases hl2
    simp [Builtin.len_, K.run_und hu, run_getObj_map h1, M.size]
  · rename_i hu; cases h; simp [Builtin.len_, K.run_und hu]

theorem builtin_sound (K : TOK P T) {ι : Ren} {H : Heap} {w : World} {b : Builtin} {ats : Array TypeId} {rt : TypeId} {cs : Array Bool} {args : List AV} {args' : List Value} {orc : List Dec} {r : OR}
    (E : Emb ι (hget H) w) (ha : VRs ι args args') (h : builtinA T b ats.toList args H orc = some r) (hc : r.c = true) (hf : Fresh ι H.length r.H.length) :
    Sound ι H w r ((builtin b ats rt cs args'.toArray).run P w) := by
  unfold builtinA at h
  split at h <;> try (cases h; done)
  · -- len
    rename_i t _ x hats
    obtain ⟨y, ys, rfl, p, q⟩ := ha
    cases q
    cases hl : lenA T t H x with
    | none => rw [hl] at h; cases h
    | some n =>
      rw [hl] at h; cases h
      have hr := len_sound K (rt := rt) E p hl
      refine Sound.pure E (bind_value ?_) rfl
      have : ∃ ts, ats = (t :: ts).toArray := ⟨_, by rw [← hats]⟩
      obtain ⟨ts, rfl⟩ := this
      have e1 : Builtin.len_ (t :: ts).toArray rt #[y] = Builtin.len_ #[t] rt #[y] := by simp [Builtin.len_]
      rw [e1]; exact hr
  · -- append
    rename_i t t' s x hats
    split at h <;> try (cases h; done)
    rename_i d' hnt hu
    obtain ⟨s', _, rfl, ps, x', _, rfl, px, q⟩ := ha
    cases q
    have : ats = #[t, t'] := by cases ats; simp at hats; subst hats; rfl
    subst this
    obtain ⟨w', ι', y, a1, a2, a3, a4⟩ := append_sound K (rt := rt) E ps px hu (fun k e => hnt k e) h hc hf
    exact ⟨.value y, w', ι', y, bind_value a1, rfl, a2, a3, a4⟩
  · -- min
    rename_i k a l
    obtain ⟨y, ys, rfl, p, q⟩ := ha
    cases p
    cases hl : foldI (fun x y => if y < x then y else x) k a l with
    | none => rw [hl] at h; cases h
    | some v =>
      rw [hl] at h; cases h
      obtain ⟨z, h1, h2⟩ := min_fold (P := P) hl q w
      exact Sound.pure E (bind_value (by simpa [Builtin.min_] using h1)) h2
  · rename_i k a l
    obtain ⟨y, ys, rfl, p, q⟩ := ha
    cases p
    cases hl : foldI (fun x y => if y > x then y else x) k a l with
    | none => rw [hl] at h; cases h
    | some v =>
      rw [hl] at h; cases h
      obtain ⟨z, h1, h2⟩ := max_fold (P := P) hl q w
      exact Sound.pure E (bind_value (by simpa [Builtin.max_] using h1)) h2
  · -- clear
    rename_i t _ x hats
    obtain ⟨y, ys, rfl, p, q⟩ := ha
    cases q
    obtain ⟨w', a1, a2, a3, a4⟩ := clear_sound K (rt := rt) E p h hc
    have : ∃ ts, ats = (t :: ts).toArray := ⟨_, by rw [← hats]⟩
    obtain ⟨ts, rfl⟩ := this
    have e1 : Builtin.clear_ (t :: ts).toArray rt #[y] = Builtin.clear_ #[t] rt #[y] := by simp [Builtin.clear_]
    exact ⟨.value (.tuple #[]), w', ι, .tuple #[], bind_value (by rw [e1]; exact a1), rfl, by rw [a4]; rfl, a2, a3⟩
  · rename_i k a bb
    obtain ⟨y, ys, rfl, p, q⟩ := ha
    cases q; cases p; cases h
    exact Sound.pure E (bind_value rfl) rfl
  · rename_i k a bb
    obtain ⟨y, ys, rfl, p, q⟩ := ha
    cases q; cases p; cases h
    exact Sound.pure E (bind_value rfl) rfl

theorem asB_run {ι : Ren} {x : AV} {y : Value} {b c : Bool} {l l' : List Dec} (hx : VR ι x y) (h : asB x l = some (b, c, l')) (hc : c = true) : y = .bool b := by
  cases x <;> try (cases h; done)
  · rename_i v
    cases v <;> try (cases h; done)
    rename_i b0
    cases hx
    rw [ask_eq (show ask b0 l = some (b, c, l') from h) hc]
  · rename_i b0
    cases hx
    simp [asB] at h
    rw [h.1]

theorem mapM_places (K : TOK P T) (w : World) : ∀ (fs : List Field), (placesT T fs).all Option.isSome = true →
    ∃ ps : List (Nat × Nat), fs.mapM (fun f => (P.info? f.type).map fun i => (f.offset, i.size)) = some ps ∧ placesT T fs = ps.map some
  | [], _ => ⟨[], rfl, rfl⟩
  | f :: fs, h => by
    simp only [placesT, List.map_cons, List.all_cons, Bool.and_eq_true] at h
    obtain ⟨h1, h2⟩ := h
    obtain ⟨ps, h3, h4⟩ := mapM_places K w fs h2
    cases hs : sizeT T f.type with
    | none => rw [hs] at h1; simp at h1
    | some n =>
      have : ∃ i, P.info? f.type = some i ∧ i.size = n := by
        unfold sizeT at hs
        cases hi : T.inf f.type with
        | none => rw [hi] at hs; cases hs
        | some i => rw [hi] at hs; cases hs; exact ⟨i, K.inf _ _ hi, rfl⟩
      obtain ⟨i, hi, rfl⟩ := this
      refine ⟨(f.offset, i.size) :: ps, by simp [List.mapM_cons, hi, h3], ?_⟩
      simp only [placesT, List.map_cons, hs, Option.map_some]
      rw [← h4]; rfl

theorem build_struct (K : TOK P T) {ι : Ren} {w : World} {t : Nat} {fs : Array Field} {z l : List AV} {parts : List (Nat × AV)} {parts' : Array (Nat × Value)} (hu : T.und t = some (.struct fs))
    (hz : zerosA T t = some z) (hall : (placesT T fs.toList).all Option.isSome = true) (h : fillA (fun i => (nth (placesT T fs.toList) i).join) z parts = some l)
    (hl : parts'.toList.length = parts.length) (hp : ∀ (j : Nat) (p : Nat × AV), parts[j]? = some p → ∃ q : Nat × Value, parts'.toList[j]? = some q ∧ q.1 = p.1 ∧ VR ι p.2 q.2) :
    ∃ y, (Instr.build t parts').run P w = .ok y w ∧ VR ι (.agg l) y := by
  obtain ⟨zy, h1, h2, h3⟩ := zerosA_run K hz
  obtain ⟨ps, h4, h5⟩ := mapM_places K w fs.toList hall
  have hplace : (fun i => (nth (placesT T fs.toList) i).join) = fun i => ps.toArray[i]? := by
    funext i
    rw [h5, nth_eq]
    simp
    cases ps[i]? <;> rfl
  rw [hplace] at h
  obtain ⟨l', h6, h7⟩ := fill_sound h hl hp (h3 ι)
  have hi : ∃ it, P.info? t = some it ∧ it.zero = some zy := by
    unfold zeroT at h1
    cases hi : T.inf t with
    | none => rw [hi] at h1; cases h1
    | some it => rw [hi] at h1; exact ⟨it, K.inf _ _ hi, h1⟩
  obtain ⟨it, hi1, hi2⟩ := hi
  refine ⟨.agg l', run_build w t parts' l' ?_, l'.toList, by simp, h7⟩
  have h6' : Instr.fill (fun x => ps[x]?) zy.cells parts'.toList = some l' := by simpa using h6
  simp [Program.built, hi1, K.und t _ hu, hi2, h4, h6']

theorem build_array (K : TOK P T) {ι : Ren} {w : World} {t n el s : Nat} {z l : List AV} {parts : List (Nat × AV)} {parts' : Array (Nat × Value)} (hu : T.und t = some (.array n el))
    (hz : zerosA T t = some z) (hs : sizeT T el = some s) (h : fillA (fun i => some (i * s, s)) z parts = some l)
    (hl : parts'.toList.length = parts.length) (hp : ∀ (j : Nat) (p : Nat × AV), parts[j]? = some p → ∃ q : Nat × Value, parts'.toList[j]? = some q ∧ q.1 = p.1 ∧ VR ι p.2 q.2) :
    ∃ y, (Instr.build t parts').run P w = .ok y w ∧ VR ι (.agg l) y := by
  obtain ⟨zy, h1, h2, h3⟩ := zerosA_run K hz
  obtain ⟨l', h6, h7⟩ := fill_sound h hl hp (h3 ι)
  exact ⟨.agg l', by simp [Instr.build, K.run_und hu, K.run_zero h1, K.run_size hs, h6], l'.toList, by simp, h7⟩

theorem opA_sound (K : TOK P T) {ι : Ren} {H : Heap} {w : World} {ev : Operand → AV} {ρ : Operand → Value} {o : Oper} {orc : List Dec} {r : OR} (E : Emb ι (hget H) w)
    (h : opA P T ev o H orc = some r) (hc : r.c = true) (hv : ∀ x ∈ o.op.operands.toList, VR ι (ev x) (ρ x)) (hf : Fresh ι H.length r.H.length) :
    Sound ι H w r ((execOp ρ o).run P w) := by
  unfold opA at h
  unfold execOp
  cases hop : o.op <;> simp only [hop, Op.operands] at h hv ⊢ <;> try (cases h; done)
  case move x => cases h; exact Sound.pure E rfl (hv x (by simp))
  case assign x => cases h; exact Sound.pure E rfl (hv x (by simp))
  case pick c a b =>
    split at h <;> try (cases h; done)
    · rename_i k orc' hb
      cases h
      have := asB_run (hv c (by simp)) hb hc
      exact Sound.pure E (by simp [this, asBool]) (hv a (by simp))
    · rename_i k orc' hb
      cases h
      have := asB_run (hv c (by simp)) hb hc
      exact Sound.pure E (by simp [this, asBool]) (hv b (by simp))
  case alloc el =>
    split at h <;> try (cases h; done)
    rename_i z hz
    split at h <;> try (cases h; done)
    rename_i h1
    cases h
    obtain ⟨y, h2, h3, h4⟩ := zerosA_run K hz
    obtain ⟨ι', e1, e2, e3⟩ := new_cells (C := y.cells) (ty := el) E (hf _ (Nat.le_refl _) (by simp)) (h4 ι) h1
    refine ⟨_, _, ι', _, bind_value (y := .pointer (some ⟨w.heap.size, 0, none⟩)) (w' := w.alloc (Obj.cells y.cells el)) ?_, rfl, e3, e1, e2⟩
    simp [Instr.alloc, K.run_zero h2, newVar, newRow]
  case box el x =>
    split at h <;> try (cases h; done)
    rename_i h1
    cases h
    have hx := hv x (by simp)
    have hj : ev x ≠ .junk := by intro e; rw [e] at h1; simp [AV.cells, AV.one] at h1
    obtain ⟨ι', e1, e2, e3⟩ := new_cells (C := (ρ x).cells) (ty := el) E (hf _ (Nat.le_refl _) (by simp)) (hx.cells hj) h1
    refine ⟨_, _, ι', _, bind_value (y := .pointer (some ⟨w.heap.size, 0, none⟩)) (w' := w.alloc (Obj.cells (ρ x).cells el)) ?_, rfl, e3, e1, e2⟩
    simp [Instr.box, newVar, newRow]
  case build t parts =>
    obtain ⟨p1, p2⟩ := parts_VR (ps := parts) hv
    split at h <;> try (cases h; done)
    · rename_i fs z hu hz
      split at h <;> try (cases h; done)
      rename_i hall
      split at h <;> try (cases h; done)
      rename_i l hl
      cases h
      obtain ⟨y, h1, h2⟩ := build_struct K (w := w) hu hz hall hl p1 p2
      exact Sound.pure E (bind_value h1) h2
    · rename_i n el z hu hz
      split at h <;> try (cases h; done)
      rename_i s hs
      split at h <;> try (cases h; done)
      rename_i l hl
      cases h
      obtain ⟨y, h1, h2⟩ := build_array K (w := w) hu hz hs hl p1 p2
      exact Sound.pure E (bind_value h1) h2
  case buildSlice t len parts =>
    obtain ⟨p1, p2⟩ := parts_VR (ps := parts) hv
    unfold buildSliceA at h
    split at h <;> try (cases h; done)
    rename_i el hu
    split at h <;> try (cases h; done)
    rename_i s z hs hz
    split at h <;> try (cases h; done)
    · rename_i hlen
      have hlen := Nat.eq_of_beq_eq_true hlen
      subst hlen
      split at h <;> try (cases h; done)
      rename_i hp
      cases h
      have hp' : parts = #[] := by
        cases parts with
        | mk l => simp at hp; rw [hp]
      subst hp'
      have hr : (Instr.buildSlice t 0 (#[].map fun (i, x) => (i, ρ x))).run P w = .ok (.slice (some ⟨w.heap.size, 0, none⟩) 0 0) (w.alloc (Obj.cells #[] el)) := by
        simp [Instr.buildSlice, K.run_und hu, K.run_size hs, Instr.fill, newRow, Array.range_zero']
      refine ⟨_, _, ι, .slice (some ⟨w.heap.size, 0, none⟩) 0 0, bind_value hr, rfl, ⟨⟨w.heap.size, 0, none⟩, rfl⟩, ?_, ?_⟩
      · refine ⟨fun i o ho => ?_, E.inj⟩
        obtain ⟨l, a, b⟩ := E.obj i o ho
        refine ⟨l, a, b.mono (fun _ _ z => z) ?_⟩
        show (w.heap.push _)[l.blk]? = _
        rw [Array.getElem?_push, if_neg (by have := b.lt; omega)]
      · refine ⟨Nat.le_refl _, fun _ _ => rfl, fun _ _ _ => rfl, fun _ hi => (by cases hi), fun _ hi => (by cases hi), by simp, fun B hB _ => ?_, fun i h1 h2 => absurd (Nat.lt_of_le_of_lt h1 h2) (Nat.lt_irrefl _), ⟨rfl, rfl⟩⟩
        show (w.heap.push _)[B]? = _
        rw [Array.getElem?_push, if_neg (by omega)]
    · split at h <;> try (cases h; done)
      rename_i l hl h1 h2 h3
      split at h <;> try (cases h; done)
      rename_i h4
      cases h
      have h1 := Nat.eq_of_beq_eq_true h1
      have h2 : 0 < len * s := Nat.le_of_ble_eq_true h2
      have h3 := Nat.le_of_ble_eq_true h3
      have hs0 : 0 < z.length := by
        rcases Nat.eq_zero_or_pos z.length with h0 | h0
        · rw [← h1, h0] at h2; omega
        · exact h0
      obtain ⟨zy, q1, q2, q3⟩ := zerosA_run K hz
      have q4 := zeros_row (q3 ι) hs0 len
      have q5 := (q3 ι).length
      obtain ⟨l', q6, q7⟩ := fill_sound hl p1 p2 q4
      have q8 := q7.length
      have q9 : l.length = len * s := by
        have : ∀ {place : Nat → Option (Nat × Nat)} {parts : List (Nat × AV)} {cells l : List AV}, fillA place cells parts = some l → l.length = cells.length := by
          intro place parts
          induction parts with
          | nil => intro cells l h; simp only [fillA, Option.some.injEq] at h; rw [h]
          | cons p ps ih =>
            intro cells l h
            obtain ⟨i, v⟩ := p
            simp only [fillA] at h
            split at h <;> try (cases h; done)
            split at h <;> try (cases h; done)
            rw [ih h, put_length]
        rw [this hl, repl_length, h1]
      have hfn : ι H.length = none := hf _ (Nat.le_refl _) (by simp)
      have hrow : ∀ j, j < len → (cut l (j * s) s).length = s ∧ CellsAt ι (cut l (j * s) s) l' (j * s) := by
        intro j hj
        have := rows_apart (e := s) hj
        refine ⟨cut_length _ _ _ (by omega), fun q x hx => ?_⟩
        rw [cut_get] at hx
        split at hx
        · obtain ⟨y, hy, r⟩ := q7.nth _ _ hx
          exact ⟨y, by simpa using hy, r, one_cell r (List.all_eq_true.1 h4 x (List.mem_of_getElem? hx))⟩
        · cases hx
      have hsz : l'.size = len * s := by rw [← Array.length_toList, q8, q9]
      obtain ⟨n1, n2⟩ := new_rows (w := w) (w' := w.alloc (Obj.cells l' el)) hfn rfl hrow (Nat.le_refl _) hsz
      have nb := new_block (w' := w.alloc (Obj.cells l' el)) E hfn rfl rfl n1
      refine ⟨_, _, _, _, bind_value (y := .slice (some ⟨w.heap.size, 0, none⟩) len len) (w' := w.alloc (Obj.cells l' el)) ?_, rfl, n2, nb.1, nb.2⟩
      have h0 : ¬ (len * s = 0) := by omega
      have h5 : ¬ (16777216 < len * s) := by omega
      rw [h1] at q6
      simp [Instr.buildSlice, K.run_und hu, K.run_size hs, if_neg h0, if_neg h5, K.run_zero q1, newRow]
      simp at q6
      rw [q6]
      simp
  case load t a =>
    obtain ⟨z, h1, h2, h3, h4⟩ := load_sound K E (hv a (by simp)) h hc
    exact Sound.keep E (bind_value h1) h2 h3 h4
  case store t a x =>
    obtain ⟨w', h1, h2, h3, h4⟩ := store_sound K E (hv a (by simp)) (hv x (by simp)) h hc
    exact ⟨.skip, w', ι, undef, bind_skip h1, rfl, by rw [h4]; rfl, h2, h3⟩
  case nilCheck x =>
    have hx := hv x (by simp)
    split at h <;> try (cases h; done)
    · rename_i i rr oo he
      cases h
      rw [he] at hx
      obtain ⟨l, h1, h2⟩ := hx
      exact Sound.pure E (by rw [h2]; rfl) ⟨l, h1, rfl⟩
    · rename_i f a b he
      cases h
      rw [he] at hx
      obtain ⟨a', b', h1, h2⟩ := hx
      exact Sound.pure E (by rw [h1]; rfl) ⟨a', b', rfl, h2⟩
  case binOp op t x y yt =>
    cases hb : abin P T op t x y (ev x) (ev y) with
    | none => rw [hb] at h; cases h
    | some vc =>
      obtain ⟨v, c⟩ := vc
      rw [hb] at h; cases h
      obtain ⟨z, h1, h2⟩ := abin_run K hb hc (hv x (by simp)) (hv y (by simp)) w
      exact Sound.pure E (bind_value h1) h2
  case unOp op t x =>
    have hx := hv x (by simp)
    split at h <;> try (cases h; done)
    · rename_i b he
      cases h; rw [he] at hx
      exact Sound.pure E (bind_value (y := .bool (!b)) (by rw [show ρ x = .bool b from hx]; rfl)) rfl
    · rename_i b he
      cases h; rw [he] at hx
      exact Sound.pure E (bind_value (y := .bool (!b)) (by rw [show ρ x = .bool b from hx]; rfl)) rfl
    · rename_i op' v _ he
      rw [he] at hx
      cases hp : pureRun P (Op.unary _ v) with
      | none => rw [hp] at h; cases h
      | some z =>
        rw [hp] at h; cases h
        exact Sound.pure E (bind_value (by rw [show ρ x = v from hx]; exact pureRun_run _ w hp)) rfl
  case convert s t x =>
    have hx := hv x (by simp)
    split at h <;> try (cases h; done)
    · rename_i d k kk n hs hu he
      cases h; rw [he] at hx
      refine Sound.pure E (bind_value (y := .int k (k.wrap n)) ?_) rfl
      rw [show ρ x = .int kk n from hx]
      cases d <;> simp [convert, K.run_und hs, K.run_und hu, Conv.intToInt]
    · rename_i d b hs hu he
      cases h; rw [he] at hx
      refine Sound.pure E (bind_value (y := .string b) ?_) rfl
      rw [show ρ x = .string b from hx]
      cases d <;> simp [convert, K.run_und hs, K.run_und hu]
    · rename_i d k a b hs hu he
      rw [he] at hx
      cases hp : pureRun P (convert s t (.float a b)) with
      | none => rw [hp] at h; cases h
      | some z =>
        rw [hp] at h; cases h
        exact Sound.pure E (bind_value (by rw [show ρ x = .float a b from hx]; exact pureRun_run _ w hp)) rfl
    · rename_i d k a b hs hu he
      rw [he] at hx
      cases hp : pureRun P (convert s t (.int a b)) with
      | none => rw [hp] at h; cases h
      | some z =>
        rw [hp] at h; cases h
        exact Sound.pure E (bind_value (by rw [show ρ x = .int a b from hx]; exact pureRun_run _ w hp)) rfl
  case makeInterface t x =>
    split at h <;> try (cases h; done)
    rename_i d hni hu
    cases h
    refine Sound.pure E (bind_value (y := .iface t (ρ x)) ?_) ⟨_, rfl, hv x (by simp)⟩
    cases d <;> first | exact (hni _ rfl).elim | simp [Instr.makeInterface, K.run_und hu]
  case makeFunc f a b =>
    cases h
    refine Sound.pure E (bind_value (y := .func f (a.map ρ) (b.map ρ)) rfl) ⟨a.toList.map ρ, b.toList.map ρ, ?_, VRs_map fun x hx => hv x (by simp at hx ⊢; exact .inl hx), VRs_map fun x hx => hv x (by simp at hx ⊢; exact .inr hx)⟩
    congr 1 <;> (apply Array.ext'; simp)
  case makeMap t rr =>
    cases rr <;> try (cases h; done)
    have mk : ∀ strs, Sound ι H w ⟨.map H.length, H ++ [some (.map strs 0 (fun _ => false) (fun _ => .junk))], [], true, orc⟩ ((do pure (Next.value (← Instr.makeMap t none)) : Sem Next).run P w) ∨ ¬ (ι H.length = none) := by
      intro strs
      by_cases hfn : ι H.length = none
      · left
        have nb := new_block (w' := w.alloc (Obj.map #[] 0)) (l := ⟨w.heap.size, 0, 0, 0⟩) (o := .map strs 0 (fun _ => false) (fun _ => .junk)) E hfn rfl rfl
          ⟨#[], 0, by show (w.heap.push _)[w.heap.size]? = _; simp, ⟨rfl, by simp, by simp, by simp, by simp⟩⟩
        exact ⟨_, _, _, _, bind_value (y := .map (some w.heap.size)) (w' := w.alloc (Obj.map #[] 0)) (by simp [Instr.makeMap]), rfl, ⟨_, by simp [Ren.set]; rfl, rfl⟩, nb.1, nb.2⟩
      · exact .inr hfn
    dsimp only [Option.map] at h ⊢
    split at h <;> try (cases h; done)
    split at h <;> try (cases h; done)
    · cases h
      exact (mk false).resolve_right (fun hn => hn (hf _ (Nat.le_refl _) (by simp)))
    · cases h
      exact (mk true).resolve_right (fun hn => hn (hf _ (Nat.le_refl _) (by simp)))
  case slice t x lo hi mx =>
    obtain ⟨y, h1, h2, h3, h4⟩ := slice_sound K (w := w) (hv x (by simp)) (optVR_map (x := lo) fun y hy => hv y (by simp at hy ⊢; simp [hy])) (optVR_map (x := hi) fun y hy => hv y (by simp at hy ⊢; simp [hy]))
      (optVR_map (x := mx) fun y hy => hv y (by simp at hy ⊢; simp [hy])) h hc
    exact Sound.keep E (bind_value h1) h2 h3 h4
  case fieldAddr t x f =>
    have hx := hv x (by simp)
    split at h <;> try (cases h; done)
    rename_i fd i rr oo hfd he
    split at h <;> try (cases h; done)
    rename_i n hs
    cases h
    rw [he] at hx
    obtain ⟨l, h1, h2⟩ := hx
    obtain ⟨fs, h3, h4⟩ := fieldOf_und K hfd
    refine Sound.pure E (bind_value (y := .pointer (some ((addr l rr oo).add fd.offset))) ?_) ⟨l, h1, by rw [addr_add]⟩
    rw [h2]
    simp [Instr.fieldAt, run_underlying h3, h4, Instr.sureAddr, fieldPlace, K.run_size hs]
  case field t x f =>
    have hx := hv x (by simp)
    split at h <;> try (cases h; done)
    rename_i fd cs hfd hcs
    split at h <;> try (cases h; done)
    rename_i v hp
    cases h
    obtain ⟨fs, h3, h4⟩ := fieldOf_und K hfd
    obtain ⟨ys, h5, h6⟩ := agg_ofVR hx hcs
    obtain ⟨y, h7, h8⟩ := run_part K hp h6 w
    exact Sound.pure E (bind_value (by rw [h5]; simp [Instr.field, run_underlying h3, h4, asAgg, h7])) h8
  case indexAddr t x ix =>
    obtain ⟨y, h1, h2, h3, h4⟩ := indexAddr_sound K (w := w) (hv x (by simp)) (hv ix (by simp)) h hc
    exact Sound.keep E (bind_value h1) h2 h3 h4
  case index t x ix =>
    obtain ⟨y, h1, h2, h3, h4⟩ := index_sound K (w := w) (hv x (by simp)) (hv ix (by simp)) h hc
    exact Sound.keep E (bind_value h1) h2 h3 h4
  case lookup t m k ok =>
    obtain ⟨y, h1, h2, h3, h4⟩ := lookup_sound K E (hv m (by simp)) (hv k (by simp)) h hc
    exact Sound.keep E (bind_value h1) h2 h3 h4
  case mapUpdate t m k x =>
    obtain ⟨w', h1, h2, h3, h4⟩ := update_sound K E (hv m (by simp)) (hv k (by simp)) (hv x (by simp)) h hc
    exact ⟨.skip, w', ι, undef, bind_skip h1, rfl, by rw [h4]; rfl, h2, h3⟩
  case insert t m k x =>
    obtain ⟨w', h1, h2, h3, h4⟩ := update_sound K E (hv m (by simp)) (hv k (by simp)) (hv x (by simp)) h hc
    exact ⟨.skip, w', ι, undef, bind_skip h1, rfl, by rw [h4]; rfl, h2, h3⟩
  case extract x i =>
    have hx := hv x (by simp)
    split at h <;> try (cases h; done)
    · rename_i l he
      rw [he] at hx
      obtain ⟨l', h1, h2⟩ := hx
      cases hn : nth l i with
      | none => rw [hn] at h; cases h
      | some v =>
        rw [hn] at h; cases h
        rw [nth_eq] at hn
        obtain ⟨y, h3, h4⟩ := h2.nth _ _ hn
        exact Sound.pure E (bind_value (by rw [h1]; simp [Instr.extract, h3])) h4
    · rename_i vs he
      rw [he] at hx
      cases hn : nth vs.toList i with
      | none => rw [hn] at h; cases h
      | some v =>
        rw [hn] at h; cases h
        rw [nth_eq] at hn
        exact Sound.pure E (bind_value (y := v) (by rw [show ρ x = .tuple vs from hx]; simp at hn; simp [Instr.extract, hn])) rfl
  case call c =>
    split at h <;> try (cases h; done)
    rename_i b hb
    have hv' : ∀ x ∈ c.args.toList, VR ι (ev x) (ρ x) := fun x hx => hv x (by unfold Call.operands; rw [hb]; simpa using hx)
    have := builtin_sound K (rt := o.type) (cs := c.args.map fun | .const _ => true | _ => false) E (VRs_map hv') h hc hf
    have e1 : (do let d ← resolve ρ c o.type; invoke d.target d.args : Sem Next) = builtin b c.argTypes o.type (c.args.map fun | .const _ => true | _ => false) (c.args.map ρ) := by
      simp [resolve, hb, invoke]; rfl
    rw [e1]
    have e2 : (c.args.toList.map ρ).toArray = c.args.map ρ := by apply Array.ext'; simp
    rw [e2] at this
    exact this
end
end Go.Ab
