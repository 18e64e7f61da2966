/-
  The operations, third part: operators, structs, addresses, slices, maps, builtins.
-/
import Derived.Test.YtcoejfgecnaphaaAb4
set_option linter.unusedSimpArgs false
set_option linter.unusedVariables false
namespace Go.Ab
section
variable {P : Program} {T : TT}

theorem arith_run {op : BinOp} {t : TypeId} {k : IntKind} {a b : Int} {v : AV} {c : Bool} {ι : Ren} (h : arith op k a b = some (v, c)) (hc : c = true) (w : World) :
    ∃ z, (binOp op t (.int k a) (.int k b)).run P w = .ok z w ∧ VR ι v z := by
  cases op <;> simp only [arith, Option.some.injEq, Prod.mk.injEq] at h <;> try (cases h; done)
  all_goals (obtain ⟨rfl, rfl⟩ := h; refine ⟨_, ?_, rfl⟩)
  all_goals first
    | (simp [go_sem, binOp, Op.intArith, Op.intCmp]; done)
    | (simp at hc; simp [binOp, Op.intDiv, hc])

theorem eqGuard_ok {op : BinOp} {t : TypeId} {ox oy : Operand} {x y : Value} (hg : P.eqGuardType P.depth t = false) (hn : x ≠ .nilIface) (w : World) :
    (eqGuard op t ox oy x y).run P w = .ok () w := by
  cases x <;> first
    | exact absurd rfl hn
    | (simp [go_sem]; done)
    | (cases y <;> first
        | (cases op <;> rfl)
        | exact run_eqGuard_agg w op t ox oy _ _ hg)

theorem wide_value {ι : Ren} {x : AV} {x' : Value} (h : VR ι x x') (hw : wide x = true) : (∃ b, x' = .bool b) ∨ ∃ cs, x' = .agg cs := by
  cases x <;> simp only [wide] at hw <;> try (cases hw; done)
  · rename_i v
    cases h
    cases x' <;> try (cases hw; done)
    · exact .inl ⟨_, rfl⟩
    · exact .inr ⟨_, rfl⟩
  · exact .inl ⟨_, h⟩
  · obtain ⟨l', rfl, _⟩ := h; exact .inr ⟨_, rfl⟩

theorem und_of_isPtr {t : Nat} (K : TOK P T) (h : isPtrT T t = true) : ∃ e, P.underlying t = some (.pointer e) := by
  unfold isPtrT at h
  cases hu : T.und t with
  | none => simp [hu] at h
  | some d => cases d <;> simp [hu] at h; exact ⟨_, K.und _ _ hu⟩
theorem und_of_isSlice {t : Nat} (K : TOK P T) (h : isSliceT T t = true) : ∃ e, P.underlying t = some (.slice e) := by
  unfold isSliceT at h
  cases hu : T.und t with
  | none => simp [hu] at h
  | some d => cases d <;> simp [hu] at h; exact ⟨_, K.und _ _ hu⟩
theorem und_of_isIface {t : Nat} (K : TOK P T) (h : isIfaceT T t = true) : ∃ e, P.underlying t = some (.interface e) := by
  unfold isIfaceT at h
  cases hu : T.und t with
  | none => simp [hu] at h
  | some d => cases d <;> simp [hu] at h; exact ⟨_, K.und _ _ hu⟩

inductive NilKind | p | s | i
/-- What a value that is nil or not looks like. -/
def NilAt (k : NilKind) (b : Bool) (x : Value) : Prop :=
  match k, b with
  | .p, true => x = .pointer none
  | .p, false => ∃ a, x = .pointer (some a)
  | .s, true => ∃ n c, x = .slice none n c
  | .s, false => ∃ a n c, x = .slice (some a) n c
  | .i, true => x = .nilIface
  | .i, false => ∃ t v, x = .iface t v
def KindAt (P : Program) (k : NilKind) (t : TypeId) : Prop :=
  match k with
  | .p => ∃ e, P.underlying t = some (.pointer e)
  | .s => ∃ e, P.underlying t = some (.slice e)
  | .i => ∃ e, P.underlying t = some (.interface e)

theorem nilP_at (K : TOK P T) {ι : Ren} {t : Nat} {x : AV} {x' : Value} {b : Bool} (h : nilP T t x = some b) (hx : VR ι x x') : ∃ k, KindAt P k t ∧ NilAt k b x' := by
  cases x <;> simp only [nilP] at h <;> try (cases h; done)
  · rename_i v
    cases hx
    cases x' <;> try (cases h; done)
    · rename_i a
      cases a <;> try (cases h; done)
      dsimp only at h
      split at h <;> cases h
      exact ⟨.p, und_of_isPtr K ‹_›, rfl⟩
    · rename_i a n c
      cases a <;> try (cases h; done)
      dsimp only at h
      split at h <;> cases h
      exact ⟨.s, und_of_isSlice K ‹_›, _, _, rfl⟩
    · dsimp only at h
      split at h <;> cases h
      exact ⟨.i, und_of_isIface K ‹_›, rfl⟩
  · obtain ⟨l, _, rfl⟩ := hx
    split at h <;> cases h
    exact ⟨.p, und_of_isPtr K ‹_›, _, rfl⟩
  · obtain ⟨l, a, cap, _, rfl, _⟩ := hx
    split at h <;> cases h
    exact ⟨.s, und_of_isSlice K ‹_›, _, _, _, rfl⟩
  · obtain ⟨l, a, cap, _, rfl, _⟩ := hx
    split at h <;> cases h
    exact ⟨.s, und_of_isSlice K ‹_›, _, _, _, rfl⟩
  · obtain ⟨a, rfl⟩ := hx
    split at h <;> cases h
    exact ⟨.s, und_of_isSlice K ‹_›, _, _, _, rfl⟩
  · obtain ⟨x', rfl, _⟩ := hx
    split at h <;> cases h
    exact ⟨.i, und_of_isIface K ‹_›, _, _, rfl⟩

/-- '==' of two values one of which is nil. -/
theorem nil_equal_at (d : Nat) {t : TypeId} {x y : Value} {a b : Bool} {k k' : NilKind} (hk : KindAt P k t) (hk' : KindAt P k' t) (hx : NilAt k a x) (hy : NilAt k' b y) (hab : a = true ∨ b = true) (w : World) :
    (Op.equalIn (d + 1) t x y).run P w = .ok (a && b) w := by
  cases k <;> cases k' <;> obtain ⟨e, he⟩ := hk <;> obtain ⟨e', he'⟩ := hk' <;> rw [he] at he' <;> try (cases he'; done)
  all_goals cases a <;> cases b <;> simp at hab <;> simp only [NilAt] at hx hy
  all_goals
    (try obtain ⟨_, _, _, rfl⟩ := hx)
  all_goals
    (try obtain ⟨_, _, rfl⟩ := hx)
  all_goals
    (try obtain ⟨_, rfl⟩ := hx)
  all_goals (try subst hx)
  all_goals
    (try obtain ⟨_, _, _, rfl⟩ := hy)
  all_goals
    (try obtain ⟨_, _, rfl⟩ := hy)
  all_goals
    (try obtain ⟨_, rfl⟩ := hy)
  all_goals (try subst hy)
  all_goals simp [Op.equalIn, run_underlying he]

theorem nil_equal {t : TypeId} {x y : Value} {a b : Bool} {k k' : NilKind} (hk : KindAt P k t) (hk' : KindAt P k' t) (hx : NilAt k a x) (hy : NilAt k' b y) (hab : a = true ∨ b = true) (w : World) :
    (Op.equalIn 10000 t x y).run P w = .ok (a && b) w := nil_equal_at 9999 hk hk' hx hy hab w

theorem nil_eqGuard {op : BinOp} {t : TypeId} {ox oy : Operand} {x y : Value} {a b : Bool} {k k' : NilKind} (hx : NilAt k a x) (hy : NilAt k' b y) (hn : ¬ (x = .nilIface ∧ y = .nilIface)) :
    eqGuard op t ox oy x y = pure () := by
  cases x <;> first
    | (simp [go_sem]; done)
    | (cases op <;> cases y <;> first | rfl | exact absurd ⟨rfl, rfl⟩ hn)
    | (cases k <;> cases a <;> simp [NilAt] at hx)

theorem binOp_eql_gen {t : TypeId} {x y : Value} (h : (∃ b, x = .bool b) ∨ (∃ cs, x = .agg cs) ∨ ∃ k a, NilAt k a x) : binOp .eql t x y = (do pure (.bool (← Op.equal t x y)) : Sem Value) := by
  cases x <;> first
    | (cases y <;> rfl)
    | (exfalso; rcases h with ⟨_, h⟩ | ⟨_, h⟩ | ⟨k, a, h⟩ <;> first | (cases h; done) | (cases k <;> cases a <;> simp [NilAt] at h))

theorem binOp_neq_gen {t : TypeId} {x y : Value} (h : (∃ b, x = .bool b) ∨ (∃ cs, x = .agg cs) ∨ ∃ k a, NilAt k a x) : binOp .neq t x y = (do pure (.bool (!(← Op.equal t x y))) : Sem Value) := by
  cases x <;> first
    | (cases y <;> rfl)
    | (exfalso; rcases h with ⟨_, h⟩ | ⟨_, h⟩ | ⟨k, a, h⟩ <;> first | (cases h; done) | (cases k <;> cases a <;> simp [NilAt] at h))

theorem equal_eq (t : TypeId) (x y : Value) : Op.equal t x y = Op.equalIn 10000 t x y := rfl

theorem eqlA_run (K : TOK P T) {ι : Ren} {t : Nat} {ox oy : Operand} {x y v : AV} {x' y' : Value} (h : eqlA T t x y = some v) (hx : VR ι x x') (hy : VR ι y y') (w : World) :
    ∃ c, (v = .b c ∨ v = .v (.bool c)) ∧ (do eqGuard .eql t ox oy x' y'; binOp .eql t x' y' : Sem Value).run P w = .ok (.bool c) w ∧
      (do eqGuard .neq t ox oy x' y'; binOp .neq t x' y' : Sem Value).run P w = .ok (.bool (!c)) w := by
  have fin : ∀ c, ((∃ b, x' = .bool b) ∨ (∃ cs, x' = .agg cs) ∨ ∃ k a, NilAt k a x') → (∀ op, (eqGuard op t ox oy x' y').run P w = .ok () w) → (Op.equalIn 10000 t x' y').run P w = .ok c w →
      (do eqGuard .eql t ox oy x' y'; binOp .eql t x' y' : Sem Value).run P w = .ok (.bool c) w ∧
      (do eqGuard .neq t ox oy x' y'; binOp .neq t x' y' : Sem Value).run P w = .ok (.bool (!c)) w := by
    intro c h1 h2 h3
    rw [binOp_eql_gen h1, binOp_neq_gen h1]
    constructor <;> simp only [Sem.run_bind, h2, Result.andThen_ok, equal_eq, h3, Sem.run_pure]
  have nils : ∀ a b, nilP T t x = some a → nilP T t y = some b → (a = true ∨ b = true) → ¬ (a = true ∧ b = true ∧ isIfaceT T t = true) →
      (do eqGuard .eql t ox oy x' y'; binOp .eql t x' y' : Sem Value).run P w = .ok (.bool (a && b)) w ∧
      (do eqGuard .neq t ox oy x' y'; binOp .neq t x' y' : Sem Value).run P w = .ok (.bool (!(a && b))) w := by
    intro a b ha hb hab hnn
    obtain ⟨k, hk1, hk2⟩ := nilP_at K ha hx
    obtain ⟨k', hk1', hk2'⟩ := nilP_at K hb hy
    refine fin _ (.inr (.inr ⟨k, a, hk2⟩)) (fun op => ?_) (nil_equal hk1 hk1' hk2 hk2' hab w)
    rw [nil_eqGuard hk2 hk2' ?_]
    · rfl
    · rintro ⟨rfl, rfl⟩
      have hi : k = .i ∧ a = true := by cases k <;> cases a <;> simp [NilAt] at hk2 <;> exact ⟨rfl, rfl⟩
      have hj : b = true := by cases k' <;> cases b <;> simp [NilAt] at hk2' <;> rfl
      refine hnn ⟨hi.2, hj, ?_⟩
      -- a nil interface value: its abstract form is one of the interface's
      cases x <;> simp only [nilP] at ha <;> try (cases ha; done)
      · cases hx
        dsimp only at ha
        split at ha <;> first | assumption | cases ha
      all_goals (first | (obtain ⟨_, _, h0⟩ := hx; cases h0; done) | (obtain ⟨_, _, _, _, h0, _⟩ := hx; cases h0; done) | (obtain ⟨_, _, _, _, _, h0, _⟩ := hx; cases h0; done) | (obtain ⟨_, h0⟩ := hx; cases h0; done) | (obtain ⟨_, h0, _⟩ := hx; cases h0; done))
  have third : (match T.plain t, wide x, eqAt T 20 t x y with
      | true, true, some c => some (AV.v (.bool c))
      | _, _, _ => none) = some v → ∃ c, (v = .b c ∨ v = .v (.bool c)) ∧ (do eqGuard .eql t ox oy x' y'; binOp .eql t x' y' : Sem Value).run P w = .ok (.bool c) w ∧
      (do eqGuard .neq t ox oy x' y'; binOp .neq t x' y' : Sem Value).run P w = .ok (.bool (!c)) w := by
    intro h
    split at h
    · rename_i c hp hw he
      cases h
      have h1 := wide_value hx hw
      refine ⟨c, .inr rfl, fin c (by rcases h1 with h1 | h1 <;> simp [h1]) (fun op => eqGuard_ok (K.plain t hp).2.1 (by rcases h1 with ⟨b, rfl⟩ | ⟨b, rfl⟩ <;> simp) w) ?_⟩
      exact eqAt_run K w 20 10000 t x y x' y' c (by omega) he hx hy
    · cases h
  cases ha : nilP T t x with
  | none => rw [eqlA, ha] at h; exact third h
  | some a =>
    cases hb : nilP T t y with
    | none => rw [eqlA, ha, hb] at h; cases a <;> exact third h
    | some b =>
      rw [eqlA, ha, hb] at h
      cases a <;> cases b
      · exact third h
      · cases h
        have := nils false true ha hb (.inr rfl) (by simp)
        exact ⟨false, .inl rfl, by simpa using this⟩
      · cases h
        have := nils true false ha hb (.inl rfl) (by simp)
        exact ⟨false, .inl rfl, by simpa using this⟩
      · cases hi : isIfaceT T t with
        | true => rw [hi] at h; cases h
        | false =>
          rw [hi] at h; cases h
          have := nils true true ha hb (.inl rfl) (by simp [hi])
          exact ⟨true, .inl rfl, by simpa using this⟩

theorem notA_VR {ι : Ren} {v : AV} {c : Bool} (h : v = .b c ∨ v = .v (.bool c)) : VR ι (notA v) (.bool (!c)) ∧ VR ι v (.bool c) := by
  rcases h with rfl | rfl <;> exact ⟨rfl, rfl⟩

theorem pureRun_VR {s : Sem Value} {v : AV} {c : Bool} {ι : Ren} (h : (pureRun P s).map (fun v => (AV.v v, true)) = some (v, c)) (w : World) : ∃ z, s.run P w = .ok z w ∧ VR ι v z := by
  cases hp : pureRun P s with
  | none => simp [hp] at h
  | some z => simp [hp] at h; obtain ⟨rfl, rfl⟩ := h; exact ⟨z, pureRun_run s w hp, rfl⟩

theorem stringOp_cmp {op : BinOp} {t : TypeId} {a b : ByteArray} : binOp op t (.string a) (.string b) = Op.stringOp op a b := by cases op <;> rfl

theorem abin_run (K : TOK P T) {ι : Ren} {op : BinOp} {t : Nat} {ox oy : Operand} {x y v : AV} {x' y' : Value} {c : Bool} (h : abin P T op t ox oy x y = some (v, c)) (hc : c = true)
    (hx : VR ι x x') (hy : VR ι y y') (w : World) : ∃ z, (do eqGuard op t ox oy x' y'; binOp op t x' y' : Sem Value).run P w = .ok z w ∧ VR ι v z := by
  unfold abin at h
  split at h
  · -- ints
    rename_i k a k' b
    cases hx; cases hy
    simp only [eqGuard_at_int, Sem.run_bind, Sem.run_pure, Result.andThen_ok]
    split at h
    · cases h; simp at hc
      refine ⟨_, ?_, rfl⟩
      simp [binOp, Op.shift, show ¬ b < 0 from by omega]
    · cases h; simp at hc
      refine ⟨_, ?_, rfl⟩
      simp [binOp, Op.shift, show ¬ b < 0 from by omega]
    · split at h
      · rename_i e; subst e; obtain ⟨z, h1, h2⟩ := pureRun_VR h w; exact ⟨z, by simpa [binOp] using h1, h2⟩
      · cases h
    · split at h
      · rename_i e; subst e; obtain ⟨z, h1, h2⟩ := pureRun_VR h w; exact ⟨z, by simpa [binOp] using h1, h2⟩
      · cases h
    · split at h
      · rename_i e; subst e; obtain ⟨z, h1, h2⟩ := pureRun_VR h w; exact ⟨z, by simpa [binOp] using h1, h2⟩
      · cases h
    · split at h
      · rename_i e; subst e; obtain ⟨z, h1, h2⟩ := pureRun_VR h w; exact ⟨z, by simpa [binOp] using h1, h2⟩
      · cases h
    · split at h
      · rename_i e; subst e; exact arith_run h hc w
      · cases h
  · -- strings
    rename_i a b
    cases hx; cases hy
    simp only [eqGuard_at_string, Sem.run_bind, Sem.run_pure, Result.andThen_ok, stringOp_cmp]
    split at h
    · cases h; simp at hc
      refine ⟨_, ?_, rfl⟩
      simp [Op.stringOp]; omega
    · cases h
      exact ⟨.bool (seq a b), by simp [Op.stringOp, seq_eq], rfl⟩
    · cases h
      exact ⟨.bool (!seq a b), by simp [Op.stringOp, seq_eq], rfl⟩
    · exact pureRun_VR h w
  · cases hx; cases hy
    simp only [eqGuard_at_float, Sem.run_bind, Sem.run_pure, Result.andThen_ok]
    exact pureRun_VR h w
  · cases hx; cases hy
    simp only [eqGuard_at_complex, Sem.run_bind, Sem.run_pure, Result.andThen_ok]
    exact pureRun_VR h w
  · -- nil interfaces
    cases hx; cases hy
    split at h
    · rename_i h1 h2; cases h
      obtain ⟨e, he⟩ := und_of_isIface K h2
      refine ⟨.bool true, ?_, rfl⟩
      have hg : eqGuard .eql t ox oy .nilIface .nilIface = pure () := by
        cases ox <;> cases oy <;> simp [constOp] at h1 <;> rfl
      have hq : (Op.equalIn 10000 t .nilIface .nilIface).run P w = .ok true w := nil_equal (a := true) (b := true) (k := .i) (k' := .i) ⟨e, he⟩ ⟨e, he⟩ rfl rfl (.inl rfl) w
      simp only [hg, Sem.run_bind, Sem.run_pure, Result.andThen_ok]
      show (do pure (.bool (← Op.equal t .nilIface .nilIface)) : Sem Value).run P w = _
      simp only [Sem.run_bind, equal_eq, hq, Result.andThen_ok, Sem.run_pure]
    · rename_i h1 h2; cases h
      obtain ⟨e, he⟩ := und_of_isIface K h2
      refine ⟨.bool false, ?_, rfl⟩
      have hg : eqGuard .neq t ox oy .nilIface .nilIface = pure () := by
        cases ox <;> cases oy <;> simp [constOp] at h1 <;> rfl
      have hq : (Op.equalIn 10000 t .nilIface .nilIface).run P w = .ok true w := nil_equal (a := true) (b := true) (k := .i) (k' := .i) ⟨e, he⟩ ⟨e, he⟩ rfl rfl (.inl rfl) w
      simp only [hg, Sem.run_bind, Sem.run_pure, Result.andThen_ok]
      show (do pure (.bool (!(← Op.equal t .nilIface .nilIface))) : Sem Value).run P w = _
      simp only [Sem.run_bind, equal_eq, hq, Result.andThen_ok, Sem.run_pure, Bool.not_true]
    · cases h
  · split at h
    · cases he : eqlA T t x y with
      | none => simp [he] at h
      | some u =>
        simp [he] at h
        obtain ⟨rfl, rfl⟩ := h
        obtain ⟨c, h1, h2, h3⟩ := eqlA_run K (ox := ox) (oy := oy) he hx hy w
        exact ⟨_, h2, (notA_VR h1).2⟩
    · cases he : eqlA T t x y with
      | none => simp [he] at h
      | some u =>
        simp [he] at h
        obtain ⟨rfl, rfl⟩ := h
        obtain ⟨c, h1, h2, h3⟩ := eqlA_run K (ox := ox) (oy := oy) he hx hy w
        exact ⟨_, h3, (notA_VR h1).1⟩
    · cases h
end
end Go.Ab
