/-
  Regions that draw their order.
-/
import Derived.Test.YtcoejfgecnaphaaAbE
set_option linter.unusedSimpArgs false
set_option linter.unusedVariables false
namespace Go.Ab

def cnt (D : Nat → Bool) : Nat → Nat
  | 0 => 0
  | n + 1 => cnt D n + if D n then 0 else 1

theorem cnt_add {D : Nat → Bool} {k : Nat} (hD : D k = false) : ∀ n, (k < n → cnt (fun j => D j || j == k) n + 1 = cnt D n) ∧ (n ≤ k → cnt (fun j => D j || j == k) n = cnt D n)
  | 0 => ⟨fun h => by omega, fun _ => rfl⟩
  | n + 1 => by
    obtain ⟨h1, h2⟩ := cnt_add hD n
    refine ⟨fun h => ?_, fun h => ?_⟩
    · simp only [cnt]
      by_cases e : n = k
      · subst e
        have := h2 (Nat.le_refl _)
        simp [hD, this]
      · have := h1 (by omega)
        simp [e]; omega
    · simp only [cnt]
      have := h2 (by omega)
      simp [show n ≠ k from by omega, this]

theorem cnt_zero {D : Nat → Bool} : ∀ {n}, cnt D n = 0 → ∀ k, k < n → D k = true
  | 0, _, k, hk => by omega
  | n + 1, h, k, hk => by
    simp only [cnt] at h
    by_cases e : k = n
    · subst e; cases hD : D k with
      | true => rfl
      | false => rw [hD] at h; simp at h
    · exact cnt_zero (n := n) (by omega) k (by omega)

theorem gD_false {L V : Type} {f : Nat → L → Option V} {g0 : L → V} {x : L} : ∀ n, gD f g0 (fun _ => false) n x = g0 x
  | 0 => rfl
  | n + 1 => by simp [gD, gD_false n]

section
variable {P : Program} {T : TT}

theorem draw_region (K : TOK P T) {call : CallF} (C : CallsOK P call) {N : Nat} {all : List Oper} {Q : Exit → Act → World → Prop} {ι0 : Ren} {H0 : Heap} {w0 : World} {s s' : RS} {tr : List TE}
    (h : regGo P T call N all all 0 s = some (s', tr)) (hc : s'.c = true) (hind : indep all tr = true) (hf : ∀ i, s.H.length ≤ i → i < s'.H.length → ι0 i = none) {ι : Ren} {a : Act} {w : World} (R : Rel ι0 H0 w0 ι N s a w)
    (hq : ∀ a' w' ι', Rel ι0 H0 w0 ι' N s' a' w' → Q .normal a' w') : wpAny P .any all.toArray Q all.length (Array.replicate all.length false) a w := by
  obtain ⟨b1, b2, b3, b4, b5, b6, b7⟩ := trace_at (σ0 := s.σ) (h0 := hget s.H) tr all 0 s s' tr [] h hc rfl rfl rfl rfl
  have hlen : tr.length = all.length := by rw [← b3]; simp
  have hall : ∀ (k : Nat) (t : TE), tr[k]? = some t → all[k]? = some t.o := fun k t ht => by rw [← b3]; simp [ht]
  have hsp := indepAll_spec (all := all) (as := ancs all []) (l := tr) (before := []) (k := 0) hind rfl
  simp only [Nat.zero_add, List.nil_append] at hsp
  let A : Nat → List Nat := fun k => (nth (ancs all []) k).getD []
  have hA : ∀ (k : Nat) (t : TE), tr[k]? = some t → ∀ x, x ∈ A k ↔ ∃ j ∈ preds t.o, x = j ∨ x ∈ A j := fun k t ht x => ancs_spec (hall k t ht) (hsp k t ht).1
  -- the end of the region
  have done_ : ∀ (D : Nat → Bool) (ι1 : Ren) (a1 : Act) (w1 : World) (hh : Nat → Option AObj) (wr : Nat → Prop), (∀ k, k < all.length → D k = true) →
      (∀ x, VR ι1 (gD (fS tr) s.σ D all.length x) (a1.tmps.getD x undef)) → a1.tmps.size = N → a1.defers = [] → Emb ι1 hh w1 → hh = gD (fH tr) (hget s.H) D all.length →
      (∀ i, wr i ↔ i ∈ s.wr ∨ ∃ (j : Nat) (t : TE), tr[j]? = some t ∧ D j = true ∧ i ∈ t.wr) →
      TrG ι0 ι1 (hget H0) hh (fun i => (H0.length ≤ i ∧ i < s.H.length) ∨ ∃ (j : Nat) (t : TE), tr[j]? = some t ∧ D j = true ∧ t.n ≤ i ∧ i < t.H'.length) wr w0 w1 → Q .normal a1 w1 := by
    intro D ι1 a1 w1 hh wr hD h1 h2 h3 h4 h5 h6 h7
    have e1 : ∀ x, gD (fS tr) s.σ D all.length x = s'.σ x := fun x => by
      rw [b4, hlen]; exact gD_congr _ fun j hj _ => hD j hj
    have e2 : hh = hget s'.H := by
      rw [h5, b5, hlen]; funext i; exact gD_congr _ fun j hj _ => hD j hj
    subst e2
    refine hq a1 w1 ι1 ⟨fun x => by rw [← e1]; exact h1 x, h2, h3, h4, by have := R.le; omega, ?_⟩
    have hwr : ∀ i, wr i ↔ i ∈ s'.wr := fun i => by
      rw [h6, b6]
      constructor
      · rintro (h | ⟨j, t, a, b, c⟩)
        · exact .inl h
        · exact .inr ⟨t, List.mem_of_getElem? a, c⟩
      · rintro (h | ⟨t, a, c⟩)
        · exact .inl h
        · obtain ⟨j, hj, e⟩ := List.getElem_of_mem a
          exact .inr ⟨j, t, by rw [List.getElem?_eq_getElem hj, e], hD j (by omega), c⟩
    have e : wr = fun i => i ∈ s'.wr := funext fun i => propext (hwr i)
    subst e
    have inside : ∀ i, ((H0.length ≤ i ∧ i < s.H.length) ∨ ∃ (j : Nat) (t : TE), tr[j]? = some t ∧ D j = true ∧ t.n ≤ i ∧ i < t.H'.length) → H0.length ≤ i ∧ i < s'.H.length := by
      rintro i (hn | ⟨j, t, a, b, c⟩)
      · omega
      · obtain ⟨d1, d2, d3, _⟩ := b7 j t a (Nat.zero_le _); have := R.le; omega
    refine ⟨fun i hi => h7.ext i fun hn => hi (inside i hn), fun i hi hw => h7.same i (fun hn => hi (inside i hn)) hw, fun i hw hi => h7.live i hw (fun hn => hi (inside i hn)), h7.mono, h7.kept, fun i hi l hl hne => ?_, h7.os⟩
    by_cases hn : (H0.length ≤ i ∧ i < s.H.length) ∨ ∃ (j : Nat) (t : TE), tr[j]? = some t ∧ D j = true ∧ t.n ≤ i ∧ i < t.H'.length
    · exact h7.neu i hn l hl hne
    · rw [h7.ext i hn] at hl
      rw [hf i (by
        apply Nat.le_of_not_lt; intro h'; exact hn (.inl ⟨hi.1, h'⟩)) hi.2] at hl
      cases hl
  have main : ∀ (fuel : Nat) (listed : Array Bool) (ι1 : Ren) (a1 : Act) (w1 : World) (hh : Nat → Option AObj) (wr : Nat → Prop), listed.size = all.length → cnt (fun k => listed.getD k false) all.length = fuel →
      (∀ k, listed.getD k false = true → ∀ x ∈ A k, listed.getD x false = true) →
      (∀ x, VR ι1 (gD (fS tr) s.σ (fun k => listed.getD k false) all.length x) (a1.tmps.getD x undef)) → a1.tmps.size = N → a1.defers = [] → Emb ι1 hh w1 → hh = gD (fH tr) (hget s.H) (fun k => listed.getD k false) all.length →
      (∀ i, wr i ↔ i ∈ s.wr ∨ ∃ (j : Nat) (t : TE), tr[j]? = some t ∧ listed.getD j false = true ∧ i ∈ t.wr) →
      TrG ι0 ι1 (hget H0) hh (fun i => (H0.length ≤ i ∧ i < s.H.length) ∨ ∃ (j : Nat) (t : TE), tr[j]? = some t ∧ listed.getD j false = true ∧ t.n ≤ i ∧ i < t.H'.length) wr w0 w1 →
      wpAny P .any all.toArray Q fuel listed a1 w1 := by
    intro fuel
    induction fuel with
    | zero =>
      intro listed ι1 a1 w1 hh wr hsz hcnt hcl h1 h2 h3 h4 h5 h6 h7
      have hD := cnt_zero hcnt
      refine ⟨?_, done_ _ ι1 a1 w1 hh wr hD h1 h2 h3 h4 h5 h6 h7⟩
      rw [List.eq_nil_iff_forall_not_mem]
      intro j hj
      obtain ⟨hj0, o, ho, _⟩ := mem_ready.1 hj
      have hjl : j < all.length := by
        have := (Array.getElem?_eq_some_iff.1 ho).1; simpa using this
      have := hD j hjl
      have hjs : j < listed.size := by omega
      simp [hjs] at hj0 this
      rw [hj0] at this; cases this
    | succ fuel ih =>
      intro listed ι1 a1 w1 hh wr hsz hcnt hcl h1 h2 h3 h4 h5 h6 h7
      refine ⟨fun hr => ?_, fun k hk => ?_⟩
      · -- nothing is ready: all is done
        refine done_ _ ι1 a1 w1 hh wr (fun k => ?_) h1 h2 h3 h4 h5 h6 h7
        induction k using Nat.strongRecOn with
        | ind k ihk =>
          intro hkl
          cases hD : listed.getD k false with
          | true => rfl
          | false =>
            exfalso
            obtain ⟨t, ht⟩ : ∃ t, tr[k]? = some t := ⟨_, List.getElem?_eq_getElem (by omega)⟩
            have : k ∈ Region.ready .any all.toArray listed := by
              rw [mem_ready]
              have hks : k < listed.size := by omega
              refine ⟨by simp [hks] at hD ⊢; exact hD, t.o, by simpa using hall k t ht, fun e he hb => ?_⟩
              have hp : e.on ∈ preds t.o := by
                unfold preds; rw [List.mem_filterMap]; exact ⟨e, by simpa using he, by simp [hb]⟩
              have hlt := (hsp k t ht).1 _ hp
              exact ihk _ hlt (by omega)
            rw [hr] at this; cases this
      · obtain ⟨hk0, o, ho, hpre⟩ := mem_ready.1 hk
        have hkl : k < all.length := by have := (Array.getElem?_eq_some_iff.1 ho).1; simpa using this
        have hks : k < listed.size := by omega
        have hDk : listed.getD k false = false := by simp [hks] at hk0 ⊢; exact hk0
        obtain ⟨t, ht⟩ : ∃ t, tr[k]? = some t := ⟨_, List.getElem?_eq_getElem (by omega)⟩
        have hto : o = t.o := by
          have := hall k t ht
          simp at ho; rw [this] at ho; cases ho; rfl
        subst hto
        obtain ⟨d1, d2, d3, d4, sk, e1, e2, rec⟩ := b7 k t ht (Nat.zero_le _)
        have hpreD : ∀ p ∈ preds t.o, listed.getD p false = true := fun p hp => by
          unfold preds at hp; rw [List.mem_filterMap] at hp
          obtain ⟨e, he, hep⟩ := hp
          split at hep
          · cases hep; exact hpre e (by simpa using he) (by assumption)
          · cases hep
        have hancD : ∀ x ∈ A k, listed.getD x false = true := fun x hx => by
          obtain ⟨p, hp, hx⟩ := (hA k t ht x).1 hx
          rcases hx with rfl | hx
          · exact hpreD _ hp
          · exact hcl p (hpreD p hp) x hx
        -- two operations of which the later one is done and the earlier not: they are free of each other; and so for an earlier one that is not done
        have early : ∀ (j : Nat) (tj : TE), tr[j]? = some tj → j < k → listed.getD j false = false → free all tj t = true := fun j tj htj hj hDj => by
          rcases (hsp k t ht).2 j tj htj hj with h' | h'
          · rw [hancD j h'] at hDj; cases hDj
          · exact h'
        have late : ∀ (j : Nat) (tj : TE), tr[j]? = some tj → k < j → listed.getD j false = true → free all t tj = true := fun j tj htj hj hDj => by
          rcases (hsp j tj htj).2 k t ht hj with h' | h'
          · have := hcl j hDj k h'; rw [hDk] at this; cases this
          · exact h'
        have agree : ∀ {L V : Type} (f : Nat → L → Option V) (g0 : L → V) (x : L), (∀ (j : Nat) (tj : TE), tr[j]? = some tj → j < k → free all tj t = true → f j x = none) →
            (∀ (j : Nat) (tj : TE), tr[j]? = some tj → k < j → free all t tj = true → f j x = none) → gD f g0 (fun k => listed.getD k false) all.length x = gD f g0 (fun _ => true) k x := by
          intro L V f g0 x ha hb
          rw [← gD_upto (f := f) (g0 := g0) (x := x) all.length (by omega)]
          refine gD_congr _ fun j hj hne => ?_
          obtain ⟨tj, htj⟩ : ∃ tj, tr[j]? = some tj := ⟨_, List.getElem?_eq_getElem (by omega)⟩
          rcases Nat.lt_trichotomy j k with hlt | rfl | hgt
          · rw [show decide (j < k) = true from by simp [hlt]]
            cases hD : listed.getD j false with
            | true => rfl
            | false => exact absurd (ha j tj htj hlt (early j tj htj hlt hD)) hne
          · rw [hDk]; simp
          · rw [show decide (j < k) = false from by simp; omega]
            cases hD : listed.getD j false with
            | false => rfl
            | true => exact absurd (hb j tj htj hgt (late j tj htj hgt hD)) hne
        have hσ : ∀ x ∈ looks all t.o, gD (fS tr) s.σ (fun k => listed.getD k false) all.length x = sk.σ x := fun x hx => by
          rw [e1]
          refine agree (fS tr) s.σ x (fun j tj htj _ hfr => ?_) (fun j tj htj _ hfr => ?_)
          · simp only [fS, htj]
            rw [if_neg]
            intro hd; exact ((free_spec hfr).1 x hd).1 hx
          · simp only [fS, htj]
            rw [if_neg]
            intro hd; exact (free_spec hfr).2.1 x hd hx
        have hhp : ∀ i ∈ t.fp, hh i = hget sk.H i := fun i hi => by
          rw [h5, e2]
          refine agree (fH tr) (hget s.H) i (fun j tj htj _ hfr => ?_) (fun j tj htj _ hfr => ?_)
          · simp only [fH, htj]
            rw [if_neg]
            intro hd; exact (free_spec hfr).2.2.1 i hd hi
          · simp only [fH, htj]
            rw [if_neg]
            intro hd; exact (free_spec hfr).2.2.2 i hd hi
        -- where a block of one operation is one of another's
        have newsApart : ∀ (j : Nat) (tj : TE), tr[j]? = some tj → j ≠ k → ∀ i, t.n ≤ i → i < t.H'.length → ¬ (tj.n ≤ i ∧ i < tj.H'.length) := fun j tj htj hjk i hi1 hi2 hi3 => by
          rcases Nat.lt_or_gt_of_ne hjk with hlt | hgt
          · have := d4 j tj htj (Nat.zero_le _) hlt; omega
          · obtain ⟨_, _, _, f4, _⟩ := b7 j tj htj (Nat.zero_le _)
            have := f4 k t ht (Nat.zero_le _) hgt; omega
        have hnone : ∀ i, t.n ≤ i → i < t.H'.length → hh i = none ∧ ι1 i = none := by
          intro i hi1 hi2
          have hti : i ∈ t.ws := ws_mem.2 (.inr ⟨hi1, hi2⟩)
          constructor
          · rw [h5]
            have : gD (fH tr) (hget s.H) (fun k => listed.getD k false) all.length i = gD (fH tr) (hget s.H) (fun _ => false) all.length i := by
              refine gD_congr _ fun j hj hne => ?_
              obtain ⟨tj, htj⟩ : ∃ tj, tr[j]? = some tj := ⟨_, List.getElem?_eq_getElem (by omega)⟩
              have hij : i ∈ tj.ws := by
                simp only [fH, htj] at hne
                by_cases hm : i ∈ tj.ws
                · exact hm
                · rw [if_neg hm] at hne; exact absurd rfl hne
              by_cases e : j = k
              · subst e; exact hDk
              · cases hD : listed.getD j false with
                | false => rfl
                | true =>
                  exfalso
                  obtain ⟨f1, f2, f3, f4, sj, f5, f6, recj⟩ := b7 j tj htj (Nat.zero_le _)
                  rcases ws_mem.1 hij with hw | hw
                  · obtain ⟨g1, g2⟩ := recj.wr i hw
                    rcases Nat.lt_or_gt_of_ne e with hlt | hgt
                    · have := d4 j tj htj (Nat.zero_le _) hlt; omega
                    · have f7 := f4 k t ht (Nat.zero_le _) hgt
                      rcases g2 with g2 | g2
                      · exact (free_spec (late j tj htj hgt hD)).2.2.1 i hti g2
                      · omega
                  · exact newsApart j tj htj e i hi1 hi2 hw
            rw [this, gD_false]
            exact hget_none _ _ (by omega)
          · rw [h7.ext i]
            · exact hf i (by omega) (by omega)
            · rintro (hn | ⟨j, tj, htj, hD, hw⟩)
              · omega
              · by_cases e : j = k
                · subst e; rw [hDk] at hD; cases hD
                · exact newsApart j tj htj e i hi1 hi2 hw
        have hset : ∀ j, (listed.setIfInBounds k true).getD j false = (listed.getD j false || j == k) := fun j => by
          by_cases e : k = j
          · subst e; simp [Array.getD, hks]
          · rw [getD_set_ne false e]
            simp [Ne.symm e]
        have hsetD : (fun j => (listed.setIfInBounds k true).getD j false) = fun j => (listed.getD j false || j == k) := funext hset
        refine step_at K C rec (hall k t ht) hσ hhp hnone h1 h2 h4 fun a' w' ι' hc' g1 g2 g3 g4 g5 g6 => ?_
        refine ih (listed.setIfInBounds k true) ι' a' w' hc' (fun i => wr i ∨ i ∈ t.wr) (by simpa using hsz) ?_ ?_ ?_ g2 (by rw [g3, h3]) g4 ?_ ?_ ?_
        · rw [hsetD]
          have := (cnt_add (D := fun j => listed.getD j false) hDk all.length).1 hkl
          omega
        · intro j hj x hx
          rw [hset] at hj ⊢
          simp only [Bool.or_eq_true, beq_iff_eq] at hj ⊢
          rcases hj with hj | rfl
          · exact .inl (hcl j hj x hx)
          · exact .inl (hancD x hx)
        · intro x
          rw [hsetD]
          rw [gD_add hkl (fun j hj1 hj2 hj3 hne => ?_)]
          · have := g1 x
            rw [updO_at] at this
            simp only [fS, ht]
            by_cases hx : t.o.dst = some x
            · rw [if_pos hx] at this ⊢; exact this
            · rw [if_neg hx] at this ⊢; exact this
          · obtain ⟨tj, htj⟩ : ∃ tj, tr[j]? = some tj := ⟨_, List.getElem?_eq_getElem (by omega)⟩
            simp only [fS, htj]
            rw [if_neg]
            simp only [fS, ht] at hne
            by_cases hx : t.o.dst = some x
            · exact ((free_spec (late j tj htj hj1 hj3)).1 x hx).2
            · rw [if_neg hx] at hne; exact absurd rfl hne
        · funext i
          rw [hsetD, g5]
          rw [gD_add hkl (fun j hj1 hj2 hj3 hne => ?_)]
          · simp only [fH, ht]
            by_cases hi : i ∈ t.ws
            · rw [if_pos hi, if_pos hi]
            · rw [if_neg hi, if_neg hi, h5]
          · obtain ⟨tj, htj⟩ : ∃ tj, tr[j]? = some tj := ⟨_, List.getElem?_eq_getElem (by omega)⟩
            simp only [fH, htj]
            rw [if_neg]
            simp only [fH, ht] at hne
            by_cases hx : i ∈ t.ws
            · intro hij
              obtain ⟨f1, f2, f3, f4, sj, f5, f6, recj⟩ := b7 j tj htj (Nat.zero_le _)
              have f7 := f4 k t ht (Nat.zero_le _) hj1
              have hib : i < t.H'.length := by
                rcases ws_mem.1 hx with hw | hw
                · exact (rec.wr i hw).1
                · exact hw.2
              rcases ws_mem.1 hij with hw | hw
              · obtain ⟨g1', g2'⟩ := recj.wr i hw
                rcases g2' with g2' | g2'
                · exact (free_spec (late j tj htj hj1 hj3)).2.2.1 i hx g2'
                · omega
              · omega
            · rw [if_neg hx] at hne; exact absurd rfl hne
        · intro i
          rw [h6]
          constructor
          · rintro ((h | ⟨j, t', a, b, c⟩) | h)
            · exact .inl h
            · exact .inr ⟨j, t', a, by rw [hset, b]; rfl, c⟩
            · exact .inr ⟨k, t, ht, by rw [hset]; simp, h⟩
          · rintro (h | ⟨j, t', a, b, c⟩)
            · exact .inl (.inl h)
            · rw [hset] at b
              simp only [Bool.or_eq_true, beq_iff_eq] at b
              rcases b with b | rfl
              · exact .inl (.inr ⟨j, t', a, b, c⟩)
              · rw [ht] at a; cases a; exact .inr c
        · refine (h7.trans g6).iff (fun i => ?_) (fun i => Iff.rfl)
          constructor
          · rintro ((h | ⟨j, t', a, b, c⟩) | h)
            · exact .inl h
            · exact .inr ⟨j, t', a, by rw [hset, b]; rfl, c⟩
            · exact .inr ⟨k, t, ht, by rw [hset]; simp, h⟩
          · rintro (h | ⟨j, t', a, b, c⟩)
            · exact .inl (.inl h)
            · rw [hset] at b
              simp only [Bool.or_eq_true, beq_iff_eq] at b
              rcases b with b | rfl
              · exact .inl (.inr ⟨j, t', a, b, c⟩)
              · rw [ht] at a; cases a; exact .inr c
  have hrep : ∀ k, (Array.replicate all.length false).getD k false = false := fun k => by
    simp only [Array.getD]; split <;> simp
  have hrepD : (fun k => (Array.replicate all.length false).getD k false) = fun _ => false := funext hrep
  have hcnt : cnt (fun k => (Array.replicate all.length false).getD k false) all.length = all.length := by
    rw [hrepD]
    have : ∀ n, cnt (fun _ => false) n = n := fun n => by induction n with
      | zero => rfl
      | succ n ih => simp [cnt, ih]
    exact this _
  refine main all.length _ ι a w (hget s.H) (fun i => i ∈ s.wr) (by simp) hcnt (fun k hk => by rw [hrep] at hk; cases hk) ?_ R.size R.defers R.emb ?_ (fun i => ?_) (R.tr.iff (fun i => ?_) (fun i => Iff.rfl))
  · intro x; rw [hrepD, gD_false]; exact R.tmps x
  · funext i; rw [hrepD, gD_false]
  · simp [hrep]
  · simp [hrep]
end
end Go.Ab
