/-
  The tables of a program; the end of a law.
-/
import Derived.Test.YtcoejfgecnaphaaAbH
import Derived.ProofKit
set_option linter.unusedSimpArgs false
set_option linter.unusedVariables false
namespace Go.Ab
open Go.ChangeShapes Go.WideShapes Go.ChangeAt Go.RowKit

def plainB (P : Program) (t : Nat) : Bool := (P.stoodInHeld t == false) && ((P.eqGuardType P.depth t == false) && (match P.underlying t with | some (.struct fs) => fs.toList.all (fun f => !(f.name == "_")) | _ => true))

def tabs (P : Program) (ps : List Nat) : TT := ⟨P.underlying, P.info?, fun f => P.funcs[f]?, fun t => mem t ps⟩

theorem mem_true {x : Nat} : ∀ {l : List Nat}, mem x l = true → x ∈ l
  | [], h => by cases h
  | y :: l, h => by
    unfold mem at h
    split at h
    · rename_i e; rw [Nat.eq_of_beq_eq_true e]; exact List.mem_cons_self
    · exact List.mem_cons_of_mem _ (mem_true h)

theorem tabs_ok {P : Program} {ps : List Nat} (h1 : (P.funcs.toList.all fun g => !(g.name == "runtime.NumGoroutine")) = true) (h2 : ps.all (plainB P) = true) : TOK P (tabs P ps) := by
  refine ⟨fun t ht => ?_, fun t d h => h, fun t i h => h, fun f g h => ⟨h, ?_⟩⟩
  · have := List.all_eq_true.1 h2 t (mem_true ht)
    simp only [plainB, Bool.and_eq_true, beq_iff_eq] at this
    obtain ⟨a, b, c⟩ := this
    refine ⟨a, b, fun fs hfs f hf => ?_⟩
    rw [hfs] at c
    have := List.all_eq_true.1 c f hf
    simpa using this
  · have := List.all_eq_true.1 h1 g (by
      rw [Array.mem_toList_iff]
      exact Array.mem_of_getElem? h)
    simpa using this

section
variable {P : Program} {H : Type} {enc : TypeId × Value → H} {W W' : World}

theorem same_of_old (hk : ∀ B, B < W.heap.size → W'.heap[B]? = W.heap[B]?) {p : MemPlace} (h : p.block < W.heap.size) : W.sameAt W' p := by
  cases p with
  | cell b off =>
    show W'.cell? ⟨b, off, none⟩ = W.cell? ⟨b, off, none⟩
    have := hk b h
    simp [World.cell?, this]
  | map b => exact hk b h

theorem trod_old (K : Kids P (· < P.types.size)) (hz : ∀ t e, t < P.types.size → P.underlying t = some (.slice e) → 0 < P.cellsOf e) (hk : ∀ B, B < W.heap.size → W'.heap[B]? = W.heap[B]?)
    {ts : List TypeId} (hts : ∀ t ∈ ts, t < P.types.size) {vs : List Value} {ds : List (DataW H)} {ps : List MemPlace} (h : DataW.TrodAll enc P W 0 (fun _ => true) true ts vs ds ps)
    {sp : Nat → Bool} (hs : ∀ p ∈ ps, sp p.block = true) : DataW.TrodAll enc P W' 0 sp true ts vs ds ps := by
  have h' := h.respare K hz hts hs
  have hlt := h.lt
  clear h hs hts
  induction ts generalizing vs ds ps with
  | nil => cases vs <;> cases ds <;> first | exact h' | exact h'.elim
  | cons t ts ih =>
    match vs, ds, h' with
    | v :: vs, d :: ds, ⟨p, q, ⟨n, h1⟩, h2, e⟩ =>
      subst e
      exact ⟨p, q, ⟨n, DataW.trod_carry n _ _ _ h1 fun x hx => same_of_old hk (hlt x (List.mem_append_left _ hx))⟩, ih h2 (fun x hx => hlt x (List.mem_append_right _ hx)), rfl⟩

/-- THE END OF A LAW that leaves what was there as it was, and answers true. -/
theorem law_post {f : Func} {s : ChangeSpec} {apart fresh handsOn again : Bool} {args : Array Value} {v : Value} {ds gs : List (DataW H)} {before : List MemPlace}
    (K : Kids P (· < P.types.size)) (hz : ∀ t e, t < P.types.size → P.underlying t = some (.slice e) → 0 < P.cellsOf e)
    (hts : ∀ t ∈ f.params.toList, t < P.types.size) (hvs : s.vars = [])
    (hW : DataW.Whole enc P f.params.toList s.vars apart W args.toList ds gs before) (hS : Still W W') (hk : ∀ B, B < W.heap.size → W'.heap[B]? = W.heap[B]?) (hm : W.heap.size ≤ W'.heap.size)
    (hargs : (s.fn H (ds ++ gs)).args = ds) (hvars : (s.fn H (ds ++ gs)).vars = [])
    (hres : ∀ (b : Nat) (sp : Nat → Bool) (hd : Bool), DataW.TrodAll enc P W' b sp hd f.resultTypes.toList (v.resultList f.resultTypes.size) (s.fn H (ds ++ gs)).results [])
    (hok : ∀ (j : Nat) (t : TypeId) (r : Value), f.resultTypes[j]? = some t → (v.resultList f.resultTypes.size)[j]? = some r → Value.okWide P W' .any 0 t r) :
    s.post enc P f apart fresh handsOn again W args v W' := by
  have hlt := hW.lt
  have hW0 := hW
  obtain ⟨p, q, hA, hV, rfl, hfz, hnd⟩ := hW
  have hq : q = [] ∧ gs = [] := by
    rw [hvs] at hV
    cases gs with
    | nil => exact ⟨hV, rfl⟩
    | cons g gs => exact hV.elim
  obtain ⟨rfl, rfl⟩ := hq
  simp only [List.append_nil] at hlt hfz hnd hargs hvars hres hW0
  have hargs' : ∀ sp : Nat → Bool, (∀ x ∈ p, sp x.block = true) → DataW.TrodAll enc P W' 0 sp true f.params.toList args.toList (s.fn H (ds ++ [])).args p := fun sp hs => by
    rw [List.append_nil, hargs]; exact trod_old K hz hk hts hA hs
  have hvars' : ∀ sp : Nat → Bool, DataW.TrodVars enc P W' sp s.vars (s.fn H (ds ++ [])).vars [] := fun sp => by
    rw [hvs, List.append_nil, hvars]; rfl
  have hres' : ∀ (b : Nat) (sp : Nat → Bool) (hd : Bool), DataW.TrodAll enc P W' b sp hd f.resultTypes.toList (v.resultList f.resultTypes.size) (s.fn H (ds ++ [])).results [] := fun b sp hd => by
    rw [List.append_nil]; exact hres b sp hd
  have hold : ∀ x ∈ p, (fun b => decide (b < W.heap.size)) x.block = true := fun x hx => by simpa using hlt x hx
  have hkb : ∀ may, W.keptBut W' may := fun may => by
    refine ⟨hS.1, hS.2, fun i hi => ?_⟩
    rw [hk i hi]
    cases W.heap[i]? with
    | none => rfl
    | some o => cases o <;> simp
  refine ⟨ds, [], p, [], p, [], by simpa using hW0, hres' _ _ _, hargs' _ hold, hvars' _, hkb _, fun _ => ?_⟩
  refine ⟨hok, _, _, ([] ++ p) ++ [], ⟨[] ++ p, [], trodAll_append (hargs' _ (fun _ _ => rfl)) (hres' _ _ _), hvars' _, rfl, ?_, ?_⟩, ?_⟩
  · intro b off hp
    have h1 : b < W.heap.size := hlt (.cell b off) (by simpa using hp)
    have : W'.frozen? ⟨b, off, none⟩ = W.frozen? ⟨b, off, none⟩ := by simp [World.frozen?, hk b h1]
    rw [this]
    exact hfz b off (by simpa using hp)
  · intro ha
    have := hnd ha
    simpa using this
  · intro x hx _
    simpa using hx
end
end Go.Ab
