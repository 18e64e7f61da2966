/-
  The operations, eighth part: maps.
-/
import Derived.Test.YtcoejfgecnaphaaAb9
set_option linter.unusedSimpArgs false
set_option linter.unusedVariables false
namespace Go.Ab
section
variable {P : Program} {T : TT}

theorem key_VR {ι : Ren} {x : AV} {y : Value} {k : AKey} (h : VR ι x y) (hk : key? x = some k) : y = keyV k := by
  cases x <;> try (cases hk; done)
  rename_i v
  cases v <;> try (cases hk; done)
  · rename_i kk n
    cases kk <;> try (cases hk; done)
    cases hk; exact h
  · cases hk; exact h

theorem keyV_inj {a b : AKey} (h : keyV a = keyV b) : a = b := by
  cases a <;> cases b <;> simp [keyV] at h <;> rw [h]

theorem keyEq_iff {a b : AKey} : keyEq a b = true ↔ a = b := by
  cases a <;> cases b <;> simp [keyEq, seq_iff]

/-- What is known of a map's key type where a key fits it. -/
def DescAt (d : TypeDesc) (strs : Bool) : Prop := (strs = false ∧ ∃ k, d = .int k) ∨ (strs = true ∧ d = .string)

theorem keyOk_desc {kt : Nat} {strs : Bool} {k : AKey} (h : keyOk T kt strs k = true) : k.str = strs ∧ ∃ d, T.und kt = some d ∧ DescAt d strs := by
  cases k with
  | i n =>
    simp only [keyOk, Bool.and_eq_true] at h
    cases hu : T.und kt with
    | none => rw [hu] at h; simp at h
    | some d =>
      rw [hu] at h
      cases strs <;> simp at h
      cases d <;> simp at h
      exact ⟨rfl, _, rfl, .inl ⟨rfl, _, rfl⟩⟩
  | s b =>
    simp only [keyOk, Bool.and_eq_true] at h
    cases hu : T.und kt with
    | none => rw [hu] at h; simp at h
    | some d =>
      rw [hu] at h
      cases strs <;> simp at h
      cases d <;> simp at h
      exact ⟨rfl, _, rfl, .inr ⟨rfl, rfl⟩⟩

theorem sameNow_key {d : TypeDesc} {strs : Bool} {k k' : AKey} (hd : DescAt d strs) (h : k.str = strs) (h' : k'.str = strs) : Instr.sameNow d (keyV k) (keyV k') = some (keyEq k k') := by
  rcases hd with ⟨rfl, kk, rfl⟩ | ⟨rfl, rfl⟩ <;> cases k <;> cases k' <;> simp [AKey.str] at h h'
  · simp [Instr.sameNow, keyV, keyEq]
  · simp [Instr.sameNow, keyV, keyEq, seq_beq]

theorem findNow_key {d : TypeDesc} {strs : Bool} {k : AKey} (hd : DescAt d strs) (h : k.str = strs) : ∀ (es : List MapEntry) (i : Nat), (∀ e ∈ es, ∃ k', k'.str = strs ∧ e.key = keyV k') →
    (∃ j e, es[j]? = some e ∧ e.key = keyV k ∧ Instr.findNow d (keyV k) es i = some (some (i + j, e.val))) ∨ ((∀ e ∈ es, e.key ≠ keyV k) ∧ Instr.findNow d (keyV k) es i = some none)
  | [], i, _ => .inr ⟨by simp, rfl⟩
  | e :: es, i, he => by
    obtain ⟨k', h1, h2⟩ := he e (by simp)
    have hs := sameNow_key hd h h1
    simp only [Instr.findNow]
    rw [h2, hs]
    cases hk : keyEq k k' with
    | true =>
      have := keyEq_iff.1 hk
      subst this
      exact .inl ⟨0, e, rfl, h2, rfl⟩
    | false =>
      have hne : k ≠ k' := fun e' => by rw [keyEq_iff.2 e'] at hk; cases hk
      rcases findNow_key hd h es (i + 1) (fun x hx => he x (by simp [hx])) with ⟨j, x, a, b, c⟩ | ⟨a, b⟩
      · exact .inl ⟨j + 1, x, by simpa using a, b, by rw [show i + (j + 1) = i + 1 + j from by omega]; exact c⟩
      · refine .inr ⟨fun x hx => ?_, b⟩
        rcases List.mem_cons.1 hx with rfl | hx
        · rw [h2]; exact fun e' => hne (keyV_inj e').symm
        · exact a x hx

/-- A key in a map. -/
theorem find_key (K : TOK P T) {ι : Ren} {strs : Bool} {sz : Nat} {has : AKey → Bool} {get : AKey → AV} {ES : Array MapEntry} {clock : Nat} {kt : Nat} {k : AKey}
    (M : MapAt ι strs sz has get ES clock) (hk : keyOk T kt strs k = true) (w : World) :
    (has k = true ∧ ∃ j e, ES[j]? = some e ∧ e.key = keyV k ∧ (Instr.findKey kt (keyV k) ES.toList).run P w = .ok (some (j, e.val)) w ∧ VR ι (get k) e.val) ∨
    (has k = false ∧ (∀ e ∈ ES.toList, e.key ≠ keyV k) ∧ (Instr.findKey kt (keyV k) ES.toList).run P w = .ok none w) := by
  obtain ⟨hs, d, hu, hd⟩ := keyOk_desc hk
  have each : ∀ e ∈ ES.toList, ∃ k', k'.str = strs ∧ e.key = keyV k' := fun e he => let ⟨k', a, b, _⟩ := M.each e he; ⟨k', a, b⟩
  rcases findNow_key hd hs ES.toList 0 each with ⟨j, e, a, b, c⟩ | ⟨a, b⟩
  · refine .inl ?_
    obtain ⟨k', h1, h2, h3, h4⟩ := M.each e (List.mem_of_getElem? a)
    have : k' = k := keyV_inj (by rw [← h2, b])
    subst this
    exact ⟨h3, j, e, by simpa using a, b, by simp [Instr.findKey, K.run_und hu, c], h4⟩
  · refine .inr ⟨?_, a, by simp [Instr.findKey, K.run_und hu, b]⟩
    cases hh : has k with
    | false => rfl
    | true =>
      obtain ⟨e, he, hk'⟩ := M.all k hs hh
      exact absurd hk' (a e he)

theorem checkKey_run (K : TOK P T) {kt : Nat} {strs b : Bool} {k : AKey} (hk : keyOk T kt strs k = true) (w : World) : (Instr.checkKey b 10000 kt (keyV k)).run P w = .ok () w := by
  obtain ⟨hs, d, hu, hd⟩ := keyOk_desc hk
  have hr := K.run_und hu w
  have key : ∀ n, (Instr.checkKey b (n + 1) kt (keyV k)).run P w = .ok () w := by
    intro n
    rcases hd with ⟨rfl, kk, rfl⟩ | ⟨rfl, rfl⟩ <;> cases k <;> simp [AKey.str] at hs <;> simp [Instr.checkKey, hr, keyV]
  exact key 9999

theorem run_getObj_map {w : World} {r : Nat} {es : Array MapEntry} {c : Nat} (h : w.heap[r]? = some (.map es c)) : (getObj r).run P w = .ok (.map es c) w := by
  simp [getObj, Sem.run, h]

theorem run_setObj_map {w : World} {r : Nat} {es : Array MapEntry} {c : Nat} {o : Obj} (h : w.heap[r]? = some (.map es c)) : (setObj r o).run P w = .ok () { w with heap := w.heap.setIfInBounds r o } := by
  simp [setObj, Sem.run, h]

theorem lookup_sound (K : TOK P T) {ι : Ren} {H : Heap} {w : World} {t : Nat} {m k : AV} {m' k' : Value} {ok : Bool} {orc : List Dec} {r : OR} (E : Emb ι (hget H) w)
    (hm : VR ι m m') (hk : VR ι k k') (h : lookupA T t m k ok H orc = some r) (hc : r.c = true) :
    ∃ y, (Instr.lookup t m' k' ok).run P w = .ok y w ∧ VR ι r.v y ∧ r.H = H ∧ r.wr = [] := by
  unfold lookupA at h
  have out : ∀ (v : AV) (b : Bool) (z : Value), VR ι v z → VR ι (outA ok v b) (if ok then .tuple #[z, .bool b] else z) := by
    intro v b z hv
    cases ok
    · exact hv
    · exact ⟨[z, .bool b], rfl, z, [.bool b], rfl, hv, .bool b, [], rfl, rfl, rfl⟩
  split at h <;> try (cases h; done)
  · rename_i kt el key hu hkey
    cases hm
    have hk' := key_VR hk hkey
    subst hk'
    split at h <;> try (cases h; done)
    rename_i z hok hz
    cases h
    obtain ⟨hs, d, hud, hd⟩ := keyOk_desc hok
    have hf : (Instr.findKey kt (keyV key) []).run P w = .ok none w := by simp [Instr.findKey, K.run_und hud, Instr.findNow]
    refine ⟨_, ?_, out (.v z) false z rfl, rfl, rfl⟩
    simp [Instr.lookup, K.run_und hu, checkKey_run K hok, hf, K.run_zero hz]
  · rename_i kt el i key hu hkey
    obtain ⟨l, hl, rfl⟩ := hm
    have hk' := key_VR hk hkey
    subst hk'
    split at h <;> try (cases h; done)
    rename_i strs sz has get ho
    obtain ⟨l2, hl2, ES, clock, h1, M⟩ := E.obj i _ ho
    rw [hl] at hl2; cases hl2
    split at h <;> try (cases h; done)
    · rename_i c orc' _ hok ha hz
      cases h
      have hh := ask_eq ha hc
      rcases find_key K M hok w with ⟨q1, j, e, q2, q3, q4, q5⟩ | ⟨q1, _⟩
      · refine ⟨_, ?_, out (get key) true e.val q5, rfl, rfl⟩
        simp [Instr.lookup, K.run_und hu, run_getObj_map h1, checkKey_run K hok, q4]
      · rw [q1] at hh; cases hh
    · rename_i c orc' z hok ha hz
      cases h
      have hh := ask_eq ha hc
      rcases find_key K M hok w with ⟨q1, _⟩ | ⟨q1, q2, q3⟩
      · rw [q1] at hh; cases hh
      · refine ⟨_, ?_, out (.v z) false z rfl, rfl, rfl⟩
        simp [Instr.lookup, K.run_und hu, run_getObj_map h1, checkKey_run K hok, q3, K.run_zero hz]

theorem keyStays (k : AKey) (w : World) : (Instr.keyThatStays (keyV k) (keyV k)).run P w = .ok (keyV k) w := by
  have hb : ∀ b : ByteArray, (b == b) = true := fun b => by rw [← seq_beq, seq_iff]
  have : ∀ n, Instr.sameBits n (keyV k) (keyV k) = true := fun n => by cases k <;> cases n <;> simp [keyV, Instr.sameBits, hb]
  simp [Instr.keyThatStays, this]

theorem update_sound (K : TOK P T) {ι : Ren} {H : Heap} {w : World} {t : Nat} {m k x : AV} {m' k' x' : Value} {orc : List Dec} {r : OR} (E : Emb ι (hget H) w)
    (hm : VR ι m m') (hk : VR ι k k') (hx : VR ι x x') (h : updateA T t m k x H orc = some r) (hc : r.c = true) :
    ∃ w', (Instr.mapUpdate t m' k' x').run P w = .ok () w' ∧ Emb ι (hget r.H) w' ∧ Tr ι ι (hget H) (hget r.H) H.length r.H.length r.wr w w' ∧ r.v = .v (.tuple #[]) := by
  unfold updateA at h
  split at h <;> try (cases h; done)
  rename_i kt el i key hu hkey
  obtain ⟨l, hl, rfl⟩ := hm
  have hk' := key_VR hk hkey
  subst hk'
  split at h <;> try (cases h; done)
  rename_i strs sz has get ho
  obtain ⟨l2, hl2, ES, clock, h1, M⟩ := E.obj i _ ho
  rw [hl] at hl2; cases hl2
  split at h <;> try (cases h; done)
  rename_i y c orc' hok ha
  cases h
  have hh := ask_eq ha hc
  subst hh
  have hks := (keyOk_desc hok).1
  have hlt : l.blk < w.heap.size := by
    apply Nat.lt_of_not_le; intro h'; rw [Array.getElem?_eq_none h'] at h1; cases h1
  -- the world behind it
  have fin : ∀ ES' clock', MapAt ι strs (if has key then sz else sz + 1) (fun j => keyEq j key || has j) (fun j => if keyEq j key then x else get j) ES' clock' →
      (Instr.mapUpdate t (.map (some l.blk)) (keyV key) x').run P w = .ok () { w with heap := w.heap.setIfInBounds l.blk (.map ES' clock') } →
      ∃ w', (Instr.mapUpdate t (.map (some l.blk)) (keyV key) x').run P w = .ok () w' ∧
        Emb ι (hget (hset H i (some (.map strs (if has key then sz else sz + 1) (fun j => keyEq j key || has j) (fun j => if keyEq j key then x else get j))))) w' ∧
        Tr ι ι (hget H) (hget (hset H i (some (.map strs (if has key then sz else sz + 1) (fun j => keyEq j key || has j) (fun j => if keyEq j key then x else get j))))) H.length
          (hset H i (some (.map strs (if has key then sz else sz + 1) (fun j => keyEq j key || has j) (fun j => if keyEq j key then x else get j)))).length [i] w w' := by
    intro ES' clock' M' hr
    have sb := set_block (w' := { w with heap := w.heap.setIfInBounds l.blk (.map ES' clock') }) (o' := .map strs (if has key then sz else sz + 1) (fun j => keyEq j key || has j) (fun j => if keyEq j key then x else get j))
      E ho hl (by simp) (fun B hB => by simp [Array.getElem?_setIfInBounds_ne (Ne.symm hB)]) ⟨ES', clock', by simp [hlt], M'⟩
    exact ⟨_, hr, sb.1, sb.2⟩
  rcases find_key K M hok w with ⟨q1, j, e, q2, q3, q4, q5⟩ | ⟨q1, q2, q3⟩
  · have hj : j < ES.size := by
      apply Nat.lt_of_not_le; intro h'; rw [Array.getElem?_eq_none h'] at q2; cases q2
    have he : ES[j] = e := by rw [Array.getElem?_eq_getElem hj] at q2; cases q2; rfl
    have hmod : ∀ p : Nat, (ES.modify j fun e => { e with key := keyV key, val := x' })[p]? = if p = j then some { e with key := keyV key, val := x' } else ES[p]? := by
      intro p
      rw [Array.getElem?_modify]
      by_cases hp : j = p
      · subst hp; simp [q2]
      · simp [hp, Ne.symm hp]
    obtain ⟨w', a, b, c⟩ := fin (ES.modify j fun e => { e with key := keyV key, val := x' }) clock
      { size := by simp [q1, M.size]
        each := fun e' he' => by
          obtain ⟨p, hp, hpe⟩ := List.getElem_of_mem he'
          have h2 := hmod p
          rw [← Array.getElem?_toList, List.getElem?_eq_getElem hp, hpe] at h2
          by_cases hpj : p = j
          · rw [if_pos hpj] at h2
            cases h2
            exact ⟨key, hks, rfl, by simp [keyEq_iff.2 rfl], by simp [keyEq_iff.2 rfl]; exact hx⟩
          · rw [if_neg hpj] at h2
            obtain ⟨k', a1, a2, a3, a4⟩ := M.each e' (by rw [← Array.getElem?_toList] at h2; exact List.mem_of_getElem? h2.symm)
            have hne : k' ≠ key := by
              rintro rfl
              -- two entries of one key
              have hpl : p < ES.toList.length := by simpa using hp
              have hjl : j < ES.toList.length := by simpa using hj
              have ap := List.pairwise_iff_getElem.1 M.apart
              have e1 : ES.toList[p] = e' := by
                have := h2.symm; rw [← Array.getElem?_toList, List.getElem?_eq_getElem hpl] at this; cases this; rfl
              have e2 : ES.toList[j] = e := by simpa using he
              rcases Nat.lt_or_gt_of_ne hpj with hlt | hlt
              · exact (ap p j hpl hjl hlt).1 (by rw [e1, e2, a2, q3])
              · exact (ap j p hjl hpl hlt).1 (by rw [e1, e2, a2, q3])
            have hkf : keyEq k' key = false := by
              cases h3 : keyEq k' key with
              | false => rfl
              | true => exact absurd (keyEq_iff.1 h3) hne
            exact ⟨k', a1, a2, by simp [a3], by simpa [hkf] using a4⟩
        all := fun k' hk1 hk2 => by
          by_cases h3 : k' = key
          · subst h3
            exact ⟨_, List.mem_of_getElem? (by rw [Array.getElem?_toList, hmod j, if_pos rfl]), rfl⟩
          · have hkf : keyEq k' key = false := by
              cases h4 : keyEq k' key with
              | false => rfl
              | true => exact absurd (keyEq_iff.1 h4) h3
            obtain ⟨e', he', hk'⟩ := M.all k' hk1 (by simpa [hkf] using hk2)
            obtain ⟨p, hp, hpe⟩ := List.getElem_of_mem he'
            have hpj : p ≠ j := by
              rintro rfl
              have : e' = e := by rw [← hpe]; simpa using he
              subst this
              rw [hk'] at q3; exact h3 (keyV_inj q3)
            refine ⟨e', List.mem_of_getElem? (i := p) ?_, hk'⟩
            rw [Array.getElem?_toList, hmod p, if_neg hpj, ← Array.getElem?_toList, List.getElem?_eq_getElem hp, hpe]
        apart := by
          rw [List.pairwise_iff_getElem]
          intro p q hp hq hpq
          have hp' : p < ES.toList.length := by simpa using hp
          have hq' : q < ES.toList.length := by simpa using hq
          have ap := List.pairwise_iff_getElem.1 M.apart p q hp' hq' hpq
          have val : ∀ (p : Nat) (hp : p < (ES.modify j fun e => { e with key := keyV key, val := x' }).toList.length) (hp' : p < ES.toList.length),
              (ES.modify j fun e => { e with key := keyV key, val := x' }).toList[p].key = ES.toList[p].key ∧ (ES.modify j fun e => { e with key := keyV key, val := x' }).toList[p].born = ES.toList[p].born := by
            intro p hp hp'
            have h2 := hmod p
            rw [← Array.getElem?_toList, List.getElem?_eq_getElem hp, ← Array.getElem?_toList, List.getElem?_eq_getElem hp'] at h2
            by_cases hpj : p = j
            · rw [if_pos hpj] at h2
              subst hpj
              have h3 := Option.some.inj h2
              rw [h3]
              have e2 : ES.toList[p] = e := by simpa using he
              rw [e2, q3]; exact ⟨rfl, rfl⟩
            · rw [if_neg hpj] at h2
              rw [Option.some.inj h2]; exact ⟨rfl, rfl⟩
          rw [(val p hp hp').1, (val p hp hp').2, (val q hq hq').1, (val q hq hq').2]
          exact ap
        born := fun e' he' => by
          obtain ⟨p, hp, hpe⟩ := List.getElem_of_mem he'
          have h2 := hmod p
          rw [← Array.getElem?_toList, List.getElem?_eq_getElem hp, hpe] at h2
          by_cases hpj : p = j
          · rw [if_pos hpj] at h2
            cases h2
            exact M.born e (by rw [← he]; simp)
          · rw [if_neg hpj] at h2
            exact M.born e' (by rw [← Array.getElem?_toList] at h2; exact List.mem_of_getElem? h2.symm) }
      (by
        have hg : ((ES[j]?).map (·.key)).getD (keyV key) = keyV key := by rw [q2]; simp [q3]
        simp [Instr.mapUpdate, K.run_und hu, run_getObj_map h1, checkKey_run K hok, q4, hg, keyStays, run_setObj_map h1])
    exact ⟨w', a, b, c, rfl⟩
  · obtain ⟨w', a, b, c⟩ := fin (ES.push { key := keyV key, val := x', born := clock }) (clock + 1)
      { size := by simp [q1, M.size]
        each := fun e' he' => by
          simp only [Array.toList_push, List.mem_append, List.mem_singleton] at he'
          rcases he' with he' | rfl
          · obtain ⟨k', a1, a2, a3, a4⟩ := M.each e' he'
            have hkf : keyEq k' key = false := by
              cases h4 : keyEq k' key with
              | false => rfl
              | true => have := keyEq_iff.1 h4; subst this; exact absurd a2 (q2 e' he')
            exact ⟨k', a1, a2, by simp [a3], by simpa [hkf] using a4⟩
          · exact ⟨key, hks, rfl, by simp [keyEq_iff.2 rfl], by simp [keyEq_iff.2 rfl]; exact hx⟩
        all := fun k' hk1 hk2 => by
          by_cases h3 : k' = key
          · subst h3; exact ⟨_, by simp; exact .inr rfl, rfl⟩
          · have hkf : keyEq k' key = false := by
              cases h4 : keyEq k' key with
              | false => rfl
              | true => exact absurd (keyEq_iff.1 h4) h3
            obtain ⟨e', he', hk'⟩ := M.all k' hk1 (by simpa [hkf] using hk2)
            exact ⟨e', by simp at he' ⊢; exact .inl he', hk'⟩
        apart := by
          rw [Array.toList_push, List.pairwise_append]
          refine ⟨M.apart, by simp, fun a ha b hb => ?_⟩
          simp only [List.mem_singleton] at hb
          subst hb
          exact ⟨q2 a ha, fun e' => by have := M.born a ha; simp at e'; omega⟩
        born := fun e' he' => by
          simp only [Array.toList_push, List.mem_append, List.mem_singleton] at he'
          rcases he' with he' | rfl
          · have := M.born e' he'; omega
          · simp }
      (by simp [Instr.mapUpdate, K.run_und hu, run_getObj_map h1, checkKey_run K hok, q3, run_setObj_map h1])
    exact ⟨w', a, b, c, rfl⟩
end
end Go.Ab
