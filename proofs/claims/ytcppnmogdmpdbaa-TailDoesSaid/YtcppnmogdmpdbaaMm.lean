/- Words and laws on maps: a map's block as a list of entries (key, value, stamp); what a look-up, a store, a deletion and an assignment of two places do to it. No program stands in this text. -/
import Derived.Test.YtcppnmogdmpdbaaMk
set_option linter.unusedVariables false
set_option linter.unusedSimpArgs false
namespace Go.Mk
open Go.RowKit

variable {κ : Type}

structure Ent (κ : Type) where
  key : κ
  val : Value
  born : Nat

def Ent.mk' (enc : κ → Value) (m : Ent κ) : MapEntry := { key := enc m.key, val := m.val, born := m.born }

/-- The first entry of a key, with its place. -/
def findL [DecidableEq κ] (k : κ) : List (Ent κ) → Nat → Option (Nat × Value)
  | [], _ => none
  | m :: ms, i => if m.key = k then some (i, m.val) else findL k ms (i + 1)

/-- What a map's entries say of a key. -/
def getL [DecidableEq κ] (k : κ) : List (Ent κ) → Option Value
  | [] => none
  | m :: ms => if m.key = k then some m.val else getL k ms

/-- What the model does with keys of a type. -/
structure KeyOk [DecidableEq κ] (P : Program) (tk : TypeId) (enc : κ → Value) : Prop where
  check : ∀ (k : κ) (empty : Bool) (w : World), (Instr.checkKey empty 10000 tk (enc k)).run P w = .ok () w
  find : ∀ (k : κ) (ms : List (Ent κ)) (w : World), (Instr.findKey tk (enc k) (ms.map (Ent.mk' enc))).run P w = .ok (findL k ms 0) w
  stays : ∀ k : κ, Instr.sameBits 10000 (enc k) (enc k) = true

theorem findNow_int (q : IntKind) (k : Int) : ∀ (ms : List (Ent Int)) (i : Nat), Instr.findNow (.int q) (.int q k) (ms.map (Ent.mk' (.int q))) i = some (findL k ms i)
  | [], i => rfl
  | m :: ms, i => by
    simp only [List.map_cons, Instr.findNow, Ent.mk', Instr.sameNow, if_true, findL]
    by_cases h : m.key = k
    · subst h; simp
    · have : (k == m.key) = false := by simpa using fun h' => h h'.symm
      simp only [this, if_neg h]
      exact findNow_int q k ms (i + 1)

theorem keyOk_int {P : Program} {tk : TypeId} {q : IntKind} (h : P.underlying tk = some (.int q)) : KeyOk P tk (Value.int q) where
  check := fun k e w => by
    rw [show (10000 : Nat) = 9999 + 1 from rfl, Instr.checkKey]
    simp [run_underlying h]
  find := fun k ms w => by
    simp only [Instr.findKey]
    simp [run_underlying h, findNow_int]
  stays := fun k => by simp [Instr.sameBits]

/-- Block b is a map with these entries. -/
structure MapMem [DecidableEq κ] (w : World) (enc : κ → Value) (b : Nat) (ms : List (Ent κ)) (clock : Nat) : Prop where
  blk : w.heap[b]? = some (.map (ms.map (Ent.mk' enc)).toArray clock)
  keys : (ms.map (·.key)).Nodup
  born : (ms.map (·.born)).Nodup
  old : ∀ m ∈ ms, m.born < clock

/-- Block b is a map that says f. -/
def MapIs [DecidableEq κ] (w : World) (enc : κ → Value) (b : Nat) (f : κ → Option Value) : Prop := ∃ ms clock, MapMem w enc b ms clock ∧ ∀ k, getL k ms = f k

section
variable [DecidableEq κ]

theorem findL_getL (k : κ) : ∀ (ms : List (Ent κ)) (i : Nat), (findL k ms i).map (·.2) = getL k ms
  | [], _ => rfl
  | m :: ms, i => by
    unfold findL getL
    by_cases h : m.key = k
    · simp [h]
    · rw [if_neg h, if_neg h]; exact findL_getL k ms (i + 1)

theorem findL_spec (k : κ) : ∀ (ms : List (Ent κ)) (i j : Nat) (v : Value), findL k ms i = some (j, v) → ∃ m, i ≤ j ∧ ms[j - i]? = some m ∧ m.key = k ∧ m.val = v
  | [], _, _, _, h => by cases h
  | m :: ms, i, j, v, h => by
    unfold findL at h
    by_cases hk : m.key = k
    · rw [if_pos hk] at h; cases h; exact ⟨m, Nat.le_refl _, by simp, hk, rfl⟩
    · rw [if_neg hk] at h
      obtain ⟨m', h1, h2, h3, h4⟩ := findL_spec k ms (i + 1) j v h
      refine ⟨m', by omega, ?_, h3, h4⟩
      rw [show j - i = (j - (i + 1)) + 1 by omega]
      simpa using h2

theorem findL_none (k : κ) : ∀ (ms : List (Ent κ)) (i : Nat), findL k ms i = none → ∀ m ∈ ms, m.key ≠ k
  | [], _, _ => by simp
  | m :: ms, i, h => by
    unfold findL at h
    by_cases hk : m.key = k
    · rw [if_pos hk] at h; cases h
    · rw [if_neg hk] at h
      intro m' hm
      rcases List.mem_cons.1 hm with rfl | hm
      · exact hk
      · exact findL_none k ms (i + 1) h m' hm

theorem getL_none {k : κ} {ms : List (Ent κ)} (h : getL k ms = none) : ∀ m ∈ ms, m.key ≠ k := by
  rw [← findL_getL k ms 0] at h
  exact findL_none k ms 0 (by simpa using h)

theorem getL_append (k : κ) (m : Ent κ) : ∀ ms : List (Ent κ), getL k (ms ++ [m]) = if (getL k ms).isSome then getL k ms else if m.key = k then some m.val else none
  | [] => by simp [getL]
  | a :: ms => by
    simp only [List.cons_append, getL]
    by_cases h : a.key = k
    · simp [h]
    · simp only [if_neg h]; exact getL_append k m ms

theorem getL_of_mem {k : κ} : ∀ {ms : List (Ent κ)} {m : Ent κ}, (ms.map (·.key)).Nodup → m ∈ ms → m.key = k → getL k ms = some m.val
  | a :: ms, m, hn, hm, hk => by
    simp only [List.map_cons, List.nodup_cons] at hn
    unfold getL
    rcases List.mem_cons.1 hm with rfl | hm
    · rw [if_pos hk]
    · rw [if_neg (by rintro he; exact hn.1 (by rw [he, ← hk]; exact List.mem_map_of_mem hm))]
      exact getL_of_mem hn.2 hm hk

/-- The place's value is another one. -/
def setV {κ : Type} (ms : List (Ent κ)) (i : Nat) (v : Value) : List (Ent κ) := ms.modify i fun m => { m with val := v }

omit [DecidableEq κ] in
theorem setV_keys (v : Value) : ∀ (ms : List (Ent κ)) (i : Nat), (setV ms i v).map (·.key) = ms.map (·.key)
  | [], i => by simp [setV]
  | a :: ms, 0 => by simp [setV]
  | a :: ms, i + 1 => by simpa [setV] using setV_keys v ms i
omit [DecidableEq κ] in
theorem setV_born (v : Value) : ∀ (ms : List (Ent κ)) (i : Nat), (setV ms i v).map (·.born) = ms.map (·.born)
  | [], i => by simp [setV]
  | a :: ms, 0 => by simp [setV]
  | a :: ms, i + 1 => by simpa [setV] using setV_born v ms i
omit [DecidableEq κ] in
theorem setV_old {clock : Nat} (v : Value) (ms : List (Ent κ)) (i : Nat) (h : ∀ m ∈ ms, m.born < clock) : ∀ m ∈ setV ms i v, m.born < clock := by
  intro m hm
  have h1 : m.born ∈ (setV ms i v).map (·.born) := List.mem_map_of_mem hm
  rw [setV_born] at h1
  obtain ⟨m', hm', he⟩ := List.mem_map.1 h1
  exact he ▸ h m' hm'
theorem setV_getL (v : Value) (k : κ) : ∀ (ms : List (Ent κ)) (i : Nat) (m : Ent κ), (ms.map (·.key)).Nodup → ms[i]? = some m → getL k (setV ms i v) = if m.key = k then some v else getL k ms
  | a :: ms, 0, m, hn, hm => by
    simp only [List.getElem?_cons_zero, Option.some.injEq] at hm
    subst hm
    simp only [setV, List.modify_zero_cons, getL]
    by_cases h : a.key = k
    · rw [if_pos h, if_pos h]
    · rw [if_neg h, if_neg h, if_neg h]
  | a :: ms, i + 1, m, hn, hm => by
    simp only [List.map_cons, List.nodup_cons] at hn
    simp only [List.getElem?_cons_succ] at hm
    have ih := setV_getL v k ms i m hn.2 hm
    have hmem : m ∈ ms := List.mem_of_getElem? hm
    simp only [setV, List.modify_succ_cons, getL] at ih ⊢
    by_cases h : a.key = k
    · have hmk : m.key ≠ k := fun he => hn.1 (by rw [h, ← he]; exact List.mem_map_of_mem hmem)
      rw [if_pos h, if_neg hmk]
      simp [h]
    · rw [if_neg h, if_neg h, ih]

omit [DecidableEq κ] in
theorem eraseIdx_mk (enc : κ → Value) : ∀ (ms : List (Ent κ)) (i : Nat), (ms.map (Ent.mk' enc)).eraseIdx i = (ms.eraseIdx i).map (Ent.mk' enc)
  | [], i => by simp
  | a :: ms, 0 => by simp
  | a :: ms, i + 1 => by simpa using eraseIdx_mk enc ms i
omit [DecidableEq κ] in
theorem modify_mk (enc : κ → Value) (v : Value) : ∀ (ms : List (Ent κ)) (i : Nat), (ms.map (Ent.mk' enc)).modify i (fun e => { e with val := v }) = (setV ms i v).map (Ent.mk' enc)
  | [], i => by simp [setV]
  | a :: ms, 0 => by simp [setV, Ent.mk']
  | a :: ms, i + 1 => by simpa [setV] using modify_mk enc v ms i

omit [DecidableEq κ] in
theorem modify_same (enc : κ → Value) (v : Value) : ∀ (ms : List (Ent κ)) (i : Nat) (m : Ent κ), ms[i]? = some m → (ms.map (Ent.mk' enc)).modify i (fun e => { e with key := enc m.key, val := v }) = (setV ms i v).map (Ent.mk' enc)
  | a :: ms, 0, m, h => by
    simp only [List.getElem?_cons_zero, Option.some.injEq] at h
    subst h; simp [setV, Ent.mk']
  | a :: ms, i + 1, m, h => by
    simp only [List.getElem?_cons_succ] at h
    simpa [setV] using modify_same enc v ms i m h
omit [DecidableEq κ] in
theorem modify_key (enc : κ → Value) : ∀ (ms : List (Ent κ)) (i : Nat) (m : Ent κ), ms[i]? = some m → (ms.map (Ent.mk' enc)).modify i (fun e => { e with key := enc m.key }) = ms.map (Ent.mk' enc)
  | a :: ms, 0, m, h => by
    simp only [List.getElem?_cons_zero, Option.some.injEq] at h
    subst h; simp [Ent.mk']
  | a :: ms, i + 1, m, h => by
    simp only [List.getElem?_cons_succ] at h
    simpa using modify_key enc ms i m h
end

theorem run_getObj_map {P : Program} {w : World} {b : Nat} {es : Array MapEntry} {c : Nat} (h : w.heap[b]? = some (.map es c)) : (getObj b).run P w = .ok (.map es c) w := by
  simp only [getObj, Sem.run, h]
theorem run_setObj_map {P : Program} {w : World} {b : Nat} {es : Array MapEntry} {c : Nat} (h : w.heap[b]? = some (.map es c)) (o : Obj) : (setObj b o).run P w = .ok () (ChangeMaps.setBlock w b o) := by
  simp only [setObj, Sem.run, h, ChangeMaps.setBlock]

section
variable [DecidableEq κ] {P : Program} {t tk te : TypeId} {enc : κ → Value} {w : World} {b clock : Nat} {ms : List (Ent κ)}

theorem run_lookup_ok (ht : P.underlying t = some (.map tk te)) (K : KeyOk P tk enc) {z : Value} (hz : (zeroValue te).run P w = .ok z w) (h : MapMem w enc b ms clock) (k : κ) :
    (Instr.lookup t (.map (some b)) (enc k) true).run P w = .ok (.tuple #[(getL k ms).getD z, .bool (getL k ms).isSome]) w := by
  have hf := findL_getL k ms 0
  have h1 := K.find k ms w
  have h2 := fun e => K.check k e w
  simp only [Instr.lookup]
  cases hg : findL k ms 0 with
  | none =>
    rw [hg] at hf h1
    have hf' : getL k ms = none := by simpa using hf.symm
    simp [run_underlying ht, run_getObj_map h.blk, h1, h2, hz, hf']
  | some p =>
    rw [hg] at hf h1
    have hf' : getL k ms = some p.2 := by simpa using hf.symm
    simp [run_underlying ht, run_getObj_map h.blk, h1, h2, hf']

theorem run_lookup_one (ht : P.underlying t = some (.map tk te)) (K : KeyOk P tk enc) {z : Value} (hz : (zeroValue te).run P w = .ok z w) (h : MapMem w enc b ms clock) (k : κ) :
    (Instr.lookup t (.map (some b)) (enc k) false).run P w = .ok ((getL k ms).getD z) w := by
  have hf := findL_getL k ms 0
  have h1 := K.find k ms w
  have h2 := fun e => K.check k e w
  simp only [Instr.lookup]
  cases hg : findL k ms 0 with
  | none =>
    rw [hg] at hf h1
    have hf' : getL k ms = none := by simpa using hf.symm
    simp [run_underlying ht, run_getObj_map h.blk, h1, h2, hz, hf']
  | some p =>
    rw [hg] at hf h1
    have hf' : getL k ms = some p.2 := by simpa using hf.symm
    simp [run_underlying ht, run_getObj_map h.blk, h1, h2, hf']

theorem map_setBlock {o : Obj} (hb : b < w.heap.size) : (ChangeMaps.setBlock w b o).heap[b]? = some o := by
  simp [ChangeMaps.setBlock, hb]

theorem run_mapUpdate_mem (ht : P.underlying t = some (.map tk te)) (K : KeyOk P tk enc) (h : MapMem w enc b ms clock) (k : κ) (v : Value) :
    ∃ ms' clock', (Instr.mapUpdate t (.map (some b)) (enc k) v).run P w = .ok () (ChangeMaps.setBlock w b (.map (ms'.map (Ent.mk' enc)).toArray clock')) ∧
      (ms'.map (·.key)).Nodup ∧ (ms'.map (·.born)).Nodup ∧ (∀ m ∈ ms', m.born < clock') ∧ ∀ j, getL j ms' = if k = j then some v else getL j ms := by
  have h1 := K.find k ms w
  have h2 := fun e => K.check k e w
  cases hg : findL k ms 0 with
  | none =>
    rw [hg] at h1
    have hno := findL_none k ms 0 hg
    refine ⟨ms ++ [⟨k, v, clock⟩], clock + 1, ?_, ?_, ?_, ?_, ?_⟩
    · simp only [Instr.mapUpdate]
      simp [run_underlying ht, run_getObj_map h.blk, run_setObj_map h.blk, h1, h2, ChangeMaps.setBlock, Ent.mk']
    · rw [List.map_append, List.nodup_append]
      refine ⟨h.keys, by simp, fun a ha c hc => ?_⟩
      obtain ⟨m, hm, rfl⟩ := List.mem_map.1 ha
      simp only [List.map_cons, List.map_nil, List.mem_singleton] at hc
      rw [hc]; exact hno m hm
    · rw [List.map_append, List.nodup_append]
      refine ⟨h.born, by simp, fun a ha c hc => ?_⟩
      obtain ⟨m, hm, rfl⟩ := List.mem_map.1 ha
      simp only [List.map_cons, List.map_nil, List.mem_singleton] at hc
      have := h.old m hm
      omega
    · intro m hm
      rcases List.mem_append.1 hm with hm | hm
      · have := h.old m hm; omega
      · simp only [List.mem_singleton] at hm; subst hm; simp
    · intro j
      rw [getL_append]
      by_cases hj : k = j
      · subst hj
        have hn : getL k ms = none := by rw [← findL_getL k ms 0, hg]; rfl
        simp [hn]
      · simp only [if_neg hj]
        cases getL j ms <;> simp
  | some p =>
    obtain ⟨i, v0⟩ := p
    rw [hg] at h1
    obtain ⟨m, _, hm, hk, hv⟩ := findL_spec k ms 0 i v0 hg
    rw [Nat.sub_zero] at hm
    subst hk
    refine ⟨setV ms i v, clock, ?_, by rw [setV_keys]; exact h.keys, by rw [setV_born]; exact h.born, setV_old v ms i h.old, fun j => setV_getL v j ms i m h.keys hm⟩
    have hmod := modify_same enc v ms i m hm
    have hsb : Instr.sameBits 10000 (Ent.mk' enc m).key (enc m.key) = true := K.stays m.key
    simp only [Instr.mapUpdate]
    simp [run_underlying ht, run_getObj_map h.blk, run_setObj_map h.blk, h1, h2, Instr.keyThatStays, hm, hsb, ChangeMaps.setBlock, hmod]

theorem run_delete_mem {ty : TypeId} (ht : P.underlying t = some (.map tk te)) (K : KeyOk P tk enc) (h : MapMem w enc b ms clock) (k : κ) (u : TypeId) :
    ∃ ms', (Builtin.delete_ #[t, u] ty #[.map (some b), enc k]).run P w = .ok (.tuple #[]) (ChangeMaps.setBlock w b (.map (ms'.map (Ent.mk' enc)).toArray clock)) ∧
      (ms'.map (·.key)).Nodup ∧ (ms'.map (·.born)).Nodup ∧ (∀ m ∈ ms', m.born < clock) ∧ ∀ j, getL j ms' = if k = j then none else getL j ms := by
  have h1 := K.find k ms w
  have h2 := fun e => K.check k e w
  cases hg : findL k ms 0 with
  | none =>
    rw [hg] at h1
    refine ⟨ms, ?_, h.keys, h.born, h.old, fun j => ?_⟩
    · simp only [Builtin.delete_]
      simp [run_underlying ht, run_getObj_map h.blk, run_setObj_map h.blk, h1, h2, ChangeMaps.setBlock]
    · by_cases hj : k = j
      · subst hj
        rw [if_pos rfl, ← findL_getL k ms 0, hg]; rfl
      · rw [if_neg hj]
  | some p =>
    obtain ⟨i, v0⟩ := p
    rw [hg] at h1
    obtain ⟨m, _, hm, hk, hv⟩ := findL_spec k ms 0 i v0 hg
    rw [Nat.sub_zero] at hm
    subst hk
    have hsub : (ms.eraseIdx i).Sublist ms := List.eraseIdx_sublist ..
    refine ⟨ms.eraseIdx i, ?_, (hsub.map _).nodup h.keys, (hsub.map _).nodup h.born, fun m' hm' => h.old m' (hsub.subset hm'), fun j => ?_⟩
    · simp only [Builtin.delete_]
      have hi : i < ms.length := (List.getElem?_eq_some_iff.1 hm).1
      simp [run_underlying ht, run_getObj_map h.blk, run_setObj_map h.blk, h1, h2, ChangeMaps.setBlock, Array.eraseIdxIfInBounds, hi, eraseIdx_mk]
    · have key : ∀ (ms : List (Ent κ)) (i : Nat), (ms.map (·.key)).Nodup → ms[i]? = some m → getL j (ms.eraseIdx i) = if m.key = j then none else getL j ms := by
        intro ms
        induction ms with
        | nil => intro i _ h; simp at h
        | cons a ms ih =>
          intro i hn h
          simp only [List.map_cons, List.nodup_cons] at hn
          cases i with
          | zero =>
            simp only [List.getElem?_cons_zero, Option.some.injEq] at h
            subst h
            simp only [List.eraseIdx_cons_zero, getL]
            by_cases hj : a.key = j
            · rw [if_pos hj]
              cases hgj : getL j ms with
              | none => rfl
              | some v =>
                exfalso
                have h3 := findL_getL j ms 0
                rw [hgj] at h3
                cases hf : findL j ms 0 with
                | none => rw [hf] at h3; cases h3
                | some q =>
                  obtain ⟨m', _, hm', hk', _⟩ := findL_spec j ms 0 q.1 q.2 hf
                  exact hn.1 (by rw [hj, ← hk']; exact List.mem_map_of_mem (List.mem_of_getElem? hm'))
            · rw [if_neg hj, if_neg hj]
          | succ i =>
            simp only [List.getElem?_cons_succ] at h
            have h4 := ih i hn.2 h
            simp only [List.eraseIdx_cons_succ, getL]
            by_cases hj : a.key = j
            · have : m.key ≠ j := fun he => hn.1 (by rw [hj, ← he]; exact List.mem_map_of_mem (List.mem_of_getElem? h))
              rw [if_pos hj, if_neg this, if_pos hj]
            · rw [if_neg hj, if_neg hj, h4]
      exact key ms i h.keys hm

/-- The first half of 'm[k] = v' where the key is there: its value and its stamp; nothing has changed. -/
theorem run_mapEntry_mem (ht : P.underlying t = some (.map tk te)) (K : KeyOk P tk enc) (h : MapMem w enc b ms clock) {i : Nat} {m : Ent κ} (hm : ms[i]? = some m) :
    (Instr.mapEntry t (.map (some b)) (enc m.key)).run P w = .ok (.tuple #[m.val, .int .i64 m.born]) w := by
  have h1 := K.find m.key ms w
  have h2 := fun e => K.check m.key e w
  have hget : getL m.key ms = some m.val := getL_of_mem h.keys (List.mem_of_getElem? hm) rfl
  cases hg : findL m.key ms 0 with
  | none => exact absurd rfl (findL_none m.key ms 0 hg m (List.mem_of_getElem? hm))
  | some p =>
    obtain ⟨i', v0⟩ := p
    rw [hg] at h1
    obtain ⟨m', _, hm', hk, hv⟩ := findL_spec m.key ms 0 i' v0 hg
    rw [Nat.sub_zero] at hm'
    have hii : i' = i := by
      have h5 : (ms.map (·.key))[i']? = (ms.map (·.key))[i]? := by rw [List.getElem?_map, List.getElem?_map, hm, hm']; simp [hk]
      have hlt : i' < (ms.map (·.key)).length := by rw [List.length_map]; exact (List.getElem?_eq_some_iff.1 hm').1
      exact (List.getElem?_inj hlt h.keys).1 h5
    subst hii
    rw [hm] at hm'
    cases hm'
    have hmod := modify_key enc ms i' m hm
    have hsb' : Instr.sameBits 10000 (enc m.key) (enc m.key) = true := K.stays m.key
    have hw : ChangeMaps.setBlock w b (.map (ms.map (Ent.mk' enc)).toArray clock) = w := by
      unfold ChangeMaps.setBlock
      have hlt := lt_of_blk h.blk
      have he : w.heap[b] = .map (ms.map (Ent.mk' enc)).toArray clock := (Array.getElem?_eq_some_iff.1 h.blk).2
      rw [← he, Array.setIfInBounds, dif_pos hlt, Array.set_getElem_self]
    simp only [Instr.mapEntry]
    subst hv
    simp [run_underlying ht, run_getObj_map h.blk, run_setObj_map h.blk, h1, h2, Instr.keyThatStays, hm, hsb', hmod, hw, goInt, Ent.mk']

/-- The second half: the value is laid into the entry of that stamp. -/
theorem run_entryStore_mem (h : MapMem w enc b ms clock) {i : Nat} {m : Ent κ} (hm : ms[i]? = some m) (v : Value) :
    (Instr.entryStore t (.map (some b)) (.int .i64 m.born) v).run P w = .ok () (ChangeMaps.setBlock w b (.map ((setV ms i v).map (Ent.mk' enc)).toArray clock)) := by
  have hfi : (ms.map (Ent.mk' enc)).toArray.findIdx? (fun e => (e.born : Int) == (m.born : Int)) = some i := by
    rw [List.findIdx?_toArray, List.findIdx?_eq_some_iff_getElem]
    have hi : i < ms.length := (List.getElem?_eq_some_iff.1 hm).1
    have he : ms[i] = m := (List.getElem?_eq_some_iff.1 hm).2
    refine ⟨by simpa using hi, by simp [Ent.mk', he], fun j hj => ?_⟩
    have hjl : j < ms.length := by omega
    have hne : ms[j].born ≠ m.born := by
      intro hb
      have h5 : (ms.map (·.born))[j]? = (ms.map (·.born))[i]? := by rw [List.getElem?_map, List.getElem?_map, hm, List.getElem?_eq_getElem hjl]; simp [hb]
      have hlt : j < (ms.map (·.born)).length := by rw [List.length_map]; exact hjl
      have := (List.getElem?_inj hlt h.born).1 h5
      omega
    rw [List.getElem_map]
    simp only [Ent.mk', beq_iff_eq, Int.natCast_inj]
    exact hne
  have hmod := modify_mk enc v ms i
  simp only [Instr.entryStore]
  simp [run_getObj_map h.blk, run_setObj_map h.blk, asInt, asIntOf, hfi, hmod]

theorem MapMem.only {w' : World} {S : List Nat} (h : MapMem w enc b ms clock) (ho : Only S w w') (hn : b ∉ S) : MapMem w' enc b ms clock := ⟨ho.blk h.blk hn, h.keys, h.born, h.old⟩
theorem MapMem.drew (h : MapMem w enc b ms clock) : MapMem w.drew enc b ms clock := ⟨h.blk, h.keys, h.born, h.old⟩
theorem MapMem.put {ms' : List (Ent κ)} {clock' : Nat} (hb : b < w.heap.size) (h1 : (ms'.map (·.key)).Nodup) (h2 : (ms'.map (·.born)).Nodup) (h3 : ∀ m ∈ ms', m.born < clock') :
    MapMem (ChangeMaps.setBlock w b (.map (ms'.map (Ent.mk' enc)).toArray clock')) enc b ms' clock' := ⟨map_setBlock hb, h1, h2, h3⟩
theorem MapMem.setV (h : MapMem w enc b ms clock) (i : Nat) (v : Value) : MapMem (ChangeMaps.setBlock w b (.map ((setV ms i v).map (Ent.mk' enc)).toArray clock)) enc b (setV ms i v) clock :=
  MapMem.put (lt_of_blk h.blk) (by rw [setV_keys]; exact h.keys) (by rw [setV_born]; exact h.born) (setV_old v ms i h.old)
end

end Go.Mk
