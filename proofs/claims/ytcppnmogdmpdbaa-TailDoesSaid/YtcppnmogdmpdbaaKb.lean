/- What a buffer of package tail has in memory: its own block, its heap, three maps, the row of what is known, and the traces that wait. -/
import Derived.Test.YtcppnmogdmpdbaaKa
set_option linter.unusedVariables false
set_option linter.unusedSimpArgs false
namespace Go.Proofs.Ytcppnmogdmpdbaa
open Go.RowKit Go.Mk Go.Hp

/-- What a key leads to. -/
def asc {α β : Type} [DecidableEq α] : List (α × β) → α → Option β
  | [], _ => none
  | p :: L, k => if p.1 = k then some p.2 else asc L k

section
variable {α β : Type} [DecidableEq α]
theorem asc_none {k : α} : ∀ {L : List (α × β)}, asc L k = none ↔ k ∉ L.map (·.1)
  | [] => by simp [asc]
  | p :: L => by
    unfold asc
    by_cases h : p.1 = k
    · simp [h]
    · rw [if_neg h, asc_none, List.map_cons, List.mem_cons]
      constructor
      · rintro h1 (h2 | h2)
        · exact h h2.symm
        · exact h1 h2
      · exact fun h1 h2 => h1 (.inr h2)
theorem asc_new {k0 k : α} {v : β} : ∀ {L : List (α × β)}, k0 ∉ L.map (·.1) → asc (L ++ [(k0, v)]) k = if k0 = k then some v else asc L k
  | [], _ => by simp [asc]
  | p :: L, h => by
    simp only [List.map_cons, List.mem_cons, not_or] at h
    rw [List.cons_append, asc, asc, asc_new h.2]
    by_cases h1 : p.1 = k
    · rw [if_pos h1, if_pos h1, if_neg (fun h2 => h.1 (by rw [h2, h1]))]
    · rw [if_neg h1, if_neg h1]
theorem asc_tail {k0 k : α} {v : β} {L : List (α × β)} (h : k0 ∉ L.map (·.1)) : asc L k = if k0 = k then none else asc ((k0, v) :: L) k := by
  by_cases h1 : k0 = k
  · rw [if_pos h1]; subst h1; exact asc_none.2 h
  · rw [if_neg h1, asc, if_neg h1]
theorem asc_get {k : α} {v : β} : ∀ {L : List (α × β)} {i : Nat}, (L.map (·.1)).Nodup → L[i]? = some (k, v) → asc L k = some v
  | p :: L, 0, _, h => by cases h; simp [asc]
  | p :: L, i + 1, hn, h => by
    simp only [List.map_cons, List.nodup_cons] at hn
    rw [List.getElem?_cons_succ] at h
    have hne : p.1 ≠ k := fun he => hn.1 (by rw [he]; exact List.mem_map.2 ⟨_, List.mem_of_getElem? h, rfl⟩)
    rw [asc, if_neg hne]
    exact asc_get hn.2 h
theorem asc_some {k : α} {v : β} : ∀ {L : List (α × β)}, asc L k = some v → ∃ i : Nat, L[i]? = some (k, v)
  | [], h => by cases h
  | p :: L, h => by
    rw [asc] at h
    by_cases h1 : p.1 = k
    · rw [if_pos h1] at h; cases h; exact ⟨0, by rw [← h1]; rfl⟩
    · rw [if_neg h1] at h
      obtain ⟨i, hi⟩ := asc_some h
      exact ⟨i + 1, by simpa using hi⟩
end

/-- A span without attributes. -/
structure Sp where
  tr : Tr
  id : Int
  par : Int
  nm : ByteArray
  st : Int
  en : Int
  bad : Bool
  rv : Int
def Sp.cells (s : Sp) : List Value := [.int .u64 s.tr.1, .int .u64 s.tr.2, .int .u64 s.id, .int .u64 s.par, .string s.nm, .int .i64 s.st, .int .i64 s.en, .bool s.bad, .slice none 0 0, .int .u64 s.rv]
def Sp.arr (s : Sp) : Array Value := #[.int .u64 s.tr.1, .int .u64 s.tr.2, .int .u64 s.id, .int .u64 s.par, .string s.nm, .int .i64 s.st, .int .i64 s.en, .bool s.bad, .slice none 0 0, .int .u64 s.rv]

/-- A trace that waits: its number, when it is due, which it is, its spans, its block, the slice of its spans. -/
structure Wr where
  no : Int
  due : Int
  tr : Tr
  sps : List Sp
  wb : Nat
  sv : Value
def Wr.bl (q : Wr) : List Nat := q.wb :: blockOf q.sv

structure RowOk (w : World) (q : Wr) : Prop where
  blk : w.heap[q.wb]? = some (.cells #[.int .u64 q.tr.1, .int .u64 q.tr.2, q.sv] 119 (0, 0))
  sl : SliceIs w 65 10 (q.sps.map Sp.cells) q.sv
  ap : q.wb ∉ blockOf q.sv

theorem RowOk.only {w w' : World} {q : Wr} {S : List Nat} (h : RowOk w q) (ho : Only S w w') (hn : ∀ x ∈ q.bl, x ∉ S) : RowOk w' q :=
  ⟨ho.blk h.blk (hn _ (by simp [Wr.bl])), h.sl.only ho (fun b hb => hn b (by simp [Wr.bl, hb])), h.ap⟩
theorem RowOk.lt {w : World} {q : Wr} (h : RowOk w q) : ∀ x ∈ q.bl, x < w.heap.size := by
  intro x hx
  rcases List.mem_cons.1 hx with rfl | hx
  · exact lt_of_blk h.blk
  · exact h.sl.lt x hx

/-- The blocks that stay. -/
structure TB where
  tp : Nat
  hp : Nat
  mt : Nat
  mr : Nat
  mq : Nat
def TB.fix (b : TB) : List Nat := [b.tp, b.mt, b.mr, b.mq]

/-- No block is another one's. -/
structure Apart (b : TB) (Fh ob : List Nat) (Q : List Wr) : Prop where
  nd : b.fix.Nodup
  fixF : ∀ x ∈ b.fix, x ∉ Fh ∧ x ∉ ob
  obF : ∀ x ∈ ob, x ∉ Fh
  rows : ∀ q ∈ Q, ∀ x ∈ q.bl, x ∉ b.fix ∧ x ∉ Fh ∧ x ∉ ob
  sep : ∀ (i j : Nat) (p q : Wr), Q[i]? = some p → Q[j]? = some q → i ≠ j → ∀ x ∈ p.bl, x ∉ q.bl

/-- All blocks of a buffer. -/
def foot (b : TB) (Fh ob : List Nat) (Q : List Wr) : List Nat := b.fix ++ (Fh ++ (ob ++ Q.flatMap Wr.bl))

def encTrL (t : Tr) : List Value := [.int .u64 t.1, .int .u64 t.2]

/-- What lies there. -/
structure Env (w : World) (b : TB) (T : Array Value) (Fh : List Nat) (most : Int) (S : List Tm) (mst : List (Ent Tr)) (msr : List (Ent Int)) (msk : List (Ent Tr)) (ov : Value) (Or : List Tr) (Q : List Wr) : Prop where
  blk : w.heap[b.tp]? = some (.cells T 113 (0, 0))
  heap : HeapObj w b.hp Fh most S
  mt : ∃ c, MapMem w encTr b.mt mst c
  mr : ∃ c, MapMem w (Value.int .i64) b.mr msr c
  mq : ∃ c, MapMem w encTr b.mq msk c
  ord : SliceIs w 116 2 (Or.map encTrL) ov
  rows : ∀ q ∈ Q, RowOk w q

section
variable {w w' : World} {b : TB} {T : Array Value} {Fh Fh' : List Nat} {most : Int} {S S' : List Tm} {mst mst' msk msk' : List (Ent Tr)} {msr msr' : List (Ent Int)} {ov : Value} {Or : List Tr} {Q : List Wr}

theorem mem_foot {ob : List Nat} {x : Nat} : x ∈ foot b Fh ob Q ↔ x ∈ b.fix ∨ x ∈ Fh ∨ x ∈ ob ∨ ∃ q ∈ Q, x ∈ q.bl := by
  unfold foot
  rw [List.mem_append, List.mem_append, List.mem_append, List.mem_flatMap]

theorem Env.only {S0 : List Nat} (h : Env w b T Fh most S mst msr msk ov Or Q) (ho : Only S0 w w') (hn : ∀ x ∈ foot b Fh (blockOf ov) Q, x ∉ S0) : Env w' b T Fh most S mst msr msk ov Or Q := by
  have hf : ∀ x ∈ b.fix, x ∉ S0 := fun x hx => hn x (mem_foot.2 (.inl hx))
  obtain ⟨c1, h1⟩ := h.mt
  obtain ⟨c2, h2⟩ := h.mr
  obtain ⟨c3, h3⟩ := h.mq
  exact ⟨ho.blk h.blk (hf _ (by simp [TB.fix])), h.heap.only ho (fun x hx => hn x (mem_foot.2 (.inr (.inl hx)))), ⟨c1, h1.only ho (hf _ (by simp [TB.fix]))⟩, ⟨c2, h2.only ho (hf _ (by simp [TB.fix]))⟩, ⟨c3, h3.only ho (hf _ (by simp [TB.fix]))⟩,
    h.ord.only ho (fun x hx => hn x (mem_foot.2 (.inr (.inr (.inl hx))))), fun q hq => (h.rows q hq).only ho (fun x hx => hn x (mem_foot.2 (.inr (.inr (.inr ⟨q, hq, hx⟩)))))⟩

theorem Env.lt (h : Env w b T Fh most S mst msr msk ov Or Q) : ∀ x ∈ foot b Fh (blockOf ov) Q, x < w.heap.size := by
  intro x hx
  obtain ⟨c1, h1⟩ := h.mt
  obtain ⟨c2, h2⟩ := h.mr
  obtain ⟨c3, h3⟩ := h.mq
  rcases mem_foot.1 hx with hx | hx | hx | ⟨q, hq, hx⟩
  · simp only [TB.fix, List.mem_cons, List.not_mem_nil, or_false] at hx
    rcases hx with rfl | rfl | rfl | rfl
    · exact lt_of_blk h.blk
    · exact lt_of_blk h1.blk
    · exact lt_of_blk h2.blk
    · exact lt_of_blk h3.blk
  · exact h.heap.lts x hx
  · exact h.ord.lt x hx
  · exact (h.rows q hq).lt x hx

theorem Apart.fixQ (A : Apart b Fh (blockOf ov) Q) {x : Nat} (hx : x ∈ b.fix) : x ∉ Fh ∧ x ∉ blockOf ov ∧ ∀ q ∈ Q, x ∉ q.bl :=
  ⟨(A.fixF x hx).1, (A.fixF x hx).2, fun q hq hm => (A.rows q hq x hm).1 hx⟩

/-- One block that stays has changed. -/
theorem Env.fix1 (h : Env w b T Fh most S mst msr msk ov Or Q) (A : Apart b Fh (blockOf ov) Q) {x : Nat} (hx : x ∈ b.fix) (ho : Only [x] w w') :
    HeapObj w' b.hp Fh most S ∧ SliceIs w' 116 2 (Or.map encTrL) ov ∧ ∀ q ∈ Q, RowOk w' q := by
  obtain ⟨h1, h2, h3⟩ := A.fixQ hx
  exact ⟨h.heap.only ho (fun y hy hm => by rw [List.mem_singleton] at hm; exact h1 (hm ▸ hy)), h.ord.only ho (fun y hy hm => by rw [List.mem_singleton] at hm; exact h2 (hm ▸ hy)),
    fun q hq => (h.rows q hq).only ho (fun y hy hm => by rw [List.mem_singleton] at hm; exact h3 q hq (hm ▸ hy))⟩

theorem TB.ne (nd : b.fix.Nodup) : b.tp ≠ b.mt ∧ b.tp ≠ b.mr ∧ b.tp ≠ b.mq ∧ b.mt ≠ b.mr ∧ b.mt ≠ b.mq ∧ b.mr ≠ b.mq := by
  simp only [TB.fix, List.nodup_cons, List.mem_cons, List.not_mem_nil, or_false, not_or] at nd
  obtain ⟨⟨h1, h2, h3⟩, ⟨h4, h5⟩, h6, _⟩ := nd
  exact ⟨h1, h2, h3, h4, h5, h6⟩

theorem only_setTp (w : World) (x i : Nat) (v : Value) : Only [x] w (w.setCell ⟨x, i, none⟩ v) := (Only.refl _ _).setCell (.inl (by simp)) _
theorem only_setBl (w : World) (x : Nat) (o : Obj) : Only [x] w (ChangeMaps.setBlock w x o) := (Only.refl _ _).setBlock (.inl (by simp)) _

theorem Env.setTp (h : Env w b T Fh most S mst msr msk ov Or Q) (A : Apart b Fh (blockOf ov) Q) (i : Nat) (v : Value) : Env (w.setCell ⟨b.tp, i, none⟩ v) b (T.setIfInBounds i v) Fh most S mst msr msk ov Or Q := by
  have ho := only_setTp w b.tp i v
  obtain ⟨h1, h2, h3⟩ := h.fix1 A (by simp [TB.fix]) ho
  obtain ⟨n1, n2, n3, n4, n5, n6⟩ := TB.ne A.nd
  obtain ⟨c1, k1⟩ := h.mt
  obtain ⟨c2, k2⟩ := h.mr
  obtain ⟨c3, k3⟩ := h.mq
  exact ⟨setCell_blk h.blk, h1, ⟨c1, k1.only ho (by simpa using Ne.symm n1)⟩, ⟨c2, k2.only ho (by simpa using Ne.symm n2)⟩, ⟨c3, k3.only ho (by simpa using Ne.symm n3)⟩, h2, h3⟩

theorem Env.setMt (h : Env w b T Fh most S mst msr msk ov Or Q) (A : Apart b Fh (blockOf ov) Q) {o : Obj} {c : Nat} (hm : MapMem (ChangeMaps.setBlock w b.mt o) encTr b.mt mst' c) : Env (ChangeMaps.setBlock w b.mt o) b T Fh most S mst' msr msk ov Or Q := by
  have ho := only_setBl w b.mt o
  obtain ⟨h1, h2, h3⟩ := h.fix1 A (by simp [TB.fix]) ho
  obtain ⟨n1, n2, n3, n4, n5, n6⟩ := TB.ne A.nd
  obtain ⟨c2, k2⟩ := h.mr
  obtain ⟨c3, k3⟩ := h.mq
  exact ⟨ho.blk h.blk (by simpa using n1), h1, ⟨c, hm⟩, ⟨c2, k2.only ho (by simpa using Ne.symm n4)⟩, ⟨c3, k3.only ho (by simpa using Ne.symm n5)⟩, h2, h3⟩

theorem Env.setMr (h : Env w b T Fh most S mst msr msk ov Or Q) (A : Apart b Fh (blockOf ov) Q) {o : Obj} {c : Nat} (hm : MapMem (ChangeMaps.setBlock w b.mr o) (Value.int .i64) b.mr msr' c) : Env (ChangeMaps.setBlock w b.mr o) b T Fh most S mst msr' msk ov Or Q := by
  have ho := only_setBl w b.mr o
  obtain ⟨h1, h2, h3⟩ := h.fix1 A (by simp [TB.fix]) ho
  obtain ⟨n1, n2, n3, n4, n5, n6⟩ := TB.ne A.nd
  obtain ⟨c1, k1⟩ := h.mt
  obtain ⟨c3, k3⟩ := h.mq
  exact ⟨ho.blk h.blk (by simpa using n2), h1, ⟨c1, k1.only ho (by simpa using n4)⟩, ⟨c, hm⟩, ⟨c3, k3.only ho (by simpa using Ne.symm n6)⟩, h2, h3⟩

theorem Env.setMk (h : Env w b T Fh most S mst msr msk ov Or Q) (A : Apart b Fh (blockOf ov) Q) {o : Obj} {c : Nat} (hm : MapMem (ChangeMaps.setBlock w b.mq o) encTr b.mq msk' c) : Env (ChangeMaps.setBlock w b.mq o) b T Fh most S mst msr msk' ov Or Q := by
  have ho := only_setBl w b.mq o
  obtain ⟨h1, h2, h3⟩ := h.fix1 A (by simp [TB.fix]) ho
  obtain ⟨n1, n2, n3, n4, n5, n6⟩ := TB.ne A.nd
  obtain ⟨c1, k1⟩ := h.mt
  obtain ⟨c2, k2⟩ := h.mr
  exact ⟨ho.blk h.blk (by simpa using n3), h1, ⟨c1, k1.only ho (by simpa using n5)⟩, ⟨c2, k2.only ho (by simpa using n6)⟩, ⟨c, hm⟩, h2, h3⟩

/-- The heap has changed, and nothing else. -/
theorem Env.heapTo (h : Env w b T Fh most S mst msr msk ov Or Q) (A : Apart b Fh (blockOf ov) Q) (hH : HeapObj w' b.hp Fh' most S') (ho : Only Fh w w') (hF : ∀ x ∈ Fh', x ∈ Fh ∨ w.heap.size ≤ x) :
    Env w' b T Fh' most S' mst msr msk ov Or Q ∧ Apart b Fh' (blockOf ov) Q := by
  have hl := h.lt
  have hf : ∀ x ∈ b.fix, x ∉ Fh := fun x hx => (A.fixF x hx).1
  have hx' : ∀ x, x < w.heap.size → x ∉ Fh → x ∉ Fh' := fun x h1 h2 hm => (hF x hm).elim h2 (fun h3 => by omega)
  obtain ⟨c1, k1⟩ := h.mt
  obtain ⟨c2, k2⟩ := h.mr
  obtain ⟨c3, k3⟩ := h.mq
  refine ⟨⟨ho.blk h.blk (hf _ (by simp [TB.fix])), hH, ⟨c1, k1.only ho (hf _ (by simp [TB.fix]))⟩, ⟨c2, k2.only ho (hf _ (by simp [TB.fix]))⟩, ⟨c3, k3.only ho (hf _ (by simp [TB.fix]))⟩, h.ord.only ho A.obF, fun q hq => (h.rows q hq).only ho (fun x hx => (A.rows q hq x hx).2.1)⟩,
    ⟨A.nd, fun x hx => ⟨hx' x (hl x (mem_foot.2 (.inl hx))) (hf x hx), (A.fixF x hx).2⟩, fun x hx => hx' x (hl x (mem_foot.2 (.inr (.inr (.inl hx))))) (A.obF x hx),
      fun q hq x hx => ⟨(A.rows q hq x hx).1, hx' x (hl x (mem_foot.2 (.inr (.inr (.inr ⟨q, hq, hx⟩))))) (A.rows q hq x hx).2.1, (A.rows q hq x hx).2.2⟩, A.sep⟩⟩

/-- One more row, in blocks that are none of the others. -/
theorem Env.addRow (h : Env w b T Fh most S mst msr msk ov Or Q) (A : Apart b Fh (blockOf ov) Q) {q : Wr} (hq : RowOk w q) (hn : ∀ x ∈ q.bl, x ∉ foot b Fh (blockOf ov) Q) :
    Env w b T Fh most S mst msr msk ov Or (Q ++ [q]) ∧ Apart b Fh (blockOf ov) (Q ++ [q]) := by
  have hn' : ∀ x ∈ q.bl, (x ∉ b.fix ∧ x ∉ Fh ∧ x ∉ blockOf ov) ∧ ∀ p ∈ Q, x ∉ p.bl := fun x hx => by
    have h1 := hn x hx
    rw [mem_foot] at h1
    exact ⟨⟨fun h => h1 (.inl h), fun h => h1 (.inr (.inl h)), fun h => h1 (.inr (.inr (.inl h)))⟩, fun p hp h => h1 (.inr (.inr (.inr ⟨p, hp, h⟩)))⟩
  refine ⟨⟨h.blk, h.heap, h.mt, h.mr, h.mq, h.ord, fun p hp => ?_⟩, ⟨A.nd, A.fixF, A.obF, fun p hp x hx => ?_, fun i j p r hi hj hij x hx => ?_⟩⟩
  · rcases List.mem_append.1 hp with hp | hp
    · exact h.rows p hp
    · rw [List.mem_singleton.1 hp]; exact hq
  · rcases List.mem_append.1 hp with hp | hp
    · exact A.rows p hp x hx
    · rw [List.mem_singleton.1 hp] at hx; exact (hn' x hx).1
  · have hlen : ∀ (k : Nat) (u : Wr), (Q ++ [q])[k]? = some u → (k < Q.length ∧ Q[k]? = some u) ∨ (k = Q.length ∧ u = q) := fun k u hk => by
      by_cases hk' : k < Q.length
      · rw [List.getElem?_append_left hk'] at hk; exact .inl ⟨hk', hk⟩
      · rw [List.getElem?_append_right (by omega)] at hk
        have : k - Q.length < 1 := by have := (List.getElem?_eq_some_iff.1 hk).1; simpa using this
        have h0 : k - Q.length = 0 := by omega
        rw [h0] at hk
        cases hk
        exact .inr ⟨by omega, rfl⟩
    rcases hlen i p hi with ⟨_, hi2⟩ | ⟨hi2, hip⟩
    · rcases hlen j r hj with ⟨_, hj2⟩ | ⟨hj2, hjr⟩
      · exact A.sep i j p r hi2 hj2 hij x hx
      · rw [hjr]; exact fun hm => (hn' x hm).2 p (List.mem_of_getElem? hi2) hx
    · rw [hip] at hx
      rcases hlen j r hj with ⟨_, hj2⟩ | ⟨hj2, hjr⟩
      · exact (hn' x hx).2 r (List.mem_of_getElem? hj2)
      · omega

/-- One row has changed: its blocks, and perhaps new ones. -/
theorem Env.setRow (h : Env w b T Fh most S mst msr msk ov Or Q) (A : Apart b Fh (blockOf ov) Q) {i : Nat} {p q : Wr} (hi : Q[i]? = some p) (ho : Only p.bl w w') (hq : RowOk w' q) (hb : ∀ x ∈ q.bl, x ∈ p.bl ∨ w.heap.size ≤ x) :
    Env w' b T Fh most S mst msr msk ov Or (Q.set i q) ∧ Apart b Fh (blockOf ov) (Q.set i q) := by
  have hil := (List.getElem?_eq_some_iff.1 hi).1
  have hp := List.mem_of_getElem? hi
  have hl := h.lt
  have hap := A.rows p hp
  have hf : ∀ x ∈ b.fix, x ∉ p.bl := fun x hx hm => (hap x hm).1 hx
  obtain ⟨c1, k1⟩ := h.mt
  obtain ⟨c2, k2⟩ := h.mr
  obtain ⟨c3, k3⟩ := h.mq
  have hget : ∀ (k : Nat) (u : Wr), (Q.set i q)[k]? = some u → (k = i ∧ u = q) ∨ (k ≠ i ∧ Q[k]? = some u) := fun k u hk => by
    by_cases hki : i = k
    · subst hki; rw [List.getElem?_set_self hil] at hk; cases hk; exact .inl ⟨rfl, rfl⟩
    · rw [List.getElem?_set_ne hki] at hk; exact .inr ⟨fun h => hki h.symm, hk⟩
  have hnew : ∀ x ∈ q.bl, (x ∉ b.fix ∧ x ∉ Fh ∧ x ∉ blockOf ov) ∧ ∀ k u, k ≠ i → Q[k]? = some u → x ∉ u.bl := fun x hx => by
    rcases hb x hx with h1 | h1
    · exact ⟨hap x h1, fun k u hk hu => A.sep i k p u hi hu (Ne.symm hk) x h1⟩
    · have hn : x ∉ foot b Fh (blockOf ov) Q := fun hm => by have := hl x hm; omega
      rw [mem_foot] at hn
      exact ⟨⟨fun h => hn (.inl h), fun h => hn (.inr (.inl h)), fun h => hn (.inr (.inr (.inl h)))⟩, fun k u _ hu h => hn (.inr (.inr (.inr ⟨u, List.mem_of_getElem? hu, h⟩)))⟩
  refine ⟨⟨ho.blk h.blk (hf _ (by simp [TB.fix])), h.heap.only ho (fun x hx hm => (hap x hm).2.1 hx), ⟨c1, k1.only ho (hf _ (by simp [TB.fix]))⟩, ⟨c2, k2.only ho (hf _ (by simp [TB.fix]))⟩, ⟨c3, k3.only ho (hf _ (by simp [TB.fix]))⟩,
      h.ord.only ho (fun x hx hm => (hap x hm).2.2 hx), fun u hu => ?_⟩, ⟨A.nd, A.fixF, A.obF, fun u hu x hx => ?_, fun k l u v hk hl' hkl x hx => ?_⟩⟩
  · obtain ⟨k, hk⟩ := List.getElem?_of_mem hu
    rcases hget k u hk with ⟨_, rfl⟩ | ⟨hki, hku⟩
    · exact hq
    · exact (h.rows u (List.mem_of_getElem? hku)).only ho (fun x hx hm => A.sep i k p u hi hku (Ne.symm hki) x hm hx)
  · obtain ⟨k, hk⟩ := List.getElem?_of_mem hu
    rcases hget k u hk with ⟨_, rfl⟩ | ⟨hki, hku⟩
    · exact (hnew x hx).1
    · exact A.rows u (List.mem_of_getElem? hku) x hx
  · rcases hget k u hk with ⟨hki, rfl⟩ | ⟨hki, hku⟩
    · rcases hget l v hl' with ⟨hli, rfl⟩ | ⟨hli, hlv⟩
      · omega
      · exact (hnew x hx).2 l v hli hlv
    · rcases hget l v hl' with ⟨hli, rfl⟩ | ⟨hli, hlv⟩
      · exact fun hm => (hnew x hm).2 k u hki hku hx
      · exact A.sep k l u v hku hlv hkl x hx
end

end Go.Proofs.Ytcppnmogdmpdbaa
