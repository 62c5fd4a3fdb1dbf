/- Words on worlds, shared by all proofs of this seat: what may have turned (Chg), a map's block as a list of pairs (kmap), and the laws of the map operations over it. It speaks of no program. -/
import Derived.WalkKit
import Derived.WalkSpells
import Derived.WalkLawsBesides
import Derived.Maps.AppendAt
import Derived.Maps.OwnSet
import Derived.Deep.QuietTactic
import Derived.BigQuiet
import Derived.Lib.Hide
import Derived.Lib.ConvBytes
import Derived.Laws.IdiomCopy
namespace Go.Proofs.YtniijkcncpabaaaGreat
open Go.RowKit Go.MapKept

/-- From w to w' only blocks of S, and new ones, have turned. -/
structure Chg (S : Nat → Prop) (w w' : World) : Prop where
  os : w'.os = w.os
  tape : w'.tape = w.tape
  output : w'.output = w.output
  size : w.heap.size ≤ w'.heap.size
  block : ∀ k, k < w.heap.size → ¬ S k → w'.heap[k]? = w.heap[k]?

/-- nothing -/
def No : Nat → Prop := fun _ => False

theorem Chg.refl (S : Nat → Prop) (w : World) : Chg S w w := ⟨rfl, rfl, rfl, Nat.le_refl _, fun _ _ _ => rfl⟩
theorem Chg.mono {S T : Nat → Prop} {w w' : World} (h : Chg S w w') (hT : ∀ k, k < w.heap.size → S k → T k) : Chg T w w' :=
  ⟨h.os, h.tape, h.output, h.size, fun k hk hn => h.block k hk fun hs => hn (hT k hk hs)⟩
theorem Chg.trans {S T : Nat → Prop} {a b c : World} (h : Chg S a b) (k : Chg T b c) (hT : ∀ i, i < a.heap.size → T i → S i) : Chg S a c :=
  ⟨k.os.trans h.os, k.tape.trans h.tape, k.output.trans h.output, Nat.le_trans h.size k.size,
    fun i hi hn => (k.block i (Nat.lt_of_lt_of_le hi h.size) fun ht => hn (hT i hi ht)).trans (h.block i hi hn)⟩
theorem Chg.then {S : Nat → Prop} {a b c : World} (h : Chg S a b) (k : Chg S b c) : Chg S a c := h.trans k fun _ _ h => h
theorem Chg.thenNo {S : Nat → Prop} {a b c : World} (h : Chg S a b) (k : Chg No b c) : Chg S a c := h.trans k fun _ _ h => h.elim
theorem Chg.ofNo {S : Nat → Prop} {a b : World} (h : Chg No a b) : Chg S a b := h.mono fun _ _ h => h.elim
theorem Chg.drew {S : Nat → Prop} {a w : World} (h : Chg S a w) : Chg S a w.drew := ⟨h.os, h.tape, h.output, h.size, h.block⟩
theorem Chg.drewN {S : Nat → Prop} {a w : World} (h : Chg S a w) (n : Nat) : Chg S a (w.drewN n) := ⟨h.os, h.tape, h.output, h.size, h.block⟩
theorem Chg.alloc {S : Nat → Prop} {a w : World} (h : Chg S a w) (o : Obj) : Chg S a (w.alloc o) :=
  h.thenNo ⟨rfl, rfl, rfl, by simp, fun k hk _ => Below.heap_alloc _ _ _ hk⟩
theorem Chg.setCell {S : Nat → Prop} {a w : World} (h : Chg S a w) (p : Addr) (u : Value) (hp : p.block < a.heap.size → S p.block) : Chg S a (w.setCell p u) :=
  h.trans (T := fun k => k = p.block) ⟨rfl, rfl, rfl, by simp [World.setCell], fun k _ hn => Below.heap_setCell _ _ _ _ hn⟩ fun i hi e => by subst e; exact hp hi
theorem Chg.grown {S : Nat → Prop} {a w w' : World} {row : Option Nat} (h : Chg S a w) (hg : w.grownBy w' row) (hr : ∀ k, row = some k → k < a.heap.size → S k) : Chg S a w' :=
  h.trans (T := fun k => row = some k) ⟨hg.os, hg.tape, hg.output, hg.size, fun k hk hn => hg.block k hk fun e => hn e.symm⟩ fun i hi e => hr i e hi
theorem Chg.below {S : Nat → Prop} {a w : World} {B : Nat} (h : Chg S a w) (hB : B ≤ a.heap.size) (hS : ∀ k, S k → B ≤ k) : Below B a w :=
  ⟨h.os, h.tape, h.output, h.size, fun k hk => h.block k (Nat.lt_of_lt_of_le hk hB) fun hs => by have := hS k hs; omega⟩
theorem Chg.ofBelow {a w : World} (h : Below a.heap.size a w) : Chg No a w := ⟨h.os, h.tape, h.output, h.size, fun k hk _ => h.block k hk⟩
theorem Chg.cell {S : Nat → Prop} {w w' : World} (h : Chg S w w') {a : Addr} {v : Value} (hc : w.cell? a = some v) (hn : ¬ S a.block) : w'.cell? a = some v :=
  (World.cell?_of_block (h.block a.block (World.block_lt_of_cell? w a hc) hn)).trans hc
theorem Chg.frozen {S : Nat → Prop} {w w' : World} (h : Chg S w w') {a : Addr} (ha : a.block < w.heap.size) (hn : ¬ S a.block) : w'.frozen? a = w.frozen? a :=
  World.frozen?_of_block (h.block a.block ha hn)
theorem Chg.at {S : Nat → Prop} {w w' : World} (h : Chg S w w') {b : Nat} {o : Obj} (hb : w.heap[b]? = some o) (hn : ¬ S b) : w'.heap[b]? = some o :=
  (h.block b (lt_of_block hb) hn).trans hb
theorem Chg.row {S : Nat → Prop} {w w' : World} (h : Chg S w w') {base : Nat} {e : TypeId} {size : Nat} {v : Value} {n : Nat} {xs : List Value} (hr : w.ownsRow base e size v n xs) (hn : ∀ k, v.ownBlock = some k → ¬ S k) : w'.ownsRow base e size v n xs := by
  refine ⟨hr.1, ?_⟩
  rcases hr.2 with h2 | ⟨g, cap, cur, hv, hg, hh, r⟩
  · exact Or.inl h2
  · exact Or.inr ⟨g, cap, cur, hv, hg, h.at hh (hn g (by simp [hv, Value.ownBlock])), r⟩

/-- A slice's row is another block than one of another type, or than a map. -/
theorem own_ne {w : World} {base : Nat} {e : TypeId} {size : Nat} {v : Value} {n : Nat} {xs : List Value} (h : w.ownsRow base e size v n xs) {b : Nat} {cs : Array Value} {t : TypeId} {f : Nat × Nat} (hb : w.heap[b]? = some (.cells cs t f)) (ht : t ≠ e) : v.ownBlock ≠ some b := by
  intro hv
  rcases h.2 with ⟨rfl, _⟩ | ⟨g, cap, cur, rfl, _, hg, _⟩
  · cases hv
  · simp only [Value.ownBlock, Option.some.injEq] at hv
    subst hv
    rw [hg] at hb
    injection hb with hb
    injection hb with _ hb
    exact ht hb.symm
theorem own_ne_map {w : World} {base : Nat} {e : TypeId} {size : Nat} {v : Value} {n : Nat} {xs : List Value} (h : w.ownsRow base e size v n xs) {b : Nat} {es : Array MapEntry} {c : Nat} (hb : w.heap[b]? = some (.map es c)) : v.ownBlock ≠ some b := by
  intro hv
  rcases h.2 with ⟨rfl, _⟩ | ⟨g, cap, cur, rfl, _, hg, _⟩
  · cases hv
  · simp only [Value.ownBlock, Option.some.injEq] at hv
    subst hv
    rw [hg] at hb
    cases hb
theorem own_lt {w : World} {base : Nat} {e : TypeId} {size : Nat} {v : Value} {n : Nat} {xs : List Value} (h : w.ownsRow base e size v n xs) {b : Nat} (hv : v.ownBlock = some b) : b < w.heap.size := (h.lt b hv).2
theorem ownsRow_succ {W : World} {base : Nat} {e : TypeId} {size : Nat} {v : Value} {k : Nat} {xs : List Value} (h : W.ownsRow base e size v (k + 1) xs) : ∃ g cap, v = .slice (some ⟨g, 0, none⟩) (k + 1) cap := by
  rcases h.2 with ⟨_, h0⟩ | ⟨g, cap, _, rfl, _⟩
  · omega
  · exact ⟨g, cap, rfl⟩
theorem Chg.ofGrown {w w' : World} {row : Option Nat} (hg : w.grownBy w' row) : Chg (fun k => row = some k) w w' :=
  ⟨hg.os, hg.tape, hg.output, hg.size, fun k hk hn => hg.block k hk fun e => hn e.symm⟩

/-! ### lists of pairs -/
section
variable {α β : Type} [DecidableEq α]
def aget : List (α × β) → α → Option β
  | [], _ => none
  | (x, v) :: r, k => if x = k then some v else aget r k
def aput : List (α × β) → α → β → List (α × β)
  | [], k, v => [(k, v)]
  | (x, u) :: r, k, v => if x = k then (x, v) :: r else (x, u) :: aput r k v
def adel : List (α × β) → α → List (α × β)
  | [], _ => []
  | (x, u) :: r, k => if x = k then r else (x, u) :: adel r k
def keys (l : List (α × β)) : List α := l.map (·.1)

theorem aget_none {l : List (α × β)} {k : α} : aget l k = none ↔ k ∉ keys l := by
  induction l with
  | nil => simp [aget, keys]
  | cons p r ih =>
    obtain ⟨x, u⟩ := p
    simp only [aget, keys, List.map_cons, List.mem_cons, not_or]
    split
    · rename_i h; simp [h]
    · rename_i h; rw [ih]; exact ⟨fun hh => ⟨fun e => h e.symm, hh⟩, fun hh => hh.2⟩
theorem aget_isSome {l : List (α × β)} {k : α} : (∃ v, aget l k = some v) ↔ k ∈ keys l := by
  cases h : aget l k with
  | none => simp [aget_none.1 h]
  | some v =>
    have : ¬ (k ∉ keys l) := fun hh => by rw [aget_none.2 hh] at h; cases h
    simp only [Option.some.injEq, exists_eq', true_iff]; exact Decidable.not_not.1 this
theorem aget_mem {l : List (α × β)} {k : α} {v : β} (h : aget l k = some v) : (k, v) ∈ l := by
  induction l with
  | nil => cases h
  | cons p r ih =>
    obtain ⟨x, u⟩ := p
    simp only [aget] at h
    split at h
    · rename_i e; cases h; simp [e]
    · exact List.mem_cons_of_mem _ (ih h)
theorem aget_of_mem {l : List (α × β)} (hd : (keys l).Nodup) {k : α} {v : β} (h : (k, v) ∈ l) : aget l k = some v := by
  induction l with
  | nil => cases h
  | cons p r ih =>
    obtain ⟨x, u⟩ := p
    simp only [keys, List.map_cons, List.nodup_cons] at hd
    rcases List.mem_cons.1 h with e | h
    · cases e; simp [aget]
    · have hx : x ≠ k := fun e => hd.1 (by subst e; exact List.mem_map.2 ⟨_, h, rfl⟩)
      simp only [aget, if_neg hx]
      exact ih hd.2 h
theorem aget_aput (l : List (α × β)) (k j : α) (v : β) : aget (aput l k v) j = if k = j then some v else aget l j := by
  induction l with
  | nil => simp [aput, aget]
  | cons p r ih =>
    obtain ⟨x, u⟩ := p
    simp only [aput]
    by_cases hx : x = k
    · subst hx; simp only [if_true, aget]; split <;> simp_all
    · simp only [if_neg hx, aget, ih]
      by_cases hj : x = j
      · subst hj; simp [Ne.symm hx]
      · simp [hj]
theorem keys_aput_mem (l : List (α × β)) (k j : α) (v : β) : j ∈ keys (aput l k v) ↔ j = k ∨ j ∈ keys l := by
  rw [← aget_isSome, ← aget_isSome, aget_aput]
  split
  · rename_i h; simp [h]
  · rename_i h; simp [Ne.symm h]
theorem aput_keys {l : List (α × β)} {k : α} {v : β} (h : k ∈ keys l) : keys (aput l k v) = keys l := by
  induction l with
  | nil => simp [keys] at h
  | cons p r ih =>
    obtain ⟨x, u⟩ := p
    simp only [aput]
    by_cases hx : x = k
    · simp [hx, keys]
    · simp only [if_neg hx]
      have h' : k ∈ keys r := by
        simp only [keys, List.map_cons, List.mem_cons] at h
        exact h.resolve_left fun e => hx e.symm
      simp only [keys, List.map_cons, List.cons.injEq, true_and]; exact ih h'
theorem aput_new {l : List (α × β)} {k : α} {v : β} (h : k ∉ keys l) : aput l k v = l ++ [(k, v)] := by
  induction l with
  | nil => rfl
  | cons p r ih =>
    obtain ⟨x, u⟩ := p
    simp only [keys, List.map_cons, List.mem_cons, not_or] at h
    simp only [aput, if_neg (Ne.symm h.1), List.cons_append, List.cons.injEq, true_and]
    exact ih h.2
theorem aput_nodup {l : List (α × β)} (h : (keys l).Nodup) (k : α) (v : β) : (keys (aput l k v)).Nodup := by
  by_cases hk : k ∈ keys l
  · rw [aput_keys hk]; exact h
  · rw [aput_new hk]
    simp only [keys, List.map_append, List.map_cons, List.map_nil]
    refine List.nodup_append.2 ⟨h, by simp, fun a ha b hb e => ?_⟩
    simp only [List.mem_singleton] at hb
    subst hb; subst e; exact hk ha
theorem aget_adel {l : List (α × β)} (h : (keys l).Nodup) (k j : α) : aget (adel l k) j = if k = j then none else aget l j := by
  induction l with
  | nil => simp [adel, aget]
  | cons p r ih =>
    obtain ⟨x, u⟩ := p
    simp only [keys, List.map_cons, List.nodup_cons] at h
    simp only [adel]
    by_cases hx : x = k
    · subst hx
      simp only [if_true, aget]
      by_cases hj : x = j
      · subst hj; simp only [if_true]; exact aget_none.2 h.1
      · simp [hj]
    · simp only [if_neg hx, aget, ih h.2]
      by_cases hj : x = j
      · subst hj; simp [Ne.symm hx]
      · simp [hj]
theorem adel_keys (l : List (α × β)) (k : α) : keys (adel l k) = (keys l).erase k := by
  induction l with
  | nil => rfl
  | cons p r ih =>
    obtain ⟨x, u⟩ := p
    simp only [adel, keys, List.map_cons, List.erase_cons]
    by_cases hx : x = k
    · simp [hx]
    · simp only [if_neg hx, List.map_cons, beq_iff_eq]; exact congrArg (x :: ·) ih
theorem adel_nodup {l : List (α × β)} (h : (keys l).Nodup) (k : α) : (keys (adel l k)).Nodup := by rw [adel_keys]; exact h.erase k
theorem adel_none {l : List (α × β)} {k : α} (h : k ∉ keys l) : adel l k = l := by
  induction l with
  | nil => rfl
  | cons p r ih =>
    obtain ⟨x, u⟩ := p
    simp only [keys, List.map_cons, List.mem_cons, not_or] at h
    simp only [adel, if_neg (Ne.symm h.1), List.cons.injEq, true_and]; exact ih h.2
end

/-! ### a block's cells -/
theorem cell_at {w : World} {b : Nat} {cs : Array Value} {t : TypeId} {f : Nat × Nat} (h : w.heap[b]? = some (.cells cs t f)) (i : Nat) {v : Value} (hv : cs[i]? = some v) : w.cell? ⟨b, i, none⟩ = some v := by
  simp [World.cell?, h, hv]
theorem free_at {w : World} {b : Nat} {cs : Array Value} {t : TypeId} (h : w.heap[b]? = some (.cells cs t (0, 0))) (i : Nat) : w.frozen? ⟨b, i, none⟩ = false := by
  simp [World.frozen?, h]
theorem at_setCell {w : World} {b : Nat} {cs : Array Value} {t : TypeId} {f : Nat × Nat} (h : w.heap[b]? = some (.cells cs t f)) (i : Nat) (v : Value) : (w.setCell ⟨b, i, none⟩ v).heap[b]? = some (.cells (cs.setIfInBounds i v) t f) := by
  have hlt := lt_of_block h
  have h' : w.heap[b] = .cells cs t f := by simpa [Array.getElem?_eq_getElem hlt] using h
  show (w.heap.modify b _)[b]? = _
  rw [Array.getElem?_eq_getElem (by simpa using hlt), Array.getElem_modify_self, h']
  rfl
theorem chg_setCell (w : World) (b i : Nat) (v : Value) : Chg (· = b) w (w.setCell ⟨b, i, none⟩ v) := (Chg.refl (· = b) w).setCell ⟨b, i, none⟩ v fun _ => rfl

/-! ### a map's block -/
theorem chg_setObj (w : World) (b : Nat) (o : Obj) : Chg (· = b) w { w with heap := w.heap.setIfInBounds b o } :=
  ⟨rfl, rfl, rfl, by simp, fun k _ hn => by
    show (w.heap.setIfInBounds b o)[k]? = _
    rw [Array.getElem?_setIfInBounds, if_neg (fun e => hn e.symm)]⟩

/-- How keys are written: plain keys of one kind, no two alike. -/
structure KeyEnc {α : Type} (d : TypeDesc) (eK : α → Value) : Prop where
  key : ∀ a, IsKey d (eK a)
  inj : ∀ a b, eK a = eK b → a = b
theorem keyInt : KeyEnc (.int .i64) (Value.int .i64) := ⟨fun _ => rfl, fun _ _ h => by cases h; rfl⟩
theorem keyStr : KeyEnc .string Value.string := ⟨fun _ => trivial, fun _ _ h => by cases h; rfl⟩

section
variable {α β : Type}
/-- Block b is a map that holds just these pairs, in the order in which they came. -/
def kmap (eK : α → Value) (eV : β → Value) (w : World) (b : Nat) (l : List (α × β)) : Prop :=
  ∃ es clock, w.heap[b]? = some (.map es clock) ∧ Stamped es clock ∧ es.toList.map (fun e => (e.key, e.val)) = l.map (fun p => (eK p.1, eV p.2))
variable {eK : α → Value} {eV : β → Value} {w w' : World} {b : Nat} {l : List (α × β)}
theorem kmap.lt (h : kmap eK eV w b l) : b < w.heap.size := by obtain ⟨es, c, hb, _⟩ := h; exact lt_of_block hb
theorem kmap.chg {S : Nat → Prop} (h : kmap eK eV w b l) (hc : Chg S w w') (hn : ¬ S b) : kmap eK eV w' b l := by
  obtain ⟨es, c, hb, r⟩ := h; exact ⟨es, c, hc.at hb hn, r⟩
theorem kmap.made (w : World) : kmap eK eV (w.alloc (.map #[] 0)) w.heap.size [] := ⟨#[], 0, (MapKept.heap_alloc w _).1, stamped_empty 0, by simp⟩
theorem kmap.keys_map {es : Array MapEntry} (he : es.toList.map (fun e => (e.key, e.val)) = l.map (fun p => (eK p.1, eV p.2))) : es.toList.map (·.key) = (keys l).map eK := by
  have := congrArg (List.map Prod.fst) he
  simpa [keys, List.map_map, Function.comp_def] using this
theorem kmap.nodup {d : TypeDesc} (_K : KeyEnc d eK) (h : kmap eK eV w b l) : (keys l).Nodup := by
  obtain ⟨es, c, hb, hs, he⟩ := h
  have h3 := hs.2.2
  rw [kmap.keys_map he] at h3
  exact List.Pairwise.of_map eK (fun a b hh e => hh (by rw [e])) h3
theorem kmap.size {es : Array MapEntry} (he : es.toList.map (fun e => (e.key, e.val)) = l.map (fun p => (eK p.1, eV p.2))) : es.size = l.length := by
  have := congrArg List.length he; simpa using this

variable {P : Program}
/-- 'len(m)' -/
theorem kmap.len {t key e : TypeId} (h : kmap eK eV w b l) (ht : P.underlying t = some (.map key e)) (ty : TypeId) :
    (Builtin.len_ #[t] ty #[.map (some b)]).run P w = .ok (.int .i64 l.length) w := by
  obtain ⟨es, c, hb, hs, he⟩ := h
  have hg := MapKept.run_getObj_map (P := P) hb
  have hsz := kmap.size he
  simp [Builtin.len_, run_underlying ht, hg, goInt, hsz]
variable [DecidableEq α]
/-- Where a key stands. -/
theorem find_pairs {d : TypeDesc} (K : KeyEnc d eK) (k : α) : ∀ (l : List (α × β)) (es : List MapEntry) (i : Nat), es.map (fun e => (e.key, e.val)) = l.map (fun p => (eK p.1, eV p.2)) →
    (aget l k = none ∧ Instr.findNow d (eK k) es i = some none) ∨ ∃ j v, aget l k = some v ∧ Instr.findNow d (eK k) es i = some (some (i + j, eV v)) ∧ (l.map (·.1))[j]? = some k ∧ (∀ m, m < j → (l.map (·.1))[m]? ≠ some k)
  | [], es, i, h => by
    have : es = [] := by simpa using h
    subst this; exact .inl ⟨rfl, rfl⟩
  | (x, v) :: r, [], i, h => by simp at h
  | (x, v) :: r, e :: es, i, h => by
    simp only [List.map_cons, List.cons.injEq, Prod.mk.injEq] at h
    obtain ⟨⟨h1, h2⟩, h3⟩ := h
    obtain ⟨b, hb, hb'⟩ := sameNow_of_keys (K.key k) (h1 ▸ K.key x : IsKey d e.key)
    simp only [aget, Instr.findNow, hb]
    by_cases hx : x = k
    · subst hx
      have : b = true := hb'.2 h1.symm
      subst this
      exact .inr ⟨0, v, by simp, by simp [h2], by simp, fun m hm => by omega⟩
    · have : b = false := by
        cases b
        · rfl
        · have := hb'.1 rfl; rw [h1] at this; exact absurd (K.inj _ _ this).symm hx
      subst this
      rcases find_pairs K k r es (i + 1) h3 with ⟨g1, g2⟩ | ⟨j, u, g1, g2, g3, g4⟩
      · exact .inl ⟨by simp [hx, g1], by simpa using g2⟩
      · refine .inr ⟨j + 1, u, by simp [hx, g1], by simp only [g2]; congr 3; omega, by simpa using g3, fun m hm => ?_⟩
        cases m with
        | zero => simp [hx]
        | succ m => simpa using g4 m (by omega)
/-- 'm[k]' -/
theorem kmap.look {d : TypeDesc} {t key e : TypeId} (K : KeyEnc d eK) (h : kmap eK eV w b l) (ht : P.underlying t = some (.map key e)) (hk : P.underlying key = some d) {z : Value} (hz : (zeroValue e).run P w = .ok z w) (k : α) :
    (Instr.lookup t (.map (some b)) (eK k) false).run P w = .ok (((aget l k).map eV).getD z) w ∧
    (Instr.lookup t (.map (some b)) (eK k) true).run P w = .ok (.tuple #[((aget l k).map eV).getD z, .bool (aget l k).isSome]) w := by
  obtain ⟨es, c, hb, hs, he⟩ := h
  have hg := MapKept.run_getObj_map (P := P) hb
  have hck := run_checkKey (P := P) (w := w) hk (K.key k) es.isEmpty 9999
  rcases find_pairs (eV := eV) K k l es.toList 0 he with ⟨g1, g2⟩ | ⟨j, u, g1, g2, _⟩
  · have hf := run_findKey (P := P) (w := w) hk g2
    constructor <;> simp [Instr.lookup, run_underlying ht, hg, hck, hf, hz, g1]
  · have hf := run_findKey (P := P) (w := w) hk g2
    constructor <;> simp [Instr.lookup, run_underlying ht, hg, hck, hf, g1]
theorem aput_at : ∀ (l : List (α × β)) (k : α) (v : β) (j : Nat), (l.map (·.1))[j]? = some k → (∀ m, m < j → (l.map (·.1))[m]? ≠ some k) → aput l k v = l.set j (k, v)
  | [], k, v, j, h, _ => by simp at h
  | (x, u) :: r, k, v, 0, h, _ => by simp at h; subst h; simp [aput]
  | (x, u) :: r, k, v, j + 1, h, h' => by
    have hx : x ≠ k := fun e => h' 0 (by omega) (by simp [e])
    simp only [aput, if_neg hx, List.set_cons_succ]
    rw [aput_at r k v j (by simpa using h) (fun m hm => by simpa using h' (m + 1) (by omega))]
theorem adel_at : ∀ (l : List (α × β)) (k : α) (j : Nat), (l.map (·.1))[j]? = some k → (∀ m, m < j → (l.map (·.1))[m]? ≠ some k) → adel l k = l.eraseIdx j
  | [], k, j, h, _ => by simp at h
  | (x, u) :: r, k, 0, h, _ => by simp at h; subst h; simp [adel]
  | (x, u) :: r, k, j + 1, h, h' => by
    have hx : x ≠ k := fun e => h' 0 (by omega) (by simp [e])
    simp only [adel, if_neg hx, List.eraseIdx_cons_succ]
    rw [adel_at r k j (by simpa using h) (fun m hm => by simpa using h' (m + 1) (by omega))]
/-- 'm[k] = v' -/
theorem kmap.store {d : TypeDesc} {t key e : TypeId} (K : KeyEnc d eK) (h : kmap eK eV w b l) (ht : P.underlying t = some (.map key e)) (hk : P.underlying key = some d) (k : α) (v : β) :
    ∃ w', (Instr.mapUpdate t (.map (some b)) (eK k) (eV v)).run P w = .ok () w' ∧ kmap eK eV w' b (aput l k v) ∧ Chg (· = b) w w' := by
  obtain ⟨es, c, hb, hs, he⟩ := h
  have hg := MapKept.run_getObj_map (P := P) hb
  have hck := run_checkKey (P := P) (w := w) hk (K.key k) false 9999
  rcases find_pairs (eV := eV) K k l es.toList 0 he with ⟨g1, g2⟩ | ⟨j, u, g1, g2, g3, g4⟩
  · have hf := run_findKey (P := P) (w := w) hk g2
    have hso := run_setObj_map (P := P) (.map (es.push { key := eK k, val := eV v, born := c }) (c + 1)) hb
    refine ⟨_, by simp [Instr.mapUpdate, run_underlying ht, hg, hck, hf, hso]; rfl, ?_, chg_setObj _ _ _⟩
    have hnk := aget_none.1 g1
    refine ⟨_, _, (heap_set hb).1, stamped_push hs ?_, ?_⟩
    · intro x hx e
      have : x.key ∈ (keys l).map eK := by rw [← kmap.keys_map he]; exact List.mem_map.2 ⟨x, hx, rfl⟩
      obtain ⟨y, hy, hy'⟩ := List.mem_map.1 this
      rw [e] at hy'
      exact hnk (K.inj _ _ hy' ▸ hy)
    · rw [aput_new hnk]; simp [he]
  · have hf := run_findKey (P := P) (w := w) hk g2
    simp only [Nat.zero_add] at hf
    have hj : ((es[j]?).map (·.key)).getD (eK k) = eK k := by
      have hh := congrArg (fun l => l[j]?) (kmap.keys_map he)
      simp only [List.getElem?_map, Array.getElem?_toList] at hh
      rw [hh]
      simp only [keys]
      rw [g3]; rfl
    have hst := run_keyThatStays (P := P) (w := w) (K.key k)
    have hso := run_setObj_map (P := P) (.map (es.modify j fun e => { e with key := eK k, val := eV v }) c) hb
    refine ⟨_, by simp [Instr.mapUpdate, run_underlying ht, hg, hck, hf, hj, hst, hso]; rfl, ?_, chg_setObj _ _ _⟩
    refine ⟨_, _, (heap_set hb).1, stamped_modify hs j _ (fun _ _ => rfl) (fun e0 _ h0 => ?_), ?_⟩
    · simp only [h0, Option.map_some, Option.getD_some] at hj; exact hj.symm
    · rw [aput_at l k v j g3 g4]
      apply List.ext_getElem?
      intro i
      have hh := congrArg (fun l => l[i]?) he
      simp only [List.getElem?_map, Array.getElem?_toList] at hh
      simp only [List.getElem?_map, Array.getElem?_toList, Array.getElem?_modify, List.getElem?_set]
      by_cases hi : j = i
      · subst hi
        simp only [if_true]
        have hlt : j < l.length := by
          have := (List.getElem?_eq_some_iff.1 g3).1; simpa using this
        simp only [hlt, if_true, Option.map_some]
        have hlt' : j < es.size := by rw [kmap.size he]; exact hlt
        simp [Array.getElem?_eq_getElem hlt']
      · simp only [if_neg hi]; exact hh
/-- 'delete(m, k)' -/
theorem kmap.drop {d : TypeDesc} {t key e : TypeId} (K : KeyEnc d eK) (h : kmap eK eV w b l) (ht : P.underlying t = some (.map key e)) (hk : P.underlying key = some d) (k : α) (kt ty : TypeId) :
    ∃ w', (Builtin.delete_ #[t, kt] ty #[.map (some b), eK k]).run P w = .ok (.tuple #[]) w' ∧ kmap eK eV w' b (adel l k) ∧ Chg (· = b) w w' := by
  obtain ⟨es, c, hb, hs, he⟩ := h
  have hg := MapKept.run_getObj_map (P := P) hb
  have hck := run_checkKey (P := P) (w := w) hk (K.key k) es.isEmpty 9999
  rcases find_pairs (eV := eV) K k l es.toList 0 he with ⟨g1, g2⟩ | ⟨j, u, g1, g2, g3, g4⟩
  · have hf := run_findKey (P := P) (w := w) hk g2
    have hso := run_setObj_map (P := P) (.map es c) hb
    refine ⟨_, by simp [Builtin.delete_, run_underlying ht, hg, hck, hf, hso]; rfl, ?_, chg_setObj _ _ _⟩
    rw [adel_none (aget_none.1 g1)]
    exact ⟨_, _, (heap_set hb).1, hs, he⟩
  · have hf := run_findKey (P := P) (w := w) hk g2
    simp only [Nat.zero_add] at hf
    have hso := run_setObj_map (P := P) (.map (es.eraseIdxIfInBounds j) c) hb
    refine ⟨_, by simp [Builtin.delete_, run_underlying ht, hg, hck, hf, hso]; rfl, ?_, chg_setObj _ _ _⟩
    refine ⟨_, _, (heap_set hb).1, stamped_erase hs j, ?_⟩
    have hlt : j < es.size := by
      rw [kmap.size he]; have := (List.getElem?_eq_some_iff.1 g3).1; simpa using this
    rw [adel_at l k j g3 g4]
    have e1 : (es.eraseIdxIfInBounds j).toList = es.toList.eraseIdx j := by
      simp [Array.eraseIdxIfInBounds, hlt]
    rw [e1, ChangeMaps.map_eraseIdx, he, ChangeMaps.map_eraseIdx]

/-! at the operations, for the walk -/
variable {ops : Array Oper} {rest : List Oper} {o : Oper} {a : Act} {Q : Exit → Act → World → Prop}
theorem wpList_store_k {d : TypeDesc} (hg : o.guard = none) (m x v : Operand) (t : TypeId) (hop : o.op = Op.mapUpdate t m x v) (key e : TypeId) (K : KeyEnc d eK) (ht : P.underlying t = some (.map key e)) (hkd : P.underlying key = some d)
    (b : Nat) (l : List (α × β)) (hm : a.eval m = .map (some b)) (hown : kmap eK eV w b l) (k : α) (u : β) (hx : a.eval x = eK k) (hv : a.eval v = eV u)
    (hK : ∀ w', kmap eK eV w' b (aput l k u) → Chg (· = b) w w' → wpList P ops Q rest (a.put o.dst undef) w') : wpList P ops Q (o :: rest) a w := by
  refine wpList_plain hg fun K' hK' => ?_
  obtain ⟨w', hrun, r1, r2⟩ := hown.store K ht hkd k u
  unfold Oper.wp
  simp [execOp, hop, hm, hx, hv, hrun, Result.andThen]
  exact hK' _ _ (hK w' r1 r2)
theorem wpList_drop_k {d : TypeDesc} (hg : o.guard = none) (m x : Operand) (t kt : TypeId) (hop : o.op = Op.call { callee := Callee.builtin Builtin.delete, args := #[m, x], argTypes := #[t, kt] }) (key e : TypeId) (K : KeyEnc d eK) (ht : P.underlying t = some (.map key e)) (hkd : P.underlying key = some d)
    (b : Nat) (l : List (α × β)) (hm : a.eval m = .map (some b)) (hown : kmap eK eV w b l) (k : α) (hx : a.eval x = eK k)
    (hK : ∀ w', kmap eK eV w' b (adel l k) → Chg (· = b) w w' → wpList P ops Q rest (a.put o.dst (.tuple #[])) w') : wpList P ops Q (o :: rest) a w := by
  refine wpList_plain hg fun K' hK' => ?_
  obtain ⟨w', hrun, r1, r2⟩ := hown.drop K ht hkd k kt o.type
  unfold Oper.wp
  simp [execOp, hop, resolve, invoke, builtin, hm, hx, hrun, Result.andThen]
  exact hK' _ _ (hK w' r1 r2)
end

/-! ### bytes -/
/-- n bytes 0 -/
def zeros (n : Nat) : ByteArray := ⟨(List.replicate n (0 : UInt8)).toArray⟩
theorem zeros_size (n : Nat) : (zeros n).size = n := by simp [zeros, ByteArray.size]
theorem strOf_replicate (n : Nat) : strOfNums (List.replicate n 0) = zeros n := by simp [strOfNums, zeros]
/-- Numbers of a row of bytes. -/
def nums (l : List UInt8) : List Int := l.map fun b => (b.toNat : Int)
theorem strOf_nums (l : List UInt8) : strOfNums (nums l) = ⟨l.toArray⟩ := by
  simp [strOfNums, nums, List.map_map, Function.comp_def]
/-- 'make([]byte, n)' -/
theorem run_make_bytes {P : Program} {t e : TypeId} {i : TypeInfo} (ht : P.underlying t = some (.slice e)) (hi : P.info? e = some i) (hz : i.zero = some (.int .u8 0)) (h1 : i.size = 1) (hb : i.bytes = 1) (n : Nat) (hn : n ≤ 281474976710656) (w : World) :
    (Instr.makeSlice t (.int .i64 (n : Int)) (.int .i64 (n : Int))).run P w = .ok (.slice (some ⟨w.heap.size, 0, none⟩) n n) (w.alloc (.cells (Array.replicate n (.int .u8 0)) e)) := by
  have := run_make (P := P) w t e i _ ht hi hz .i64 .i64 n n (by omega) (Int.le_refl _) (by rw [hb]; omega) (by omega)
  rw [this]
  simp only [Int.toNat_natCast]
  congr 3
  rw [h1, Nat.mul_one]
  apply Array.toList_inj.1
  simpa [Value.cells] using toList_madeCells_one (.int .u8 0) n
/-- 'string(make([]byte, n))' -/
theorem run_string_zeros {P : Program} {src e dst : TypeId} (hs : P.underlying src = some (.slice e)) (he : P.underlying e = some (.int .u8)) (hd : P.underlying dst = some .string) (n c : Nat) (w : World) :
    (convert src dst (.slice (some ⟨w.heap.size, 0, none⟩) n c)).run P (w.alloc (.cells (Array.replicate n (.int .u8 0)) e)) = .ok (.string (zeros n)) (w.alloc (.cells (Array.replicate n (.int .u8 0)) e)) := by
  rw [run_convert_bytes_arg (w.alloc (.cells (Array.replicate n (.int .u8 0)) e)) src e hs he w.heap.size 0 n c (List.replicate n 0) (by simp) (fun i hi => by
    rw [Nat.zero_add, World.cell?_alloc_new]; simp [hi, List.getD]) dst hd, strOf_replicate]

/-- A builtin's call whose run is known. -/
theorem wpList_builtin_run {P : Program} {w : World} {ops : Array Oper} {rest : List Oper} {o : Oper} {a : Act} {Q : Exit → Act → World → Prop} (hgd : o.guard = none) (b : Builtin) (d s : Operand) (t t' : TypeId)
    (ho : o.op = .call { callee := .builtin b, args := #[d, s], argTypes := #[t, t'] }) (v u : Value) (hd : a.eval d = v) (hs : a.eval s = u) {v' : Value} {w' : World}
    (hr : ∀ cs, (builtin b #[t, t'] o.type cs #[v, u]).run P w = .ok (.value v') w') (h : wpList P ops Q rest (a.put o.dst v') w') : wpList P ops Q (o :: rest) a w := by
  refine wpList_plain hgd fun K hK => ?_
  unfold Oper.wp execOp
  simp only [ho, resolve, invoke, Sem.run_bind, Sem.run_pure, Result.andThen_ok, List.map_toArray, List.map_cons, List.map_nil, hd, hs, hr]
  exact hK _ _ h

/-- A row of bytes at the head of block b: its first cells are these numbers, and may be written. -/
def bytesAt (w : World) (b : Nat) (l : List UInt8) : Prop := ∀ j, (h : j < l.length) → w.cell? ⟨b, j, none⟩ = some (.int .u8 (l[j]).toNat) ∧ w.frozen? ⟨b, j, none⟩ = false
theorem bytesAt.chg {S : Nat → Prop} {w w' : World} {b : Nat} {l : List UInt8} (h : bytesAt w b l) (hc : Chg S w w') (hb : b < w.heap.size) (hn : ¬ S b) : bytesAt w' b l :=
  fun j hj => ⟨hc.cell (h j hj).1 hn, (hc.frozen (a := ⟨b, j, none⟩) hb hn).trans (h j hj).2⟩
theorem bytesAt_alloc (w : World) (e : TypeId) (l : List UInt8) : bytesAt (w.alloc (.cells (l.map fun c => Value.int .u8 c.toNat).toArray e)) w.heap.size l := fun j hj => by
  constructor
  · rw [World.cell?_alloc_new]; simp [hj]
  · rw [World.frozen?_alloc_new]
/-- 'string(b)' -/
theorem run_string_bytes {P : Program} {src e dst : TypeId} (hs : P.underlying src = some (.slice e)) (he : P.underlying e = some (.int .u8)) (hd : P.underlying dst = some .string) {w : World} {b : Nat} {l : List UInt8} (hb : bytesAt w b l) (c : Nat) :
    (convert src dst (.slice (some ⟨b, 0, none⟩) l.length c)).run P w = .ok (.string ⟨l.toArray⟩) w := by
  rw [run_convert_bytes_arg w src e hs he b 0 l.length c (nums l) (by simp [nums]) (fun i hi => by
    rw [Nat.zero_add, (hb i hi).1]; simp [nums, List.getD, hi]) dst hd, strOf_nums]
/-- '[]byte(s)': the new row, the world. -/
theorem bytesWorld_chg (w : World) (e : TypeId) (s : ByteArray) : Chg No w (Lib.bytesWorld w e s) :=
  ⟨rfl, rfl, rfl, by rw [Lib.bytesWorld_size]; omega, fun k hk _ => Lib.bytesWorld_at_old w e s k hk⟩
theorem bytesWorld_bytes (w : World) (e : TypeId) (s : ByteArray) : bytesAt (Lib.bytesWorld w e s) w.heap.size s.data.toList := fun j hj => by
  have hj' : j < s.size := by simpa using hj
  constructor
  · rw [Lib.bytesWorld_cell w e s j hj']; simp [List.getD]; rw [Array.getElem?_eq_getElem (by simpa using hj)]; rfl
  · simp [World.frozen?, Lib.bytesWorld_at_new]
    intro h1
    exfalso
    simp [Lib.bytesCells] at h1
    have : j < s.data.size := by simpa using hj
    omega
/-- bytes with others at a place -/
def splice (l : List UInt8) (k : Nat) (m : List UInt8) : List UInt8 := l.take k ++ m ++ l.drop (k + m.length)
theorem splice_length (l : List UInt8) (k : Nat) (m : List UInt8) (h : k + m.length ≤ l.length) : (splice l k m).length = l.length := by simp [splice]; omega
theorem splice_get (l : List UInt8) (k : Nat) (m : List UInt8) (h : k + m.length ≤ l.length) (j : Nat) :
    (splice l k m)[j]? = if k ≤ j ∧ j < k + m.length then m[j - k]? else l[j]? := by
  unfold splice
  simp only [List.getElem?_append, List.length_append, List.length_take, List.getElem?_take, List.getElem?_drop, show min k l.length = k from by omega]
  by_cases h1 : j < k
  · simp [h1, show ¬ k ≤ j from by omega, show j < k + m.length from by omega]
  · by_cases h2 : j < k + m.length
    · simp [h1, h2, show k ≤ j from by omega]
    · simp only [h2, if_false, and_false]
      congr 1; omega
theorem chg_setCells (b : Nat) : ∀ (vs : List Value) (o : Nat) (w : World), Chg (· = b) w (w.setCells b o vs)
  | [], _, w => Chg.refl _ _
  | v :: r, o, w => Chg.then (b := w.setCell ⟨b, o, none⟩ v) ((Chg.refl (· = b) w).setCell ⟨b, o, none⟩ v fun _ => rfl) (chg_setCells b r (o + 1) _)
/-- 'copy(b[k:], m)' within the row. -/
theorem run_copy_splice {P : Program} {dT sT ty elem : TypeId} (hu : P.underlying dT = some (.slice elem)) (hs : (P.info? elem).map (·.size) = some 1) {w : World} {b c : Nat} {l m : List UInt8} (hb : bytesAt w b l) (hm : bytesAt w c m) (k dLen dCap sCap : Nat)
    (hk : k + m.length ≤ l.length) (hd : m.length ≤ dLen) :
    ∃ w', (Builtin.copy_ #[dT, sT] ty #[.slice (some ⟨b, k, none⟩) dLen dCap, .slice (some ⟨c, 0, none⟩) m.length sCap]).run P w = .ok (goInt m.length) w' ∧ bytesAt w' b (splice l k m) ∧ Chg (· = b) w w' := by
  have hr := run_copy_cells (P := P) w dT sT ty elem b k dLen dCap ⟨c, 0, none⟩ m.length sCap (m.map fun x => Value.int .u8 x.toNat) hu hs (by rw [List.length_map]; exact (Nat.min_eq_left hd).symm)
    (fun j v hj => by
      have hjl : j < m.length := by
        rcases Nat.lt_or_ge j m.length with h | h
        · exact h
        · simp [List.getElem?_eq_none (show (m.map fun x => Value.int .u8 x.toNat).length ≤ j by simpa using h)] at hj
      have e : (⟨c, 0, none⟩ : Addr).add j = ⟨c, j, none⟩ := by unfold Addr.add; split <;> simp_all
      rw [e, (hm j hjl).1]
      simpa [hjl] using hj)
    (fun j hj => by simp at hj; rw [(hb (k + j) (by omega)).1]; rfl) (fun j hj => by simp at hj; exact (hb (k + j) (by omega)).2)
    (fun v hv => by obtain ⟨x, _, rfl⟩ := List.mem_map.1 hv; rfl)
  refine ⟨_, by simpa using hr, ?_, chg_setCells b _ _ _⟩
  intro j hj
  have hj0 : j < l.length := by rw [splice_length _ _ _ hk] at hj; exact hj
  rw [World.frozen?_setCells]
  refine ⟨?_, (hb j hj0).2⟩
  by_cases hin : k ≤ j ∧ j < k + m.length
  · obtain ⟨i, rfl⟩ : ∃ i, j = k + i := ⟨j - k, by omega⟩
    have hi : i < m.length := by omega
    rw [World.cell?_setCells_in b _ _ _ (fun j hj => by simp at hj; rw [(hb (k + j) (by omega)).1]; rfl) i (by simpa using hi)]
    have hg := splice_get l k m hk (k + i)
    rw [if_pos hin, List.getElem?_eq_getElem hj, show k + i - k = i from by omega, List.getElem?_eq_getElem hi] at hg
    rw [Option.some.inj hg, List.getElem_map]
  · rw [World.cell?_setCells_out b _ _ _ _ (fun _ _ => by simp; omega), (hb j hj0).1]
    have hg := splice_get l k m hk j
    rw [if_neg hin, List.getElem?_eq_getElem hj, List.getElem?_eq_getElem hj0] at hg
    rw [Option.some.inj hg]
end Go.Proofs.YtniijkcncpabaaaGreat
