/- Contracts of package disk, of a disk that is never synced. -/
import Derived.Test.YtniijkcncpabaaaGreatSeal
namespace Go.Proofs.YtniijkcncpabaaaGreat
open Go.RowKit Go.MapKept
set_option maxRecDepth 100000
set_option maxHeartbeats 400000

/-- what a disk holds: how many pages, the pages that stay, the writes that were not synced (the oldest first) -/
structure Disk where
  n : Int
  stays : List (Int × ByteArray)
  writes : List (Int × ByteArray)
/-- a write's cells -/
def wcells (l : List (Int × ByteArray)) : List Value := l.flatMap fun p => [.int .i64 p.1, .string p.2]
theorem wcells_length (l : List (Int × ByteArray)) : (wcells l).length = l.length * 2 := by
  induction l with
  | nil => rfl
  | cons p r ih => simp [wcells, List.flatMap_cons] at ih ⊢; omega
/-- The disk at block bd: its map at bs, its slice of writes wv. -/
structure DiskIs (w : World) (bd bs : Nat) (wv : Value) (D : Disk) : Prop where
  self : w.heap[bd]? = some (.cells #[.int .i64 D.n, .map (some bs), wv] 52 (0, 0))
  stays : kmap (Value.int .i64) Value.string w bs D.stays
  writes : w.ownsRow 0 83 2 wv D.writes.length (wcells D.writes)
  few : D.writes.length ≤ 1000000000
  range : 0 ≤ D.n ∧ D.n ≤ 1024
theorem DiskIs.chg {S : Nat → Prop} {w w' : World} {bd bs : Nat} {wv : Value} {D : Disk} (h : DiskIs w bd bs wv D) (hc : Chg S w w') (h1 : ¬ S bd) (h2 : ¬ S bs) (h3 : ∀ k, wv.ownBlock = some k → ¬ S k) : DiskIs w' bd bs wv D :=
  ⟨hc.at h.self h1, h.stays.chg hc h2, hc.row h.writes h3, h.few, h.range⟩
theorem DiskIs.no {w w' : World} {bd bs : Nat} {wv : Value} {D : Disk} (h : DiskIs w bd bs wv D) (hc : Chg No w w') : DiskIs w' bd bs wv D :=
  h.chg hc (fun h => h) (fun h => h) (fun _ _ h => h)
theorem dlen_ok {w : World} {bd bs : Nat} {wv : Value} {D : Disk} (h : DiskIs w bd bs wv D) :
    Calls Tryz.prog 44 #[.pointer (some ⟨bd, 0, none⟩)] w fun e w' => e = .returned (.int .i64 D.n) ∧ w = w' := by
  have c0 := cell_at h.self 0 rfl
  clear h
  go_enter Tryz.func44, Tryz.ntmps44
  go_wp2
  go_ret
  exact ⟨rfl, rfl⟩

theorem has_ok {w : World} {bd bs : Nat} {wv : Value} {D : Disk} (h : DiskIs w bd bs wv D) (p : Int) :
    Calls Tryz.prog 37 #[.pointer (some ⟨bd, 0, none⟩), .int .i64 p] w fun e w' => e = .returned (.bool (decide (0 ≤ p) && decide (p < D.n))) ∧ w = w' := by
  have c0 := cell_at h.self 0 rfl
  clear h
  by_cases h0 : 0 ≤ p
  · go_enter Tryz.func37, Tryz.ntmps37
    go_wp2
    go_ret
    exact ⟨by simp [h0], rfl⟩
  · go_enter Tryz.func37, Tryz.ntmps37
    go_wp2
    go_ret
    exact ⟨by simp [show ¬ 0 ≤ p from by omega], rfl⟩

/-- New -/
theorem dnew_ok (n : Int) (h1 : 1 ≤ n) (h2 : n ≤ 1024) (w : World) :
    Calls Tryz.prog 4 #[.int .i64 n] w fun e w' => e = .returned (.tuple #[.pointer (some ⟨w.heap.size + 1, 0, none⟩), .int .i64 0]) ∧ DiskIs w' (w.heap.size + 1) w.heap.size (.slice none 0 0) ⟨n, [], []⟩ ∧ Chg No w w' ∧ w'.heap.size = w.heap.size + 2 := by
  have hmm := @run_makeMap Tryz.prog
  go_enter Tryz.func4, Tryz.ntmps4
  go_wp2
  go_ret2
  refine ⟨rfl, ⟨?_, (kmap.made w).chg ((Chg.refl No _).alloc _) (fun h => h), World.ownsRow_nil _ _ _ _, by simp, by simp; omega⟩, ((Chg.refl No _).alloc _).alloc _, by simp⟩
  have := (MapKept.heap_alloc (w.alloc (.map #[] 0)) (.cells #[.int .i64 n, .map (some w.heap.size), .slice none 0 0] 52)).1
  rw [World.size_alloc] at this
  exact this

/-- the empty page -/
def emptyPage : ByteArray := page (padTo ByteArray.empty 252)
theorem empty_ok (w : World) : Calls Tryz.prog 61 #[] w fun e w' => e = .returned (.string emptyPage) ∧ Chg No w w' := by
  go_enter Tryz.func61, Tryz.ntmps61
  go_wp2_with (go_at_call 74; refine (seal_ok ByteArray.empty _ (by decide)).mono ?_; rintro e w' ⟨rfl, hch⟩)
  go_ret
  exact ⟨rfl, hch⟩

theorem zero9 (w : World) : (zeroValue 9).run Tryz.prog w = .ok (.string ByteArray.empty) w := by kernel_rfl
theorem kept_ok {w : World} {bd bs : Nat} {wv : Value} {D : Disk} (h : DiskIs w bd bs wv D) (p : Int) :
    Calls Tryz.prog 39 #[.pointer (some ⟨bd, 0, none⟩), .int .i64 p] w fun e w' => e = .returned (.string ((aget D.stays p).getD emptyPage)) ∧ Chg No w w' := by
  have c1 := cell_at h.self 1 rfl
  have hlk := (h.stays.look (P := Tryz.prog) (t := 49) keyInt Tryz.underlying49 Tryz.underlying3 (zero9 w) p).2
  cases hg : aget D.stays p with
  | none =>
    simp only [hg, Option.map_none, Option.getD_none, Option.isSome_none] at hlk ⊢
    clear h hg
    go_enter Tryz.func39, Tryz.ntmps39
    go_wp2_with (go_at_call 61; refine (empty_ok _).mono ?_; rintro e w' ⟨rfl, hch⟩)
    go_ret
    exact ⟨rfl, hch⟩
  | some s =>
    simp only [hg, Option.map_some, Option.getD_some, Option.isSome_some] at hlk ⊢
    clear h hg
    go_enter Tryz.func39, Tryz.ntmps39
    go_wp2_with (go_at_call 61; refine (empty_ok _).mono ?_; rintro e w' ⟨rfl, hch⟩)
    go_ret
    exact ⟨rfl, Chg.refl _ _⟩

theorem infoWr : (Tryz.prog.info? 83).map (fun i => (i.zero, i.size, i.bytes)) = some (some (.agg #[.int .i64 0, .string ByteArray.empty]), 2, 24) := by kernel_rfl
theorem dwrite_ok {w : World} {bd bs : Nat} {wv : Value} {D : Disk} (h : DiskIs w bd bs wv D) (p : Int) (hp0 : 0 ≤ p) (hp : p < D.n) (s : ByteArray) (hs : s.size ≤ 252) (hfew : D.writes.length + 1 ≤ 1000000000) :
    Calls Tryz.prog 69 #[.pointer (some ⟨bd, 0, none⟩), .int .i64 p, .string s] w fun e w' => e = .returned (.int .i64 0) ∧
      ∃ wv', DiskIs w' bd bs wv' { D with writes := D.writes ++ [(p, page (padTo s 252))] } ∧ Chg (fun k => k = bd ∨ wv.ownBlock = some k) w w' ∧ (wv'.ownBlock = wv.ownBlock ∨ ∃ k, wv'.ownBlock = some k ∧ w.heap.size ≤ k) := by
  obtain ⟨i0, hi, hz0, hz1, hz2⟩ := info_parts infoWr
  have hin : (decide (0 ≤ p) && decide (p < D.n)) = true := by simp [hp0, hp]
  have hhas := has_ok h p
  rw [hin] at hhas
  have HH := Lib.hid hhas
  clear hhas hin
  have hseal := fun w => seal_ok s w hs
  generalize page (padTo s 252) = raw at *
  have HS := Lib.hid hseal
  clear hseal
  go_enter Tryz.func69, Tryz.ntmps69
  go_wp2_with fail
  refine HH.out.mono ?_
  rintro e w1 ⟨rfl, rfl⟩
  go_wp2_with fail
  refine (HS.out _).mono ?_
  rintro e w1 ⟨rfl, hch⟩
  have h1 := h.no hch
  have c2 := cell_at h1.self 2 (v := wv) rfl
  have hrow := h1.writes
  have f2 := free_at h1.self 2
  have hbd := lt_of_block h1.self
  go_wp2_with (at_builtin; refine wpList_append_own_at _ rfl (.tmp 24) (.tmp 28) 50 rfl 0 83 i0 (.agg #[.int .i64 0, .string ByteArray.empty]) 2 24 Tryz.underlying50 hi hz0 hz1 hz2 rfl (by decide) wv D.writes.length (wcells D.writes) rfl (hrow.alloc _) ⟨w1.heap.size, 0, none⟩ 1 1 [.int .i64 p, .string raw] rfl rfl ?c1 ?c2 ?c3 ?c4 ?c5 ?_)
  case c1 => intro j u hj; match j, hj with | 0, hj => simp at hj; subst hj; simp [Addr.add] | 1, hj => simp at hj; subst hj; simp [Addr.add]
  case c2 => intro u hu; simp at hu; rcases hu with rfl | rfl <;> rfl
  case c3 => unfold maxLen; omega
  case c4 => omega
  case c5 => simp
  intro v' w2 hown hgrow hnil hloc
  have hne := own_ne hrow h1.self (by decide)
  have hc2 : Chg (fun k => wv.ownBlock = some k) w w2 := (hch.ofNo.alloc _).then (a := w) (b := w1.alloc (.cells #[.int .i64 p, .string raw] 83)) (Chg.ofGrown hgrow)
  have hs2 := hc2.at h.self hne
  have hst2 := h.stays.chg hc2 (by obtain ⟨_, _, hm, _⟩ := h1.stays; exact own_ne_map hrow hm)
  have c2' := cell_at hs2 2 (v := wv) rfl
  have f2' := free_at hs2 2
  have hlt := lt_of_block hs2
  have hfin : DiskIs (w2.setCell ⟨bd, 2, none⟩ v') bd bs v' { D with writes := D.writes ++ [(p, raw)] } := by
    have hcs := chg_setCell w2 bd 2 v'
    refine ⟨at_setCell hs2 2 v', hst2.chg hcs (fun e => ?_), ?_, by simpa using hfew, h.range⟩
    · subst e; obtain ⟨_, _, hm, _⟩ := h.stays; rw [h.self] at hm; cases hm
    · have := hcs.row hown (fun k hk e => by subst e; exact own_ne hown hs2 (by decide) hk)
      simpa [wcells, List.flatMap_append] using this
  have hchf : Chg (fun k => k = bd ∨ wv.ownBlock = some k) w (w2.setCell ⟨bd, 2, none⟩ v') :=
    ((hc2.mono fun _ _ h => .inr h).trans (chg_setCell w2 bd 2 v') fun _ _ e => .inl e)
  have hlocf : v'.ownBlock = wv.ownBlock ∨ ∃ k, v'.ownBlock = some k ∧ w.heap.size ≤ k := by
    rcases hloc with hl | hl
    · exact .inl hl
    · exact .inr ⟨_, hl, by have := hch.size; simp; omega⟩
  have HF := Lib.hid (And.intro hfin (And.intro hchf hlocf))
  clear hfin hchf hlocf hc2 hst2 hs2
  obtain ⟨g', cap', rfl⟩ := ownsRow_succ hown
  clear hown hgrow hnil hloc
  go_wp2
  go_ret
  exact ⟨rfl, _, HF.out.1, HF.out.2.1, HF.out.2.2⟩
end Go.Proofs.YtniijkcncpabaaaGreat
