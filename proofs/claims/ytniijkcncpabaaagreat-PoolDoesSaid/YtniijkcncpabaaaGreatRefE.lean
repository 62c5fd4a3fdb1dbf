/- The reference's disk: Write. -/
import Derived.Test.YtniijkcncpabaaaGreatRefD
namespace Go.Proofs.YtniijkcncpabaaaGreat
open Go.RowKit Go.MapKept
set_option maxRecDepth 100000
set_option maxHeartbeats 1000000

theorem infoRw : (Tryz.prog.info? 85).map (fun i => (i.zero, i.size, i.bytes)) = some (some (.agg #[.int .i64 0, .string ByteArray.empty]), 2, 24) := by kernel_rfl
theorem r4write_ok {w : World} {rd : Nat} {lv wv : Value} {D : Disk} (h : RDisk w rd lv wv D) (p : Int) (hp0 : 0 ≤ p) (hp : p < D.n) (s : ByteArray) (hs : s.size ≤ 252) (hfew : D.writes.length + 1 ≤ 1000000000) :
    Calls Tryz.prog 70 #[.pointer (some ⟨rd, 0, none⟩), .int .i64 p, .string s] w fun e w' => e = .returned (.int .i64 0) ∧
      ∃ wv', RDisk w' rd lv wv' (D.put p s) ∧ Chg (fun k => k = rd ∨ wv.ownBlock = some k) w w' ∧ (wv'.ownBlock = wv.ownBlock ∨ ∃ k, wv'.ownBlock = some k ∧ w.heap.size ≤ k) := by
  obtain ⟨i0, hi, hz0, hz1, hz2⟩ := info_parts infoRw
  unfold Disk.put
  have HS := Lib.hid (fun w => seal2_ok s w hs)
  generalize page (padTo s 252) = raw at *
  obtain ⟨gl, cl, hlv, _⟩ := h.page_cell
  subst hlv
  obtain ⟨aw, cw, hwv, _⟩ := h.write_cell
  subst hwv
  obtain ⟨m, hm⟩ : ∃ m : Nat, D.n = m := ⟨D.n.toNat, by have := h.range; omega⟩
  have c0 := cell_at h.self 0 (v := .slice (some ⟨gl, 0, none⟩) D.n.toNat cl) rfl
  rw [hm, Int.toNat_natCast] at c0
  have hpm : p < (m : Int) := by omega
  have H := Lib.hid h
  have HM := Lib.hid hm
  clear h hm hp
  go_enter Tryz.func70, Tryz.ntmps70
  go_wp2_with fail
  refine (HS.out _).mono ?_
  rintro e w1 ⟨rfl, hch⟩
  have h1 := H.out.no hch
  have c2 := cell_at h1.self 1 (v := .slice aw D.writes.length cw) rfl
  have hrow := h1.writes
  have f2 := free_at h1.self 1
  have hbd := lt_of_block h1.self
  clear c0
  go_wp2_with (at_builtin; refine wpList_append_own_at _ rfl (.tmp 32) (.tmp 36) 54 rfl 0 85 i0 (.agg #[.int .i64 0, .string ByteArray.empty]) 2 24 Tryz.underlying54 hi hz0 hz1 hz2 rfl (by decide) (.slice aw D.writes.length cw) D.writes.length (wcells D.writes) rfl (hrow.alloc _) ⟨w1.heap.size, 0, none⟩ 1 1 [.int .i64 p, .string raw] rfl rfl ?c1 ?c2 ?c3 ?c4 ?c5 ?_)
  case c1 => intro j u hj; match j, hj with | 0, hj => simp at hj; subst hj; simp [Addr.add] | 1, hj => simp at hj; subst hj; simp [Addr.add]
  case c2 => intro u hu; simp at hu; rcases hu with rfl | rfl <;> rfl
  case c3 => unfold maxLen; omega
  case c4 => omega
  case c5 => simp
  intro v' w2 hown hgrow hnil hloc
  have hne := own_ne hrow h1.self (by decide)
  have hc2 : Chg (fun k => (Value.slice aw D.writes.length cw).ownBlock = some k) w w2 := (hch.ofNo.alloc _).then (a := w) (b := w1.alloc (.cells #[.int .i64 p, .string raw] 85)) (Chg.ofGrown hgrow)
  have hs2 := hc2.at H.out.self hne
  have hpg2 := hc2.row H.out.pages (fun k hk e => rows_ne H.out.pages H.out.writes (by decide) k hk e)
  have c2' := cell_at hs2 1 (v := .slice aw D.writes.length cw) rfl
  have f2' := free_at hs2 1
  have hlt := lt_of_block hs2
  have hfin : RDisk (w2.setCell ⟨rd, 1, none⟩ v') rd (.slice (some ⟨gl, 0, none⟩) D.n.toNat cl) v' { D with writes := D.writes ++ [(p, raw)] } := by
    have hcs := chg_setCell w2 rd 1 v'
    refine ⟨at_setCell hs2 1 v', hcs.row hpg2 (fun k hk e => by subst e; exact own_ne hpg2 hs2 (by decide) hk), ?_, by simpa using hfew, H.out.range, H.out.dry⟩
    have := hcs.row hown (fun k hk e => by subst e; exact own_ne hown hs2 (by decide) hk)
    simpa [wcells, List.flatMap_append] using this
  have hchf : Chg (fun k => k = rd ∨ (Value.slice aw D.writes.length cw).ownBlock = some k) w (w2.setCell ⟨rd, 1, none⟩ v') :=
    ((hc2.mono fun _ _ h => .inr h).trans (chg_setCell w2 rd 1 v') fun _ _ e => .inl e)
  have hlocf : v'.ownBlock = (Value.slice aw D.writes.length cw).ownBlock ∨ ∃ k, v'.ownBlock = some k ∧ w.heap.size ≤ k := by
    rcases hloc with hl | hl
    · exact .inl hl
    · exact .inr ⟨_, hl, by have := hch.size; simp; omega⟩
  have HF := Lib.hid (And.intro hfin (And.intro hchf hlocf))
  clear hfin hchf hlocf hc2 hpg2 hs2
  obtain ⟨g', cap', rfl⟩ := ownsRow_succ hown
  clear hown hgrow hnil hloc
  go_wp2
  go_ret
  exact ⟨rfl, _, HF.out.1, HF.out.2.1, HF.out.2.2⟩
end Go.Proofs.YtniijkcncpabaaaGreat
