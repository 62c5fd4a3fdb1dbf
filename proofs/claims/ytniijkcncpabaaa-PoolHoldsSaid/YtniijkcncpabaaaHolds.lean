/- PoolHolds: the walk. -/
import Derived.Test.YtniijkcncpabaaaHoldsL
import Derived.Deep.DeepCutAuto
import Derived.Deep.RegionLaw
import Derived.Deep.CutBlock
import Derived.Deep.CutRange
import Derived.IntWalk
namespace Go.Proofs.Ytniijkcncpabaaa
open Go.RowKit Go.MapKept
set_option maxRecDepth 100000
set_option maxHeartbeats 1000000

/-- the script: a slice of calls -/
structure Op4 where
  kind : Int
  page : Int
  s : ByteArray
  n : Int
def OpAt (w : World) (p : Addr) (o : Op4) : Prop := w.cell? p = some (.int .i64 o.kind) ∧ w.cell? (p.add 1) = some (.int .i64 o.page) ∧ w.cell? (p.add 2) = some (.string o.s) ∧ w.cell? (p.add 3) = some (.int .i64 o.n) ∧ o.s.size ≤ 9223372036854775807
def Script (w : World) (v : Value) (len : Nat) : Prop := len ≤ 9223372036854775807 ∧ (v = .slice none 0 0 ∧ len = 0 ∨ ∃ a cap, v = .slice (some a) len cap ∧ ∀ i, i < len → ∃ o, OpAt w (a.add (i * 4)) o)
theorem i64_and7 (n : Int) : bits .and .i64 n 7 = n % 8 := by
  have h7 : (BitVec.ofInt 64 7).toNat = 2 ^ 3 - 1 := by decide
  have key : (BitVec.ofInt 64 n &&& BitVec.ofInt 64 7).toNat = (n % ((2 ^ 64 : Nat) : Int)).toNat % 2 ^ 3 := by
    rw [BitVec.toNat_and, BitVec.toNat_ofInt, h7, Nat.and_two_pow_sub_one_eq_mod]
  show IntKind.i64.wrap ((BitVec.ofInt 64 n &&& BitVec.ofInt 64 7).toNat : Nat) = n % 8
  rw [key, IntKind.wrap_i64]
  omega
theorem infoStr : (Try.prog.info? 9).map (fun i => (i.zero, i.size, i.bytes)) = some (some (.string ByteArray.empty), 1, 16) := by kernel_rfl
theorem run_make_one {P : Program} {t e : TypeId} {i : TypeInfo} {z : Value} (ht : P.underlying t = some (.slice e)) (hi : P.info? e = some i) (hz : i.zero = some z) (h1 : i.size = 1) (hzc : z.cells = #[z]) (n : Nat) (hb : i.bytes * n ≤ 281474976710656) (hn : n ≤ 281474976710656) (w : World) :
    (Instr.makeSlice t (.int .i64 (n : Int)) (.int .i64 (n : Int))).run P w = .ok (.slice (some ⟨w.heap.size, 0, none⟩) n n) (w.alloc (.cells (Array.replicate n z) e)) := by
  have := run_make (P := P) w t e i _ ht hi hz .i64 .i64 n n (by omega) (Int.le_refl _) (by omega) (by omega)
  rw [this]
  simp only [Int.toNat_natCast]
  congr 3
  rw [h1, Nat.mul_one]
  apply Array.toList_inj.1
  simpa [hzc] using toList_madeCells_one z n
theorem holds_ok (places : Int) (v : Value) (len : Nat) (w : World) (hv : Script w v len) :
    Calls Try.prog 3 #[.int .i64 places, v] w fun e w' => e = .returned (.bool true) ∧ Chg No w w' := by
  have HDN := Lib.hid (dnew_ok 8 (by decide) (by decide) w)
  have HV := Lib.hid hv
  have hand := i64_and7 places
  have hwr : wrap64 (1 + places % 8) = 1 + places % 8 := IntWalk.wrap64_in _ (by omega)
  clear hv
  go_enter Try.func3, Try.ntmps3
  go_wp2_with fail
  refine HDN.out.mono ?_
  rintro e w1 ⟨rfl, hD, hc1, hsz1⟩
  have hn1 : 1 ≤ 1 + places % 8 ∧ 1 + places % 8 ≤ 8 := by omega
  have HPN := Lib.hid (pnew_ok hD (1 + places % 8) hn1.1 (by omega) (fun b => w.heap.size ≤ b) (fun k hk => by omega) (by show w.heap.size ≤ w.heap.size + 1; omega) (Nat.le_refl _))
  have HC1 := Lib.hid hc1
  clear hD hc1 hsz1
  simp only [ptrB] at HPN
  go_wp2_with fail
  refine HPN.out.mono ?_
  rintro e w2 ⟨rfl, hP, hc2, hsz2⟩
  clear hsz2
  have HP2 : Hid (InF w (w1.heap.size + 1) (w.heap.size + 1) ⟨1 + places % 8, 0, [], [], ⟨8, [], []⟩⟩ w2) := Lib.hid ⟨hP, HC1.out.then hc2⟩
  clear hP hc2 HPN HDN hand hwr
  generalize w1.heap.size + 1 = bp at *
  generalize w.heap.size + 1 = bd at *
  generalize 1 + places % 8 = n at *
  obtain ⟨i3, hi3, hz30, hz31, hz32⟩ := info_parts infoInt
  obtain ⟨i9, hi9, hz90, hz91, hz92⟩ := info_parts infoStr
  have hm9 : ∀ W : World, (Instr.makeSlice 30 (.int .i64 8) (.int .i64 8)).run Try.prog W = .ok (.slice (some ⟨W.heap.size, 0, none⟩) 8 8) (W.alloc (.cells (Array.replicate 8 (.string ByteArray.empty)) 9)) := fun W => run_make_one Try.underlying30 hi9 hz90 hz91 rfl 8 (by rw [hz92]; decide) (by decide) W
  have hm3 : ∀ W : World, (Instr.makeSlice 31 (.int .i64 8) (.int .i64 8)).run Try.prog W = .ok (.slice (some ⟨W.heap.size, 0, none⟩) 8 8) (W.alloc (.cells (Array.replicate 8 (.int .i64 0)) 3)) := fun W => run_make_one Try.underlying31 hi3 hz30 hz31 rfl 8 (by rw [hz32]; decide) (by decide) W
  go_upto_region 8 with fail
  go_cut [10, 11] (fun s10 s11 wx => ∃ bh bq : Nat, s10 = .slice (some ⟨bh, 0, none⟩) 8 8 ∧ s11 = .slice (some ⟨bq, 0, none⟩) 8 8 ∧ RowS wx bh (fun _ => ByteArray.empty) ∧ RowI wx bq (fun _ => 0) ∧ w2.heap.size ≤ bh ∧ w2.heap.size ≤ bq ∧ Chg No w2 wx)
  case first =>
    go_region
    · go_wp2_with fail
      go_meet
      exact ⟨_, _, rfl, rfl, ((RowS.new w2 ByteArray.empty).chg (S := No) ((Chg.refl _ _).alloc _) (fun e => e)).chg (S := No) ((Chg.refl _ _).drew) (fun e => e), (RowI.newAt 0 (by simp)).chg (S := No) ((Chg.refl _ _).drew) (fun e => e), by simp, by simp, (((Chg.refl _ _).alloc _).alloc _).drew⟩
    · go_wp2_with fail
      go_meet
      exact ⟨_, _, rfl, rfl, (RowS.newAt ByteArray.empty (by simp)).chg (S := No) ((Chg.refl _ _).drew) (fun e => e), ((RowI.new w2 0).chg (S := No) ((Chg.refl _ _).alloc _) (fun e => e)).chg (S := No) ((Chg.refl _ _).drew) (fun e => e), by simp, by simp, (((Chg.refl _ _).alloc _).alloc _).drew⟩
  case rest =>
    obtain ⟨bh, bq, rfl, rfl, hS, hI, hbh, hbq, hcc⟩ := hcut
    have HS0 := Lib.hid hS
    have HI0 := Lib.hid hI
    have HCC := Lib.hid hcc
    clear hS hI hcc hm9 hm3 hi3 hi9 hz30 hz31 hz32 hz90 hz91 hz92
    go_wp2
    go_loopw [12] (fun si wr => ∃ k : Nat, k ≤ 8 ∧ si = .int .i64 k ∧ RowS wr bh (fun j => if j < k then fc else ByteArray.empty) ∧ Chg (· = bh) wc wr) (fun si _ => 8 - (intOf si).toNat)
    case atStart => exact ⟨0, by omega, rfl, HS0.out.congr (fun j _ => by rw [if_neg (by omega)]), Chg.refl _ _⟩
    case round =>
      obtain ⟨k, hk, rfl, hS, hch⟩ := hrel
      by_cases hlt : k < 8
      · have HR := Lib.hid (fun w' => r1pad_ok ByteArray.empty 252 w' (by decide) (by decide))
        have HS1 := Lib.hid hS
        have HCH := Lib.hid hch
        clear hS hch
        go_wp2_with fail
        refine (HR.out _).mono ?_
        rintro e wx ⟨rfl, hcx⟩
        have hS2 := HS1.out.chg hcx (fun e => e)
        have hcell := hS2.cell k hlt
        obtain ⟨hcl, hfr⟩ := hcell
        have hfc : padTo ByteArray.empty 252 = fc := rfl
        rw [hfc]
        have HS3 := Lib.hid (hS2.set k fc)
        have HC3 := Lib.hid ((HCH.out.thenNo hcx).then (chg_setCell wx bh k (.string fc)))
        clear hS2 hcx hfc
        go_wp2
        go_roundw
        case rel => exact ⟨k + 1, by omega, by go_num, HS3.out.congr (fun j _ => fill_next _ _ k j), HC3.out⟩
        case measure => simp [intOf]; omega
      · have hke : k = 8 := by omega
        rw [show (Value.int .i64 (k : Int)) = .int .i64 8 from by rw [hke]; rfl]
        subst hke
        have HS1 := Lib.hid hS
        have HCH := Lib.hid hch
        clear hS hch
        have hne := rows_apart HS0.out HI0.out
        have hszw : w.heap.size ≤ w2.heap.size := HP2.out.2.size
        have HLI : Hid (Lies w bp bd bh bq ⟨n, 0, [], [], ⟨8, [], []⟩⟩ (fun j : Int => if j < (8 : Nat) then fc else ByteArray.empty) (fun _ => 0) wr) := Lib.hid
          ⟨((HP2.out.1.upTo.mono (fun k hk => (⟨hk.1, by omega, by omega⟩ : Mine w bh bq k))).no HCC.out).chg HCH.out (fun k hk e => hk.2.1 e), HS1.out, HI0.out.chg HCH.out (fun e => hne e.symm), by omega, by omega, (HP2.out.2.then HCC.out).trans HCH.out (fun k hk e => by omega)⟩
        have HGO : Hid (Good n 0 ⟨n, 0, [], [], ⟨8, [], []⟩⟩ (fun j : Int => if j < (8 : Nat) then fc else ByteArray.empty) (fun _ => 0)) := Lib.hid ⟨_, inv_start n hn1.1, ⟨List.Perm.refl _, List.Pairwise.nil⟩, by show (0 : Int) ≤ n; omega⟩
        clear HS0 HI0 HCC HS1 HCH HP2 HC1 hne
        go_wp2
        go_loopw [15] (fun si wx => ∃ i : Nat, i ≤ len ∧ i ≤ 80 ∧ si = .int .i64 i ∧ ∃ σ has held, Lies w bp bd bh bq σ has held wx ∧ Good n i σ has held) (fun si _ => 80 - (intOf si).toNat)
        case atStart => exact ⟨0, by omega, by omega, rfl, _, _, _, HLI.out, HGO.out⟩
        case round =>
          obtain ⟨i, hil, hi80, rfl, σ, has, held, hli, hgo⟩ := hrel
          clear HLI HGO
          have HLI := Lib.hid hli
          have HGO := Lib.hid hgo
          clear hli hgo
          have HFX := Lib.hid (fun w' => fixed_ok w')
          by_cases hend : i < len ∧ i < 80
          · obtain ⟨hi1, hi2⟩ := hend
            obtain ⟨hlen, hvv⟩ := HV.out
            rcases hvv with ⟨rfl, h0⟩ | ⟨a, cap, rfl, ho⟩
            · omega
            · obtain ⟨⟨kd, pg, so, no⟩, o1, o2, o3, o4, o5⟩ := ho i hi1
              simp only at o1 o5
              have o1 := HLI.out.chg.cell o1 (fun e => e)
              have o2 : wr.cell? ⟨(a.add (i * 4)).block, (a.add (i * 4)).off + 1, none⟩ = some (.int .i64 pg) := HLI.out.chg.cell o2 (fun e => e)
              have o3 : wr.cell? ⟨(a.add (i * 4)).block, (a.add (i * 4)).off + 2, none⟩ = some (.string so) := HLI.out.chg.cell o3 (fun e => e)
              have o4 : wr.cell? ⟨(a.add (i * 4)).block, (a.add (i * 4)).off + 3, none⟩ = some (.int .i64 no) := HLI.out.chg.cell o4 (fun e => e)
              clear ho
              obtain ⟨K, hK⟩ : ∃ K : Nat, bits .and .i64 pg 7 = (K : Int) := ⟨(pg % 8).toNat, by rw [i64_and7]; omega⟩
              have hK8 : K < 8 := by have := i64_and7 pg; omega
              have hs5 := o5
              clear o5
              have HL0 := Lib.hid (HLI.out.no ((Chg.refl No wr).alloc (.cells #[.int .i64 kd, .int .i64 pg, .string so, .int .i64 no] 35)))
              go_upto_block 4 with fail
              go_cut [16, 17, 18, 19, 20, 21] from 62 to 195 (fun _ _ _ _ _ _ wx => ∃ σ has held, Lies w bp bd bh bq σ has held wx ∧ Good n (i + 1) σ has held)
              case first =>
                obtain ⟨q0, q1⟩ := HL0.out.held.cell K hK8
                obtain ⟨p0, p1⟩ := HL0.out.has.cell K hK8
                by_cases k0 : kd = 0
                · subst k0
                  have HP := Lib.hid (lpin HL0.out HGO.out hn1.2 (by omega) K hK8)
                  go_wp2_with fail
                  refine HP.out.mono ?_
                  rintro e wp ⟨s, E, σ', rfl, hL, hcase⟩
                  have hn0 := HGO.out.num K hK8
                  have HL := Lib.hid hL
                  obtain ⟨r0, r1⟩ := hL.held.cell K hK8
                  obtain ⟨t0, t1⟩ := hL.has.cell K hK8
                  clear hL q0 q1 p0 p1
                  rcases hcase with ⟨rfl, rfl, hG⟩ | ⟨rfl, hh, hG⟩
                  · have HG := Lib.hid hG
                    clear hG
                    have HLF := Lib.hid (HL.out.setHeld K (held K + 1))
                    generalize has K = hs at *
                    generalize held K = hv at *
                    go_wp2
                    go_meet
                    exact ⟨σ', has, _, HLF.out, HG.out⟩
                  · have HG := Lib.hid hG
                    rw [hh] at r0
                    clear hG hh hn0
                    go_wp2
                    go_meet
                    exact ⟨σ', has, held, HL.out, HG.out⟩
                · have b0 : (kd == 0) = false := by simpa using k0
                  by_cases k1 : kd = 1
                  · subst k1
                    clear b0 k0
                    have HLD := Lib.hid (HL0.out.no ((Chg.refl No _).drew))
                    have HU := Lib.hid (lunpin HLD.out HGO.out (by omega) K hK8)
                    obtain ⟨r0, r1⟩ := HLD.out.held.cell K hK8
                    have hn0 := HGO.out.num K hK8
                    have HV1 := Lib.hid (fun (w' : World) (σ' : Pool) (h : Lies w bp bd bh bq σ' has held w') => (h.held.cell K hK8))
                    have HV2 : Hid (∀ (w' : World) (σ' : Pool) (v : Int), Lies w bp bd bh bq σ' has held w' → v = max 0 (held K - 1) → Lies w bp bd bh bq σ' has (putAt held K (max 0 (held K - 1))) (w'.setCell ⟨bq, K, none⟩ (.int .i64 v))) := Lib.hid fun w' σ' v h e => by rw [e]; exact h.setHeld K _
                    go_wp2_with fail
                    go_region_with (go_at_call 8; refine HU.out.mono ?_; rintro e wp ⟨E, σ', rfl, hL, hEE, hG⟩; have HL := Lib.hid hL; have HG := Lib.hid hG; have hEB : (E == 0) = decide (0 < held K) := Bool.eq_iff_iff.2 (by rw [beq_iff_eq, decide_eq_true_eq]; exact hEE); obtain ⟨s0, s1⟩ := HV1.out wp σ' hL; clear hL hG hEE)

                    all_goals
                      go_wp2
                    all_goals
                      go_meet
                      exact ⟨σ', has, _, HV2.out _ _ _ HL.out (by omega), HG.out⟩
                  · have b1 : (kd == 1) = false := by simpa using k1
                    by_cases k2 : kd = 2
                    · subst k2
                      clear b0 b1 k0 k1
                      have HSZ : Hid ((so.extract 0 (min (so.size : Int) 252).toNat).size ≤ 252) := Lib.hid (by rw [ByteArray.size_extract]; omega)
                      have HPD := Lib.hid (fun w' => r1pad_ok (so.extract 0 (min (so.size : Int) 252).toNat) 252 w' HSZ.out (by decide))
                      have hblk := (MapKept.heap_alloc wr (.cells #[.int .i64 2, .int .i64 pg, .string so, .int .i64 no] 35)).1
                      have HB := Lib.hid hblk
                      clear hblk q0 q1 p0 p1
                      go_wp2_with fail
                      refine (HPD.out _).mono ?_
                      rintro e wp ⟨rfl, hcp⟩
                      have c3 := hcp.cell (cell_at HB.out 3 (v := .int .i64 no) rfl) (fun e => e)
                      have HPU := Lib.hid (lput (HL0.out.no hcp) HGO.out K hK8 _ (padTo_size _ 252 HSZ.out) no)
                      clear hcp
                      generalize padTo (so.extract 0 (min (so.size : Int) 252).toNat) 252 = sp at *
                      go_wp2_with fail
                      refine HPU.out.mono ?_
                      rintro e wq ⟨E, σ', rfl, hL, hG⟩
                      obtain ⟨p0, p1⟩ := hL.has.cell K hK8
                      have HL := Lib.hid hL
                      have HG := Lib.hid hG
                      clear hL hG c3
                      by_cases hE : E = 0
                      · subst hE
                        have HLF := Lib.hid (HL.out.setHas K sp)
                        go_wp2
                        go_meet
                        exact ⟨σ', _, held, HLF.out, HG.out⟩
                      · have bE : (E == 0) = false := by simpa using hE
                        have HG2 : Hid (Good n (i + 1) σ' has held) := Lib.hid (by have := HG.out; rwa [if_neg hE] at this)
                        clear hE
                        go_wp2
                        go_meet
                        exact ⟨σ', _, held, HL.out, HG2.out⟩
                    · have b2 : (kd == 2) = false := by simpa using k2
                      by_cases k3 : kd = 3
                      · subst k3
                        clear b0 b1 b2 k0 k1 k2
                        have HSU := Lib.hid (lsure HL0.out HGO.out no)
                        go_wp2_with fail
                        refine HSU.out.mono ?_
                        rintro e wp ⟨σ', rfl, hL, hG⟩
                        have HL := Lib.hid hL
                        have HG := Lib.hid hG
                        clear hL hG
                        go_wp2
                        go_meet
                        exact ⟨σ', has, held, HL.out, HG.out⟩
                      · have b3 : (kd == 3) = false := by simpa using k3
                        have HCL := Lib.hid (lclean HL0.out HGO.out hn1.2 (by omega))
                        go_wp2_with fail
                        refine HCL.out.mono ?_
                        rintro e wp ⟨m, σ', rfl, hL, hG⟩
                        have HL := Lib.hid hL
                        have HG := Lib.hid hG
                        clear hL hG
                        go_wp2
                        go_meet
                        exact ⟨σ', has, held, HL.out, HG.out⟩
              case rest =>
                obtain ⟨σ2, has2, held2, hL2, hG2⟩ := hcut
                have HL := Lib.hid hL2
                have HG := Lib.hid hG2
                have HPG := Lib.hid (lpages hL2 hG2 hn1.2)
                clear hL2 hG2 HL0 HLI HGO
                go_wp2_with fail
                refine HPG.out.mono ?_
                rintro e wp ⟨pa, pm, pc, rfl, hpm, hcp⟩
                have HL3 := Lib.hid (HL.out.no hcp)
                clear HL hcp
                go_wp2
                go_loopw [22] (fun si wy => ∃ k : Nat, k ≤ 8 ∧ si = .int .i64 k ∧ Chg No wp wy) (fun si _ => 8 - (intOf si).toNat)
                case atStart => exact ⟨0, by omega, rfl, Chg.refl _ _⟩
                case round =>
                  obtain ⟨k, hk, rfl, hcy⟩ := hrel
                  by_cases hk8 : k < 8
                  · have HLy := Lib.hid ((HL3.out.no hcy).no ((Chg.refl No _).drew))
                    have HPI := Lib.hid (lpins HLy.out HG.out k hk8)
                    obtain ⟨r0, r1⟩ := HLy.out.held.cell k hk8
                    have HCY := Lib.hid hcy
                    clear hcy
                    generalize held2 k = hv at *
                    go_wp2_with fail
                    go_region_with (go_at_call 13; refine HPI.out.mono ?_; rintro e wq ⟨rfl, rfl⟩)

                    all_goals
                      go_wp2
                      go_roundw
                      case rel => exact ⟨k + 1, by omega, by go_num, HCY.out.drew⟩
                      case measure => simp [intOf]; omega
                  · have hke : k = 8 := by omega
                    subst hke
                    have HF3 := Lib.hid (HL3.out.no hcy)
                    clear hcy
                    go_wp2
                    go_roundw
                    case rel => exact ⟨i + 1, by omega, by omega, by go_num, σ2, has2, held2, HF3.out, HG.out⟩
                    case measure => simp [intOf]; omega
          · have hex : (decide ((i : Int) < len) && decide ((i : Int) < 80)) = false := by simp; omega
            have hdec : i < len → ¬ i < 80 := fun h1 h2 => hend ⟨h1, h2⟩
            have HW := Lib.hid HLI.out.chg
            obtain ⟨hlen, hvv⟩ := HV.out
            rcases hvv with ⟨rfl, rfl⟩ | ⟨a, cap, rfl, ho⟩
            · have hi0 : i = 0 := by omega
              subst hi0
              clear hend hex hdec
              go_wp2_with fail
              refine (HFX.out _).mono ?_
              rintro e wz ⟨rfl, hcz⟩
              have HZ := Lib.hid (HW.out.then hcz)
              clear hcz
              go_wp2
              go_ret
              exact ⟨rfl, HZ.out⟩
            · clear ho
              by_cases hl : i < len
              · have h80 : i = 80 := by have := hdec hl; omega
                subst h80
                clear hend hex hdec
                go_wp2_with fail
                refine (HFX.out _).mono ?_
                rintro e wz ⟨rfl, hcz⟩
                have HZ := Lib.hid (HW.out.then hcz)
                clear hcz
                go_wp2
                go_ret
                exact ⟨rfl, HZ.out⟩
              · clear hend hex hdec
                go_wp2_with fail
                refine (HFX.out _).mono ?_
                rintro e wz ⟨rfl, hcz⟩
                have HZ := Lib.hid (HW.out.then hcz)
                clear hcz
                go_wp2
                go_ret
                exact ⟨rfl, HZ.out⟩
end Go.Proofs.Ytniijkcncpabaaa
