/- PoolDoes: the walk. -/
import Derived.Test.YtniijkcncpabaaaGreatPlay
import Derived.Test.YtniijkcncpabaaaGreatScript
namespace Go.Proofs.YtniijkcncpabaaaGreat
open Go.RowKit Go.MapKept
set_option maxRecDepth 100000
set_option maxHeartbeats 40000000

theorem ints_same {w : World} {v v' : Value} {l : List Int} (hv : IntRow w v l) (hm : IntRow w v' l) (h1 : l.length ≤ 1000000) :
    Calls Tryz.prog 11 #[v, v'] w fun e w' => e = .returned (.bool true) ∧ Chg No w w' := by
  have := ints_ok hv hm h1 h1
  have hb : (l == l) = true := by simp
  rwa [hb] at this
def Rows2 (a b c : Nat) : Nat → Prop := fun k => (a ≤ k ∧ k < b) ∨ c ≤ k
theorem does_ok (places : Int) (v : Value) (len : Nat) (w : World) (hv : Script w v len) :
    Calls Tryz.prog 3 #[.int .i64 places, v] w fun e w' => e = .returned (.bool true) ∧ Chg No w w' := by
  have HDN := Lib.hid (dnew_ok 8 (by decide) (by decide) w)
  have HV := Lib.hid hv
  have hand := i64_and7 places
  have hwr : wrap64 (1 + places % 8) = 1 + places % 8 := IntWalk.wrap64_in _ (by omega)
  have hn1 : 1 ≤ 1 + places % 8 ∧ 1 + places % 8 ≤ 8 := by omega
  clear hv
  go_enter Tryz.func3, Tryz.ntmps3
  go_wp2_with fail
  refine HDN.out.mono ?_
  rintro e w1 ⟨rfl, hD, hc1, hsz1⟩
  have HZ1 := Lib.hid hsz1
  clear hsz1
  have HD := Lib.hid hD
  have HC1 := Lib.hid hc1
  have HRN := Lib.hid (r4new_ok 8 (by decide) (by decide) w1)
  clear hD hc1
  simp only [ptrB] at HRN
  go_wp2_with fail
  refine HRN.out.mono ?_
  rintro e w2 ⟨rfl, hc2, lv, hR, hlv⟩
  have HR := Lib.hid hR
  have HLV := Lib.hid hlv
  have HC2 := Lib.hid hc2
  have HPN := Lib.hid (fun (S : Nat → Prop) h1 h2 h3 => pnew_ok (HD.out.no hc2) (1 + places % 8) hn1.1 (by omega) S h1 h2 h3)
  clear hR hlv hc2
  simp only [ptrB] at HPN
  have HPN2 := Lib.hid (HPN.out (Rows2 w.heap.size w1.heap.size w2.heap.size) (fun k hk => by unfold Rows2; have := HZ1.out; omega) (by unfold Rows2; have := HZ1.out; omega) (by unfold Rows2; have := HZ1.out; omega))
  clear HPN
  go_wp2_with fail
  refine HPN2.out.mono ?_
  rintro e w3 ⟨rfl, hP, hc3, hsz3⟩
  have HZ3 := Lib.hid hsz3
  clear hsz3
  have HP := Lib.hid hP
  have HC3 := Lib.hid hc3
  have hsz2 := HC2.out.size
  have HQN := Lib.hid (rnew_ok (HR.out.no hc3) (1 + places % 8) hn1.1 (by omega) (Rows2 w1.heap.size w2.heap.size w3.heap.size) (fun k hk => by unfold Rows2; omega) (by have := lt_of_block HR.out.self; unfold Rows2; omega) (fun b hb => by have := HLV.out b hb; have := own_lt HR.out.pages hb; unfold Rows2; omega))
  clear hP hc3 HPN2
  simp only [ptrB] at HQN
  go_wp2_with fail
  refine HQN.out.mono ?_
  rintro e w4 ⟨rfl, hQ, hc4⟩
  have HBO : Hid (Both No w w (w2.heap.size + 1) (w.heap.size + 1) w3.heap.size w1.heap.size ⟨1 + places % 8, 0, [], [], ⟨8, [], []⟩⟩ ⟨1 + places % 8, 0, [], [], ⟨8, [], []⟩⟩ w4) := Lib.hid (by
    have hP4 := (HP.out.upTo).no hc4
    have hQ4 := hQ.upTo
    have hs1 := HC1.out.size
    have hsz1 := HZ1.out
    have hsz3 := HZ3.out
    have hs3 := HC3.out.size
    have hs4 := hc4.size
    refine ⟨_, _, hP4, hQ4, ?_, ?_, ((HC1.out.then HC2.out).then HC3.out).then hc4, fun b e => e.elim, (((HC1.out.then HC2.out).then HC3.out).then hc4).ofNo⟩
    · rintro b ⟨b2, b3⟩ ⟨b4, b5⟩
      unfold Rows2 at b2 b4
      omega
    · rintro b (⟨b2, b3⟩ | ⟨b4, b5⟩)
      · unfold Rows2 at b2
        exact ⟨by omega, by omega, fun e => e⟩
      · unfold Rows2 at b4
        exact ⟨by omega, b5, fun e => e⟩)
  have HGO := Lib.hid (good_start (1 + places % 8) hn1.1)
  clear hQ hc4 HQN HDN HRN HD HC1 HC2 HC3 HR HLV HP hand hwr HZ1 HZ3 hsz2
  generalize w2.heap.size + 1 = bp at *
  generalize w.heap.size + 1 = bd at *
  generalize w3.heap.size = rb at *
  generalize w1.heap.size = rd at *
  generalize 1 + places % 8 = n at *
  go_wp2
  --DBG
  go_loopw [13] (fun si wx => ∃ i : Nat, i ≤ len ∧ i ≤ 80 ∧ si = .int .i64 i ∧ ∃ σ, Both No w w bp bd rb rd σ σ wx ∧ GoodD n i σ) (fun si _ => 80 - (intOf si).toNat)
  case atStart => exact ⟨0, by omega, by omega, rfl, _, HBO.out, HGO.out⟩
  case round =>
    obtain ⟨i, hil, hi80, rfl, σ, hbo, hgo⟩ := hrel
    clear HBO HGO
    have HBO := Lib.hid hbo
    have HGO := Lib.hid hgo
    clear hbo hgo
    have HFX := Lib.hid (fun w' => fixed_ok w')
    by_cases hend : i < len ∧ i < 80
    · obtain ⟨hi1, hi2⟩ := hend
      obtain ⟨hlen, hvv⟩ := HV.out
      rcases hvv with ⟨rfl, h0⟩ | ⟨a, cap, rfl, ho⟩
      · omega
      · obtain ⟨⟨kd, pg, so, no⟩, o1, o2, o3, o4, o5⟩ := ho i hi1
        simp only at o1 o5
        have OC : Hid (∀ wz, Chg No w wz → wz.cell? ⟨(a.add (i * 4)).block, (a.add (i * 4)).off + 1, none⟩ = some (.int .i64 pg)) := Lib.hid (fun wz hz => hz.cell o2 (fun e => e))
        have o1 := HBO.out.chg.cell o1 (fun e => e)
        have o2 : wr.cell? ⟨(a.add (i * 4)).block, (a.add (i * 4)).off + 1, none⟩ = some (.int .i64 pg) := HBO.out.chg.cell o2 (fun e => e)
        have o3 : wr.cell? ⟨(a.add (i * 4)).block, (a.add (i * 4)).off + 2, none⟩ = some (.string so) := HBO.out.chg.cell o3 (fun e => e)
        have o4 : wr.cell? ⟨(a.add (i * 4)).block, (a.add (i * 4)).off + 3, none⟩ = some (.int .i64 no) := HBO.out.chg.cell o4 (fun e => e)
        have HPL := Lib.hid (play_ok HBO.out HGO.out hn1.2 (by omega) kd pg so no o5)
        clear ho o5
        go_wp2_with fail
        refine HPL.out.mono ?_
        rintro e wp ⟨rfl, σ', hb, hg⟩
        clear o1 o2 o3 o4 HPL HBO HGO
        have HB := Lib.hid hb
        have HG := Lib.hid hg
        have HOC := Lib.hid (fun wz (hz : Chg No wp wz) => OC.out wz (hb.chg.then hz))
        have hlk : (keys σ'.L).length ≤ 8 := by have := hg.len; rw [keys_len]; omega
        have hwl : (pagesOf σ'.D.writes).length ≤ 1000000 := by have := hg.writes; simp [pagesOf]; omega
        have hl1 : (sortI (keys σ'.L)).length ≤ 1000000 := by rw [sortI_len]; omega
        have hl2 : (dirtyL σ').length ≤ 1000000 := by
          unfold dirtyL kept
          have := List.length_filter_le (fun x => !(fun k => !dirtyB σ' k) x) (sortI (keys σ'.L))
          rw [sortI_len] at this; omega
        obtain ⟨q1, q2⟩ := oleast hb hg hn1.2
        obtain ⟨q3, q4, q5, q6⟩ := opages hb hg hn1.2
        obtain ⟨q7, q8⟩ := opins hb hg pg
        obtain ⟨q9, q10, q11, q12⟩ := odisk hb hg
        have Q1 := Lib.hid q1
        have Q2 := Lib.hid q2
        have Q3 := Lib.hid q3
        have Q4 := Lib.hid q4
        have Q5 := Lib.hid q5
        have Q6 := Lib.hid q6
        have Q7 := Lib.hid q7
        have Q8 := Lib.hid q8
        have Q9 := Lib.hid q9
        have Q10 := Lib.hid q10
        have Q11 := Lib.hid q11
        have Q12 := Lib.hid q12
        have HL := Lib.hid (And.intro hl1 (And.intro hl2 hwl))
        clear hb hg q1 q2 q3 q4 q5 q6 q7 q8 q9 q10 q11 q12 hl1 hl2 hwl hlk OC
        go_wp2_with fail
        refine (Q1.out wp (Chg.refl _ _)).mono ?_
        rintro e wa ⟨rfl, hca⟩
        have HW := Lib.hid hca
        clear hca
        go_wp2_with fail
        refine (Q2.out wa HW.out).mono ?_
        rintro e wb ⟨rfl, rfl⟩
        generalize leastOf σ' = lo at *
        generalize pinsOf σ' pg = pn at *
        go_upto_region 14 with fail
        have HW : Hid (Chg No wp wa.drew) := Lib.hid HW.out.drew
        have hi0 : (0 : Int) ≤ (i : Int) := Int.natCast_nonneg _
        have hi3 : (i : Int) < (len : Int) := by omega
        go_cut [149] from 101 to 149 (fun c wx => c = .bool false ∧ Chg No wp wx)
        case first =>
          clear HFX HV HB HG Q1 Q2 Q11 Q12 hlen hi80 hil hi2
          obtain ⟨la, lb⟩ := lo
          have bx : (la != la) = false := by simp
          have by2 : (lb != lb) = false := by simp
          have bz : (pn != pn) = false := by simp
          go_region_held3 (fun wz => wz.cell? ⟨(a.add (i * 4)).block, (a.add (i * 4)).off + 1, none⟩ = some (.int .i64 pg)) (first | exact HOC.out _ HW.out)
            (first
          | (go_at_call 12; refine (Q3.out _ HW.out).mono ?_; rintro e wa ⟨va, rfl, hra, hca⟩; have HW := Lib.hid (HW.out.then hca); have RA := Lib.hid hra; clear hra hca)
          | (go_at_call 14; refine (Q5.out _ HW.out).mono ?_; rintro e wd ⟨vd, rfl, hrd, hcd⟩; have HW := Lib.hid (HW.out.then hcd); have RB := Lib.hid hrd; clear hrd hcd)
          | (go_at_call 13; have RBX := RB; refine (Q6.out _ HW.out).mono ?_; rintro e we ⟨ve, rfl, hre, hce⟩; have HW := Lib.hid (HW.out.then hce); have IN2 := Lib.hid (ints_same (hce.row RB.out (fun _ _ e => e)) hre HL.out.2.1); clear hre hce RBX)
          | (go_at_call 13; refine (Q4.out _ HW.out).mono ?_; rintro e wb ⟨vb, rfl, hrb, hcb⟩; have HW := Lib.hid (HW.out.then hcb); have IN1 := Lib.hid (ints_same (hcb.row RA.out (fun _ _ e => e)) hrb HL.out.1); clear hrb hcb)
          | (go_at_call 11; refine (IN3.out).mono ?_; rintro e wk ⟨rfl, hck⟩; have HW := Lib.hid (HW.out.then hck); clear hck)
          | (go_at_call 11; refine (IN2.out).mono ?_; rintro e wf ⟨rfl, hcf⟩; have HW := Lib.hid (HW.out.then hcf); clear hcf)
          | (go_at_call 11; refine (IN1.out).mono ?_; rintro e wc ⟨rfl, hcc⟩; have HW := Lib.hid (HW.out.then hcc); clear hcc)
          | (go_at_call 15; refine (Q7.out _ HW.out).mono ?_; rintro e wg ⟨rfl, rfl⟩)
          | (go_at_call 16; refine (Q8.out _ HW.out).mono ?_; rintro e wh ⟨rfl, rfl⟩)
          | (go_at_call 17; refine (Q9.out _ HW.out).mono ?_; rintro e wi ⟨vi, rfl, hri, hci⟩; have HW := Lib.hid (HW.out.then hci); have RC := Lib.hid hri; clear hri hci)
          | (go_at_call 18; refine (Q10.out _ HW.out).mono ?_; rintro e wj ⟨vj, rfl, hrj, hcj⟩; have HW := Lib.hid (HW.out.then hcj); have IN3 := Lib.hid (ints_same (hcj.row RC.out (fun _ _ e => e)) hrj HL.out.2.2); clear hrj hcj))
          all_goals
            go_wp2_with fail
            go_meet
            exact ⟨rfl, HW.out⟩
        case rest =>
          obtain ⟨rfl, hcx⟩ := hcut
          have HCX := Lib.hid hcx
          clear hcx HW HL Q1 Q2 Q3 Q4 Q5 Q6 Q7 Q8 Q9 Q10
          go_wp2
          go_loopw [18] (fun si wy => ∃ k : Nat, k ≤ 8 ∧ si = .int .i64 k ∧ Chg No wp wy) (fun si _ => 8 - (intOf si).toNat)
          case atStart => exact ⟨0, by omega, rfl, HCX.out⟩
          case round =>
            obtain ⟨k, hk, rfl, hcy⟩ := hrel
            by_cases hk8 : k < 8
            · have HY := Lib.hid (Q11.out k hk8 _ hcy)
              have HCY := Lib.hid hcy
              have HZ2 := Lib.hid (Q12.out k hk8)
              generalize σ'.D.raw k = raw at *
              clear hcy
              go_wp2_with fail
              refine HY.out.mono ?_
              rintro e wz ⟨rfl, hcz⟩
              have HCZ := Lib.hid (HCY.out.then hcz)
              clear hcz
              go_wp2_with fail
              refine (HZ2.out _ HCZ.out).mono ?_
              rintro e wq ⟨rfl, rfl⟩
              go_wp2
              go_roundw
              case rel => exact ⟨k + 1, by omega, by go_num, HCZ.out⟩
              case measure => simp [intOf]; omega
            · have hke : k = 8 := by omega
              subst hke
              have HF3 := Lib.hid (HB.out.no hcy)
              clear hcy
              go_wp2
              go_roundw
              case rel => exact ⟨i + 1, by omega, by omega, by go_num, σ', HF3.out, HG.out⟩
              case measure => simp [intOf]; omega
    · have hex : (decide ((i : Int) < len) && decide ((i : Int) < 80)) = false := by simp; omega
      have hdec : i < len → ¬ i < 80 := fun h1 h2 => hend ⟨h1, h2⟩
      have HW := Lib.hid HBO.out.chg
      obtain ⟨hlen, hvv⟩ := HV.out
      rcases hvv with ⟨rfl, rfl⟩ | ⟨a, cap, rfl, ho⟩
      · have hi0 : i = 0 := by omega
        subst hi0
        clear hend hex hdec
        go_wp2_with fail
        refine (HFX.out _).mono ?_
        rintro e wz ⟨rfl, hcz⟩
        have HZ := Lib.hid (HW.out.then hcz)
        clear hcz
        go_wp2
        go_ret
        exact ⟨rfl, HZ.out⟩
      · clear ho
        by_cases hl : i < len
        · have h80 : i = 80 := by have := hdec hl; omega
          subst h80
          clear hend hex hdec
          go_wp2_with fail
          refine (HFX.out _).mono ?_
          rintro e wz ⟨rfl, hcz⟩
          have HZ := Lib.hid (HW.out.then hcz)
          clear hcz
          go_wp2
          go_ret
          exact ⟨rfl, HZ.out⟩
        · clear hend hex hdec
          go_wp2_with fail
          refine (HFX.out _).mono ?_
          rintro e wz ⟨rfl, hcz⟩
          have HZ := Lib.hid (HW.out.then hcz)
          clear hcz
          go_wp2
          go_ret
          exact ⟨rfl, HZ.out⟩
end Go.Proofs.YtniijkcncpabaaaGreat
