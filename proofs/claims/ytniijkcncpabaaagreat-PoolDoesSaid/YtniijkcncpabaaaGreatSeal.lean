/- Contracts of package sum: Seal and Open. -/
import Derived.Test.YtniijkcncpabaaaGreatSum
namespace Go.Proofs.YtniijkcncpabaaaGreat
open Go.RowKit Go.MapKept
set_option maxRecDepth 100000
set_option maxHeartbeats 400000

/-- a page of the disk: bytes with their sum -/
def page (c : ByteArray) : ByteArray := ⟨(c.data.toList ++ le4 (crc c.data.toList)).toArray⟩
theorem page_size (c : ByteArray) : (page c).size = c.size + 4 := by
  show (c.data.toList ++ le4 (crc c.data.toList)).toArray.size = c.data.size + 4
  rw [List.size_toArray, List.length_append, Array.length_toList]; rfl
theorem page_get (c : ByteArray) (i : Nat) (h : i < (page c).size) (h' : i < (c.data.toList ++ le4 (crc c.data.toList)).length) : (page c)[i] = (c.data.toList ++ le4 (crc c.data.toList))[i] := rfl
theorem padTo_data (s : ByteArray) (n : Nat) : (padTo s n).data.toList = s.data.toList ++ List.replicate (n - s.size) 0 := by
  simp [padTo, zeros]
theorem splice_page (c : ByteArray) (h : c.size = 252) (m : List UInt8) (hm : m.length = 4) : splice (padTo c 256).data.toList 252 m = c.data.toList ++ m := by
  have hl : c.data.toList.length = 252 := by simpa using h
  rw [padTo_data, splice, List.take_left' hl, hm, List.drop_eq_nil_of_le (by simp [hl, h]), List.append_nil]

theorem seal_ok (s : ByteArray) (w : World) (hs : s.size ≤ 252) :
    Calls Tryz.prog 74 #[.string s] w fun e w' => e = .returned (.tuple #[.string (page (padTo s 252)), .int .i64 0]) ∧ Chg No w w' := by
  have h1 := padTo_size s 252 hs
  have h2 := padTo_size (padTo s 252) 256 (by omega)
  have hr := crc_range (padTo s 252).data.toList
  have hp : page (padTo s 252) = ⟨(splice (padTo (padTo s 252) 256).data.toList 252 (le4 (crc (padTo s 252).data.toList))).toArray⟩ := by
    rw [splice_page _ h1 _ rfl]; rfl
  rw [hp]
  clear hp
  have H1 := Lib.hid h1
  have H2 := Lib.hid h2
  clear h1 h2
  generalize hc : padTo s 252 = c at *
  generalize hd : padTo c 256 = d at *
  generalize hx : crc c.data.toList = x at *
  have HC := Lib.hid hc
  have HD := Lib.hid hd
  have HX := Lib.hid hx
  clear hc hd hx
  obtain ⟨r0, r1⟩ := hr
  go_enter Tryz.func74, Tryz.ntmps74
  go_wp2_with fail
  refine (fpad_ok s 252 _ (by omega) (by omega)).mono ?_
  rintro e w1 ⟨rfl, hch1⟩
  rw [show padTo s (252 : Int).toNat = c from HC.out]
  go_wp2_with fail
  refine (fpad_ok c 256 _ (by rw [H1.out]; omega) (by omega)).mono ?_
  rintro e w2 ⟨rfl, hch2⟩
  rw [show padTo c (256 : Int).toNat = d from HD.out]
  go_wp2_with fail
  refine (of_ok c _ (by rw [H1.out]; omega)).mono ?_
  rintro e w3 ⟨rfl, hch3⟩
  rw [HX.out]
  go_wp2_with fail
  refine (fput4_ok d 252 x _ (by rw [H2.out]; omega) (by rw [H2.out]; omega) r0 r1).mono ?_
  rintro e w4 ⟨rfl, hch4⟩
  go_wp2
  go_ret2
  exact ⟨rfl, ((hch1.then hch2).then hch3).then hch4⟩

theorem seal_big (s : ByteArray) (w : World) (hs : 252 < s.size) (hs' : s.size ≤ 140737488351232) :
    Calls Tryz.prog 74 #[.string s] w fun e w' => e = .returned (.tuple #[.string ByteArray.empty, .int .i64 2]) ∧ w = w' := by
  go_enter Tryz.func74, Tryz.ntmps74
  go_wp2
  go_ret2
  exact ⟨rfl, rfl⟩

theorem page_head (c : ByteArray) (h : c.size = 252) : (page c).extract 0 252 = c := by
  have hl : c.data.toList.length = 252 := by simpa using h
  apply ByteArray.ext
  apply Array.toList_inj.1
  simp [page, ← h]
theorem le4_length (x : Int) : (le4 x).length = 4 := rfl
theorem le4_four (x : Int) (h0 : 0 ≤ x) (h1 : x < 4294967296) (a b c d : UInt8) (h : le4 x = [a, b, c, d]) : four a.toNat b.toNat c.toNat d.toNat = x := by
  rw [four_eq _ _ _ _ (UInt8.toNat_lt _) (UInt8.toNat_lt _) (UInt8.toNat_lt _) (UInt8.toNat_lt _)]
  have b0 := byte_of (x % 256) (by omega) (by omega)
  have b1 := byte_of (x / 256 % 256) (by omega) (by omega)
  have b2 := byte_of (x / 65536 % 256) (by omega) (by omega)
  have b3 := byte_of (x / 16777216) (by omega) (by omega)
  unfold le4 at h
  injection h with e0 h; injection h with e1 h; injection h with e2 h; injection h with e3 h
  rw [e0] at b0; rw [e1] at b1; rw [e2] at b2; rw [e3] at b3
  omega
theorem list4 {α : Type} (l : List α) (h : l.length = 4) : l = [l[0], l[1], l[2], l[3]] := by
  match l, h with
  | [a, b, c, d], _ => rfl
theorem page_num (c : ByteArray) (h : c.size = 252) (h0 : 252 < (page c).size) (h1 : 253 < (page c).size) (h2 : 254 < (page c).size) (h3 : 255 < (page c).size) :
    four (page c)[252].toNat (page c)[253].toNat (page c)[254].toNat (page c)[255].toNat = crc c.data.toList := by
  have hl : c.data.toList.length = 252 := by simpa using h
  have hr := crc_range c.data.toList
  have e : ∀ (k : Nat) (hk : 252 + k < (page c).size) (hk4 : k < (le4 (crc c.data.toList)).length), (page c)[252 + k] = (le4 (crc c.data.toList))[k] := by
    intro k hk hk4
    have hlen : 252 + k < (c.data.toList ++ le4 (crc c.data.toList)).length := by rw [List.length_append, hl]; exact Nat.add_lt_add_left hk4 252
    refine (page_get c _ hk hlen).trans ?_
    rw [List.getElem_append_right (by omega)]
    congr 1; omega
  have h4 := le4_length (crc c.data.toList)
  refine le4_four _ hr.1 hr.2 _ _ _ _ ((list4 _ h4).trans ?_)
  rw [← e 0 h0 (by rw [h4]; omega), ← e 1 h1 (by rw [h4]; omega), ← e 2 h2 (by rw [h4]; omega), ← e 3 h3 (by rw [h4]; omega)]

theorem open_ok (c : ByteArray) (w : World) (hc : c.size = 252) :
    Calls Tryz.prog 62 #[.string (page c)] w fun e w' => e = .returned (.tuple #[.string c, .int .i64 0]) ∧ Chg No w w' := by
  have hsz := page_size c
  rw [hc] at hsz
  have hx := page_head c hc
  have hn := page_num c hc (by omega) (by omega) (by omega) (by omega)
  have hr := crc_range c.data.toList
  have hg := fget4_ok (page c) 252 w (by omega) (by omega)
  have ho := of_ok c w (by omega)
  simp only [hn] at hg
  have HC := Lib.hid hc
  clear hc hn
  generalize page c = p at *
  generalize crc c.data.toList = x at *
  obtain ⟨r0, r1⟩ := hr
  have HG := Lib.hid hg
  have HO := Lib.hid ho
  clear hg ho
  go_enter Tryz.func62, Tryz.ntmps62
  go_wp2_with fail
  refine HG.out.mono ?_
  rintro e w1 ⟨rfl, rfl⟩
  go_wp2_with fail
  --DBG
  refine HO.out.mono ?_
  rintro e w1 ⟨rfl, hch⟩
  go_wp2
  go_ret2
  exact ⟨rfl, hch⟩
end Go.Proofs.YtniijkcncpabaaaGreat
