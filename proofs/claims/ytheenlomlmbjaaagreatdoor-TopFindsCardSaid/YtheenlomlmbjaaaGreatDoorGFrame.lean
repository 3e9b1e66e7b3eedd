/-
  frame.Crc, frame.Frame: a text with its sum, whatever it is.
-/
import Derived.Test.YtheenlomlmbjaaaGreatDoorGBlock
import Derived.Test.YtheenlomlmbjaaaGreatDoorGInt
import Derived.Outline
import Derived.Deep.DrawnRows
import Derived.Laws.BitsAllLaws
set_option linter.unusedSimpArgs false
set_option linter.unusedVariables false
namespace Go.Proofs.YtheenlomlmbjaaaGreatDoor
open Go.RowKit Go.Maps

def StepsOk (w : World) (g : Nat) : Prop := ∀ i, i < 16 → ∃ v : Nat, v < 65536 ∧ w.cell? ⟨g, i, none⟩ = some (.int .u16 v)

theorem xor16 (a b : Int) (ha : 0 ≤ a) (ha1 : a < 65536) (hb : 0 ≤ b) (hb1 : b < 65536) : ∃ n : Nat, bits .xor .u16 a b = n ∧ n < 65536 :=
  ⟨_, u16_xor a b ha ha1 hb hb1, Nat.xor_lt_two_pow (n := 16) (by omega) (by omega)⟩
theorem xor4 (a b : Int) (ha : 0 ≤ a) (ha1 : a < 16) (hb : 0 ≤ b) (hb1 : b < 16) : ∃ n : Nat, bits .xor .u16 a b = n ∧ n < 16 :=
  ⟨_, u16_xor a b ha (by omega) hb (by omega), Nat.xor_lt_two_pow (n := 4) (by omega) (by omega)⟩
theorem and15 (b : Int) (hb : 0 ≤ b) (hb1 : b < 256) : ∃ n : Nat, bits .and .u8 b 15 = n ∧ n < 16 :=
  ⟨_, u8_and b 15 hb hb1 (by omega) (by omega), Nat.and_lt_two_pow _ (n := 4) (by decide)⟩
theorem wrap16 (c : Nat) : ∃ n : Nat, IntKind.u16.wrap ((c : Int) * 16) = n ∧ n < 65536 := by
  rw [IntKind.wrap_u16]
  exact ⟨((c : Int) * 16 % 65536).toNat, by omega, by omega⟩
theorem StepsOk.below {B : Nat} {w w' : World} {g : Nat} (h : StepsOk w g) (hb : Below B w w') (hg : g < B) : StepsOk w' g := fun i hi => by
  obtain ⟨v, h1, h2⟩ := h i hi
  exact ⟨v, h1, (hb.cell (p := ⟨g, i, none⟩) hg).trans h2⟩

set_option maxRecDepth 100000 in
set_option maxHeartbeats 2000000 in
theorem crc_any (s : Bytes) (w : World) (hst : StepsOk w 0) (hw : 0 < w.heap.size) (hl : s.length ≤ 1000000000) :
    Calls Tryz.prog 138 #[.string (bs s)] w fun e w' => ∃ c : Nat, e = .returned (.int .i64 c) ∧ c < 65536 ∧ Below w.heap.size w w' := by
  have hcv := bytesOf_run s
  have HST := Lib.hid hst
  have HW := Lib.hid hw
  have HB := Lib.hid (show Below w.heap.size w (w.alloc (rowB w s)).drew from ((Below.refl _ _).alloc (Nat.le_refl _) _).drew)
  have HX := Lib.hid (show (w.alloc (rowB w s)).drew.heap[w.heap.size]? = some (rowB w s) from heap_alloc_new w (rowB w s))
  have HR := Lib.hid (fun (w' : World) (h : w'.heap[w.heap.size]? = some (rowB w s)) i (hi : i < s.length) => rowB_cell h hi)
  clear hst hw
  go_enter Tryz.func138, Tryz.ntmps138
  go_wp2_with fail
  clear hcv
  generalize hcap : capB w s = cap
  generalize (w.alloc (rowB w s)).drew = W at HB HX ⊢
  have HS := Lib.hid (HST.out.below HB.out HW.out)
  go_loopw [3, 9] (fun x y wr => ∃ c k : Nat, x = .int .u16 c ∧ c < 65536 ∧ y = .int .i64 k ∧ k ≤ s.length ∧ wr = W) (fun x y _ => s.length - (intOf y).toNat)
  case atStart => exact ⟨65535, 0, rfl, by omega, rfl, Nat.zero_le _, rfl⟩
  case round =>
    obtain ⟨c, k, rfl, hc, rfl, hk, rfl⟩ := hrel
    by_cases hlt : k < s.length
    · have c0 := HR.out _ HX.out k hlt
      obtain ⟨b, hb⟩ : ∃ b, b = (byteAt s k).toNat := ⟨_, rfl⟩
      rw [← hb] at c0
      have hb1 : b ≤ 255 := by rw [hb]; have := (byteAt s k).toNat_lt; omega
      clear hb
      have hc' : (c : Int) ≤ 65535 := by omega
      have hc0 : (0 : Int) ≤ (c : Int) := by omega
      have hb0 : (0 : Int) ≤ (b : Int) := by omega
      have hb2 : (b : Int) ≤ 255 := by omega
      have hk9 : s.length ≤ 9223372036854775807 := by omega
      obtain ⟨i1, hx1, hi1⟩ := xor4 ((c : Int) / 4096) ((b : Int) / 16) (by omega) (by omega) (by omega) (by omega)
      obtain ⟨v1, hv1, s1⟩ := HS.out i1 hi1
      obtain ⟨q1, hq1, hq2⟩ := wrap16 c
      obtain ⟨c1, hx2, hc1⟩ := xor16 (q1 : Int) (v1 : Int) (by omega) (by omega) (by omega) (by omega)
      obtain ⟨d, hx3, hd3⟩ := and15 (b : Int) (by omega) (by omega)
      obtain ⟨i2, hx4, hi2⟩ := xor4 ((c1 : Int) / 4096) (d : Int) (by omega) (by omega) (by omega) (by omega)
      obtain ⟨v2, hv2, s2⟩ := HS.out i2 hi2
      obtain ⟨q2, hq3, hq4⟩ := wrap16 c1
      obtain ⟨c2, hx5, hc2⟩ := xor16 (q2 : Int) (v2 : Int) (by omega) (by omega) (by omega) (by omega)
      have hc1' : (c1 : Int) ≤ 65535 := by omega
      have hi1' : (i1 : Int) < 16 := by omega
      have hi2' : (i2 : Int) < 16 := by omega
      go_wp2_with fail
      go_roundw
      case rel => exact ⟨c2, k + 1, rfl, hc2, by go_num, by omega, trivial⟩
      case measure => simp [intOf]; omega
    · have hke : k = s.length := by omega
      subst hke
      go_wp2_with fail
      go_ret
      exact ⟨c, rfl, hc, HB.out⟩

set_option maxRecDepth 100000 in
theorem textG_any (l : Bytes) (w : World) (hl : l.length ≤ 1000000000) :
    Calls Tryz.prog 40 #[.string (bs l)] w fun e w' => e = .returned (.string (bs (uintL l.length ++ l))) ∧ Below w.heap.size w w' := by
  have hb := uintL_len10 (n := l.length) (by omega)
  go_enter Tryz.func40, Tryz.ntmps40
  go_wp2_with fail
  refine (uint_any l.length _ (by omega)).mono ?_
  rintro e w1 ⟨rfl, hb1⟩
  have HB := Lib.hid hb1
  clear hb1
  go_wp2_with fail
  go_ret
  exact ⟨rfl, HB.out⟩

theorem cv2G {w : World} {K : Nat} {x y : Int} (h : w.heap[K]? = some (.cells #[.int .u8 x, .int .u8 y] 5 (0, 0))) :
    (convert 22 9 (.slice (some ⟨K, 0, none⟩) 2 2)).run Tryz.prog w = .ok (.string (bs [UInt8.ofNat x.toNat, UInt8.ofNat y.toNat])) w := by
  rw [run_convert_bytes_string w _ _ 5 _ _ _ Tryz.underlying22 Tryz.underlying5 Tryz.underlying9, run_bytesToString w ⟨K, 0, none⟩ 2 2 [x, y] ?_]
  · rfl
  · exact run_loadCells_list w ⟨K, 0, none⟩ [.int .u8 x, .int .u8 y] (fun j u hj => by
      have hadd : (⟨K, 0, none⟩ : Addr).add j = ⟨K, j, none⟩ := by unfold Addr.add; split <;> simp_all
      rw [hadd, Lib.cell_of_heap h]
      match j, hj with
      | 0, hj => simp at hj; subst hj; rfl
      | 1, hj => simp at hj; subst hj; rfl
      | j + 2, hj => simp at hj)
end Go.Proofs.YtheenlomlmbjaaaGreatDoor
