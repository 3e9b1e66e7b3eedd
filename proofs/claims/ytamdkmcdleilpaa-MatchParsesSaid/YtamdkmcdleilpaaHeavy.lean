/-
  The bound of matchers: 'heavy'.
-/
import Derived.Test.YtamdkmcdleilpaaRefOne
import Derived.Test.YtamdkmcdleilpaaChk
namespace Go.Proofs.Ytamdkmcdleilpaa
open Go.RowKit

def sl (ss : List Bytes) : Nat := (ss.map List.length).sum
def wm (ms : List Mat) : Nat := (ms.map fun m => m.n.length + m.x.length + m.ss.length + sl m.ss).sum
theorem sl_succ {ss : List Bytes} {k : Nat} (h : k < ss.length) : sl (ss.take (k + 1)) = sl (ss.take k) + (ss.getD k []).length := by
  have e : ss.take (k + 1) = ss.take k ++ [ss.getD k []] := by
    rw [List.take_add_one, List.getElem?_eq_getElem h]; simp [List.getD, List.getElem?_eq_getElem h]
  unfold sl
  rw [e, List.map_append, List.sum_append]
  rfl
theorem wm_succ {ms : List Mat} {k : Nat} (h : k < ms.length) : wm (ms.take (k + 1)) = wm (ms.take k) + ((ms.getD k noMat).n.length + (ms.getD k noMat).x.length + (ms.getD k noMat).ss.length + sl (ms.getD k noMat).ss) := by
  have e : ms.take (k + 1) = ms.take k ++ [ms.getD k noMat] := by
    rw [List.take_add_one, List.getElem?_eq_getElem h]; simp [List.getD, List.getElem?_eq_getElem h]
  unfold wm
  rw [e, List.map_append, List.sum_append]
  rfl
theorem wm_mem {ms : List Mat} {m : Mat} (h : m ∈ ms) : m.n.length + m.x.length + m.ss.length + sl m.ss ≤ wm ms := by
  induction ms with
  | nil => cases h
  | cons y r ih =>
    have e : wm (y :: r) = (y.n.length + y.x.length + y.ss.length + sl y.ss) + wm r := by simp [wm]
    rcases List.mem_cons.1 h with rfl | h
    · omega
    · have := ih h; omega

set_option maxRecDepth 100000 in
set_option maxHeartbeats 2000000 in
theorem heavy5_any (v : Value) (ms : List Mat) (w : World) (hv : Matchers w v ms) :
    Calls Try.prog 28 #[v] w (Tells (ms.length + wm ms ≤ 2048) w) := by
  have HV := Lib.hid ((St.start w).add (fun w' => Matchers w' v ms) (fun w' hb => hv.below hb))
  obtain ⟨a, cap, rfl, h1, h2, -⟩ := hv
  have hmin := min20
  have b0 := cap20_bd ms.length
  have H0 := Lib.hid (fun h => cap20_is (n := ms.length) h)
  go_enter Try.func28, Try.ntmps28
  go_wp2_with fail
  go_loopw [3, 4, 5] (fun n i j wr => ∃ (k : Nat) (t : Int), k ≤ ms.length ∧ i = .int .i64 k ∧ n = .int .i64 t ∧ 0 ≤ t ∧ t ≤ 5000000 ∧ (t ≤ 2048 → (ms.length : Int) + (wm (ms.take k) : Int) ≤ t) ∧ St w wr [fun w' => Matchers w' (.slice a ms.length cap) ms])
    (fun _ i _ _ => ms.length - (intOf i).toNat)
  case atStart => exact ⟨0, _, Nat.zero_le _, rfl, rfl, b0.1, by omega, fun h => by rw [H0.out h]; simp [wm], HV.out⟩
  case round =>
    obtain ⟨k, t, hk, rfl, rfl, ht0, ht, hg, hbl⟩ := hrel
    have HG := Lib.hid hg
    have HB := Lib.hid hbl
    clear hg hbl b0
    by_cases hlt : k < ms.length
    · by_cases ht2 : t ≤ 2048
      · obtain ⟨b, off, u, rfl, hb, hc0, hc1, hc2, hc3, hs⟩ := (HB.out.get 0 rfl).at_ hlt
        have HW := Lib.hid (wm_succ hlt)
        have HX := Lib.hid (HB.out.add (fun w' => w'.cell? ⟨b, off + k * 4 + 3, none⟩ = some u ∧ Strs w' u (ms.getD k noMat).ss) (fun w' hb' => ⟨(hb'.cell (p := ⟨b, off + k * 4 + 3, none⟩) hb).trans hc3, hs.below hb'⟩))
        generalize ms.getD k noMat = m at *
        obtain ⟨ua, uc, rfl, hu1, hu2, -⟩ := hs
        have b1 := cap20_bd m.n.length
        have b2 := cap20_bd m.x.length
        have b3 := cap20_bd m.ss.length
        obtain ⟨t1, ht1⟩ : ∃ t1, t1 = t + (cap20 m.n.length + cap20 m.x.length + cap20 m.ss.length) := ⟨_, rfl⟩
        have HT := Lib.hid ht1
        have HE := Lib.hid (show t1 ≤ 2048 → (ms.length : Int) + (wm (ms.take k) : Int) + (m.n.length + m.x.length + m.ss.length : Nat) ≤ t1 from fun h => by
          have g := HG.out ht2
          have k1 := cap20_is (n := m.n.length) (by omega)
          have k2 := cap20_is (n := m.x.length) (by omega)
          have k3 := cap20_is (n := m.ss.length) (by omega)
          omega)
        have ht11 : 0 ≤ t1 := by omega
        have ht12 : t1 ≤ 4000000 := by omega
        clear ht1
        go_wp2_with fail
        go_quiet (fail)
        go_wp2_with fail
        go_loopw [3, 5] (fun n j wq => ∃ (i : Nat) (s : Int), i ≤ m.ss.length ∧ j = .int .i64 i ∧ n = .int .i64 s ∧ 0 ≤ s ∧ s ≤ 4000000 ∧ (s ≤ 2048 → (ms.length : Int) + (wm (ms.take k) : Int) + (m.n.length + m.x.length + m.ss.length : Nat) + (sl (m.ss.take i) : Int) ≤ s) ∧ St w wq [fun w' => w'.cell? ⟨b, off + k * 4 + 3, none⟩ = some (.slice ua m.ss.length uc) ∧ Strs w' (.slice ua m.ss.length uc) m.ss, fun w' => Matchers w' (.slice (some ⟨b, off, none⟩) ms.length cap) ms])
          (fun _ j _ => m.ss.length - (intOf j).toNat)
        case atStart => exact ⟨0, t1, Nat.zero_le _, rfl, by rw [HT.out], ht11, ht12, fun h => by have := HE.out h; simp [sl]; omega, HX.out.drew _⟩
        case round =>
          clear hc0 hc1 hc2 hc3 b1 b2 b3 ht11 ht12
          obtain ⟨i, s, hi, rfl, rfl, hs0, hs1, hgi, hst⟩ := hrel
          have HGI := Lib.hid hgi
          have HST := Lib.hid hst
          clear hgi hst
          have hq := (HST.out.get 0 rfl).1
          by_cases hil : i < m.ss.length
          · by_cases hs2 : s ≤ 2048
            · obtain ⟨b2, off2, rfl, hb2, hcs⟩ := (HST.out.get 0 rfl).2.at_ hil
              have HSL := Lib.hid (sl_succ hil)
              generalize m.ss.getD i [] = y at *
              have b4 := cap20_bd y.length
              have HEI := Lib.hid (show s + cap20 y.length ≤ 2048 → (ms.length : Int) + (wm (ms.take k) : Int) + (m.n.length + m.x.length + m.ss.length : Nat) + (sl (m.ss.take (i + 1)) : Int) ≤ s + cap20 y.length from fun h => by
                have g := HGI.out hs2
                rw [HSL.out]
                have k1 := cap20_is (n := y.length) (by omega)
                omega)
              go_wp2_with fail
              go_roundw
              case rel => exact ⟨i + 1, _, by omega, by go_num, rfl, by omega, by omega, HEI.out, HST.out⟩
              case measure => simp [intOf]; omega
            · go_wp2_with fail
              go_roundw
              case rel => exact ⟨k + 1, s, by omega, by go_num, rfl, hs0, by omega, fun h => absurd h hs2, HST.out.tl⟩
              case measure => simp [intOf]; omega
          · have HF := Lib.hid (show s ≤ 2048 → (ms.length : Int) + (wm (ms.take (k + 1)) : Int) ≤ s from fun h => by
              have g := HGI.out h
              have he : m.ss.take i = m.ss := List.take_of_length_le (by omega)
              rw [he] at g
              rw [HW.out]; omega)
            by_cases hs2 : s ≤ 2048
            · go_wp2_with fail
              go_roundw
              case rel => exact ⟨k + 1, s, by omega, by go_num, rfl, hs0, by omega, HF.out, HST.out.tl⟩
              case measure => simp [intOf]; omega
            · go_wp2_with fail
              go_roundw
              case rel => exact ⟨k + 1, s, by omega, by go_num, rfl, hs0, by omega, HF.out, HST.out.tl⟩
              case measure => simp [intOf]; omega
      · go_wp2_with fail
        go_ret
        exact ⟨_, rfl, fun h => by simp at h, HB.out.bel⟩
    · by_cases ht2 : t ≤ 2048
      · have HE := Lib.hid (show ms.length + wm ms ≤ 2048 by
          have g := HG.out ht2
          rw [List.take_of_length_le (by omega)] at g; omega)
        go_wp2_with fail
        go_ret
        exact ⟨_, rfl, fun _ => HE.out, HB.out.bel⟩
      · go_wp2_with fail
        go_ret
        exact ⟨_, rfl, fun h => by simp at h, HB.out.bel⟩

end Go.Proofs.Ytamdkmcdleilpaa
