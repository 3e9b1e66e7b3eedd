/-
  The document's Same of matchers that are alike; the walks through MatchPrints and MatchParses.
-/
import Derived.Test.YtamdkmcdleilpaaRefMParse
namespace Go.Proofs.Ytamdkmcdleilpaa
open Go.RowKit

def ARel (ms : List Mat) (w : World) (i : Value) (wr : World) : Prop := ∃ k : Nat, k ≤ ms.length ∧ i = .int .i64 k ∧ Below w.heap.size w wr
def BRel (ss : List Bytes) (w : World) (i : Value) (wr : World) : Prop := ∃ j : Nat, j ≤ ss.length ∧ i = .int .i64 j ∧ Below w.heap.size w wr

set_option maxRecDepth 100000 in
set_option maxHeartbeats 4000000 in
theorem msame_any (v u : Value) (ms : List Mat) (w : World) (hv : Matchers w v ms) (hu : Matchers w u ms) :
    Calls Try.prog 47 #[v, u] w fun e w' => e = .returned (.bool true) ∧ Below w.heap.size w w' := by
  have HV := Lib.hid hv
  have HU := Lib.hid hu
  obtain ⟨a, cap, rfl, h1, h2, -⟩ := hv
  obtain ⟨a', cap', rfl, h1', h2', -⟩ := hu
  have HS0 := Lib.hid (show ARel ms w (.int .i64 0) w from ⟨0, Nat.zero_le _, rfl, Below.refl _ _⟩)
  go_enter Try.func47, Try.ntmps47
  go_wp2_with fail
  go_loopw [5] (fun i wr => ARel ms w i wr) (fun i wr => ms.length - (intOf i).toNat)
  case atStart => exact HS0.out
  case round =>
    clear HS0
    obtain ⟨k, hk, rfl, hb0⟩ := hrel
    have HB1 := Lib.hid hb0
    clear hb0
    by_cases hlt : k < ms.length
    · obtain ⟨b, off, p, rfl, hb, hc0, hc1, hc2, hc3, hss⟩ := (HV.out.below HB1.out).at_ hlt
      obtain ⟨b', off', q, rfl, hb', hd0, hd1, hd2, hd3, hss'⟩ := (HU.out.below HB1.out).at_ hlt
      have HSV := Lib.hid (fun wq (hb : Below w.heap.size w wq) => (HV.out.below hb).at_ hlt)
      have HP := Lib.hid hss
      have HQ := Lib.hid hss'
      clear hss hss' HSV
      generalize ms.getD k noMat = m at *
      obtain ⟨kd, n, x, ss⟩ := m
      simp only at hc0 hc1 hc2 hd0 hd1 hd2 HP HQ
      obtain ⟨pa, pc, hp, hpl, hpc, -⟩ := HP.out
      obtain ⟨qa, qc, hq, hql, hqc, -⟩ := HQ.out
      subst hp hq
      have hj0 : (0 : Int) ≤ (k : Int) := by omega
      have hj1 : (k : Int) < (ms.length : Int) := by omega
      have e0 : (kd != kd) = false := by simp
      have e1 : (n != n) = false := by simp
      have e2 : (x != x) = false := by simp
      have e3 : ((ss.length : Int) != (ss.length : Int)) = false := by simp
      have HBd := Lib.hid (fun n => show BRel ss wr (.int .i64 0) (wr.drewN n) from ⟨0, Nat.zero_le _, rfl, belowN' (Below.refl _ _) n⟩)
      have HC3 := Lib.hid hc3
      have HD3 := Lib.hid hd3
      go_wp2_with fail
      go_quiet (fail)
      go_wp2_with fail
      clear hc0 hc1 hc2 hc3 hd0 hd1 hd2 hd3
      go_loopw [6] (fun i wq => BRel ss wr i wq) (fun i _ => ss.length - (intOf i).toNat)
      case atStart => exact HBd.out _
      case round =>
        clear HBd
        obtain ⟨j, hj, rfl, hbq⟩ := hrel
        have HBq := Lib.hid hbq
        have hc3 := (hbq.cell (p := ⟨b, off + k * 4 + 3, none⟩) hb).trans HC3.out
        have hd3 := (hbq.cell (p := ⟨b', off' + k * 4 + 3, none⟩) hb').trans HD3.out
        have HBw := Lib.hid (HB1.out.trans (hbq.mono HB1.out.size))
        clear hbq
        by_cases hjl : j < ss.length
        · obtain ⟨b2, off2, rfl, hb2, hcs⟩ := (HP.out.below HBq.out).at_ hjl
          obtain ⟨b3, off3, rfl, hb3, hds⟩ := (HQ.out.below HBq.out).at_ hjl
          generalize ss.getD j [] = y at *
          have hi0 : (0 : Int) ≤ (j : Int) := by omega
          have hi1 : (j : Int) < (ss.length : Int) := by omega
          have e4 : (y != y) = false := by simp
          have HBn := Lib.hid (fun n => belowN' HBq.out n)
          go_wp2_with fail
          go_quiet (fail)
          go_wp2_with fail
          exact ⟨⟨j + 1, by omega, by go_num, HBn.out _⟩, by simp [intOf]; omega⟩
        · go_wp2_with fail
          exact ⟨⟨k + 1, by omega, by go_num, HBw.out⟩, by simp [intOf]; omega⟩
    · go_wp2_with fail
      go_ret
      exact ⟨rfl, HB1.out⟩

end Go.Proofs.Ytamdkmcdleilpaa
