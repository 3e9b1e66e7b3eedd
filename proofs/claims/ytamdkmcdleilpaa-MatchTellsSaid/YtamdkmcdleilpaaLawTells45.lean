/-
  MatchTells: whether any matchers may be, and which labels they match, is the document's.
-/
import Derived.Test.YtamdkmcdleilpaaHeavy
import Derived.Test.YtamdkmcdleilpaaMChkRef
import Derived.Test.YtamdkmcdleilpaaLawApart
namespace Go.Proofs.Ytamdkmcdleilpaa
open Go.RowKit

theorem keep4o {b o : Nat} {c0 c1 c2 c3 : Value} {w w' : World} (h : w.cell? ⟨b, o, none⟩ = some c0 ∧ w.cell? ⟨b, o + 1, none⟩ = some c1 ∧ w.cell? ⟨b, o + 2, none⟩ = some c2 ∧ w.cell? ⟨b, o + 3, none⟩ = some c3) (hb : Below w.heap.size w w') :
    w'.cell? ⟨b, o, none⟩ = some c0 ∧ w'.cell? ⟨b, o + 1, none⟩ = some c1 ∧ w'.cell? ⟨b, o + 2, none⟩ = some c2 ∧ w'.cell? ⟨b, o + 3, none⟩ = some c3 := by
  have hlt : b < w.heap.size := World.block_lt_of_cell? w _ h.1
  exact ⟨(hb.cell (p := ⟨b, o, none⟩) hlt).trans h.1, (hb.cell (p := ⟨b, o + 1, none⟩) hlt).trans h.2.1, (hb.cell (p := ⟨b, o + 2, none⟩) hlt).trans h.2.2.1, (hb.cell (p := ⟨b, o + 3, none⟩) hlt).trans h.2.2.2⟩

set_option maxRecDepth 100000 in
set_option maxHeartbeats 4000000 in
attribute [local go_sem ↓] Go.wp_at_zero Go.wp_at_succ in
theorem mtells_walk (vm v : Value) (ms : List Mat) (ls : List Lab) (w : World) (hm : Matchers w vm ms) (hv : Labels w v ls) :
    Calls Try.prog 8 #[vm, v] w fun e w' => e = .returned (.bool true) ∧ Below w.heap.size w w' := by
  have HS := Lib.hid (((St.start w).add (fun w => Labels w v ls) (fun w' hb => hv.below hb)).add (fun w => Matchers w vm ms) (fun w' hb => hm.below hb))
  obtain ⟨a, cap, rfl, p1, p2, -⟩ := hv
  obtain ⟨ma, mc, rfl, q1, q2, -⟩ := hm
  go_enter Try.func8, Try.ntmps8
  go_wp2_with fail
  refine (heavy5_any _ ms _ (HS.out.get 0 rfl)).mono ?_
  rintro e w1 ⟨bb, rfl, hsm, hb⟩
  have HS1 := Lib.hid (HS.out.step hb)
  clear hb
  cases bb with
  | true =>
    clear hsm
    go_wp2_with fail
    go_ret
    exact ⟨rfl, HS1.out.bel⟩
  | false =>
    have hsm1 := hsm rfl
    clear hsm
    go_wp2_with fail
    refine (large_any _ ls _ (HS1.out.get 1 rfl)).mono ?_
    rintro e w2 ⟨bb, rfl, hsm, hb⟩
    have HS2 := Lib.hid (HS1.out.step hb)
    clear hb
    cases bb with
    | true =>
      clear hsm
      go_wp2_with fail
      go_ret
      exact ⟨rfl, HS2.out.bel⟩
    | false =>
      have hsm2 := hsm rfl
      have HX := Lib.hid (show ∀ m ∈ ms, m.x.length ≤ 1000000000000 from fun m h => by have := wm_mem h; omega)
      have HW := Lib.hid (show ∀ n, (getL ls n).length ≤ 1000000000000 from fun n => by have := getL_len ls n; omega)
      have HWT := Lib.hid (show wt ls ≤ 1000000000000 by omega)
      have h3 : ms.length ≤ 2048 := by omega
      clear hsm hsm1 hsm2
      go_wp2_with fail
      go_loopw [5] (fun i wr => ∃ k : Nat, k ≤ ms.length ∧ i = .int .i64 k ∧ St w wr [fun w => Matchers w (.slice ma ms.length mc) ms, fun w => Labels w (.slice a ls.length cap) ls])
        (fun i _ => ms.length - (intOf i).toNat)
      case atStart => exact ⟨0, Nat.zero_le _, rfl, HS2.out⟩
      case round =>
        clear HS1 HS2 HS
        obtain ⟨k, hk, rfl, hst⟩ := hrel
        have HS := Lib.hid hst
        clear hst
        by_cases hlt : k < ms.length
        · obtain ⟨b, off, u, rfl, hb, c1, c2, c3, c4, hu⟩ := (HS.out.get 0 rfl).at_ hlt
          have HD := Lib.hid ((HS.out.add (fun w' => Strs w' u (ms.getD k noMat).ss) (fun w' hb' => hu.below hb')).step ((Below.refl wr.heap.size wr).drew))
          have HXX := Lib.hid (HX.out _ (mem_mat hlt))
          clear hu
          generalize ms.getD k noMat = m at *
          go_wp2_with fail
          go_region_held3 (fun w' => w'.cell? ⟨b, off + k * 4, none⟩ = some (.int .i64 m.k) ∧ w'.cell? ⟨b, off + k * 4 + 1, none⟩ = some (.string (bs m.n)) ∧ w'.cell? ⟨b, off + k * 4 + 2, none⟩ = some (.string (bs m.x)) ∧ w'.cell? ⟨b, off + k * 4 + 3, none⟩ = some u)
            (first | exact keep4o (by assumption) hb4 | exact keep4o (by assumption) hb3 | exact keep4o (by assumption) hb2 | exact keep4o (by assumption) hb1 | go_keep)
            (first
              | (go_at_call 29; refine (mcheck_any m.k m.n m.x u m.ss _ (HD.out.get 0 rfl)).mono ?_; rintro e w1 ⟨rfl, hb1⟩)
              | (go_at_call 30; refine (mref_any m.k m.n m.x u m.ss _ ((HD.out.step hb1).get 0 rfl)).mono ?_; rintro e w2 ⟨rfl, hb2⟩)
              | (go_at_call 17; refine (one_any m.k m.n m.x u _ m.ss ls _ (((HD.out.step hb1).step hb2).get 2 rfl) (((HD.out.step hb1).step hb2).get 0 rfl) HXX.out (HW.out _)).mono ?_; rintro e w3 ⟨rfl, hb3⟩)
              | (go_at_call 19; refine (refOne_any m.k m.n m.x u _ m.ss ls _ ((((HD.out.step hb1).step hb2).step hb3).get 2 rfl) ((((HD.out.step hb1).step hb2).step hb3).get 0 rfl) HXX.out (HW.out _)).mono ?_; rintro e w4 ⟨rfl, hb4⟩))
          all_goals
            (go_wp2_with fail
             go_roundw
             case rel => exact ⟨k + 1, by omega, by go_num, ((((HD.out.step hb1).step hb2).step hb3).step hb4).tl⟩
             case measure => simp [intOf]; omega)
        · go_wp2_with fail
          refine (all_any _ _ ms ls _ (HS.out.get 0 rfl) (HS.out.get 1 rfl) HX.out HWT.out).mono ?_
          rintro e w3 ⟨rfl, hb⟩
          have HS3 := Lib.hid (HS.out.step hb)
          clear hb
          go_wp2_with fail
          refine (refAll_any _ _ ms ls _ (HS3.out.get 0 rfl) (HS3.out.get 1 rfl) HX.out HWT.out).mono ?_
          rintro e w4 ⟨rfl, hb⟩
          have HS4 := Lib.hid (HS3.out.step hb)
          clear hb
          go_wp2_with fail
          refine (all_any _ _ [] ls _ (Matchers.nil _) (HS4.out.get 1 rfl) (by simp) HWT.out).mono ?_
          rintro e w5 ⟨rfl, hb⟩
          have HS5 := Lib.hid (HS4.out.step hb)
          clear hb
          go_wp2_with fail
          go_ret
          exact ⟨rfl, HS5.out.bel⟩

end Go.Proofs.Ytamdkmcdleilpaa
