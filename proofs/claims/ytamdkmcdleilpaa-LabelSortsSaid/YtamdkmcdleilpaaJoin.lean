/-
  strings.Join of two texts or more, by a separator of one byte.
-/
import Derived.Test.YtamdkmcdleilpaaJoin1
namespace Go.Proofs.Ytamdkmcdleilpaa
open Go.RowKit

def joinB (sep : Bytes) : List Bytes → Bytes
  | [] => []
  | x :: r => x ++ r.flatMap fun y => sep ++ y
def lens (l : List Bytes) : Nat := (l.map List.length).sum
theorem lens_take {l : List Bytes} {k : Nat} (h : k < l.length) : lens (l.take (k + 1)) = lens (l.take k) + (l.getD k []).length := by
  have e : l.take (k + 1) = l.take k ++ [l.getD k []] := by
    rw [List.take_add_one, List.getElem?_eq_getElem h]; simp [List.getD, List.getElem?_eq_getElem h]
  rw [e]; simp [lens]
theorem lens_le {l : List Bytes} (k : Nat) : lens (l.take k) ≤ lens l := by
  have : lens l = lens (l.take k) + lens (l.drop k) := by unfold lens; rw [← List.sum_append, ← List.map_append, List.take_append_drop]
  omega
theorem len_le {l : List Bytes} {k : Nat} (h : k < l.length) : (l.getD k []).length ≤ lens l := by
  have h1 := lens_take h
  have h2 := lens_le (l := l) (k + 1)
  omega
theorem joinB_take {sep x : Bytes} {r : List Bytes} {k : Nat} (h : k < r.length) : joinB sep (x :: r.take (k + 1)) = joinB sep (x :: r.take k) ++ sep ++ r.getD k [] := by
  have e : r.take (k + 1) = r.take k ++ [r.getD k []] := by
    rw [List.take_add_one, List.getElem?_eq_getElem h]; simp [List.getD, List.getElem?_eq_getElem h]
  simp only [joinB]
  rw [e, List.flatMap_append]; simp
theorem joinB_len {c : UInt8} {x : Bytes} : ∀ r : List Bytes, (joinB [c] (x :: r)).length = x.length + lens r + r.length := by
  intro r
  induction r with
  | nil => simp [joinB, lens]
  | cons y s ih =>
    have : (joinB [c] (x :: y :: s)).length = (joinB [c] (x :: s)).length + 1 + y.length := by simp [joinB]; omega
    rw [this, ih]; simp [lens]; omega

set_option maxRecDepth 100000 in
theorem tail_strs {w : World} {x : Bytes} {l : List Bytes} {b off cap : Nat} (h : Strs w (.slice (some ⟨b, off, none⟩) (l.length + 1) cap) (x :: l)) (hl : 0 < l.length) :
    ∃ cap', (∀ w', (Instr.sliceAt 25 (.slice (some ⟨b, off, none⟩) (l.length + 1) cap) (some (.int .i64 1)) none none).run Try.prog w' = .ok (.slice (some ⟨b, off + 1, none⟩) l.length cap') w') ∧ Strs w (.slice (some ⟨b, off + 1, none⟩) l.length cap') l := by
  obtain ⟨a, c, hv, h1, h2, h3⟩ := h
  obtain ⟨b', off', ha, hb, hc⟩ := h3 (by simp)
  simp only [Value.slice.injEq, List.length_cons] at hv
  obtain ⟨rfl, _, rfl⟩ := hv
  obtain ⟨rfl, rfl⟩ : b = b' ∧ off = off' := by simpa using ha
  simp only [List.length_cons] at h1 hc
  refine ⟨cap - 1, fun w' => ?_, ?_⟩
  · rw [run_sliceAt_slice _ _ _ _ _ _ rfl, run_slice_l _ _ _ _ _ rfl _ _ (by omega) (by omega)]
    have : ¬ cap = 1 := by omega
    show Result.ok (Value.slice (if cap = 1 then some ⟨b, off, none⟩ else (some (⟨b, off, none⟩ : Addr)).map (·.add (1 * 1))) (l.length + 1 - 1) (cap - 1)) w' = _
    rw [if_neg this]
    simp [Addr.add_lit]
  · refine ⟨_, cap - 1, rfl, by omega, by omega, fun _ => ⟨b, off + 1, rfl, hb, fun i hi => ?_⟩⟩
    have := hc (i + 1) (by omega)
    rw [show off + 1 + i = off + (i + 1) by omega, this]
    rfl

set_option maxHeartbeats 2000000 in
set_option maxRecDepth 100000 in
theorem join_more (v : Value) (x y : Bytes) (r : List Bytes) (c : UInt8) (w : World) (hv : Strs w v (x :: y :: r)) (hl : x.length + lens (y :: r) + (y :: r).length ≤ 1000000000) :
    Calls Try.prog 56 #[v, .string (bs [c])] w fun e w' => e = .returned (.string (bs (joinB [c] (x :: y :: r)))) ∧ Below w.heap.size w w' := by
  have HV := Lib.hid hv
  obtain ⟨a, cap, rfl, h1, h2, -⟩ := hv
  have hn2 : (x :: y :: r).length = (y :: r).length + 1 := rfl
  have hlr : 0 < (y :: r).length := by simp
  generalize hls : y :: r = ls at *
  have htot : lens (x :: ls) = x.length + lens ls := by simp [lens]
  obtain ⟨b, off, rfl, hb, hc⟩ := HV.out.at_ (i := 0) (by simp)
  simp only [Nat.add_zero] at hc
  have hc' : w.cell? ⟨b, off, none⟩ = some (.string (bs x)) := hc
  clear hc
  rw [hn2] at HV h1
  obtain ⟨cap', htr, hst⟩ := tail_strs HV.out hlr
  have HT := Lib.hid hst
  have hjl := joinB_len (c := c) (x := x) ls
  have hm : ¬ ((9223372036854775807 : Int) / (ls.length : Int) ≤ 1) := by
    have h2 : (2 : Int) ≤ 9223372036854775807 / (ls.length : Int) := (Int.le_ediv_iff_mul_le (by omega)).2 (by omega)
    omega
  have HFr := Lib.hid (Hb.fresh w)
  have HTr := Lib.hid htr
  clear hst hls htr
  go_enter Try.func56, Try.ntmps56
  go_wp2_with fail
  go_loop [41, 5, 7] (fun i q p => ∃ k : Nat, k ≤ ls.length + 1 ∧ i = .int .i64 k ∧ q = .int .i64 ((ls.length + lens ((x :: ls).take k) : Nat) : Int))
    (fun i q p => ls.length + 1 - (intOf i).toNat)
  case atStart => exact ⟨0, Nat.zero_le _, rfl, rfl⟩
  case round =>
    obtain ⟨k, hk, rfl, rfl⟩ := hrel
    by_cases hlt : k < ls.length + 1
    · obtain ⟨b2, off2, hbb, -, hc2⟩ := HV.out.at_ (i := k) hlt
      obtain ⟨rfl, rfl⟩ : b = b2 ∧ off = off2 := by simpa using hbb
      clear hbb
      have hle := len_le (l := x :: ls) hlt
      have hlt2 := lens_take (l := x :: ls) hlt
      have hle2 := lens_le (l := x :: ls) (k + 1)
      generalize (x :: ls).getD k [] = z at *
      generalize lens ((x :: ls).take k) = s at *
      have hw1 : IntKind.i64.wrap (9223372036854775807 - ((ls.length : Int) + (s : Int))) = 9223372036854775807 - ((ls.length : Int) + (s : Int)) := IntWalk.i64_in _ (by omega)
      go_wp2_with fail
      exact ⟨⟨k + 1, by omega, by go_num, by rw [hlt2]; go_num⟩, by simp [intOf]; omega⟩
    · have hke : k = ls.length + 1 := by omega
      have hall : lens ((x :: ls).take k) = lens (x :: ls) := by rw [hke]; rw [List.take_of_length_le (by simp)]
      rw [hall]
      have HG := Lib.hid (Grow_fresh w.heap.size (ls.length + (x.length + lens ls)) (w.alloc (.cells #[.pointer none, .slice none 0 0] 64)) (heap_alloc_new ..) (by omega))
      rw [show ((ls.length + (x.length + lens ls) : Nat) : Int) = (ls.length : Int) + ((x.length : Int) + (lens ls : Int)) by omega] at HG
      go_wp2_with fail
      refine HG.out.mono ?_
      rintro e w2 ⟨rfl, hh2, hd2⟩
      have HB2 := Lib.hid (show Below w.heap.size w w2 from ((Below.refl _ w).alloc (Nat.le_refl _) _).trans hd2)
      have HH2 := Lib.hid hh2
      have hc2 : w2.cell? ⟨b, off, none⟩ = some (.string (bs x)) := (HB2.out.cell (p := ⟨b, off, none⟩) hb).trans hc'
      clear hh2 hd2 HG hc'
      go_wp2_with fail
      refine (writeString_any x HH2.out (by simp; omega)).mono ?_
      rintro e w3 ⟨rfl, hh3, hd3⟩
      have HH3 := Lib.hid (show Hb w.heap.size (fun _ => none) (joinB [c] (x :: ls.take 0)) w3 by simpa [joinB] using hh3)
      have HB3 := Lib.hid (HB2.out.trans hd3)
      have htr := HTr.out
      clear hh3 hd3 hc2
      go_wp2_with fail
      go_loopw [65, 10] (fun i p wr => ∃ k : Nat, k ≤ ls.length ∧ i = .int .i64 k ∧ Hb w.heap.size (fun _ => none) (joinB [c] (x :: ls.take k)) wr ∧ Below w.heap.size w wr)
        (fun i p wr => ls.length - (intOf i).toNat)
      case atStart => exact ⟨0, Nat.zero_le _, rfl, HH3.out, HB3.out⟩
      case round =>
        obtain ⟨k2, hk2, rfl, hh, hbb⟩ := hrel
        have HH := Lib.hid hh
        have HB := Lib.hid hbb
        clear hh hbb HH3 HB3
        by_cases hlt2 : k2 < ls.length
        · obtain ⟨b2, off2, hbb, -, hc2⟩ := (HT.out.below HB.out).at_ (i := k2) hlt2
          simp only [Option.some.injEq, Addr.mk.injEq] at hbb
          obtain ⟨rfl, rfl, -⟩ := hbb
          have HJt := Lib.hid (joinB_take (sep := [c]) (x := x) hlt2)
          have hle := len_le hlt2
          have hjl2 := joinB_len (c := c) (x := x) (ls.take k2)
          have hle3 := lens_le (l := ls) k2
          have hlt3 : (ls.take k2).length ≤ ls.length := by simp; omega
          generalize ls.getD k2 [] = z at *
          go_wp2_with fail
          refine (writeString_any [c] HH.out (by simp; omega)).mono ?_
          rintro e w4 ⟨rfl, hh4, hd4⟩
          have HH4 := Lib.hid hh4
          have HB4 := Lib.hid (HB.out.trans hd4)
          clear hh4 hd4
          go_wp2_with fail
          refine (writeString_any z HH4.out (by simp; omega)).mono ?_
          rintro e w5 ⟨rfl, hh5, hd5⟩
          have HH5 := Lib.hid hh5
          have HB5 := Lib.hid (HB4.out.trans hd5)
          clear hh5 hd5
          go_wp2_with fail
          exact ⟨⟨k2 + 1, by omega, by go_num, by rw [HJt.out]; exact HH5.out, HB5.out⟩, by simp [intOf]; omega⟩
        · have hke2 : k2 = ls.length := by omega
          rw [hke2, List.take_of_length_le (Nat.le_refl _)] at HH
          have hne : joinB [c] (x :: ls) ≠ [] := by
            intro e
            rw [e] at hjl
            simp at hjl; omega
          go_wp2_with fail
          refine (builderString_any HH.out hne).mono ?_
          rintro e w4 ⟨rfl, hd4⟩
          have HB4 := Lib.hid (HB.out.trans hd4)
          clear hd4
          go_wp2_with fail
          go_ret
          exact ⟨rfl, HB4.out⟩

end Go.Proofs.Ytamdkmcdleilpaa
