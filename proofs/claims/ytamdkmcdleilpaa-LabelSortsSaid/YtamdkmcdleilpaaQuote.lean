/-
  Quoting: label.Quote, and the reference's Quote.
-/
import Derived.Test.YtamdkmcdleilpaaBuild
import Derived.Test.YtamdkmcdleilpaaPlainUtf
import Derived.Laws.IdiomStrings
namespace Go.Proofs.Ytamdkmcdleilpaa
open Go.RowKit

def escB (c : UInt8) : Bytes := if c = 10 then [92, 110] else if c = 34 ∨ c = 92 then [92, c] else [c]
def escL (l : Bytes) : Bytes := l.flatMap escB
def quoteL (l : Bytes) : Bytes := 34 :: (escL l ++ [34])

theorem escB_len (c : UInt8) : 1 ≤ (escB c).length ∧ (escB c).length ≤ 2 := by
  unfold escB; repeat' split
  all_goals simp
theorem escL_append (a b : Bytes) : escL (a ++ b) = escL a ++ escL b := List.flatMap_append
theorem escL_one (c : UInt8) : escL [c] = escB c := by simp [escL]
theorem escL_len : ∀ l : Bytes, l.length ≤ (escL l).length ∧ (escL l).length ≤ 2 * l.length
  | [] => by simp [escL]
  | c :: l => by
    have h := escB_len c
    have ih := escL_len l
    have e : escL (c :: l) = escB c ++ escL l := rfl
    rw [e, List.length_append, List.length_cons]
    omega
theorem escL_take {l : Bytes} {k : Nat} (h : k < l.length) : escL (l.take (k + 1)) = escL (l.take k) ++ escB (byteAt l k) := by
  rw [take_byte h, escL_append, escL_one]

/-- '[]byte(s)': the row, and its cells. -/
def capB (w : World) (l : Bytes) : Nat := grownCap w l.length 0 5
def rowB (w : World) (l : Bytes) : Obj := .cells (bytesRow (bs l) (capB w l)) 5 ((bytesRow (bs l) (capB w l)).size, (bytesRow (bs l) (capB w l)).size + 1)
theorem bytesOf_run (l : Bytes) (w : World) : (convert 9 62 (.string (bs l))).run Try.prog w = .ok (.slice (some ⟨w.heap.size, 0, none⟩) l.length (capB w l)) (w.drew.alloc (rowB w l)) :=
  run_bytes_of_string w _ _ 5 (bs l) Try.underlying9 Try.underlying62 Try.underlying5
theorem rowB_cell {w w' : World} {l : Bytes} {K : Nat} (h : w'.heap[K]? = some (rowB w l)) {i : Nat} (hi : i < l.length) : w'.cell? ⟨K, i, none⟩ = some (.int .u8 (byteAt l i).toNat) := by
  rw [Lib.cell_of_heap h, bytesRow_at (bs l) (capB w l) i (by simpa [bs] using hi)]
  simp [bs, byteAt, List.getD, List.getElem?_eq_getElem hi]

set_option maxRecDepth 100000 in
set_option maxHeartbeats 2000000 in
theorem quote_any (l : Bytes) (w : World) (hl : l.length ≤ 100000000) :
    Calls Try.prog 20 #[.string (bs l)] w fun e w' => e = .returned (.string (bs (quoteL l))) ∧ Below w.heap.size w w' := by
  have H0 := Lib.hid (Hb.fresh w)
  go_enter Try.func20, Try.ntmps20
  go_wp2_with fail
  refine (writeByte_any 34 H0.out (by simp)).mono ?_
  rintro e w1 ⟨rfl, h1, b1⟩
  have H1 := Lib.hid h1
  have B1 := Lib.hid b1
  clear h1 b1
  have hcv := bytesOf_run l
  go_wp2_with fail
  have HK := Lib.hid (H1.out.drew.alloc (rowB w1 l))
  have hsz : w.heap.size < w1.heap.size := H1.out.lt
  have BK : Hid (Below w.heap.size w (w1.drew.alloc (rowB w1 l))) := Lib.hid (((((Below.refl _ _).alloc (Nat.le_refl _) _).trans B1.out).drew).alloc (by show w.heap.size ≤ w1.heap.size; omega) _)
  obtain ⟨K, hK⟩ : ∃ K, K = w1.heap.size := ⟨_, rfl⟩
  change Hid (Hb w.heap.size (fun k => if k = w1.heap.size then some (rowB w1 l) else none) ([] ++ [34]) _) at HK
  rw [← hK] at HK hsz ⊢
  clear H0 H1 B1 hcv hK
  have HR : Hid (∀ w' : World, w'.heap[K]? = some (rowB w1 l) → ∀ i, i < l.length → w'.cell? ⟨K, i, none⟩ = some (.int .u8 (byteAt l i).toNat)) := Lib.hid (fun w' h i hi => rowB_cell h hi)
  generalize rowB w1 l = R at *
  generalize capB w1 l = cap at *
  go_loopw [10, 5] (fun i c wr => ∃ k : Nat, k ≤ l.length ∧ i = .int .i64 k ∧ Hb w.heap.size (fun k => if k = K then some R else none) (34 :: escL (l.take k)) wr ∧ Below w.heap.size w wr)
    (fun i c wr => l.length - (intOf i).toNat)
  case atStart => exact ⟨0, Nat.zero_le _, rfl, HK.out, BK.out⟩
  case round =>
    clear HK BK hsz
    obtain ⟨k, hk, rfl, hh, hbl⟩ := hrel
    have hp := (escL_len (l.take k)).2
    rw [List.length_take] at hp
    have hq : (34 :: escL (l.take k)).length ≤ 1000000000 := by rw [List.length_cons]; omega
    clear hp
    by_cases hlt : k < l.length
    · have hc : wr.cell? ⟨K, k, none⟩ = some (.int .u8 (byteAt l k).toNat) := HR.out _ (hh.kept (if_pos rfl)) k hlt
      have HT := Lib.hid (escL_take hlt)
      have HH := Lib.hid hh
      have HB := Lib.hid hbl
      clear hh hbl
      generalize byteAt l k = c at *
      by_cases c1 : c = 10
      · have d1 : ((c.toNat : Int) == 10) = true := by rw [c1]; rfl
        have HE := Lib.hid (show escB c = [92, 110] by unfold escB; rw [if_pos c1])
        clear c1
        go_wp2_with fail
        refine (writeString_any [92, 110] HH.out (by simp at hq ⊢; omega)).mono ?_
        rintro e w2 ⟨rfl, h2, b2⟩
        have H2 := Lib.hid h2
        have B2 := Lib.hid b2
        clear h2 b2
        go_wp2_with fail
        go_roundw
        case rel => exact ⟨k + 1, by omega, by go_num, by rw [HT.out, HE.out]; exact H2.out, HB.out.trans B2.out⟩
        case measure => simp [intOf]; omega
      · have d1 : ((c.toNat : Int) == 10) = false := by
          rw [beq_eq_false_iff_ne]; intro e; exact c1 (UInt8.toNat_inj.1 (by show c.toNat = 10; omega))
        by_cases c2 : c = 34
        · have d2 : ((c.toNat : Int) == 34) = true := by rw [c2]; rfl
          have HE := Lib.hid (show escB c = [92, c] by unfold escB; rw [if_neg c1, if_pos (.inl c2)])
          clear c1 c2
          go_wp2_with fail
          refine (writeByte_any 92 HH.out (by omega)).mono ?_
          rintro e w2 ⟨rfl, h2, b2⟩
          have H2 := Lib.hid h2
          have B2 := Lib.hid b2
          clear h2 b2
          go_wp2_with fail
          refine (writeByte_any c H2.out (by simp at hq ⊢; omega)).mono ?_
          rintro e w3 ⟨rfl, h3, b3⟩
          have H3 := Lib.hid h3
          have B3 := Lib.hid b3
          clear h3 b3
          go_wp2_with fail
          go_roundw
          case rel => exact ⟨k + 1, by omega, by go_num, by rw [HT.out, HE.out]; simpa using H3.out, (HB.out.trans B2.out).trans B3.out⟩
          case measure => simp [intOf]; omega
        · have d2 : ((c.toNat : Int) == 34) = false := by
            rw [beq_eq_false_iff_ne]; intro e; exact c2 (UInt8.toNat_inj.1 (by show c.toNat = 34; omega))
          by_cases c3 : c = 92
          · have d3 : ((c.toNat : Int) == 92) = true := by rw [c3]; rfl
            have HE := Lib.hid (show escB c = [92, c] by unfold escB; rw [if_neg c1, if_pos (.inr c3)])
            clear c1 c2 c3
            go_wp2_with fail
            refine (writeByte_any 92 HH.out (by omega)).mono ?_
            rintro e w2 ⟨rfl, h2, b2⟩
            have H2 := Lib.hid h2
            have B2 := Lib.hid b2
            clear h2 b2
            go_wp2_with fail
            refine (writeByte_any c H2.out (by simp at hq ⊢; omega)).mono ?_
            rintro e w3 ⟨rfl, h3, b3⟩
            have H3 := Lib.hid h3
            have B3 := Lib.hid b3
            clear h3 b3
            go_wp2_with fail
            go_roundw
            case rel => exact ⟨k + 1, by omega, by go_num, by rw [HT.out, HE.out]; simpa using H3.out, (HB.out.trans B2.out).trans B3.out⟩
            case measure => simp [intOf]; omega
          · have d3 : ((c.toNat : Int) == 92) = false := by
              rw [beq_eq_false_iff_ne]; intro e; exact c3 (UInt8.toNat_inj.1 (by show c.toNat = 92; omega))
            have HE := Lib.hid (show escB c = [c] by unfold escB; rw [if_neg c1, if_neg (fun h => h.elim c2 c3)])
            clear c1 c2 c3
            go_wp2_with fail
            refine (writeByte_any c HH.out (by omega)).mono ?_
            rintro e w3 ⟨rfl, h3, b3⟩
            have H3 := Lib.hid h3
            have B3 := Lib.hid b3
            clear h3 b3
            go_wp2_with fail
            go_roundw
            case rel => exact ⟨k + 1, by omega, by go_num, by rw [HT.out, HE.out]; exact H3.out, HB.out.trans B3.out⟩
            case measure => simp [intOf]; omega
    · have hke : k = l.length := by omega
      rw [hke, List.take_of_length_le (Nat.le_refl _)] at hh
      rw [hke, List.take_of_length_le (Nat.le_refl _)] at hq
      have HH := Lib.hid hh
      have HB := Lib.hid hbl
      clear hh hbl HR
      go_wp2_with fail
      refine (writeByte_any 34 HH.out (by omega)).mono ?_
      rintro e w2 ⟨rfl, h2, b2⟩
      have H2 := Lib.hid h2
      have B2 := Lib.hid b2
      clear h2 b2
      go_wp2_with fail
      refine (builderString_any H2.out (by simp)).mono ?_
      rintro e w3 ⟨rfl, b3⟩
      have B3 := Lib.hid b3
      clear b3
      go_wp2_with fail
      go_ret
      exact ⟨rfl, (HB.out.trans B2.out).trans B3.out⟩

/-- 's[i:i+1]', under one name. -/
theorem one_run (l : Bytes) (k : Nat) (h : k < l.length) (w : World) : (Instr.sliceAt 9 (.string (bs l)) (some (.int .i64 k)) (some (.int .i64 ((k : Int) + 1))) none).run Try.prog w = .ok (.string (bs [byteAt l k])) w := by
  rw [run_sliceAt_string _ _ _ _ _ _ Try.underlying9, run_slice_string _ _ _ _ _ _ _ Try.underlying9 (by omega) (by omega) (by rw [bs_size]; omega)]
  rw [bs_extract, Int.toNat_natCast, show ((k : Int) + 1).toNat = k + 1 by omega, drop_byte h, show k + 1 - k = 1 by omega]
  rfl

set_option maxRecDepth 100000 in
set_option maxHeartbeats 2000000 in
theorem refQuote_any (l : Bytes) (w : World) (hl : l.length ≤ 100000000) :
    Calls Try.prog 21 #[.string (bs l)] w fun e w' => e = .returned (.string (bs (quoteL l))) ∧ w = w' := by
  go_enter Try.func21, Try.ntmps21
  go_wp2_with fail
  go_loop [3, 4] (fun s i => ∃ k : Nat, k ≤ l.length ∧ i = .int .i64 k ∧ s = .string (bs (escL (l.take k))))
    (fun s i => l.length - (intOf i).toNat)
  case atStart => exact ⟨0, Nat.zero_le _, rfl, rfl⟩
  case round =>
    obtain ⟨k, hk, rfl, rfl⟩ := hrel
    have hp := (escL_len (l.take k)).2
    rw [List.length_take] at hp
    have hq : (escL (l.take k)).length ≤ 1000000000 := by omega
    clear hp
    by_cases hlt : k < l.length
    · have hix := idx_run l k hlt
      have hsl := one_run l k hlt
      have HT := Lib.hid (escL_take hlt)
      generalize escL (l.take k) = t at *
      generalize byteAt l k = c at *
      by_cases c34 : c = 34
      · have d34 : ((c.toNat : Int) == 34) = true := by rw [c34]; rfl
        have HE := Lib.hid (show escB c = [92, 34] by rw [c34]; rfl)
        clear  c34 hsl
        go_wp2_with fail
        go_round
        case rel => exact ⟨k + 1, by omega, by go_num, by rw [HT.out, HE.out]⟩
        case measure => simp [intOf]; omega
      · have d34 : ((c.toNat : Int) == 34) = false := by
          rw [beq_eq_false_iff_ne]; intro e; exact c34 (UInt8.toNat_inj.1 (by show c.toNat = 34; omega))
        by_cases c92 : c = 92
        · have d92 : ((c.toNat : Int) == 92) = true := by rw [c92]; rfl
          have HE := Lib.hid (show escB c = [92, 92] by rw [c92]; rfl)
          clear c34 c92 hsl
          go_wp2_with fail
          go_round
          case rel => exact ⟨k + 1, by omega, by go_num, by rw [HT.out, HE.out]⟩
          case measure => simp [intOf]; omega
        · have d92 : ((c.toNat : Int) == 92) = false := by
            rw [beq_eq_false_iff_ne]; intro e; exact c92 (UInt8.toNat_inj.1 (by show c.toNat = 92; omega))
          by_cases c10 : c = 10
          · have d10 : ((c.toNat : Int) == 10) = true := by rw [c10]; rfl
            have HE := Lib.hid (show escB c = [92, 110] by rw [c10]; rfl)
            clear c34 c92 c10 hsl
            go_wp2_with fail
            go_round
            case rel => exact ⟨k + 1, by omega, by go_num, by rw [HT.out, HE.out]⟩
            case measure => simp [intOf]; omega
          · have d10 : ((c.toNat : Int) == 10) = false := by
              rw [beq_eq_false_iff_ne]; intro e; exact c10 (UInt8.toNat_inj.1 (by show c.toNat = 10; omega))
            have HE := Lib.hid (show escB c = [c] by unfold escB; rw [if_neg c10, if_neg (fun h => h.elim c34 c92)])
            clear c34 c92 c10
            go_wp2_with fail
            go_round
            case rel => exact ⟨k + 1, by omega, by go_num, by rw [HT.out, HE.out]⟩
            case measure => simp [intOf]; omega
    · have hke : k = l.length := by omega
      rw [hke, List.take_of_length_le (Nat.le_refl _)]
      rw [hke, List.take_of_length_le (Nat.le_refl _)] at hq
      have HE := Lib.hid (show quoteL l = [34] ++ escL l ++ [34] from rfl)
      generalize escL l = t at *
      go_wp2_with fail
      go_ret
      exact ⟨by rw [HE.out]; rfl, rfl⟩

end Go.Proofs.Ytamdkmcdleilpaa
