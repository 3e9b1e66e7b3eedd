/-
  rice.Writer: Bytes.
-/
import Derived.Test.YtheenlomlmbjaaaGreatDoorTWrite
set_option linter.unusedSimpArgs false
set_option linter.unusedVariables false
namespace Go.Proofs.YtheenlomlmbjaaaGreatDoor
open Go.RowKit

theorem byte_last (left many : Nat) (hm : many < 8) (hl : left * 2 ^ (8 - many) < 256) :
    UInt8.ofNat (IntKind.u8.wrap (IntKind.u64.wrap ((left : Int) * 2 ^ min (IntKind.u64.wrap (IntKind.i64.wrap (8 - (many : Int)))).toNat 64))).toNat = UInt8.ofNat (left * 2 ^ (8 - many)) := by
  have e1 : min (IntKind.u64.wrap (IntKind.i64.wrap (8 - (many : Int)))).toNat 64 = 8 - many := by
    rw [IntKind.wrap_i64, IntKind.wrap_u64]; omega
  rw [e1, show ((left : Int) * 2 ^ (8 - many)) = ((left * 2 ^ (8 - many) : Nat) : Int) by simp, IntKind.wrap_u64, IntKind.wrap_u8]
  congr 1
  omega
theorem wr_fin {b : Nat} {v : Value} {w W w2 : World} (hW : Below w.heap.size w W) (h2 : Wr b v v W w2) : Wr b v v w w2 :=
  ⟨h2.os.trans hW.os, h2.tape.trans hW.tape, h2.output.trans hW.output, Nat.le_trans hW.size h2.size, fun k hk h1 h3 => (h2.block k (Nat.lt_of_lt_of_le hk hW.size) h1 h3).trans (hW.block k hk), .inl rfl⟩
theorem Wr.alloc {b : Nat} {v v' : Value} {w w2 : World} (h : Wr b v v' w w2) (o : Obj) : Wr b v v' w (w2.alloc o) :=
  ⟨h.os, h.tape, h.output, by have := h.size; simp; omega, fun k hk h1 h3 => (Below.heap_alloc _ _ _ (Nat.lt_of_lt_of_le hk h.size)).trans (h.block k hk h1 h3), h.at_⟩

set_option maxHeartbeats 2000000 in
set_option maxRecDepth 100000 in
theorem bytes_any (b : Nat) (v : Value) (B : List Bool) (w : World) (h : Wt b v B w) (hB : B.length ≤ 10000000000) :
    Calls Tryz.prog 305 #[.pointer (some ⟨b, 0, none⟩)] w fun e w' => e = .returned (.string (bs (packB B))) ∧ Packed (packB B) B ∧ Wr b v v w w' := by
  obtain ⟨l, left, many, hbw, hmany, hleft, rfl, hnone⟩ := h
  have c3 : w.cell? ⟨b, 3, none⟩ = some (.int .i64 many) := by obtain ⟨p, hp, hb, hown⟩ := hbw; rw [Lib.cell_of_heap hb]; rfl
  by_cases h0 : many = 0
  · subst h0
    have hp : Packed l (bitsOf l ++ toB left 0) := ⟨0, by omega, by simp [toB]⟩
    rw [← hp.is]
    have HS := Lib.hid (builderString_both hbw tokWriter hnone)
    have HP := Lib.hid hp
    clear hp hbw
    go_enter Tryz.func305, Tryz.ntmps305
    go_wp2_with fail
    refine HS.out.mono ?_
    rintro e w2 ⟨rfl, h2, -⟩
    go_wp2_with fail
    go_ret
    exact ⟨rfl, HP.out, h2⟩
  · obtain ⟨hp, hlt⟩ := packed_last (l := l) hmany (by omega) hleft
    rw [← hp.is]
    have HS := Lib.hid (fun W (hW : Below w.heap.size w W) => builderString_both (hbw.below hW) tokWriter hnone)
    have hcv := fun (X : World) (x : Int) => cv_after (w := X.alloc (.cells #[.int .u8 x] 5)) (heap_alloc_new X _)
    have hcv2 := fun (X : World) (x : Int) => cv_after (w := (X.alloc (.cells #[.int .u8 x] 5)).drew) (heap_alloc_new X _)
    have HBW := Lib.hid hbw
    have HP := Lib.hid hp
    have HX := Lib.hid (byte_last left many hmany hlt)
    have hlb : 8 * l.length ≤ 10000000000 := by rw [List.length_append, bitsOf_len, toB_len] at hB; omega
    have hl1 : ¬ (l.length + 1 > 9223372036854775807) := by omega
    have hl2 : ∀ c : UInt8, ¬ (l.length + [c].length > 9223372036854775807) := fun c => by simp; omega
    have HC := Lib.hid (fun W (hW : Below w.heap.size w W) => c_of (hbw.below hW))
    have c2 : w.cell? ⟨b, 2, none⟩ = some (.int .u64 left) := by obtain ⟨p, hp, hb, hown⟩ := hbw; rw [Lib.cell_of_heap hb]; rfl
    go_enter Tryz.func305, Tryz.ntmps305
    go_wp2_with fail
    go_region_with (go_at_call 41; refine (HS.out _ (by first | exact (Below.refl _ _).drew | exact ((Below.refl _ _).drew).alloc (Nat.le_refl _) _ | exact ((Below.refl _ _).alloc (Nat.le_refl _) _).drew)).mono ?_; rintro e w2 ⟨rfl, h2, hb2⟩; have e2 := (cell_same hb2 2).trans (HC.out _ (by first | exact (Below.refl _ _).drew | exact ((Below.refl _ _).drew).alloc (Nat.le_refl _) _ | exact ((Below.refl _ _).alloc (Nat.le_refl _) _).drew)).1; have e3 := (cell_same hb2 3).trans (HC.out _ (by first | exact (Below.refl _ _).drew | exact ((Below.refl _ _).drew).alloc (Nat.le_refl _) _ | exact ((Below.refl _ _).alloc (Nat.le_refl _) _).drew)).2; try (have cv2 := cv_after (kept_row HBW.out h2 (heap_alloc_new w _))))
    all_goals (go_wp2_with fail)
    all_goals go_ret
    all_goals refine ⟨?_, HP.out, ?_⟩
    all_goals first
      | (show Ending.returned (.string (bs (l ++ [UInt8.ofNat (IntKind.u8.wrap (IntKind.u64.wrap ((left : Int) * 2 ^ min (IntKind.u64.wrap (IntKind.i64.wrap (8 - (many : Int)))).toNat 64))).toNat]))) = _
         rw [HX.out])
      | exact wr_fin ((Below.refl _ _).drew) h2
      | exact wr_fin (((Below.refl _ _).drew).alloc (Nat.le_refl _) _) h2
      | exact wr_fin (((Below.refl _ _).alloc (Nat.le_refl _) _).drew) h2
      | exact (wr_fin ((Below.refl _ _).drew) h2).alloc _

end Go.Proofs.YtheenlomlmbjaaaGreatDoor
