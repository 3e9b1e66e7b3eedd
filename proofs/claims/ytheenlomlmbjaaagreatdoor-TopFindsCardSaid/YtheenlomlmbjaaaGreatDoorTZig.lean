/-
  zig: Fold, Unfold, Uint, Int.
-/
import Derived.Test.YtheenlomlmbjaaaGreatDoorTZigP
import Derived.Lib.AppendStr
import Derived.Maps.AppendAt
import Derived.Laws.BitsAll
import Derived.Laws.DeepNot64
import Derived.Laws.BytesString
import Derived.Laws.MakeOwn
import Derived.PlainAid
set_option linter.unusedSimpArgs false
set_option linter.unusedVariables false
namespace Go.Proofs.YtheenlomlmbjaaaGreatDoor
open Go.RowKit

def cellsB (l : Bytes) : List Value := l.map fun b => Value.int .u8 b.toNat
theorem cellsB_length (l : Bytes) : (cellsB l).length = l.length := List.length_map ..
theorem infoByte : (Tryz.prog.info? 5).map (fun i => (i.zero, i.size, i.bytes)) = some (some (.int .u8 0), 1, 1) := by kernel_rfl

theorem u64_cast {a b : Nat} (ha : a < 18446744073709551616) (hb : b < 18446744073709551616) : bits .xor .u64 (a : Int) (b : Int) = ((a ^^^ b : Nat) : Int) := u64_xor_nat a b ha hb

theorem fold_run {v : Int} (h0 : -9223372036854775808 ≤ v) (h1 : v ≤ 9223372036854775807) :
    bits .xor .u64 (IntKind.u64.wrap (wrap64 (v * 2))) (IntKind.u64.wrap (v / 9223372036854775808)) = (foldN v : Int) := by
  rw [show wrap64 (v * 2) = IntKind.i64.wrap (v * 2) from (IntWalk.i64_left _).symm]
  unfold foldN
  split
  · rename_i h
    rw [show v / 9223372036854775808 = 0 by omega, IntKind.wrap_u64, IntKind.wrap_u64, IntKind.wrap_i64]
    obtain ⟨n, rfl⟩ := Int.eq_ofNat_of_zero_le h
    rw [show (((n : Int) * 2 + 9223372036854775808) % 18446744073709551616 - 9223372036854775808) % 18446744073709551616 = ((2 * n : Nat) : Int) by omega,
      show (0 : Int) % 18446744073709551616 = ((0 : Nat) : Int) by rfl, u64_cast (by omega) (by omega), Nat.xor_zero]
    congr 1
  · rename_i h
    rw [show v / 9223372036854775808 = -1 by omega, IntKind.wrap_u64, IntKind.wrap_u64, IntKind.wrap_i64]
    obtain ⟨n, hn⟩ : ∃ n : Nat, (2 * v + 18446744073709551616) = (n : Int) := ⟨(2 * v + 18446744073709551616).toNat, by omega⟩
    rw [show ((v * 2 + 9223372036854775808) % 18446744073709551616 - 9223372036854775808) % 18446744073709551616 = (n : Int) by omega,
      show (-1 : Int) % 18446744073709551616 = ((18446744073709551615 : Nat) : Int) by rfl, u64_cast (by omega) (by omega), xor_ones64 n (by omega)]
    omega

set_option maxHeartbeats 400000 in
set_option maxRecDepth 100000 in
theorem fold_any (v : Int) (w : World) (h0 : -9223372036854775808 ≤ v) (h1 : v ≤ 9223372036854775807) :
    Calls Tryz.prog 279 #[.int .i64 v] w fun e w' => e = .returned (.int .u64 (foldN v)) ∧ w = w' := by
  have hq := fold_run h0 h1
  go_enter Tryz.func279, Tryz.ntmps279
  go_wp2_with fail
  go_ret
  exact ⟨rfl, rfl⟩

theorem wpList_byteI (w : World) {ops : Array Oper} {rest : List Oper} {o : Oper} {a : Act} {Q : Exit → Act → World → Prop} (hg : o.guard = none) (s x : Operand)
    (ho : o.op = .call { callee := .builtin .append, args := #[s, x], argTypes := #[22, 22] })
    (base : Nat) (v : Value) (l : Bytes) (i : Int) (c : UInt8) (hi : i = (c.toNat : Int)) (hs : a.eval s = v) (hx : a.eval x = .slice (some ⟨w.heap.size, 0, none⟩) 1 1)
    (hown : w.ownsRow base 5 1 v l.length (cellsB l)) (hbase : base ≤ w.heap.size) (hlen : l.length ≤ 1000000000000)
    (h : ∀ g' cap w', w'.ownsRow base 5 1 (.slice (some ⟨g', 0, none⟩) (l.length + 1) cap) (l ++ [c]).length (cellsB (l ++ [c])) → Below base w w' → wpList Tryz.prog ops Q rest (a.put o.dst (.slice (some ⟨g', 0, none⟩) (l.length + 1) cap)) w') :
    wpList Tryz.prog ops Q (o :: rest) a (w.alloc (.cells #[.int .u8 i] 5)) := by
  subst hi
  obtain ⟨i0, hi, hz0, hz1, hz2⟩ := info_parts infoByte
  refine wpList_append_own_at _ hg s x 22 ho base 5 i0 (.int .u8 0) 1 1 Tryz.underlying22 hi hz0 hz1 hz2 rfl (by decide) v l.length (cellsB l) hs (hown.alloc _)
    ⟨w.heap.size, 0, none⟩ 1 1 [.int .u8 c.toNat] hx rfl (cell_one_new _ _ _) ?_ (by simp only [maxLen]; omega) (by omega) (by simp; omega) ?_
  · intro u hu
    simp at hu; subst hu; rfl
  · intro v' w' h1 h2 _ hat
    have hgr : w.grownBy w' v.ownBlock := ⟨h2.os, h2.tape, h2.output, Nat.le_trans (by simp) h2.size, fun k hk hne => (h2.block k (by simp; omega) hne).trans (Below.heap_alloc _ _ _ hk)⟩
    have h1' : w'.ownsRow base 5 1 v' (l ++ [c]).length (cellsB (l ++ [c])) := by simpa [cellsB] using h1
    rcases h1'.2 with ⟨hv, hz⟩ | ⟨g, cap, cur, hv, r⟩
    · simp at hz
    · subst hv
      rw [List.length_append, List.length_singleton] at *
      exact h g cap w' (by simpa using h1') ((Below.refl _ _).grown hgr hbase (fun k hk => (hown.lt k hk).1))

theorem bytesStr_run {w : World} {base n cap g : Nat} {l : Bytes} (h : w.ownsRow base 5 1 (.slice (some ⟨g, 0, none⟩) n cap) l.length (cellsB l)) :
    (convert 22 9 (.slice (some ⟨g, 0, none⟩) n cap)).run Tryz.prog w = .ok (.string (bs l)) w := by
  obtain ⟨h1, h2⟩ := h
  rcases h2 with ⟨hv, hz⟩ | ⟨g', cap', cur, hv, _, hg', hnc, hcm, hcs, htake⟩
  · cases hv
  · simp only [Value.slice.injEq, Option.some.injEq, Addr.mk.injEq, and_true] at hv
    obtain ⟨rfl, rfl, rfl⟩ := hv
    refine run_convert_bytes_back w _ _ 5 _ _ l Tryz.underlying22 Tryz.underlying5 Tryz.underlying9 ?_
    intro j hj
    have e : (⟨g, 0, none⟩ : Addr).add j = ⟨g, j, none⟩ := by simp only [Addr.add]; split <;> simp_all
    rw [e, Lib.cell_of_heap hg']
    have h3 : (cur.toList.take (l.length * 1))[j]? = some (.int .u8 (l[j].toNat : Int)) := by rw [htake]; simp [cellsB, hj]
    rw [List.getElem?_take, if_pos (by omega)] at h3
    simpa using h3
theorem byte_more (m : Nat) : bits .or .u8 (IntKind.u8.wrap (m : Int)) 128 = ((UInt8.ofNat (m % 128 + 128)).toNat : Int) := by
  rw [IntKind.wrap_u8, show ((m : Int) % 256) = ((m % 256 : Nat) : Int) by omega, show (128 : Int) = ((128 : Nat) : Int) from rfl, u8_or_nat _ 128 (by omega) (by omega)]
  have h1 : m % 256 ||| 128 = m % 128 + 128 := by
    have e : ∀ x : Fin 256, x.val ||| 128 = x.val % 128 + 128 := by decide +kernel
    have := e ⟨m % 256, by omega⟩
    simp only at this
    rw [this]; omega
  rw [h1, UInt8.toNat_ofNat_of_lt' (by show _ < 256; omega)]
def intOf : Value → Int | .int _ q => q | _ => 0

set_option maxHeartbeats 400000 in
set_option maxRecDepth 100000 in
theorem uint_any (n : Nat) (w : World) (h0 : n < 18446744073709551616) :
    Calls Tryz.prog 86 #[.int .u64 n] w fun e w' => e = .returned (.string (bs (uintL n))) ∧ Below w.heap.size w w' := by
  have hmk : ∀ w, (Instr.makeSlice 22 (.int .i64 0) (.int .i64 10)).run Tryz.prog w = .ok (.slice (some ⟨w.heap.size, 0, none⟩) 0 10)
    (w.alloc (.cells #[.int .u8 0, .int .u8 0, .int .u8 0, .int .u8 0, .int .u8 0, .int .u8 0, .int .u8 0, .int .u8 0, .int .u8 0, .int .u8 0] 5)) := fun _ => by kernel_rfl
  go_enter Tryz.func86, Tryz.ntmps86
  go_wp2_with fail
  rw [show (Value.string { data := #[] }) = .string (bs []) from rfl]
  go_loopw [0, 3] (fun x v wr => ∃ (m : Nat) (pre : Bytes) (g cap : Nat), x = .int .u64 m ∧ m ≤ n ∧ v = .slice (some ⟨g, 0, none⟩) pre.length cap ∧ pre ++ uintL m = uintL n ∧ wr.ownsRow w.heap.size 5 1 v pre.length (cellsB pre) ∧ Below w.heap.size w wr)
    (fun x v wr => (intOf x).toNat)
  case atStart => exact ⟨n, [], w.heap.size, 10, rfl, Nat.le_refl _, rfl, rfl, World.ownsRow_made w [.int .u8 0, .int .u8 0, .int .u8 0, .int .u8 0, .int .u8 0, .int .u8 0, .int .u8 0, .int .u8 0, .int .u8 0, .int .u8 0].toArray 10 (Nat.le_refl _) (by decide) rfl, (Below.refl _ _).alloc (Nat.le_refl _) _⟩
  case round =>
    obtain ⟨m, pre, g, cap, rfl, hm, rfl, hp, hown, hbl⟩ := hrel
    have HO := Lib.hid hown
    have HB := Lib.hid hbl
    have HP := Lib.hid hp
    clear hown hbl hp
    have hn10 : (uintL n).length ≤ 10 := uintL_len10 h0
    have hpl : pre.length ≤ 10 := by rw [← HP.out, List.length_append] at hn10; omega
    by_cases hlt : m < 128
    · have HC := Lib.hid (show ((m : Int)) = ((UInt8.ofNat m).toNat : Int) by simp; omega)
      go_wp2_with (at_builtin; refine wpList_byteI _ rfl (.tmp 15) (.tmp 18) rfl w.heap.size _ pre _ (UInt8.ofNat m) HC.out (by rfl) (by rfl) HO.out HB.out.size (by omega) ?_; intro g' cap' w2 hown' hbl'; have hstr := bytesStr_run hown'; have HO' := Lib.hid hown'; have HB' := Lib.hid hbl'; clear hown' hbl')
      go_ret
      exact ⟨by rw [← HP.out, uintL_small hlt]; rfl, HB.out.trans HB'.out⟩
    · have HC := Lib.hid (byte_more m)
      go_wp2_with (at_builtin; refine wpList_byteI _ rfl (.tmp 9) (.tmp 13) rfl w.heap.size _ pre _ (UInt8.ofNat (m % 128 + 128)) HC.out (by rfl) (by rfl) HO.out HB.out.size (by omega) ?_; intro g' cap' w2 hown' hbl'; have HO' := Lib.hid hown'; have HB' := Lib.hid hbl'; clear hown' hbl')
      go_roundw
      case rel => exact ⟨m / 128, pre ++ [UInt8.ofNat (m % 128 + 128)], g', cap', by go_num, by omega, by simp, by rw [← HP.out, uintL_more hlt]; simp, by simpa using HO'.out, HB.out.trans HB'.out⟩
      case measure => simp [intOf]; omega

set_option maxHeartbeats 400000 in
set_option maxRecDepth 100000 in
theorem int_any (v : Int) (w : World) (h0 : -9223372036854775808 ≤ v) (h1 : v ≤ 9223372036854775807) :
    Calls Tryz.prog 215 #[.int .i64 v] w fun e w' => e = .returned (.string (bs (uintL (foldN v)))) ∧ Below w.heap.size w w' := by
  have hf := foldN_lt h0 h1
  go_enter Tryz.func215, Tryz.ntmps215
  go_wp2_with fail
  refine (fold_any v _ h0 h1).mono ?_
  rintro e w1 ⟨rfl, rfl⟩
  go_wp2_with fail
  refine (uint_any _ _ hf).mono ?_
  rintro e w1 ⟨rfl, b1⟩
  go_wp2_with fail
  go_ret
  exact ⟨rfl, b1⟩

end Go.Proofs.YtheenlomlmbjaaaGreatDoor
