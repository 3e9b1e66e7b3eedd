/-
  strings.CutPrefix; strings.Cut at one byte.
-/
import Derived.Test.YtamdkmcdleilpaaSame
import Derived.Lib.Bytealg
import Derived.BigQuiet
import Derived.Shelf.RegionOpenPlain
namespace Go.Proofs.Ytamdkmcdleilpaa
open Go.RowKit

theorem idx_hit {c : UInt8} : ∀ {n r : Bytes}, c ∉ n → Lib.indexByte (n ++ c :: r) c = n.length
  | [], r, _ => by simp [Lib.indexByte]
  | b :: n, r, h => by
    have hb : (b == c) = false := by rw [beq_eq_false_iff_ne]; intro e; exact h (e ▸ List.mem_cons_self ..)
    have ih := idx_hit (r := r) (n := n) (fun hm => h (List.mem_cons_of_mem _ hm))
    rw [List.cons_append, Lib.indexByte, hb, ih]
    have : ((n.length : Int) == -1) = false := by rw [beq_eq_false_iff_ne]; omega
    rw [this]; simp
theorem idx_miss {c : UInt8} : ∀ {s : Bytes}, c ∉ s → Lib.indexByte s c = -1
  | [], _ => rfl
  | b :: s, h => by
    have hb : (b == c) = false := by rw [beq_eq_false_iff_ne]; intro e; exact h (e ▸ List.mem_cons_self ..)
    rw [Lib.indexByte, hb, idx_miss (fun hm => h (List.mem_cons_of_mem _ hm))]; rfl
theorem split_at {c : UInt8} : ∀ {s : Bytes}, c ∈ s → ∃ n r, s = n ++ c :: r ∧ c ∉ n
  | [], h => by cases h
  | b :: s, h => by
    by_cases e : b = c
    · exact ⟨[], s, by rw [e]; rfl, by simp⟩
    · obtain ⟨n, r, h1, h2⟩ := split_at (s := s) (c := c) (by
        rcases List.mem_cons.1 h with h' | h'
        · exact absurd h'.symm e
        · exact h')
      exact ⟨b :: n, r, by rw [h1]; rfl, by
        intro hm
        rcases List.mem_cons.1 hm with h' | h'
        · exact e h'.symm
        · exact h2 h'⟩

theorem sfrom_run (l : Bytes) (k : Nat) (h : k ≤ l.length) (w : World) : (Instr.sliceAt 9 (.string (bs l)) (some (.int .i64 k)) none none).run Try.prog w = .ok (.string (bs (l.drop k))) w := by
  rw [run_sliceAt_string _ _ _ _ _ _ Try.underlying9, run_slice_string_l (ht := Try.underlying9) (h0 := by omega) (h1 := by rw [bs_size]; omega)]
  rw [bs_extract, Int.toNat_natCast, List.take_of_length_le (by simp [bs_size])]

/-- What is left behind a text, if it is there. -/
def leftB (t s : Bytes) : Bytes := if isPre t s then s.drop t.length else s

set_option maxRecDepth 100000 in
theorem cutPreL_any (s p : Bytes) (w : World) (hs : s.length ≤ 1000000000000) (hp : p.length ≤ 1000000000000) :
    Calls Try.prog 83 #[.string (bs s), .string (bs p)] w fun e w' => e = .returned (.tuple #[.string (bs (leftB p s)), .bool (isPre p s)]) ∧ w = w' := by
  have HC := Lib.hid (hasPrefixL_any s p w hs hp)
  cases hb : isPre p s with
  | false =>
    rw [hb] at HC
    have HL := Lib.hid (show leftB p s = s by unfold leftB; rw [hb]; rfl)
    rw [HL.out]
    go_enter Try.func83, Try.ntmps83
    go_wp2_with fail
    refine HC.out.mono ?_
    rintro e w' ⟨rfl, rfl⟩
    go_wp2_with fail
    go_ret2
    exact ⟨rfl, rfl⟩
  | true =>
    rw [hb] at HC
    have hle : p.length ≤ s.length := by
      rcases Nat.lt_or_ge s.length p.length with h | h
      · rw [isPre_no (by omega)] at hb; cases hb
      · exact h
    have hfr := sfrom_run s p.length hle
    have HL := Lib.hid (show leftB p s = s.drop p.length by unfold leftB; rw [hb]; rfl)
    rw [HL.out]
    clear hb
    go_enter Try.func83, Try.ntmps83
    go_wp2_with fail
    refine HC.out.mono ?_
    rintro e w' ⟨rfl, rfl⟩
    go_wp2_with fail
    go_ret2
    exact ⟨rfl, rfl⟩
set_option maxRecDepth 100000 in
theorem cutPre_any (s p : Bytes) (w : World) (hs : s.length ≤ 1000000000000) (hp : p.length ≤ 1000000000000) :
    Calls Try.prog 68 #[.string (bs s), .string (bs p)] w fun e w' => e = .returned (.tuple #[.string (bs (leftB p s)), .bool (isPre p s)]) ∧ w = w' := by
  have HC := Lib.hid (cutPreL_any s p w hs hp)
  generalize leftB p s = x at *
  generalize isPre p s = b at *
  go_enter Try.func68, Try.ntmps68
  go_wp2_with fail
  refine HC.out.mono ?_
  rintro e w' ⟨rfl, rfl⟩
  go_wp2_with fail
  go_ret2
  exact ⟨rfl, rfl⟩

/-- 'IndexByteString', and what is handed on. -/
theorem run_idx (s : Bytes) (c : UInt8) (w : World) : (Extern.BytealgIndexByte.indexByte #[.string (bs s), .int .u8 c.toNat]).run Try.prog w = .ok (.int .i64 (Lib.indexByte s c)) w := by
  rw [Lib.run_indexByteString]
  have : ((c.toNat : Int)).toNat.toUInt8 = c := by simp
  rw [this]; rfl

set_option maxRecDepth 100000 in
theorem indexByteL_any (s : Bytes) (c : UInt8) (w : World) :
    Calls Try.prog 96 #[.string (bs s), .int .u8 c.toNat] w fun e w' => e = .returned (.int .i64 (Lib.indexByte s c)) ∧ w = w' := by
  go_enter Try.func96, Try.ntmps96
  go_wp2_with fail
  rw [run_callFunc_extern Try.func102 (by kernel_rfl) (by kernel_rfl) (by kernel_rfl) (e := Extern.BytealgIndexByte.indexByte) (by kernel_rfl)]
  rw [run_idx]
  simp only [Result.andThen]
  rw [Oper.upon_value]
  go_wp2_with fail
  go_ret
  exact ⟨rfl, rfl⟩

set_option maxRecDepth 100000 in
theorem index1_any (s : Bytes) (c : UInt8) (w : World) (hs : s.length ≤ 1000000000000) :
    Calls Try.prog 92 #[.string (bs s), .string (bs [c])] w fun e w' => e = .returned (.int .i64 (Lib.indexByte s c)) ∧ w = w' := by
  have HI := Lib.hid (indexByteL_any s c)
  cases hb : ([c] == s) with
  | true =>
    have e := beq_iff_eq.1 hb
    subst e
    have h1 : Lib.indexByte [c] c = 0 := by simp [Lib.indexByte]
    rw [h1]
    clear h1
    go_enter Try.func92, Try.ntmps92
    go_wp2_with fail
    first
    | (go_ret; exact ⟨rfl, rfl⟩)
    | (refine (HI.out _).mono ?_
       rintro e w' ⟨rfl, rfl⟩
       go_wp2_with fail
       go_ret
       exact ⟨by simp [Lib.indexByte], rfl⟩)
  | false =>
    have hb' : (s == [c]) = false := by rw [beq_eq_false_iff_ne] at hb ⊢; exact fun e => hb e.symm
    go_enter Try.func92, Try.ntmps92
    go_wp2_with fail
    refine (HI.out _).mono ?_
    rintro e w' ⟨rfl, rfl⟩
    go_wp2_with fail
    go_ret
    exact ⟨rfl, rfl⟩

theorem sto_run (l : Bytes) (k : Nat) (h : k ≤ l.length) (w : World) : (Instr.sliceAt 9 (.string (bs l)) none (some (.int .i64 k)) none).run Try.prog w = .ok (.string (bs (l.take k))) w := by
  rw [run_sliceAt_string _ _ _ _ _ _ Try.underlying9, run_slice_string_h (s := bs l) (kh := .i64) (h := (k : Int)) (ht := Try.underlying9) (h0 := by omega) (h2 := by rw [bs_size]; omega)]
  rw [bs_extract, Int.toNat_natCast]
  simp [bs_size]

set_option maxRecDepth 100000 in
theorem cutL_hit (n r : Bytes) (c : UInt8) (w : World) (hn : c ∉ n) (hs : (n ++ c :: r).length ≤ 1000000000000) :
    Calls Try.prog 81 #[.string (bs (n ++ c :: r)), .string (bs [c])] w fun e w' => e = .returned (.tuple #[.string (bs n), .string (bs r), .bool true]) ∧ Below w.heap.size w w' := by
  have HI := Lib.hid (index1_any (n ++ c :: r) c w hs)
  rw [idx_hit hn] at HI
  have h1 := sto_run (n ++ c :: r) n.length (by simp)
  have h2 := fun w => sfrom_run (n ++ c :: r) (n.length + 1) (by simp) w
  have e1 : (n ++ c :: r).take n.length = n := by simp
  have e2 : (n ++ c :: r).drop (n.length + 1) = r := by simp
  rw [e1] at h1
  rw [e2] at h2
  have h2' : ∀ w, (Instr.sliceAt 9 (.string (bs (n ++ c :: r))) (some (.int .i64 ((n.length : Int) + 1))) none none).run Try.prog w = .ok (.string (bs r)) w := h2
  have hk0 : (0 : Int) ≤ (n.length : Int) := by omega
  have hw : IntKind.i64.wrap ((n.length : Int) + 1) = (n.length : Int) + 1 := IntWalk.i64_in _ (by simp at hs; omega)
  have hs1 : (0 : Int) ≤ (n.length : Int) + 1 := by omega
  have hs2 : (n.length : Int) + 1 ≤ ((n ++ c :: r).length : Int) := by simp; omega
  have hs3 : (n.length : Int) ≤ ((n ++ c :: r).length : Int) := by simp; omega
  have mixed : Try.prog.follows .mixedOrders = true := by kernel_rfl
  clear e1 e2 h2 hn
  generalize n ++ c :: r = s at *
  go_enter Try.func81, Try.ntmps81
  go_wp2_with fail
  refine HI.out.mono ?_
  rintro e w' ⟨rfl, rfl⟩
  go_wp2_with fail
  go_region_o
  all_goals (go_wp2; go_ret3; exact ⟨rfl, (Below.refl _ _).drew⟩)
set_option maxRecDepth 100000 in
theorem cutL_miss (s : Bytes) (c : UInt8) (w : World) (hn : c ∉ s) (hs : s.length ≤ 1000000000000) :
    Calls Try.prog 81 #[.string (bs s), .string (bs [c])] w fun e w' => e = .returned (.tuple #[.string (bs s), .string (bs []), .bool false]) ∧ Below w.heap.size w w' := by
  have HI := Lib.hid (index1_any s c w hs)
  rw [idx_miss hn] at HI
  clear hn
  go_enter Try.func81, Try.ntmps81
  go_wp2_with fail
  refine HI.out.mono ?_
  rintro e w' ⟨rfl, rfl⟩
  go_wp2_with fail
  go_ret3
  exact ⟨rfl, Below.refl _ _⟩
set_option maxRecDepth 100000 in
theorem cut_hit (n r : Bytes) (c : UInt8) (w : World) (hn : c ∉ n) (hs : (n ++ c :: r).length ≤ 1000000000000) :
    Calls Try.prog 64 #[.string (bs (n ++ c :: r)), .string (bs [c])] w fun e w' => e = .returned (.tuple #[.string (bs n), .string (bs r), .bool true]) ∧ Below w.heap.size w w' := by
  have HI := Lib.hid (cutL_hit n r c w hn hs)
  generalize n ++ c :: r = s at *
  go_enter Try.func64, Try.ntmps64
  go_wp2_with fail
  refine HI.out.mono ?_
  rintro e w' ⟨rfl, hb⟩
  have HB := Lib.hid hb
  clear hb
  go_wp2_with fail
  go_ret3
  exact ⟨rfl, HB.out⟩
set_option maxRecDepth 100000 in
theorem cut_miss (s : Bytes) (c : UInt8) (w : World) (hn : c ∉ s) (hs : s.length ≤ 1000000000000) :
    Calls Try.prog 64 #[.string (bs s), .string (bs [c])] w fun e w' => e = .returned (.tuple #[.string (bs s), .string (bs []), .bool false]) ∧ Below w.heap.size w w' := by
  have HI := Lib.hid (cutL_miss s c w hn hs)
  go_enter Try.func64, Try.ntmps64
  go_wp2_with fail
  refine HI.out.mono ?_
  rintro e w' ⟨rfl, hb⟩
  have HB := Lib.hid hb
  clear hb
  go_wp2_with fail
  go_ret3
  exact ⟨rfl, HB.out⟩

end Go.Proofs.Ytamdkmcdleilpaa
