/-
  Plain: names; runes decoded off a list of bytes; how wide a text is.
-/
import Derived.Test.YtamdkmcdleilpaaStr
import Derived.Laws.RangeAny
namespace Go.Proofs.Ytamdkmcdleilpaa
open Go.RowKit

/-- 's[k]', under one name. -/
theorem idx_run (l : Bytes) (k : Nat) (h : k < l.length) (w : World) : (Instr.index 9 (.string (bs l)) (.int .i64 k)).run Try.prog w = .ok (.int .u8 (byteAt l k).toNat) w := by
  rw [run_index_string w 9 (bs l) .i64 k Try.underlying9]
  rw [dif_pos (show (0 : Int) ≤ (k : Int) ∧ (k : Int) < ((bs l).size : Int) from ⟨by omega, by rw [bs_size]; omega⟩)]
  simp only [Int.toNat_natCast, bs_getElem]

def low (c : Nat) : Bool := decide (97 ≤ c) && decide (c ≤ 122)
def okC (c : Nat) : Bool := low c || (decide (48 ≤ c) && decide (c ≤ 57)) || decide (c = 95)
def nameB (l : Bytes) : Bool := decide (1 ≤ l.length) && decide (l.length ≤ 16) && low (byteAt l 0).toNat && l.all fun c => okC c.toNat

/-- The first k bytes may stand in a name. -/
def OkTo (l : Bytes) (k : Nat) : Prop := (0 < k → low (byteAt l 0).toNat = true) ∧ ∀ i, i < k → okC (byteAt l i).toNat = true
theorem OkTo.succ {l : Bytes} {k : Nat} (h : OkTo l k) (h1 : okC (byteAt l k).toNat = true) (h2 : k = 0 → low (byteAt l k).toNat = true) : OkTo l (k + 1) := by
  refine ⟨fun _ => ?_, fun i hi => ?_⟩
  · rcases Nat.eq_zero_or_pos k with e | e
    · subst e; exact h2 rfl
    · exact h.1 e
  · by_cases e : i = k
    · subst e; exact h1
    · exact h.2 i (by omega)
theorem nameB_yes {l : Bytes} (h1 : 1 ≤ l.length) (h2 : l.length ≤ 16) (h : OkTo l l.length) : nameB l = true := by
  unfold nameB
  rw [h.1 (by omega)]
  simp only [Bool.and_eq_true, decide_eq_true_eq, List.all_eq_true]
  refine ⟨⟨⟨h1, h2⟩, trivial⟩, fun c hc => ?_⟩
  obtain ⟨i, hi, rfl⟩ := List.getElem_of_mem hc
  rw [← byteAt_lt hi]; exact h.2 i hi
theorem nameB_no0 {l : Bytes} (h : l.length < 1 ∨ 16 < l.length) : nameB l = false := by
  unfold nameB
  rcases h with h | h
  · rw [decide_eq_false (show ¬ 1 ≤ l.length by omega)]; rfl
  · rw [decide_eq_false (show ¬ l.length ≤ 16 by omega)]; simp
theorem nameB_noL {l : Bytes} (h : low (byteAt l 0).toNat = false) : nameB l = false := by unfold nameB; rw [h]; simp
theorem nameB_noK {l : Bytes} {k : Nat} (hk : k < l.length) (h : okC (byteAt l k).toNat = false) : nameB l = false := by
  unfold nameB
  have : (l.all fun c => okC c.toNat) = false := by
    rw [List.all_eq_false]
    exact ⟨l[k], List.getElem_mem hk, by rw [← byteAt_lt hk, h]; exact Bool.false_ne_true⟩
  rw [this]; simp

/-! ### runes -/
def cont (l : Bytes) (k : Nat) : Bool := decide (k < l.length) && (byteAt l k).toNat / 64 == 2
/-- The rune with which l begins, and its width. -/
def dec (l : Bytes) : Nat × Nat :=
  let b0 := (byteAt l 0).toNat
  if b0 < 128 then (b0, 1)
  else if b0 / 32 == 6 && cont l 1 then
    let c := (b0 % 32) * 64 + (byteAt l 1).toNat % 64
    if c ≥ 128 then (c, 2) else (65533, 1)
  else if b0 / 16 == 14 && cont l 1 && cont l 2 then
    let c := (b0 % 16) * 4096 + ((byteAt l 1).toNat % 64) * 64 + (byteAt l 2).toNat % 64
    if c ≥ 2048 && Utf8.valid c then (c, 3) else (65533, 1)
  else if b0 / 8 == 30 && cont l 1 && cont l 2 && cont l 3 then
    let c := (b0 % 8) * 262144 + ((byteAt l 1).toNat % 64) * 4096 + ((byteAt l 2).toNat % 64) * 64 + (byteAt l 3).toNat % 64
    if c ≥ 65536 && Utf8.valid c then (c, 4) else (65533, 1)
  else (65533, 1)

theorem bs_get! (l : Bytes) (k : Nat) : (bs l).get! k = byteAt l k := by
  show l.toArray[k]! = _
  by_cases h : k < l.length
  · rw [getElem!_pos l.toArray k (by simpa using h), byteAt_lt h]; simp
  · rw [getElem!_neg l.toArray k (by simpa using h)]
    simp [byteAt, List.getD, List.getElem?_eq_none (show l.length ≤ k by omega)]
    rfl
theorem byteAt_drop (l : Bytes) (p k : Nat) : byteAt (l.drop p) k = byteAt l (p + k) := by simp [byteAt, List.getD]
theorem decode_bs (l : Bytes) (p : Nat) (hp : p < l.length) : Utf8.decode (bs l) p = dec (l.drop p) := by
  have hc : ∀ k, (decide (p + k < (bs l).size) && (byteAt l (p + k)).toNat / 64 == 2) = cont (l.drop p) k := fun k => by
    unfold cont
    rw [byteAt_drop, bs_size, List.length_drop]
    congr 1
    exact decide_eq_decide.2 (by omega)
  simp only [Utf8.decode, dec, bs_get!, byteAt_drop, hc, Utf8.runeError]

theorem next_bs {P : Program} (w : World) (l : Bytes) (p : Nat) (hp : p < l.length) (ty : TypeId) :
    (Instr.next (.pointer (some ⟨w.heap.size, 0, none⟩)) true ty).run P (w.iter (bs l) p) =
      .ok (.tuple #[.bool true, .int .i64 p, .int .i32 (dec (l.drop p)).1]) (w.iter (bs l) (p + (dec (l.drop p)).2)) := by
  rw [run_next_any w (bs l) p ty hp, decode_bs l p hp]
theorem next_end {P : Program} (w : World) (l : Bytes) (p : Nat) (hp : ¬ p < l.length) (ty : TypeId) :
    (Instr.next (.pointer (some ⟨w.heap.size, 0, none⟩)) true ty).run P (w.iter (bs l) p) = .ok (.tuple #[.bool false]) (w.iter (bs l) p) :=
  run_next_end w (bs l) p ty hp
theorem dec_low {l : Bytes} (h : (byteAt l 0).toNat < 128) : dec l = ((byteAt l 0).toNat, 1) := by
  unfold dec; simp only []; rw [if_pos h]
theorem dec_high {l : Bytes} (h : ¬ (byteAt l 0).toNat < 128) : 128 ≤ (dec l).1 ∧ (dec l).1 ≤ 1114111 ∧ 1 ≤ (dec l).2 ∧ (dec l).2 ≤ 4 := by
  have h0 := (byteAt l 0).toNat_lt
  have h1 := (byteAt l 1).toNat_lt
  have h2 := (byteAt l 2).toNat_lt
  have h3 := (byteAt l 3).toNat_lt
  unfold dec; simp only []
  rw [if_neg h]
  repeat' split
  all_goals simp_all [Utf8.valid]
  all_goals omega

end Go.Proofs.Ytamdkmcdleilpaa
