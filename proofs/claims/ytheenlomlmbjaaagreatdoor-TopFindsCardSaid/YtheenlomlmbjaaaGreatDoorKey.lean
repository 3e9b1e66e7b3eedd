/-
  policy.New, Wants, Next of a policy that counts nothing.
-/
import Derived.Test.YtheenlomlmbjaaaGreatDoorFSer
import Derived.Test.YtheenlomlmbjaaaGreatDoorGBlock
import Derived.Outline
import Derived.BigQuiet
import Derived.Test.YtheenlomlmbjaaaGreatDoorGrow
import Derived.Deep.QuietTactic
import Derived.Test.YtheenlomlmbjaaaGreatDoorMatch
import Derived.Deep.AppendLies
import Derived.OwnWalk
import Derived.Laws.RangeAny
import Derived.Laws.IdiomStrings
import Derived.IntWalk
set_option linter.unusedSimpArgs false
set_option linter.unusedVariables false
namespace Go.Proofs.YtheenlomlmbjaaaGreatDoor
open Go.RowKit Go.Maps

def PolOk (w : World) (p : Nat) : Prop := ∃ m, w.cell? ⟨p, 0, none⟩ = some (.map (some m)) ∧ OMap Tryz.prog 3 w m 0 (.map [])
theorem PolOk.below {w w' : World} {p : Nat} (h : PolOk w p) (hb : Below w.heap.size w w') : PolOk w' p := by
  obtain ⟨m, h1, h2⟩ := h
  exact ⟨m, (hb.cell (p := ⟨p, 0, none⟩) (World.block_lt_of_cell? w _ h1)).trans h1, h2.below hb⟩

theorem zeroArr2 (w : World) : (zeroValue 207).run Tryz.prog w = .ok (.agg #[.int .i64 0, .int .i64 0]) w := by kernel_rfl

set_option maxRecDepth 100000 in
set_option maxHeartbeats 1000000 in
theorem wants_any (p : Nat) (day : Int) (w : World) (h : PolOk w p) (h0 : 0 ≤ day) (h1 : day < 100000) :
    Calls Tryz.prog 185 #[.pointer (some ⟨p, 0, none⟩), .int .i64 day, .int .i64 0] w fun e w' => e = .returned (.int .i64 0) ∧ Below w.heap.size w w' := by
  obtain ⟨m, hc, hm⟩ := h
  have hlk : (Instr.lookup 158 (.map (some m)) (.int .i64 day) false).run Tryz.prog w = .ok (.agg #[.int .i64 0, .int .i64 0]) w := by
    obtain ⟨v', ps, hrun, hv⟩ := World.ownsMap.lookup hm keyedInt Tryz.underlying158 (zeroArr2 w) (rawE_eq _) (keyI h0 h1)
    have e : v' = .agg #[.int .i64 0, .int .i64 0] := by cases hv; rfl
    rw [e] at hrun
    exact hrun
  clear hm h0 h1
  have HX := Lib.hid (heap_alloc_new w (.cells #[.int .i64 0, .int .i64 0] 207))
  have x0 : (w.alloc (.cells #[.int .i64 0, .int .i64 0] 207)).cell? ⟨w.heap.size, 0, none⟩ = some (.int .i64 0) := by rw [World.cell?_alloc_at _ _ _ _ (by simp)]; rfl
  have x1 : (w.alloc (.cells #[.int .i64 0, .int .i64 0] 207)).cell? ⟨w.heap.size, 1, none⟩ = some (.int .i64 0) := by rw [World.cell?_alloc_at _ _ _ _ (by simp)]; rfl
  go_enter Tryz.func185, Tryz.ntmps185
  go_wp2_with fail
  go_quiet (fail)
  go_wp2_with fail
  go_ret
  exact ⟨rfl, belowN ((Below.refl _ _).alloc (Nat.le_refl _) _) _⟩

end Go.Proofs.YtheenlomlmbjaaaGreatDoor

namespace Go.Proofs.YtheenlomlmbjaaaGreatDoor.L4
open Go.RowKit

theorem copyCheck_nil {b : Nat} {w : World} (hbk : w.heap[b]? = some (.cells #[.pointer none, .slice none 0 0] 124 (0, 0))) :
    Calls Tryz.prog 85 #[.pointer (some ⟨b, 0, none⟩)] w fun e w' => e = .returned (.tuple #[]) ∧ w'.heap[b]? = some (.cells #[.pointer (some ⟨b, 0, none⟩), .slice none 0 0] 124 (0, 0)) ∧ Below b w w' := by
  refine (copyCheck_fresh b w (by rw [Lib.cell_of_heap hbk]; rfl) (by simp [World.shape?, hbk]) (Lib.frozen_of_heap hbk 0)).mono ?_
  rintro e w' ⟨rfl, rfl⟩
  exact ⟨rfl, by simp [World.setCell, Array.getElem?_modify, hbk], (Below.refl b w).setCell (p := ⟨b, 0, none⟩) (Nat.le_refl _) _⟩

set_option maxHeartbeats 2000000 in
set_option maxRecDepth 100000 in
theorem Grow_fresh (b n : Nat) (w : World) (hbk : w.heap[b]? = some (.cells #[.pointer none, .slice none 0 0] 124 (0, 0))) (hn : n ≤ 1000000000000) :
    Calls Tryz.prog 310 #[.pointer (some ⟨b, 0, none⟩), .int .i64 n] w fun e w' => e = .returned (.tuple #[]) ∧ Hb b (fun _ => none) [] w' ∧ Below b w w' := by
  have HC := Lib.hid (copyCheck_nil hbk)
  clear hbk
  go_enter Tryz.func310, Tryz.ntmps310
  go_wp2_with fail
  refine HC.out.mono ?_
  rintro e w1 ⟨rfl, hb1, hbl⟩
  clear HC
  have c1 : w1.cell? ⟨b, 1, none⟩ = some (.slice none 0 0) := by rw [Lib.cell_of_heap hb1]; rfl
  have HB := Lib.hid hb1
  have HL := Lib.hid hbl
  clear hb1 hbl
  by_cases h0 : n = 0
  · subst h0
    go_wp2_with fail
    go_quiet (fail)
    go_wp2_with fail
    go_end0
    exact ⟨rfl, ⟨_, _, .inr rfl, HB.out, World.ownsRow_nil _ _ _ _, fun k o h => by cases h⟩, ⟨HL.out.os, HL.out.tape, HL.out.output, HL.out.size, HL.out.block⟩⟩
  · have hlt : (0 : Int) < (n : Int) := by omega
    go_wp2_with fail
    go_quiet (fail)
    go_wp2_with fail
    refine (grow_fresh b n (w1.drewN _) (by exact HB.out) (by omega)).mono ?_
    rintro e w2 ⟨rfl, hat, hb2⟩
    have HA := Lib.hid hat
    have H2 := Lib.hid hb2
    clear hat hb2
    go_wp2_with fail
    go_end0
    exact ⟨rfl, Hb.ofAt HA.out, HL.out.trans ⟨H2.out.os, H2.out.tape, H2.out.output, H2.out.size, H2.out.block⟩⟩

end Go.Proofs.YtheenlomlmbjaaaGreatDoor.L4

namespace Go.Proofs.YtheenlomlmbjaaaGreatDoor.L4
open Go.RowKit

set_option maxHeartbeats 1000000 in
set_option maxRecDepth 100000 in
theorem join_one (v : Value) (x sep : Bytes) (w : World) (hv : Strs w v [x]) :
    Calls Tryz.prog 273 #[v, .string (bs sep)] w fun e w' => e = .returned (.string (bs x)) ∧ w = w' := by
  have HV := Lib.hid hv
  obtain ⟨a, cap, rfl, h1, h2, -⟩ := hv
  obtain ⟨b, off, rfl, hb, hc⟩ := HV.out.at_ (i := 0) (by simp)
  simp only [Nat.add_zero] at hc
  have hc' : w.cell? ⟨b, off, none⟩ = some (.string (bs x)) := hc
  clear hc
  go_enter Tryz.func273, Tryz.ntmps273
  go_wp2_with fail
  go_ret
  exact ⟨rfl, rfl⟩
set_option maxHeartbeats 1000000 in
set_option maxRecDepth 100000 in
theorem join_none (v : Value) (sep : Bytes) (w : World) (hv : Strs w v []) :
    Calls Tryz.prog 273 #[v, .string (bs sep)] w fun e w' => e = .returned (.string (bs [])) ∧ w = w' := by
  obtain ⟨a, cap, rfl, h1, h2, -⟩ := hv
  go_enter Tryz.func273, Tryz.ntmps273
  go_wp2_with fail
  go_ret
  exact ⟨rfl, rfl⟩

end Go.Proofs.YtheenlomlmbjaaaGreatDoor.L4

namespace Go.Proofs.YtheenlomlmbjaaaGreatDoor.L4
open Go.RowKit

def OwnS (w : World) (base : Nat) (v : Value) (l : List Bytes) : Prop := w.ownsRow base 9 1 v l.length (l.map fun s => .string (bs s))

theorem OwnS.open_ {w : World} {base : Nat} {v : Value} {l : List Bytes} (h : OwnS w base v l) :
    ∃ a cap, v = .slice a l.length cap ∧ l.length ≤ cap ∧ cap ≤ 9223372036854775807 ∧
      (0 < l.length → ∃ g, a = some ⟨g, 0, none⟩ ∧ base ≤ g ∧ g < w.heap.size ∧ ∀ i, i < l.length → w.cell? ⟨g, i, none⟩ = some (.string (bs (l.getD i [])))) := by
  obtain ⟨_, h2⟩ := h
  rcases h2 with ⟨rfl, h0⟩ | ⟨g, cap, cur, rfl, hg, hh, hn, hcap, hs, htake⟩
  · exact ⟨none, 0, by rw [h0], by omega, by omega, fun h => absurd h (by omega)⟩
  · refine ⟨_, cap, rfl, hn, by simp only [maxLen] at hcap; omega, fun _ => ⟨g, rfl, hg, (Array.getElem?_eq_some_iff.1 hh).1, fun i hi => ?_⟩⟩
    rw [cell_of_row w g i cur 9 (0, 0) hh]
    have hi' : (l.map fun s => Value.string (bs s))[i]? = some (.string (bs (l.getD i []))) := by
      simp [List.getD, List.getElem?_eq_getElem hi]
    rw [← htake] at hi'
    rw [List.getElem?_take] at hi'
    split at hi'
    · simpa using hi'
    · cases hi'
theorem OwnS.strs {w : World} {base : Nat} {v : Value} {l : List Bytes} (h : OwnS w base v l) : Strs w v l := by
  obtain ⟨a, cap, hv, h1, h2, h3⟩ := h.open_
  refine ⟨a, cap, hv, h1, h2, fun hx => ?_⟩
  obtain ⟨g, ha, _, hlt, hc⟩ := h3 (List.length_pos_iff.2 hx)
  exact ⟨g, 0, ha, hlt, fun i hi => by rw [Nat.zero_add]; exact hc i hi⟩
theorem OwnS.nil (w : World) (base : Nat) : OwnS w base (.slice none 0 0) [] := World.ownsRow_nil _ _ _ _
theorem OwnS.below {w w' : World} {base : Nat} {v : Value} {l : List Bytes} (h : OwnS w base v l) (hb : Below w.heap.size w w') : OwnS w' base v l := by
  obtain ⟨h1, h2⟩ := h
  refine ⟨h1, ?_⟩
  rcases h2 with h2 | ⟨g, cap, cur, hv, hg, hh, r⟩
  · exact .inl h2
  · exact .inr ⟨g, cap, cur, hv, hg, by rw [hb.block g (Array.getElem?_eq_some_iff.1 hh).1]; exact hh, r⟩

theorem infoStr : (Tryz.prog.info? 9).map (fun i => (i.zero, i.size, i.bytes)) = some (some (.string .empty), 1, 16) := by kernel_rfl

end Go.Proofs.YtheenlomlmbjaaaGreatDoor.L4

namespace Go.Proofs.YtheenlomlmbjaaaGreatDoor.L4
open Go.RowKit

def low (c : Nat) : Bool := decide (97 ≤ c) && decide (c ≤ 122)
def okC (c : Nat) : Bool := low c || (decide (48 ≤ c) && decide (c ≤ 57)) || decide (c = 95)
def nameB (l : Bytes) : Bool := decide (1 ≤ l.length) && decide (l.length ≤ 16) && low (byteAt l 0).toNat && l.all fun c => okC c.toNat

def OkTo (l : Bytes) (k : Nat) : Prop := (0 < k → low (byteAt l 0).toNat = true) ∧ ∀ i, i < k → okC (byteAt l i).toNat = true
theorem OkTo.succ {l : Bytes} {k : Nat} (h : OkTo l k) (h1 : okC (byteAt l k).toNat = true) (h2 : k = 0 → low (byteAt l k).toNat = true) : OkTo l (k + 1) := by
  refine ⟨fun _ => ?_, fun i hi => ?_⟩
  · rcases Nat.eq_zero_or_pos k with e | e
    · subst e; exact h2 rfl
    · exact h.1 e
  · by_cases e : i = k
    · subst e; exact h1
    · exact h.2 i (by omega)
theorem nameB_yes {l : Bytes} (h1 : 1 ≤ l.length) (h2 : l.length ≤ 16) (h : OkTo l l.length) : nameB l = true := by
  unfold nameB
  rw [h.1 (by omega)]
  simp only [Bool.and_eq_true, decide_eq_true_eq, List.all_eq_true]
  refine ⟨⟨⟨h1, h2⟩, trivial⟩, fun c hc => ?_⟩
  obtain ⟨i, hi, rfl⟩ := List.getElem_of_mem hc
  rw [← byteAt_lt hi]; exact h.2 i hi
theorem nameB_no0 {l : Bytes} (h : l.length < 1 ∨ 16 < l.length) : nameB l = false := by
  unfold nameB
  rcases h with h | h
  · rw [decide_eq_false (show ¬ 1 ≤ l.length by omega)]; rfl
  · rw [decide_eq_false (show ¬ l.length ≤ 16 by omega)]; simp
theorem nameB_noL {l : Bytes} (h : low (byteAt l 0).toNat = false) : nameB l = false := by unfold nameB; rw [h]; simp
theorem nameB_noK {l : Bytes} {k : Nat} (hk : k < l.length) (h : okC (byteAt l k).toNat = false) : nameB l = false := by
  unfold nameB
  have : (l.all fun c => okC c.toNat) = false := by
    rw [List.all_eq_false]
    exact ⟨l[k], List.getElem_mem hk, by rw [← byteAt_lt hk, h]; exact Bool.false_ne_true⟩
  rw [this]; simp

def cont (l : Bytes) (k : Nat) : Bool := decide (k < l.length) && (byteAt l k).toNat / 64 == 2
def dec (l : Bytes) : Nat × Nat :=
  let b0 := (byteAt l 0).toNat
  if b0 < 128 then (b0, 1)
  else if b0 / 32 == 6 && cont l 1 then
    let c := (b0 % 32) * 64 + (byteAt l 1).toNat % 64
    if c ≥ 128 then (c, 2) else (65533, 1)
  else if b0 / 16 == 14 && cont l 1 && cont l 2 then
    let c := (b0 % 16) * 4096 + ((byteAt l 1).toNat % 64) * 64 + (byteAt l 2).toNat % 64
    if c ≥ 2048 && Utf8.valid c then (c, 3) else (65533, 1)
  else if b0 / 8 == 30 && cont l 1 && cont l 2 && cont l 3 then
    let c := (b0 % 8) * 262144 + ((byteAt l 1).toNat % 64) * 4096 + ((byteAt l 2).toNat % 64) * 64 + (byteAt l 3).toNat % 64
    if c ≥ 65536 && Utf8.valid c then (c, 4) else (65533, 1)
  else (65533, 1)

theorem bs_get! (l : Bytes) (k : Nat) : (bs l).get! k = byteAt l k := by
  show l.toArray[k]! = _
  by_cases h : k < l.length
  · rw [getElem!_pos l.toArray k (by simpa using h), byteAt_lt h]; simp
  · rw [getElem!_neg l.toArray k (by simpa using h)]
    simp [byteAt, List.getD, List.getElem?_eq_none (show l.length ≤ k by omega)]
    rfl
theorem byteAt_drop (l : Bytes) (p k : Nat) : byteAt (l.drop p) k = byteAt l (p + k) := by simp [byteAt, List.getD]
theorem decode_bs (l : Bytes) (p : Nat) (hp : p < l.length) : Utf8.decode (bs l) p = dec (l.drop p) := by
  have hc : ∀ k, (decide (p + k < (bs l).size) && (byteAt l (p + k)).toNat / 64 == 2) = cont (l.drop p) k := fun k => by
    unfold cont
    rw [byteAt_drop, bs_size, List.length_drop]
    congr 1
    exact decide_eq_decide.2 (by omega)
  simp only [Utf8.decode, dec, bs_get!, byteAt_drop, hc, Utf8.runeError]

theorem next_bs {P : Program} (w : World) (l : Bytes) (p : Nat) (hp : p < l.length) (ty : TypeId) :
    (Instr.next (.pointer (some ⟨w.heap.size, 0, none⟩)) true ty).run P (w.iter (bs l) p) =
      .ok (.tuple #[.bool true, .int .i64 p, .int .i32 (dec (l.drop p)).1]) (w.iter (bs l) (p + (dec (l.drop p)).2)) := by
  rw [run_next_any w (bs l) p ty hp, decode_bs l p hp]
theorem next_end {P : Program} (w : World) (l : Bytes) (p : Nat) (hp : ¬ p < l.length) (ty : TypeId) :
    (Instr.next (.pointer (some ⟨w.heap.size, 0, none⟩)) true ty).run P (w.iter (bs l) p) = .ok (.tuple #[.bool false]) (w.iter (bs l) p) :=
  run_next_end w (bs l) p ty hp
theorem dec_low {l : Bytes} (h : (byteAt l 0).toNat < 128) : dec l = ((byteAt l 0).toNat, 1) := by
  unfold dec; simp only []; rw [if_pos h]
theorem dec_high {l : Bytes} (h : ¬ (byteAt l 0).toNat < 128) : 128 ≤ (dec l).1 ∧ (dec l).1 ≤ 1114111 ∧ 1 ≤ (dec l).2 ∧ (dec l).2 ≤ 4 := by
  have h0 := (byteAt l 0).toNat_lt
  have h1 := (byteAt l 1).toNat_lt
  have h2 := (byteAt l 2).toNat_lt
  have h3 := (byteAt l 3).toNat_lt
  unfold dec; simp only []
  rw [if_neg h]
  repeat' split
  all_goals simp_all [Utf8.valid]
  all_goals omega

end Go.Proofs.YtheenlomlmbjaaaGreatDoor.L4

namespace Go.Proofs.YtheenlomlmbjaaaGreatDoor.L4
open Go.RowKit

theorem decide_f {p : Prop} [Decidable p] (h : ¬ p) : decide p = false := decide_eq_false h

set_option maxRecDepth 100000 in
set_option maxHeartbeats 2000000 in
theorem name_any (l : Bytes) (w : World) :
    Calls Tryz.prog 42 #[.string (bs l)] w fun e w' => e = .returned (.bool (nameB l)) ∧ Below w.heap.size w w' := by
  by_cases h1 : l.length < 1
  · have HE := Lib.hid (nameB_no0 (.inl h1))
    obtain rfl : l = [] := List.eq_nil_of_length_eq_zero (by omega)
    clear h1
    go_enter Tryz.func42, Tryz.ntmps42
    go_wp2_with fail
    go_ret
    exact ⟨by rw [HE.out]; rfl, Below.refl _ _⟩
  · have hne : (l == ([] : Bytes)) = false := by rw [beq_eq_false_iff_ne]; intro e; rw [e] at h1; simp at h1
    have hne2 : l.isEmpty = false := by rw [List.isEmpty_eq_false_iff]; intro e; rw [e] at h1; simp at h1
    by_cases h2 : 16 < l.length
    · have HE := Lib.hid (nameB_no0 (.inr h2))
      go_enter Tryz.func42, Tryz.ntmps42
      go_wp2_with fail
      go_ret
      exact ⟨by rw [HE.out]; rfl, Below.refl _ _⟩
    · have hY := Lib.hid (fun h => nameB_yes (l := l) (by omega) (by omega) h)
      have HL := Lib.hid (fun e => nameB_noL (l := l) e)
      go_enter Tryz.func42, Tryz.ntmps42
      go_wp2_with fail
      go_loopw [] (fun wr => ∃ k : Nat, k ≤ l.length ∧ wr = w.iter (bs l) k ∧ OkTo l k)
        (fun wr => l.length - wr.iterPos w.heap.size)
      case atStart => exact ⟨0, Nat.zero_le _, rfl, fun h => absurd h (by omega), fun i h => absurd h (by omega)⟩
      case round =>
        obtain ⟨k, hk, rfl, hok⟩ := hrel
        have HK := Lib.hid hok
        clear hok
        by_cases hlt : k < l.length
        · have HNX := Lib.hid (fun ty => next_bs (P := Tryz.prog) w l k hlt ty)
          have HB := Lib.hid (byteAt_drop l k 0)
          have HS := Lib.hid (fun h1 h2 => HK.out.succ h1 h2)
          have HN := Lib.hid (fun e => nameB_noK hlt e)
          have hc := (byteAt l k).toNat_lt
          by_cases hasc : (byteAt l k).toNat < 128
          · have hnx := HNX.out
            have hd := dec_low (l := l.drop k) (by rw [HB.out]; exact hasc)
            rw [HB.out] at hd
            simp only [Nat.add_zero] at hd
            rw [hd] at hnx
            simp only [] at hnx
            clear hd HB HNX
            have H00 := Lib.hid (fun (h : k = 0) => (by subst h; rfl : (byteAt l k).toNat = (byteAt l 0).toNat))
            generalize (byteAt l k).toNat = c at *
            by_cases a1 : 97 ≤ c ∧ c ≤ 122
            · obtain ⟨a1, a2⟩ := a1
              have HE := Lib.hid (HS.out (by unfold okC low; simp [a1, a2]) (fun _ => by unfold low; simp [a1, a2]))
              go_wp2_with fail
              go_roundw
              case rel => exact ⟨k + 1, by omega, rfl, HE.out⟩
              case measure => simp; omega
            · have d1 : c < 97 ∨ 122 < c := by omega
              have Hnl := Lib.hid (show low c = false by unfold low; simp; omega)
              by_cases k0 : k = 0
              · have HE := Lib.hid (HL.out (by rw [← H00.out k0]; exact Hnl.out))
                subst k0
                clear a1
                rcases d1 with d1 | d1 <;>
                  ((try have hq : decide ((c : Int) ≤ 122) = false := decide_f (by omega))
                   go_wp2_with fail
                   go_ret
                   exact ⟨by rw [HE.out]; rfl, (Below.refl _ _).alloc (Nat.le_refl _) _⟩)
              · have hk0 : ((k : Int) == 0) = false := by rw [beq_eq_false_iff_ne]; omega
                by_cases b1 : 48 ≤ c ∧ c ≤ 57
                · obtain ⟨b1, b2⟩ := b1
                  have HE := Lib.hid (HS.out (by unfold okC; simp [b1, b2]) (fun e => absurd e k0))
                  have hne : ((c : Int) != 95) = true := by rw [bne_iff_ne]; omega
                  clear a1 d1 k0
                  go_wp2_with fail
                  go_roundw
                  case rel => exact ⟨k + 1, by omega, rfl, HE.out⟩
                  case measure => simp; omega
                · by_cases c1 : c = 95
                  · have HE := Lib.hid (HS.out (by unfold okC; simp [c1]) (fun e => absurd e k0))
                    subst c1
                    clear a1 b1 d1 k0
                    go_wp2_with fail
                    go_roundw
                    case rel => exact ⟨k + 1, by omega, rfl, HE.out⟩
                    case measure => simp; omega
                  · have HE := Lib.hid (HN.out (by
                      have e2 : (decide (48 ≤ c) && decide (c ≤ 57)) = false := by simp; omega
                      unfold okC; rw [Hnl.out, e2, decide_f c1]; rfl))
                    have hne : ((c : Int) != 95) = true := by rw [bne_iff_ne]; omega
                    have d2 : c < 48 ∨ 57 < c := by omega
                    clear a1 b1 c1 k0
                    rcases d1 with d1 | d1 <;> rcases d2 with d2 | d2 <;> first
                      | omega
                      | ((try have hq : decide ((c : Int) ≤ 122) = false := decide_f (by omega))
                         go_wp2_with fail
                         go_ret
                         exact ⟨by rw [HE.out]; rfl, (Below.refl _ _).alloc (Nat.le_refl _) _⟩)
          · have hd := dec_high (l := l.drop k) (by rw [HB.out]; exact hasc)
            have hnx := HNX.out
            have HE := Lib.hid (HN.out (by unfold okC low; simp; omega))
            generalize (dec (l.drop k)).1 = r at *
            generalize (dec (l.drop k)).2 = n at *
            obtain ⟨hd1, hd2, hd3, hd4⟩ := hd
            have hne : ((r : Int) != 95) = true := by rw [bne_iff_ne]; omega
            have hq : decide ((r : Int) ≤ 122) = false := decide_f (by omega)
            clear HB HNX hasc
            by_cases k0 : k = 0
            · subst k0
              go_wp2_with fail
              go_ret
              exact ⟨by rw [HE.out]; rfl, (Below.refl _ _).alloc (Nat.le_refl _) _⟩
            · have hk0 : ((k : Int) == 0) = false := by rw [beq_eq_false_iff_ne]; omega
              clear k0
              go_wp2_with fail
              go_ret
              exact ⟨by rw [HE.out]; rfl, (Below.refl _ _).alloc (Nat.le_refl _) _⟩
        · have hnx := fun ty => next_end (P := Tryz.prog) w l k hlt ty
          have HE := Lib.hid (hY.out (by rw [← show k = l.length by omega]; exact HK.out))
          go_wp2_with fail
          go_ret
          exact ⟨by rw [HE.out]; rfl, (Below.refl _ _).alloc (Nat.le_refl _) _⟩

end Go.Proofs.YtheenlomlmbjaaaGreatDoor.L4

namespace Go.Proofs.YtheenlomlmbjaaaGreatDoor.L4

def runeLen (r : Nat) : Int := if r ≤ 127 then 1 else if r ≤ 2047 then 2 else if 55296 ≤ r ∧ r ≤ 57343 then -1 else if r ≤ 65535 then 3 else if r ≤ 1114111 then 4 else -1

theorem dec_len {l : Bytes} (h : l ≠ []) : (dec l).2 ≤ l.length ∧ 1 ≤ (dec l).2 := by
  have hl : 0 < l.length := List.length_pos_iff.2 h
  unfold dec; simp only []
  repeat' split
  all_goals simp_all [cont]
  all_goals omega
theorem dec_wide (l : Bytes) : ((dec l).2 : Int) ≤ runeLen (dec l).1 ∧ runeLen (dec l).1 ≤ 4 := by
  have h0 := (byteAt l 0).toNat_lt
  have h1 := (byteAt l 1).toNat_lt
  have h2 := (byteAt l 2).toNat_lt
  have h3 := (byteAt l 3).toNat_lt
  unfold dec; simp only []
  repeat' split
  all_goals simp_all [Utf8.valid, runeLen]
  all_goals (try omega)
  all_goals (repeat' split)
  all_goals omega
theorem runeLen_1 {c : Nat} (h : c < 128) : runeLen c = 1 := by unfold runeLen; rw [if_pos (by omega)]
theorem runeLen_2 {c : Nat} (h : 128 ≤ c) (h2 : c < 2048) : runeLen c = 2 := by unfold runeLen; rw [if_neg (by omega), if_pos (by omega)]
theorem runeLen_3 {c : Nat} (h : 2048 ≤ c) (h2 : c < 65536) (hs : ¬ (55296 ≤ c ∧ c ≤ 57343)) : runeLen c = 3 := by
  unfold runeLen; rw [if_neg (by omega), if_neg (by omega), if_neg hs, if_pos (by omega)]
theorem runeLen_4 {c : Nat} (h : 65536 ≤ c) (h2 : c ≤ 1114111) : runeLen c = 4 := by
  unfold runeLen; rw [if_neg (by omega), if_neg (by omega), if_neg (by omega), if_neg (by omega), if_pos (by omega)]
def Wd (p : Nat × Nat) : Nat := if runeLen p.1 = p.2 then p.2 else 0
def wideN : Nat → Bytes → Int
  | 0, _ => 0
  | n + 1, l => if l = [] then 0 else runeLen (dec l).1 + wideN n (l.drop (dec l).2)
def valN : Nat → Bytes → Bool
  | 0, _ => true
  | n + 1, l => if l = [] then true else if Wd (dec l) = 0 then false else valN n (l.drop (Wd (dec l)))
def valueB (l : Bytes) : Bool := decide (l.length ≤ 32) && valN l.length l

theorem wideN_more : ∀ (n m : Nat) (l : Bytes), l.length ≤ n → l.length ≤ m → wideN n l = wideN m l := by
  intro n
  induction n with
  | zero =>
    intro m l h _
    have : l = [] := List.eq_nil_of_length_eq_zero (by omega)
    subst this
    cases m <;> simp [wideN]
  | succ n ih =>
    intro m l h h'
    by_cases e : l = []
    · subst e; cases m <;> simp [wideN]
    · have hl := List.length_pos_iff.2 e
      obtain ⟨d1, d2⟩ := dec_len e
      cases m with
      | zero => omega
      | succ m =>
        simp only [wideN]
        rw [if_neg e, if_neg e, ih m (l.drop (dec l).2) (by rw [List.length_drop]; omega) (by rw [List.length_drop]; omega)]
theorem wide_ge : ∀ (n : Nat) (l : Bytes), l.length ≤ n → (l.length : Int) ≤ wideN n l ∧ wideN n l ≤ 4 * l.length ∧ (wideN n l = l.length ↔ valN n l = true) := by
  intro n
  induction n with
  | zero =>
    intro l h
    have : l = [] := List.eq_nil_of_length_eq_zero (by omega)
    subst this
    simp [wideN, valN]
  | succ n ih =>
    intro l h
    by_cases e : l = []
    · subst e; simp [wideN, valN]
    · have hl := List.length_pos_iff.2 e
      obtain ⟨d1, d2⟩ := dec_len e
      obtain ⟨w1, w2⟩ := dec_wide l
      simp only [wideN, valN]
      rw [if_neg e, if_neg e]
      obtain ⟨i1, i2, i3⟩ := ih (l.drop (dec l).2) (by rw [List.length_drop]; omega)
      rw [List.length_drop] at i1 i2 i3
      by_cases hw : runeLen (dec l).1 = (dec l).2
      · have ew : Wd (dec l) = (dec l).2 := by unfold Wd; rw [if_pos hw]
        rw [ew, if_neg (by omega)]
        refine ⟨by omega, by omega, ?_⟩
        rw [← i3]
        constructor <;> intro h <;> omega
      · have ew : Wd (dec l) = 0 := by unfold Wd; rw [if_neg hw]
        rw [if_pos ew]
        refine ⟨by omega, by omega, ?_⟩
        constructor
        · intro h; omega
        · intro h; cases h
theorem wide_step {l : Bytes} {k : Nat} (h : k < l.length) : wideN l.length (l.drop k) = runeLen (dec (l.drop k)).1 + wideN l.length (l.drop (k + (dec (l.drop k)).2)) := by
  have e : l.drop k ≠ [] := by intro h'; have := congrArg List.length h'; rw [List.length_drop] at this; simp at this; omega
  obtain ⟨d1, d2⟩ := dec_len e
  rw [List.length_drop] at d1
  have hl : 0 < l.length := by omega
  obtain ⟨m, hm⟩ : ∃ m, l.length = m + 1 := ⟨l.length - 1, by omega⟩
  rw [hm]
  show (if l.drop k = [] then 0 else _) = _
  rw [if_neg e, List.drop_drop]
  congr 1
  exact wideN_more _ _ _ (by rw [List.length_drop]; omega) (by rw [List.length_drop]; omega)
theorem value_is {l : Bytes} (h : l.length ≤ 32) : valueB l = decide (wideN l.length l = l.length) := by
  unfold valueB
  rw [decide_eq_true h, Bool.true_and]
  have := (wide_ge l.length l (Nat.le_refl _)).2.2
  cases hv : valN l.length l with
  | true => exact (decide_eq_true (this.2 hv)).symm
  | false => exact (decide_eq_false (fun e => by rw [this.1 e] at hv; cases hv)).symm
theorem value_no {l : Bytes} (h : 32 < l.length) : valueB l = false := by
  unfold valueB; rw [decide_eq_false (show ¬ l.length ≤ 32 by omega)]; rfl

end Go.Proofs.YtheenlomlmbjaaaGreatDoor.L4

namespace Go.Proofs.YtheenlomlmbjaaaGreatDoor.L4
open Go.RowKit

theorem dec_le (l : Bytes) : (dec l).1 ≤ 1114111 := by
  by_cases h : (byteAt l 0).toNat < 128
  · rw [dec_low h]; show (byteAt l 0).toNat ≤ _; omega
  · exact (dec_high h).2.1

set_option maxRecDepth 100000 in
set_option maxHeartbeats 1000000 in
theorem runeLen_any (r : Nat) (hr : r ≤ 1114111) (w : World) :
    Calls Tryz.prog 87 #[.int .i32 r] w fun e w' => e = .returned (.int .i64 (runeLen r)) ∧ w = w' := by
  by_cases h1 : r ≤ 127
  · have HE := Lib.hid (runeLen_1 (c := r) (by omega))
    go_enter Tryz.func87, Tryz.ntmps87
    go_wp2_with fail
    go_ret
    exact ⟨by rw [HE.out]; rfl, rfl⟩
  · by_cases h2 : r ≤ 2047
    · have HE := Lib.hid (runeLen_2 (c := r) (by omega) (by omega))
      go_enter Tryz.func87, Tryz.ntmps87
      go_wp2_with fail
      go_ret
      exact ⟨by rw [HE.out]; rfl, rfl⟩
    · by_cases h3 : 55296 ≤ r ∧ r ≤ 57343
      · have HE := Lib.hid (show runeLen r = -1 by unfold runeLen; rw [if_neg (by omega), if_neg (by omega), if_pos h3])
        obtain ⟨h3, h4⟩ := h3
        go_enter Tryz.func87, Tryz.ntmps87
        go_wp2_with fail
        go_ret
        exact ⟨by rw [HE.out]; rfl, rfl⟩
      · have h34 : r < 55296 ∨ 57343 < r := by omega
        by_cases h5 : r ≤ 65535
        · have HE := Lib.hid (runeLen_3 (c := r) (by omega) (by omega) (by omega))
          clear h3
          rcases h34 with h34 | h34 <;>
          ( go_enter Tryz.func87, Tryz.ntmps87
            go_wp2_with fail
            go_ret
            exact ⟨by rw [HE.out]; rfl, rfl⟩)
        · have HE := Lib.hid (runeLen_4 (c := r) (by omega) (by omega))
          clear h3
          have h34 : 57343 < r := by omega
          go_enter Tryz.func87, Tryz.ntmps87
          go_wp2_with fail
          go_ret
          exact ⟨by rw [HE.out]; rfl, rfl⟩

set_option maxRecDepth 100000 in
set_option maxHeartbeats 1000000 in
theorem value_any (l : Bytes) (w : World) :
    Calls Tryz.prog 44 #[.string (bs l)] w fun e w' => e = .returned (.bool (valueB l)) ∧ Below w.heap.size w w' := by
  by_cases h1 : 32 < l.length
  · have HE := Lib.hid (value_no h1)
    go_enter Tryz.func44, Tryz.ntmps44
    go_wp2_with fail
    go_ret
    exact ⟨by rw [HE.out]; rfl, Below.refl _ _⟩
  · have HV := Lib.hid (value_is (l := l) (by omega))
    have HW := Lib.hid (wide_ge l.length l (Nat.le_refl _))
    go_enter Tryz.func44, Tryz.ntmps44
    go_wp2_with fail
    go_loopw [3, 5] (fun t r wr => ∃ (k : Nat) (z : Int), k ≤ l.length ∧ 0 ≤ z ∧ t = .int .i64 z ∧ wr = w.iter (bs l) k ∧ z + wideN l.length (l.drop k) = wideN l.length l)
      (fun t r wr => l.length - wr.iterPos w.heap.size)
    case atStart => exact ⟨0, 0, Nat.zero_le _, by omega, rfl, rfl, by rw [List.drop_zero]; omega⟩
    case round =>
      obtain ⟨k, z, hk, z0, rfl, rfl, hz⟩ := hrel
      obtain ⟨v1, v2, -⟩ := wide_ge l.length (l.drop k) (by rw [List.length_drop]; omega)
      have hW := HW.out.2.1
      have z1 : z ≤ 128 := by omega
      by_cases hlt : k < l.length
      · have hst := wide_step hlt
        have hnx : ∀ ty, _ := fun ty => next_bs (P := Tryz.prog) w l k hlt ty
        obtain ⟨d1, d2⟩ := dec_wide (l.drop k)
        obtain ⟨e1, e2⟩ := dec_len (l := l.drop k) (by intro h'; have := congrArg List.length h'; rw [List.length_drop] at this; simp at this; omega)
        rw [List.length_drop] at e1
        have HZ := Lib.hid hz
        have HS := Lib.hid hst
        clear hz hst v1 v2 hW
        have hr : (dec (l.drop k)).1 ≤ 1114111 := dec_le _
        generalize (dec (l.drop k)).1 = r at *
        generalize (dec (l.drop k)).2 = n at *
        go_wp2_with fail
        refine (runeLen_any r hr _).mono ?_
        rintro e w1 ⟨rfl, rfl⟩
        go_wp2_with fail
        go_roundw
        case rel => exact ⟨k + n, z + runeLen r, by omega, by omega, by go_num, rfl, by have := HZ.out; have := HS.out; omega⟩
        case measure => simp; omega
      · have hnx : ∀ ty, _ := fun ty => next_end (P := Tryz.prog) w l k hlt ty
        have hl : l.drop k = [] := List.drop_eq_nil_of_le (by omega)
        have h0 : wideN l.length ([] : Bytes) = 0 := by cases l.length <;> simp [wideN]
        rw [hl, h0] at hz
        have HE := Lib.hid (show valueB l = (z == (l.length : Int)) by
          rw [HV.out]
          cases hd : (z == (l.length : Int)) with
          | true => rw [beq_iff_eq] at hd; exact decide_eq_true (by omega)
          | false => rw [beq_eq_false_iff_ne] at hd; exact decide_eq_false (by omega))
        clear hz h0 hl v1 v2 hW
        go_wp2_with fail
        go_ret
        exact ⟨by rw [HE.out]; rfl, (Below.refl _ _).alloc (Nat.le_refl _) _⟩

end Go.Proofs.YtheenlomlmbjaaaGreatDoor.L4

namespace Go.Proofs.YtheenlomlmbjaaaGreatDoor.L4
open Go.RowKit

end Go.Proofs.YtheenlomlmbjaaaGreatDoor.L4

namespace Go.Proofs.YtheenlomlmbjaaaGreatDoor.L4
open Go.RowKit

def leB (a b : Bytes) : Bool := Op.bytesLess a b || a == b
def chkFrom (last : Bytes) : List Lab → Bool
  | [] => true
  | x :: r => nameB x.1 && !(leB x.1 last) && !(x.2 == []) && valueB x.2 && chkFrom x.1 r
def chkL (ls : List Lab) : Bool := decide (ls.length ≤ 8) && chkFrom [] ls
def errL (b : Bool) : Int := if b then 0 else 40

theorem is_b0 {P : Program} {f : Nat} {args : Array Value} {w : World} {b c : Bool} {Q : World → Prop} (h : Calls P f args w fun e w' => e = .returned (.bool b) ∧ Q w') (e : b = c) :
    Calls P f args w fun e w' => e = .returned (.bool c) ∧ Q w' := e ▸ h
end Go.Proofs.YtheenlomlmbjaaaGreatDoor.L4

namespace Go.Proofs.YtheenlomlmbjaaaGreatDoor
theorem St.tl {w0 w : World} {p : World → Prop} {l : List (World → Prop)} (h : St w0 w (p :: l)) : St w0 w l := ⟨h.bel, fun q hq => h.stay q (List.mem_cons_of_mem _ hq)⟩
end Go.Proofs.YtheenlomlmbjaaaGreatDoor

namespace Go.Proofs.YtheenlomlmbjaaaGreatDoor.L4
open Go.RowKit
theorem nil_beq {x : Bytes} {b : Bool} (h : (x == []) = b) : x.isEmpty = b := by
  rw [← h]; cases x <;> rfl
theorem chkFrom_step {ls : List Lab} {k : Nat} {last : Bytes} (h : k < ls.length) :
    chkFrom last (ls.drop k) = (nameB (ls.getD k ([], [])).1 && !(leB (ls.getD k ([], [])).1 last) && !((ls.getD k ([], [])).2 == []) && valueB (ls.getD k ([], [])).2 && chkFrom (ls.getD k ([], [])).1 (ls.drop (k + 1))) := by
  rw [drop_lab h]; rfl
theorem chkL_no {ls : List Lab} (h : chkFrom [] ls = false) : chkL ls = false := by unfold chkL; rw [h, Bool.and_false]
theorem chkL_yes {ls : List Lab} (h : chkFrom [] ls = true) : chkL ls = decide (ls.length ≤ 8) := by unfold chkL; rw [h, Bool.and_true]

set_option maxRecDepth 100000 in
set_option maxHeartbeats 2000000 in
theorem check_any (v : Value) (ls : List Lab) (w : World) (hv : Labels w v ls) :
    Calls Tryz.prog 38 #[v] w fun e w' => e = .returned (.int .i64 (errL (chkL ls))) ∧ Below w.heap.size w w' := by
  have HV := Lib.hid ((St.start w).add (fun w' => Labels w' v ls) (fun w' hb => hv.below hb))
  obtain ⟨a, cap, rfl, h1, h2, -⟩ := hv
  go_enter Tryz.func38, Tryz.ntmps38
  go_wp2_with fail
  go_loopw [8, 3, 5] (fun i s q wr => ∃ (k : Nat) (last : Bytes), k ≤ ls.length ∧ i = .int .i64 k ∧ s = .string (bs last) ∧ St w wr [fun w' => Labels w' (.slice a ls.length cap) ls] ∧ chkFrom last (ls.drop k) = chkFrom [] ls)
    (fun i s q wr => ls.length - (intOf i).toNat)
  case atStart => exact ⟨0, [], Nat.zero_le _, rfl, rfl, HV.out, rfl⟩
  case round =>
    obtain ⟨k, last, hk, rfl, rfl, hbl, hg⟩ := hrel
    have HB := Lib.hid hbl
    have HG := Lib.hid hg
    clear hg hbl
    by_cases hlt : k < ls.length
    · obtain ⟨b, off, rfl, hb, hc1, hc2⟩ := (HB.out.get 0 rfl).at_ hlt
      have HS := Lib.hid (HG.out.symm.trans (chkFrom_step hlt))
      generalize (ls.getD k ([], [])).1 = n at *
      generalize (ls.getD k ([], [])).2 = x at *
      have HX : Hid (St w (wr.alloc (.cells #[.string (bs n), .string (bs x)] 53)) [fun w' => w'.cell? ⟨wr.heap.size, 0, none⟩ = some (.string (bs n)) ∧ w'.cell? ⟨wr.heap.size, 1, none⟩ = some (.string (bs x)), fun w' => Labels w' (.slice (some ⟨b, off, none⟩) ls.length cap) ls]) := Lib.hid ((HB.out.alloc _).add _ (fun w' hb' =>
        ⟨(hb'.cell (p := ⟨wr.heap.size, 0, none⟩) (by simp)).trans (by rw [World.cell?_alloc_at _ _ _ _ rfl]; rfl), (hb'.cell (p := ⟨wr.heap.size, 1, none⟩) (by simp)).trans (by rw [World.cell?_alloc_at _ _ _ _ rfl]; rfl)⟩))
      cases e1 : nameB n with
      | false =>
        have HE := Lib.hid (show chkFrom [] ls = false by rw [HS.out, e1]; simp)
        clear HS
        have HN := Lib.hid e1
        clear e1
        go_wp2_with fail
        refine (is_b0 (name_any n _) HN.out).mono ?_
        rintro e w1 ⟨rfl, hd⟩
        have HX1 := Lib.hid (HX.out.step hd)
        clear hd
        obtain ⟨q1, q2⟩ := HX1.out.get 0 rfl
        go_wp2_with fail
        go_ret
        exact ⟨by rw [chkL_no HE.out]; rfl, HX1.out.bel⟩
      | true =>
        cases e2 : Op.bytesLess n last with
        | false =>
          cases e3 : (n == last) with
          | false =>
            cases e4 : (x == ([] : Bytes)) with
            | false =>
              have e4b := nil_beq e4
              cases e5 : valueB x with
              | false =>
                have HE := Lib.hid (show chkFrom [] ls = false by rw [HS.out, e1, e5]; simp)
                have HVV := Lib.hid e5
                clear e5 HS
                have HN := Lib.hid e1
                clear e1
                go_wp2_with fail
                refine (is_b0 (name_any n _) HN.out).mono ?_
                rintro e w1 ⟨rfl, hd⟩
                have HX1 := Lib.hid (HX.out.step hd)
                clear hd
                obtain ⟨q1, q2⟩ := HX1.out.get 0 rfl
                go_wp2_with fail
                refine (is_b0 (value_any x _) HVV.out).mono ?_
                rintro e w2 ⟨rfl, hd⟩
                have HX2 := Lib.hid (HX1.out.step hd)
                clear hd q1 q2
                obtain ⟨q1, q2⟩ := HX2.out.get 0 rfl
                go_wp2_with fail
                go_ret
                exact ⟨by rw [chkL_no HE.out]; rfl, HX2.out.bel⟩
              | true =>
                have HE := Lib.hid (show chkFrom n (ls.drop (k + 1)) = chkFrom [] ls by rw [HS.out, e1, e4, e5, show leB n last = false by unfold leB; rw [e2, e3]; rfl]; simp)
                have HVV := Lib.hid e5
                clear e5 HS
                have HN := Lib.hid e1
                clear e1
                go_wp2_with fail
                refine (is_b0 (name_any n _) HN.out).mono ?_
                rintro e w1 ⟨rfl, hd⟩
                have HX1 := Lib.hid (HX.out.step hd)
                clear hd
                obtain ⟨q1, q2⟩ := HX1.out.get 0 rfl
                go_wp2_with fail
                refine (is_b0 (value_any x _) HVV.out).mono ?_
                rintro e w2 ⟨rfl, hd⟩
                have HX2 := Lib.hid (HX1.out.step hd)
                clear hd q1 q2
                obtain ⟨q1, q2⟩ := HX2.out.get 0 rfl
                go_wp2_with fail
                go_roundw
                case rel => exact ⟨k + 1, n, by omega, by go_num, rfl, HX2.out.tl, HE.out⟩
                case measure => simp [intOf]; omega
            | true =>
              have HE := Lib.hid (show chkFrom [] ls = false by rw [HS.out, e1, e4]; simp)
              clear HS
              have HN := Lib.hid e1
              clear e1
              go_wp2_with fail
              refine (is_b0 (name_any n _) HN.out).mono ?_
              rintro e w1 ⟨rfl, hd⟩
              have HX1 := Lib.hid (HX.out.step hd)
              clear hd
              obtain ⟨q1, q2⟩ := HX1.out.get 0 rfl
              go_wp2_with fail
              go_ret
              exact ⟨by rw [chkL_no HE.out]; rfl, HX1.out.bel⟩
          | true =>
            have HE := Lib.hid (show chkFrom [] ls = false by rw [HS.out, e1, show leB n last = true by unfold leB; rw [e2, e3]; rfl]; simp)
            clear HS
            have HN := Lib.hid e1
            clear e1
            go_wp2_with fail
            refine (is_b0 (name_any n _) HN.out).mono ?_
            rintro e w1 ⟨rfl, hd⟩
            have HX1 := Lib.hid (HX.out.step hd)
            clear hd
            obtain ⟨q1, q2⟩ := HX1.out.get 0 rfl
            go_wp2_with fail
            go_ret
            exact ⟨by rw [chkL_no HE.out]; rfl, HX1.out.bel⟩
        | true =>
          have HE := Lib.hid (show chkFrom [] ls = false by rw [HS.out, e1, show leB n last = true by unfold leB; rw [e2]; rfl]; simp)
          clear HS
          have HN := Lib.hid e1
          clear e1
          go_wp2_with fail
          refine (is_b0 (name_any n _) HN.out).mono ?_
          rintro e w1 ⟨rfl, hd⟩
          have HX1 := Lib.hid (HX.out.step hd)
          clear hd
          obtain ⟨q1, q2⟩ := HX1.out.get 0 rfl
          go_wp2_with fail
          go_ret
          exact ⟨by rw [chkL_no HE.out]; rfl, HX1.out.bel⟩
    · have HE := Lib.hid (show chkFrom [] ls = true by rw [← HG.out, List.drop_eq_nil_of_le (by omega)]; rfl)
      by_cases h8 : ls.length ≤ 8
      · have HF := Lib.hid (show chkL ls = true by rw [chkL_yes HE.out]; exact decide_eq_true h8)
        go_wp2_with fail
        go_ret
        exact ⟨by rw [HF.out]; rfl, HB.out.bel⟩
      · have HF := Lib.hid (show chkL ls = false by rw [chkL_yes HE.out]; exact decide_eq_false h8)
        go_wp2_with fail
        go_ret
        exact ⟨by rw [HF.out]; rfl, HB.out.bel⟩

end Go.Proofs.YtheenlomlmbjaaaGreatDoor.L4

namespace Go.Proofs.YtheenlomlmbjaaaGreatDoor.L4
open Go.RowKit

def escB (c : UInt8) : Bytes := if c = 10 then [92, 110] else if c = 34 ∨ c = 92 then [92, c] else [c]
def escL (l : Bytes) : Bytes := l.flatMap escB
def quoteL (l : Bytes) : Bytes := 34 :: (escL l ++ [34])

theorem escB_len (c : UInt8) : 1 ≤ (escB c).length ∧ (escB c).length ≤ 2 := by
  unfold escB; repeat' split
  all_goals simp
theorem escL_append (a b : Bytes) : escL (a ++ b) = escL a ++ escL b := List.flatMap_append
theorem escL_one (c : UInt8) : escL [c] = escB c := by simp [escL]
theorem escL_len : ∀ l : Bytes, l.length ≤ (escL l).length ∧ (escL l).length ≤ 2 * l.length
  | [] => by simp [escL]
  | c :: l => by
    have h := escB_len c
    have ih := escL_len l
    have e : escL (c :: l) = escB c ++ escL l := rfl
    rw [e, List.length_append, List.length_cons]
    omega
theorem escL_take {l : Bytes} {k : Nat} (h : k < l.length) : escL (l.take (k + 1)) = escL (l.take k) ++ escB (byteAt l k) := by
  rw [take_byte h, escL_append, escL_one]

def capB (w : World) (l : Bytes) : Nat := grownCap w l.length 0 5
def rowB (w : World) (l : Bytes) : Obj := .cells (bytesRow (bs l) (capB w l)) 5 ((bytesRow (bs l) (capB w l)).size, (bytesRow (bs l) (capB w l)).size + 1)
theorem bytesOf_run (l : Bytes) (w : World) : (convert 9 22 (.string (bs l))).run Tryz.prog w = .ok (.slice (some ⟨w.heap.size, 0, none⟩) l.length (capB w l)) (w.drew.alloc (rowB w l)) :=
  run_bytes_of_string w _ _ 5 (bs l) Tryz.underlying9 Tryz.underlying22 Tryz.underlying5
theorem rowB_cell {w w' : World} {l : Bytes} {K : Nat} (h : w'.heap[K]? = some (rowB w l)) {i : Nat} (hi : i < l.length) : w'.cell? ⟨K, i, none⟩ = some (.int .u8 (byteAt l i).toNat) := by
  rw [Lib.cell_of_heap h, bytesRow_at (bs l) (capB w l) i (by simpa [bs] using hi)]
  simp [bs, byteAt, List.getD, List.getElem?_eq_getElem hi]

set_option maxRecDepth 100000 in
set_option maxHeartbeats 2000000 in
theorem quote_any (l : Bytes) (w : World) (hl : l.length ≤ 100000000) :
    Calls Tryz.prog 272 #[.string (bs l)] w fun e w' => e = .returned (.string (bs (quoteL l))) ∧ Below w.heap.size w w' := by
  have H0 := Lib.hid (Hb.fresh w)
  go_enter Tryz.func272, Tryz.ntmps272
  go_wp2_with fail
  refine (writeByte_any 34 H0.out (by simp)).mono ?_
  rintro e w1 ⟨rfl, h1, b1⟩
  have H1 := Lib.hid h1
  have B1 := Lib.hid b1
  clear h1 b1
  have hcv := bytesOf_run l
  go_wp2_with fail
  have HK := Lib.hid (H1.out.drew.alloc (rowB w1 l))
  have hsz : w.heap.size < w1.heap.size := H1.out.lt
  have BK : Hid (Below w.heap.size w (w1.drew.alloc (rowB w1 l))) := Lib.hid (((((Below.refl _ _).alloc (Nat.le_refl _) _).trans B1.out).drew).alloc (by show w.heap.size ≤ w1.heap.size; omega) _)
  obtain ⟨K, hK⟩ : ∃ K, K = w1.heap.size := ⟨_, rfl⟩
  change Hid (Hb w.heap.size (fun k => if k = w1.heap.size then some (rowB w1 l) else none) ([] ++ [34]) _) at HK
  rw [← hK] at HK hsz ⊢
  clear H0 H1 B1 hcv hK
  have HR : Hid (∀ w' : World, w'.heap[K]? = some (rowB w1 l) → ∀ i, i < l.length → w'.cell? ⟨K, i, none⟩ = some (.int .u8 (byteAt l i).toNat)) := Lib.hid (fun w' h i hi => rowB_cell h hi)
  generalize rowB w1 l = R at *
  generalize capB w1 l = cap at *
  go_loopw [10, 5] (fun i c wr => ∃ k : Nat, k ≤ l.length ∧ i = .int .i64 k ∧ Hb w.heap.size (fun k => if k = K then some R else none) (34 :: escL (l.take k)) wr ∧ Below w.heap.size w wr)
    (fun i c wr => l.length - (intOf i).toNat)
  case atStart => exact ⟨0, Nat.zero_le _, rfl, HK.out, BK.out⟩
  case round =>
    clear HK BK hsz
    obtain ⟨k, hk, rfl, hh, hbl⟩ := hrel
    have hp := (escL_len (l.take k)).2
    rw [List.length_take] at hp
    have hq : (34 :: escL (l.take k)).length ≤ 1000000000 := by rw [List.length_cons]; omega
    clear hp
    by_cases hlt : k < l.length
    · have hc : wr.cell? ⟨K, k, none⟩ = some (.int .u8 (byteAt l k).toNat) := HR.out _ (hh.kept (if_pos rfl)) k hlt
      have HT := Lib.hid (escL_take hlt)
      have HH := Lib.hid hh
      have HB := Lib.hid hbl
      clear hh hbl
      generalize byteAt l k = c at *
      by_cases c1 : c = 10
      · have d1 : ((c.toNat : Int) == 10) = true := by rw [c1]; rfl
        have HE := Lib.hid (show escB c = [92, 110] by unfold escB; rw [if_pos c1])
        clear c1
        go_wp2_with fail
        refine (writeString_any [92, 110] HH.out (by simp at hq ⊢; omega)).mono ?_
        rintro e w2 ⟨rfl, h2, b2⟩
        have H2 := Lib.hid h2
        have B2 := Lib.hid b2
        clear h2 b2
        go_wp2_with fail
        go_roundw
        case rel => exact ⟨k + 1, by omega, by go_num, by rw [HT.out, HE.out]; exact H2.out, HB.out.trans B2.out⟩
        case measure => simp [intOf]; omega
      · have d1 : ((c.toNat : Int) == 10) = false := by
          rw [beq_eq_false_iff_ne]; intro e; exact c1 (UInt8.toNat_inj.1 (by show c.toNat = 10; omega))
        by_cases c2 : c = 34
        · have d2 : ((c.toNat : Int) == 34) = true := by rw [c2]; rfl
          have HE := Lib.hid (show escB c = [92, c] by unfold escB; rw [if_neg c1, if_pos (.inl c2)])
          clear c1 c2
          go_wp2_with fail
          refine (writeByte_any 92 HH.out (by omega)).mono ?_
          rintro e w2 ⟨rfl, h2, b2⟩
          have H2 := Lib.hid h2
          have B2 := Lib.hid b2
          clear h2 b2
          go_wp2_with fail
          refine (writeByte_any c H2.out (by simp at hq ⊢; omega)).mono ?_
          rintro e w3 ⟨rfl, h3, b3⟩
          have H3 := Lib.hid h3
          have B3 := Lib.hid b3
          clear h3 b3
          go_wp2_with fail
          go_roundw
          case rel => exact ⟨k + 1, by omega, by go_num, by rw [HT.out, HE.out]; simpa using H3.out, (HB.out.trans B2.out).trans B3.out⟩
          case measure => simp [intOf]; omega
        · have d2 : ((c.toNat : Int) == 34) = false := by
            rw [beq_eq_false_iff_ne]; intro e; exact c2 (UInt8.toNat_inj.1 (by show c.toNat = 34; omega))
          by_cases c3 : c = 92
          · have d3 : ((c.toNat : Int) == 92) = true := by rw [c3]; rfl
            have HE := Lib.hid (show escB c = [92, c] by unfold escB; rw [if_neg c1, if_pos (.inr c3)])
            clear c1 c2 c3
            go_wp2_with fail
            refine (writeByte_any 92 HH.out (by omega)).mono ?_
            rintro e w2 ⟨rfl, h2, b2⟩
            have H2 := Lib.hid h2
            have B2 := Lib.hid b2
            clear h2 b2
            go_wp2_with fail
            refine (writeByte_any c H2.out (by simp at hq ⊢; omega)).mono ?_
            rintro e w3 ⟨rfl, h3, b3⟩
            have H3 := Lib.hid h3
            have B3 := Lib.hid b3
            clear h3 b3
            go_wp2_with fail
            go_roundw
            case rel => exact ⟨k + 1, by omega, by go_num, by rw [HT.out, HE.out]; simpa using H3.out, (HB.out.trans B2.out).trans B3.out⟩
            case measure => simp [intOf]; omega
          · have d3 : ((c.toNat : Int) == 92) = false := by
              rw [beq_eq_false_iff_ne]; intro e; exact c3 (UInt8.toNat_inj.1 (by show c.toNat = 92; omega))
            have HE := Lib.hid (show escB c = [c] by unfold escB; rw [if_neg c1, if_neg (fun h => h.elim c2 c3)])
            clear c1 c2 c3
            go_wp2_with fail
            refine (writeByte_any c HH.out (by omega)).mono ?_
            rintro e w3 ⟨rfl, h3, b3⟩
            have H3 := Lib.hid h3
            have B3 := Lib.hid b3
            clear h3 b3
            go_wp2_with fail
            go_roundw
            case rel => exact ⟨k + 1, by omega, by go_num, by rw [HT.out, HE.out]; exact H3.out, HB.out.trans B3.out⟩
            case measure => simp [intOf]; omega
    · have hke : k = l.length := by omega
      rw [hke, List.take_of_length_le (Nat.le_refl _)] at hh
      rw [hke, List.take_of_length_le (Nat.le_refl _)] at hq
      have HH := Lib.hid hh
      have HB := Lib.hid hbl
      clear hh hbl HR
      go_wp2_with fail
      refine (writeByte_any 34 HH.out (by omega)).mono ?_
      rintro e w2 ⟨rfl, h2, b2⟩
      have H2 := Lib.hid h2
      have B2 := Lib.hid b2
      clear h2 b2
      go_wp2_with fail
      refine (builderString_any H2.out (by simp)).mono ?_
      rintro e w3 ⟨rfl, b3⟩
      have B3 := Lib.hid b3
      clear b3
      go_wp2_with fail
      go_ret
      exact ⟨rfl, (HB.out.trans B2.out).trans B3.out⟩

end Go.Proofs.YtheenlomlmbjaaaGreatDoor.L4

namespace Go.Proofs.YtheenlomlmbjaaaGreatDoor.L4
open Go.RowKit

def wt (ls : List Lab) : Nat := (ls.map fun x => x.1.length + x.2.length).sum
theorem below_drewN {B : Nat} {a w : World} (h : Below B a w) (n : Nat) : Below B a (w.drewN n) := ⟨h.os, h.tape, h.output, h.size, h.block⟩

end Go.Proofs.YtheenlomlmbjaaaGreatDoor.L4

namespace Go.Proofs.YtheenlomlmbjaaaGreatDoor.L4
open Go.RowKit

theorem keep2 {b : Nat} {c0 c1 : Value} {w w' : World} (h : w.cell? ⟨b, 0, none⟩ = some c0 ∧ w.cell? ⟨b, 1, none⟩ = some c1) (hb : Below w.heap.size w w') :
    w'.cell? ⟨b, 0, none⟩ = some c0 ∧ w'.cell? ⟨b, 1, none⟩ = some c1 := by
  have hlt : b < w.heap.size := World.block_lt_of_cell? w _ h.1
  exact ⟨(hb.cell (p := ⟨b, 0, none⟩) hlt).trans h.1, (hb.cell (p := ⟨b, 1, none⟩) hlt).trans h.2⟩
def partOf (x : Lab) : Bytes := x.1 ++ 61 :: quoteL x.2
def printL (J : Bytes) (b : Bool) : Bytes := if b then [123] ++ J ++ [125] else []
theorem quoteL_len0 (a : Bytes) : 2 ≤ (quoteL a).length ∧ (quoteL a).length ≤ 2 * a.length + 2 := by
  have := escL_len a
  simp [quoteL]; omega
theorem part_take {ls : List Lab} {k : Nat} (h : k < ls.length) : (ls.take (k + 1)).map partOf = (ls.take k).map partOf ++ [partOf (ls.getD k ([], []))] := by
  have e : ls.take (k + 1) = ls.take k ++ [ls.getD k ([], [])] := by
    rw [List.take_add_one, List.getElem?_eq_getElem h]; simp [List.getD, List.getElem?_eq_getElem h]
  rw [e, List.map_append]; rfl

theorem lab_le {ls : List Lab} {k : Nat} (h : k < ls.length) : (ls.getD k ([], [])).1.length + (ls.getD k ([], [])).2.length ≤ wt ls := by
  have e : wt ls = wt (ls.take k) + wt (ls.drop k) := by
    unfold wt; rw [← List.sum_append, ← List.map_append, List.take_append_drop]
  rw [e, drop_lab h]
  simp [wt]; omega

theorem app_base {w wr w2 : World} {o : Obj} (h : w.heap.size ≤ wr.heap.size) (hb : Below wr.heap.size wr w2) : w.heap.size ≤ (w2.alloc o).heap.size := by
  have := hb.size
  simp; omega
theorem app_len {ls : List Lab} {k : Nat} (h : ls.length + wt ls ≤ 1000000) (hk : k < ls.length) : ((ls.take k).map partOf).length ≤ 1000000000000 := by
  simp; omega
theorem below_app {w wr w2 w4 : World} {o : Obj} (h : Below w.heap.size w wr) (hb : Below wr.heap.size wr w2) (h4 : Below w.heap.size (w2.alloc o) w4) : Below w.heap.size w w4 :=
  ((h.trans (hb.mono h.size)).trans (((Below.refl _ _).alloc (Nat.le_trans h.size hb.size) _))).trans h4

theorem own_ne {w : World} {base : Nat} {v : Value} {l : List Bytes} (h : OwnS w base v l) : some w.heap.size ≠ v.ownBlock := by
  intro e
  obtain ⟨a, cap, rfl, h1, h2, h3⟩ := h.open_
  rcases h.2 with ⟨hv, h0⟩ | ⟨g, cap', cur, hv, hg, hh, r⟩
  · rw [hv] at e; cases e
  · rw [hv] at e
    have hlt := (Array.getElem?_eq_some_iff.1 hh).1
    simp [Value.ownBlock] at e
    omega
def Far (w w' : World) (v : Value) : Prop := ∀ q : Addr, q.block < w.heap.size → some q.block ≠ v.ownBlock → w'.cell? q = w.cell? q
theorem keep_far {w w' : World} {v : Value} {b : Nat} {c0 c1 : Value} (hf : Far w w' v) (hb : some b ≠ v.ownBlock) (h : w.cell? ⟨b, 0, none⟩ = some c0 ∧ w.cell? ⟨b, 1, none⟩ = some c1) :
    w'.cell? ⟨b, 0, none⟩ = some c0 ∧ w'.cell? ⟨b, 1, none⟩ = some c1 := by
  have hlt : b < w.heap.size := World.block_lt_of_cell? w _ h.1
  exact ⟨(hf ⟨b, 0, none⟩ hlt hb).trans h.1, (hf ⟨b, 1, none⟩ hlt hb).trans h.2⟩

theorem step_str2 (w : World) {ops : Array Oper} {o : Oper} {a : Act} {K : Act → World → Prop} {Q : Exit → Act → World → Prop} {E : Prop} (hgd : o.guard = none) (s x : Operand)
    (ho : o.op = .call { callee := .builtin .append, args := #[s, x], argTypes := #[36, 36] })
    (base : Nat) (v : Value) (l : List Bytes) (y : Bytes) (g : Nat) (hs : a.eval s = v) (hx : a.eval x = .slice (some ⟨g, 0, none⟩) 1 1)
    (hnew : w.heap[g]? = some (.cells #[.string (bs y)] 9 (0, 0))) (hown : OwnS w base v l) (hbase : base ≤ w.heap.size) (hlen : l.length ≤ 1000000000000)
    (h : ∀ v' w', OwnS w' base v' (l ++ [y]) → Below base w w' → Far w w' v → K (a.put o.dst v') w') :
    if Region.wanted o (yielded ops a.tmps) = true then Oper.wp Tryz.prog o a w K Q else E := by
  obtain ⟨i0, hi, hz0, hz1, hz2⟩ := info_parts infoStr
  refine step_append_lies w hgd s x 36 ho base 9 i0 (.string .empty) 1 16 Tryz.underlying36 hi hz0 hz1 hz2 rfl (by decide) v l.length (l.map fun s => .string (bs s)) hs hown
    ⟨g, 0, none⟩ 1 1 [.string (bs y)] hx rfl (World.news_of_block hnew) ?_ (by omega) (by simp only [maxLen]; omega) (by omega) hbase _ rfl ?_
  · intro u hu
    simp at hu; subst hu; rfl
  · intro g' cap w' h1 h2 _ _
    refine h _ w' ?_ ((Below.refl _ _).grown h2 hbase (fun k hk => (hown.lt k hk).1)) (fun q h3 h4 => h2.cell_far q h3 h4)
    unfold OwnS
    simpa using h1

set_option maxRecDepth 100000 in
set_option maxHeartbeats 4000000 in
attribute [local go_sem ↓] Go.wp_at_zero Go.wp_at_succ in
theorem print_with (v : Value) (ls : List Lab) (J : Bytes) (w : World) (hv : Labels w v ls) (hw : ls.length + wt ls ≤ 1000000)
    (HJ : Hid (∀ v w, Strs w v (ls.map partOf) → Calls Tryz.prog 273 #[v, .string (bs [44])] w fun e w' => e = .returned (.string (bs J)) ∧ Below w.heap.size w w')) (hJ : J.length ≤ 1000000000) :
    Calls Tryz.prog 203 #[v] w fun e w' => e = .returned (.tuple #[.string (bs (printL J (chkL ls))), .int .i64 (errL (chkL ls))]) ∧ Below w.heap.size w w' := by
  have HL0 := Lib.hid hv
  have HLW := Lib.hid hw
  have HV := Lib.hid ((St.start w).add (fun w' => Labels w' v ls) (fun w' hb => hv.below hb))
  obtain ⟨a, cap, rfl, h1, h2, -⟩ := hv
  cases hb : chkL ls with
  | false =>
    have HB := Lib.hid hb
    go_enter Tryz.func203, Tryz.ntmps203
    go_wp2_with fail
    refine (check_any _ ls _ (HV.out.get 0 rfl)).mono ?_
    rintro e w1 ⟨rfl, hd⟩
    have HV1 := Lib.hid (HV.out.step hd)
    clear hd
    rw [HB.out]
    go_wp2_with fail
    go_ret2
    exact ⟨rfl, HV1.out.bel⟩
  | true =>
    have HB := Lib.hid hb
    have HWT := Lib.hid hw
    go_enter Tryz.func203, Tryz.ntmps203
    go_wp2_with fail
    refine (check_any _ ls _ (HV.out.get 0 rfl)).mono ?_
    rintro e w1 ⟨rfl, hd⟩
    have HV1 := Lib.hid (HV.out.step hd)
    clear hd
    rw [HB.out]
    go_wp2_with fail
    go_loopw [5, 15, 7] (fun p i q wr => ∃ k : Nat, k ≤ ls.length ∧ i = .int .i64 k ∧ OwnS wr w.heap.size p ((ls.take k).map partOf) ∧ Below w.heap.size w wr)
      (fun p i q wr => ls.length - (intOf i).toNat)
    case atStart => exact ⟨0, Nat.zero_le _, rfl, OwnS.nil _ _, HV1.out.bel⟩
    case round =>
      obtain ⟨k, hk, rfl, hown, hst⟩ := hrel
      have HO := Lib.hid hown
      have HS := Lib.hid hst
      clear hown hst
      by_cases hlt : k < ls.length
      · obtain ⟨b, off, rfl, hb, hc1, hc2⟩ := (HL0.out.below HS.out).at_ hlt
        have HP := Lib.hid (part_take hlt)
        have hll := lab_le hlt
        have HPO := Lib.hid (show ∀ y : Lab, partOf y = y.1 ++ 61 :: quoteL y.2 from fun _ => rfl)
        rw [HPO.out (ls.getD k ([], []))] at HP
        generalize (ls.getD k ([], [])).1 = n at *
        generalize (ls.getD k ([], [])).2 = x at *
        have hql := (quoteL_len0 x)
        have hg1 : ¬ (n.length + [(61 : UInt8)].length > 9223372036854775807) := by simp; omega
        have hg2 : ¬ (9223372036854775807 < n.length + 1) := by omega
        have hg3 : ¬ ((n ++ [(61 : UInt8)]).length + (quoteL x).length > 9223372036854775807) := by simp; omega
        have hg4 : ¬ (9223372036854775807 < n.length + 1 + (quoteL x).length) := by omega
        have HSZ := Lib.hid HS.out.size
        have HNE := Lib.hid (own_ne HO.out)
        go_wp2_with fail
        go_region_held3 (fun w' => w'.cell? ⟨wr.heap.size, 0, none⟩ = some (.string (bs n)) ∧ w'.cell? ⟨wr.heap.size, 1, none⟩ = some (.string (bs x)))
          (first | exact keep_far hfar HNE.out (by assumption) | exact keep2 (by assumption) hb1 | go_keep)
          (first
            | (go_at_call 272; refine (quote_any x _ (by omega)).mono ?_; rintro e w2 ⟨rfl, hb1⟩)
            | (refine step_str2 _ rfl (.tmp 19) (.tmp 27) rfl w.heap.size _ _ (n ++ 61 :: quoteL x) _ (by rfl) (by rfl) (heap_alloc_new ..) ((HO.out.below (below_box hb1)).below ((Below.refl _ _).alloc (Nat.le_refl _) _)) (app_base HSZ.out (below_box hb1)) (app_len HLW.out hlt) ?_; intro v' w4 hown4 hb4 hfar))
        all_goals
          (have hB4 := below_app HS.out (below_box hb1) hb4
           clear hb4
           go_wp2_with fail
           go_roundw
           case rel => exact ⟨_, _, _, _, _, _, _, _, _, _, _, _, _, _, _, _, _, ⟨k + 1, by omega, by go_num, by rw [HP.out]; exact hown4, hB4⟩, rfl⟩
           case measure => simp [intOf]; omega)
      · have hke : k = ls.length := by omega
        have HO' := Lib.hid (show Strs wr u5 (ls.map partOf) by have := HO.out.strs; rw [hke, List.take_of_length_le (Nat.le_refl _)] at this; exact this)
        go_wp2_with fail
        refine (HJ.out _ _ HO'.out).mono ?_
        rintro e w3 ⟨rfl, hd⟩
        have HS3 := Lib.hid (HS.out.trans (hd.mono HS.out.size))
        clear hd
        go_wp2_with fail
        go_ret2
        exact ⟨rfl, HS3.out⟩

end Go.Proofs.YtheenlomlmbjaaaGreatDoor.L4

namespace Go.Proofs.YtheenlomlmbjaaaGreatDoor.L4
open Go.RowKit

def joinB (sep : Bytes) : List Bytes → Bytes
  | [] => []
  | x :: r => x ++ r.flatMap fun y => sep ++ y
def lens (l : List Bytes) : Nat := (l.map List.length).sum
theorem lens_take {l : List Bytes} {k : Nat} (h : k < l.length) : lens (l.take (k + 1)) = lens (l.take k) + (l.getD k []).length := by
  have e : l.take (k + 1) = l.take k ++ [l.getD k []] := by
    rw [List.take_add_one, List.getElem?_eq_getElem h]; simp [List.getD, List.getElem?_eq_getElem h]
  rw [e]; simp [lens]
theorem lens_le {l : List Bytes} (k : Nat) : lens (l.take k) ≤ lens l := by
  have : lens l = lens (l.take k) + lens (l.drop k) := by unfold lens; rw [← List.sum_append, ← List.map_append, List.take_append_drop]
  omega
theorem len_le {l : List Bytes} {k : Nat} (h : k < l.length) : (l.getD k []).length ≤ lens l := by
  have h1 := lens_take h
  have h2 := lens_le (l := l) (k + 1)
  omega
theorem joinB_take {sep x : Bytes} {r : List Bytes} {k : Nat} (h : k < r.length) : joinB sep (x :: r.take (k + 1)) = joinB sep (x :: r.take k) ++ sep ++ r.getD k [] := by
  have e : r.take (k + 1) = r.take k ++ [r.getD k []] := by
    rw [List.take_add_one, List.getElem?_eq_getElem h]; simp [List.getD, List.getElem?_eq_getElem h]
  simp only [joinB]
  rw [e, List.flatMap_append]; simp
theorem joinB_len {c : UInt8} {x : Bytes} : ∀ r : List Bytes, (joinB [c] (x :: r)).length = x.length + lens r + r.length := by
  intro r
  induction r with
  | nil => simp [joinB, lens]
  | cons y s ih =>
    have : (joinB [c] (x :: y :: s)).length = (joinB [c] (x :: s)).length + 1 + y.length := by simp [joinB]; omega
    rw [this, ih]; simp [lens]; omega

set_option maxRecDepth 100000 in
theorem tail_strs {w : World} {x : Bytes} {l : List Bytes} {b off cap : Nat} (h : Strs w (.slice (some ⟨b, off, none⟩) (l.length + 1) cap) (x :: l)) (hl : 0 < l.length) :
    ∃ cap', (∀ w', (Instr.sliceAt 36 (.slice (some ⟨b, off, none⟩) (l.length + 1) cap) (some (.int .i64 1)) none none).run Tryz.prog w' = .ok (.slice (some ⟨b, off + 1, none⟩) l.length cap') w') ∧ Strs w (.slice (some ⟨b, off + 1, none⟩) l.length cap') l := by
  obtain ⟨a, c, hv, h1, h2, h3⟩ := h
  obtain ⟨b', off', ha, hb, hc⟩ := h3 (by simp)
  simp only [Value.slice.injEq, List.length_cons] at hv
  obtain ⟨rfl, _, rfl⟩ := hv
  obtain ⟨rfl, rfl⟩ : b = b' ∧ off = off' := by simpa using ha
  simp only [List.length_cons] at h1 hc
  refine ⟨cap - 1, fun w' => ?_, ?_⟩
  · rw [run_sliceAt_slice _ _ _ _ _ _ rfl, run_slice_l _ _ _ _ _ rfl _ _ (by omega) (by omega)]
    have : ¬ cap = 1 := by omega
    show Result.ok (Value.slice (if cap = 1 then some ⟨b, off, none⟩ else (some (⟨b, off, none⟩ : Addr)).map (·.add (1 * 1))) (l.length + 1 - 1) (cap - 1)) w' = _
    rw [if_neg this]
    simp [Addr.add_lit]
  · refine ⟨_, cap - 1, rfl, by omega, by omega, fun _ => ⟨b, off + 1, rfl, hb, fun i hi => ?_⟩⟩
    have := hc (i + 1) (by omega)
    rw [show off + 1 + i = off + (i + 1) by omega, this]
    rfl

set_option maxHeartbeats 2000000 in
set_option maxRecDepth 100000 in
theorem join_more (v : Value) (x y : Bytes) (r : List Bytes) (c : UInt8) (w : World) (hv : Strs w v (x :: y :: r)) (hl : x.length + lens (y :: r) + (y :: r).length ≤ 1000000000) :
    Calls Tryz.prog 273 #[v, .string (bs [c])] w fun e w' => e = .returned (.string (bs (joinB [c] (x :: y :: r)))) ∧ Below w.heap.size w w' := by
  have HV := Lib.hid hv
  obtain ⟨a, cap, rfl, h1, h2, -⟩ := hv
  have hn2 : (x :: y :: r).length = (y :: r).length + 1 := rfl
  have hlr : 0 < (y :: r).length := by simp
  generalize hls : y :: r = ls at *
  have htot : lens (x :: ls) = x.length + lens ls := by simp [lens]
  obtain ⟨b, off, rfl, hb, hc⟩ := HV.out.at_ (i := 0) (by simp)
  simp only [Nat.add_zero] at hc
  have hc' : w.cell? ⟨b, off, none⟩ = some (.string (bs x)) := hc
  clear hc
  rw [hn2] at HV h1
  obtain ⟨cap', htr, hst⟩ := tail_strs HV.out hlr
  have HT := Lib.hid hst
  have hjl := joinB_len (c := c) (x := x) ls
  have hm : ¬ ((9223372036854775807 : Int) / (ls.length : Int) ≤ 1) := by
    have h2 : (2 : Int) ≤ 9223372036854775807 / (ls.length : Int) := (Int.le_ediv_iff_mul_le (by omega)).2 (by omega)
    omega
  have HFr := Lib.hid (Hb.fresh w)
  have HTr := Lib.hid htr
  clear hst hls htr
  go_enter Tryz.func273, Tryz.ntmps273
  go_wp2_with fail
  go_loop [41, 5, 7] (fun i q p => ∃ k : Nat, k ≤ ls.length + 1 ∧ i = .int .i64 k ∧ q = .int .i64 ((ls.length + lens ((x :: ls).take k) : Nat) : Int))
    (fun i q p => ls.length + 1 - (intOf i).toNat)
  case atStart => exact ⟨0, Nat.zero_le _, rfl, rfl⟩
  case round =>
    obtain ⟨k, hk, rfl, rfl⟩ := hrel
    by_cases hlt : k < ls.length + 1
    · obtain ⟨b2, off2, hbb, -, hc2⟩ := HV.out.at_ (i := k) hlt
      obtain ⟨rfl, rfl⟩ : b = b2 ∧ off = off2 := by simpa using hbb
      clear hbb
      have hle := len_le (l := x :: ls) hlt
      have hlt2 := lens_take (l := x :: ls) hlt
      have hle2 := lens_le (l := x :: ls) (k + 1)
      generalize (x :: ls).getD k [] = z at *
      generalize lens ((x :: ls).take k) = s at *
      have hw1 : IntKind.i64.wrap (9223372036854775807 - ((ls.length : Int) + (s : Int))) = 9223372036854775807 - ((ls.length : Int) + (s : Int)) := IntWalk.i64_in _ (by omega)
      go_wp2_with fail
      exact ⟨⟨k + 1, by omega, by go_num, by rw [hlt2]; go_num⟩, by simp [intOf]; omega⟩
    · have hke : k = ls.length + 1 := by omega
      have hall : lens ((x :: ls).take k) = lens (x :: ls) := by rw [hke]; rw [List.take_of_length_le (by simp)]
      rw [hall]
      have HG := Lib.hid (Grow_fresh w.heap.size (ls.length + (x.length + lens ls)) (w.alloc (.cells #[.pointer none, .slice none 0 0] 124)) (heap_alloc_new ..) (by omega))
      rw [show ((ls.length + (x.length + lens ls) : Nat) : Int) = (ls.length : Int) + ((x.length : Int) + (lens ls : Int)) by omega] at HG
      go_wp2_with fail
      refine HG.out.mono ?_
      rintro e w2 ⟨rfl, hh2, hd2⟩
      have HB2 := Lib.hid (show Below w.heap.size w w2 from ((Below.refl _ w).alloc (Nat.le_refl _) _).trans hd2)
      have HH2 := Lib.hid hh2
      have hc2 : w2.cell? ⟨b, off, none⟩ = some (.string (bs x)) := (HB2.out.cell (p := ⟨b, off, none⟩) hb).trans hc'
      clear hh2 hd2 HG hc'
      go_wp2_with fail
      refine (writeString_any x HH2.out (by simp; omega)).mono ?_
      rintro e w3 ⟨rfl, hh3, hd3⟩
      have HH3 := Lib.hid (show Hb w.heap.size (fun _ => none) (joinB [c] (x :: ls.take 0)) w3 by simpa [joinB] using hh3)
      have HB3 := Lib.hid (HB2.out.trans hd3)
      have htr := HTr.out
      clear hh3 hd3 hc2
      go_wp2_with fail
      go_loopw [65, 10] (fun i p wr => ∃ k : Nat, k ≤ ls.length ∧ i = .int .i64 k ∧ Hb w.heap.size (fun _ => none) (joinB [c] (x :: ls.take k)) wr ∧ Below w.heap.size w wr)
        (fun i p wr => ls.length - (intOf i).toNat)
      case atStart => exact ⟨0, Nat.zero_le _, rfl, HH3.out, HB3.out⟩
      case round =>
        obtain ⟨k2, hk2, rfl, hh, hbb⟩ := hrel
        have HH := Lib.hid hh
        have HB := Lib.hid hbb
        clear hh hbb HH3 HB3
        by_cases hlt2 : k2 < ls.length
        · obtain ⟨b2, off2, hbb, -, hc2⟩ := (HT.out.below HB.out).at_ (i := k2) hlt2
          simp only [Option.some.injEq, Addr.mk.injEq] at hbb
          obtain ⟨rfl, rfl, -⟩ := hbb
          have HJt := Lib.hid (joinB_take (sep := [c]) (x := x) hlt2)
          have hle := len_le hlt2
          have hjl2 := joinB_len (c := c) (x := x) (ls.take k2)
          have hle3 := lens_le (l := ls) k2
          have hlt3 : (ls.take k2).length ≤ ls.length := by simp; omega
          generalize ls.getD k2 [] = z at *
          go_wp2_with fail
          refine (writeString_any [c] HH.out (by simp; omega)).mono ?_
          rintro e w4 ⟨rfl, hh4, hd4⟩
          have HH4 := Lib.hid hh4
          have HB4 := Lib.hid (HB.out.trans hd4)
          clear hh4 hd4
          go_wp2_with fail
          refine (writeString_any z HH4.out (by simp; omega)).mono ?_
          rintro e w5 ⟨rfl, hh5, hd5⟩
          have HH5 := Lib.hid hh5
          have HB5 := Lib.hid (HB4.out.trans hd5)
          clear hh5 hd5
          go_wp2_with fail
          exact ⟨⟨k2 + 1, by omega, by go_num, by rw [HJt.out]; exact HH5.out, HB5.out⟩, by simp [intOf]; omega⟩
        · have hke2 : k2 = ls.length := by omega
          rw [hke2, List.take_of_length_le (Nat.le_refl _)] at HH
          have hne : joinB [c] (x :: ls) ≠ [] := by
            intro e
            rw [e] at hjl
            simp at hjl; omega
          go_wp2_with fail
          refine (builderString_any HH.out hne).mono ?_
          rintro e w4 ⟨rfl, hd4⟩
          have HB4 := Lib.hid (HB.out.trans hd4)
          clear hd4
          go_wp2_with fail
          go_ret
          exact ⟨rfl, HB4.out⟩

end Go.Proofs.YtheenlomlmbjaaaGreatDoor.L4

namespace Go.Proofs.YtheenlomlmbjaaaGreatDoor.L4
open Go.RowKit

end Go.Proofs.YtheenlomlmbjaaaGreatDoor.L4

namespace Go.Proofs.YtheenlomlmbjaaaGreatDoor.L4
open Go.RowKit

def bodyL (ls : List Lab) : Bytes := joinB [44] (ls.map partOf)
theorem lens_parts (ls : List Lab) : lens (ls.map partOf) ≤ 4 * ls.length + 2 * wt ls := by
  induction ls with
  | nil => simp [lens, wt]
  | cons x r ih =>
    have h := quoteL_len0 x.2
    have e : lens ((x :: r).map partOf) = (partOf x).length + lens (r.map partOf) := by simp [lens]
    have e2 : wt (x :: r) = x.1.length + x.2.length + wt r := by simp [wt]
    have e3 : (partOf x).length = x.1.length + (quoteL x.2).length + 1 := by simp [partOf]; omega
    rw [e, e2, e3]; simp only [List.length_cons]; omega
theorem bodyL_len (ls : List Lab) : (bodyL ls).length ≤ 5 * ls.length + 2 * wt ls := by
  have h := lens_parts ls
  cases ls with
  | nil => simp [bodyL, joinB]
  | cons x r =>
    unfold bodyL
    rw [List.map_cons, joinB_len]
    have e : lens ((x :: r).map partOf) = (partOf x).length + lens (r.map partOf) := by simp [lens]
    rw [e] at h
    simp only [List.length_cons, List.length_map] at *
    omega
theorem print_any (v : Value) (ls : List Lab) (w : World) (hv : Labels w v ls) (hw : ls.length + wt ls ≤ 1000000) :
    Calls Tryz.prog 203 #[v] w fun e w' => e = .returned (.tuple #[.string (bs (printL (bodyL ls) (chkL ls))), .int .i64 (errL (chkL ls))]) ∧ Below w.heap.size w w' := by
  have hb := bodyL_len ls
  have hp := lens_parts ls
  refine print_with v ls (bodyL ls) w hv hw (Lib.hid fun v w h => ?_) (by omega)
  match ls, h, hp with
  | [], h, _ => exact (join_none v [44] w h).mono fun e w' ⟨he, hw⟩ => ⟨he, hw ▸ Below.refl _ _⟩
  | [x], h, _ => exact (join_one v (partOf x) [44] w h).mono fun e w' ⟨he, hw⟩ => ⟨by rw [he]; simp [bodyL, joinB], hw ▸ Below.refl _ _⟩
  | x :: y :: r, h, hp =>
    refine join_more v (partOf x) (partOf y) (r.map partOf) 44 w h ?_
    have e : lens ((x :: y :: r).map partOf) = (partOf x).length + lens ((y :: r).map partOf) := by simp [lens]
    rw [e] at hp
    simp only [List.length_cons, List.length_map, List.map_cons] at *
    omega

end Go.Proofs.YtheenlomlmbjaaaGreatDoor.L4

namespace Go.Proofs.YtheenlomlmbjaaaGreatDoor.L4
open Go.RowKit

theorem conv1 {w : World} {base g cap : Nat} {n : Nat} (h : w.ownsRow base 5 1 (.slice (some ⟨g, 0, none⟩) (0 + 1) cap) (0 + 1) ([] ++ [.int .u8 (n : Int)])) (h3 : ((UInt8.ofNat n).toNat : Int) = (n : Int)) :
    (convert 22 9 (.slice (some ⟨g, 0, none⟩) 1 cap)).run Tryz.prog w = .ok (.string (bs [UInt8.ofNat n])) w := by
  have hc : w.cell? ⟨g, 0, none⟩ = some (.int .u8 (n : Int)) := by
    rcases h.2 with ⟨h, _⟩ | ⟨g', cap', cur, hv, hg, hh, hn, hcap, hs, htake⟩
    · cases h
    · simp only [Value.slice.injEq, Option.some.injEq, Addr.mk.injEq] at hv
      obtain ⟨⟨rfl, _⟩, _, rfl⟩ := hv
      rw [cell_of_row w g 0 cur _ (0, 0) hh]
      have : (cur.toList.take ((0 + 1) * 1))[0]? = some (.int .u8 (n : Int)) := by rw [htake]; rfl
      rw [List.getElem?_take] at this
      simpa using this
  have := run_convert_bytes_back w 22 9 5 ⟨g, 0, none⟩ cap [UInt8.ofNat n] Tryz.underlying22 Tryz.underlying5 Tryz.underlying9 (fun j hj => by
    have : j = 0 := by simpa using hj
    subst this
    rw [Addr.add_lit]
    show w.cell? ⟨g, 0 + 0, none⟩ = _
    rw [Nat.add_zero, hc]
    show some (Value.int .u8 (n : Int)) = some (.int .u8 (((UInt8.ofNat n).toNat : Nat) : Int))
    rw [h3])
  exact this

set_option maxRecDepth 100000 in
set_option maxHeartbeats 1000000 in
theorem uint_any (n : Nat) (w : World) (hn : n < 128) :
    Calls Tryz.prog 86 #[.int .u64 n] w fun e w' => e = .returned (.string (bs [UInt8.ofNat n])) ∧ Below w.heap.size w w' := by
  have h1 : ¬ ((128 : Int) ≤ (n : Int)) := by omega
  have h2 : IntKind.u8.wrap (n : Int) = (n : Int) := IntWalk.u8_in _ (by omega)
  have h3 : ((UInt8.ofNat n).toNat : Int) = (n : Int) := by
    have : (UInt8.ofNat n).toNat = n := by simp; omega
    omega
  obtain ⟨i0, hi, hz0, hz1, hz2⟩ := info_parts infoByte
  have HI := Lib.hid (show i0.bytes * 10 ≤ 281474976710656 by rw [hz2]; omega)
  go_enter Tryz.func86, Tryz.ntmps86
  go_wp2_with (at_make; refine wpList_make_own _ rfl _ _ 22 rfl w.heap.size 5 i0 _ 1 Tryz.underlying22 hi hz0 hz1 .i64 .i64 10 10 rfl rfl rfl HI.out (by decide) (Nat.le_refl _) ?_; intro w1 hown1 hg1; have HO1 := Lib.hid hown1; have HG1 := Lib.hid ((Below.refl w.heap.size w).grown hg1 (Nat.le_refl _) (fun k hk => by cases hk)); clear hown1 hg1)
  go_loopw [0, 3] (fun q p wr => q = .int .u64 n ∧ p = .slice (some ⟨w.heap.size, 0, none⟩) 0 10 ∧ wr = w1) (fun q p wr => 0)
  case atStart => exact ⟨rfl, rfl, rfl⟩
  case round =>
    obtain ⟨rfl, rfl, rfl⟩ := hrel
    go_wp2_with (at_builtin; refine wpList_append_lies _ rfl (.tmp 15) (.tmp 18) 22 rfl w.heap.size 5 i0 _ 1 1 Tryz.underlying22 hi hz0 hz1 hz2 rfl (by decide) _ 0 [] rfl (HO1.out.alloc _) ⟨wr.heap.size, 0, none⟩ 1 1 [.int .u8 n] rfl rfl (World.news_of_block (heap_alloc_new ..)) (by intro u hu; simp at hu; subst hu; rfl) (by omega) (by decide) (by decide) (by have := HG1.out.size; simp; omega) _ rfl ?_; intro g cap w2 hown2 hg2 _ _; have hcv := conv1 hown2 h3; have HG2 := Lib.hid ((HG1.out.alloc HG1.out.size _).grown hg2 (by have := HG1.out.size; simp; omega) (fun k hk => by cases hk; exact Nat.le_refl _)); clear hown2 hg2)
    go_ret
    exact ⟨rfl, HG2.out⟩

set_option maxRecDepth 100000 in
theorem text_any (l : Bytes) (w : World) (hl : l.length < 128) :
    Calls Tryz.prog 40 #[.string (bs l)] w fun e w' => e = .returned (.string (bs (UInt8.ofNat l.length :: l))) ∧ Below w.heap.size w w' := by
  have h1 : IntKind.u64.wrap (l.length : Int) = (l.length : Int) := IntWalk.u64_in _ (by omega)
  go_enter Tryz.func40, Tryz.ntmps40
  go_wp2_with fail
  refine (uint_any l.length _ hl).mono ?_
  rintro e w1 ⟨rfl, hd⟩
  have HB := Lib.hid hd
  clear hd
  go_wp2_with fail
  go_ret
  exact ⟨rfl, HB.out⟩

def keyPart (x : Lab) : Bytes := (UInt8.ofNat x.1.length :: x.1) ++ (UInt8.ofNat x.2.length :: x.2)
def keyL (ls : List Lab) : Bytes := ls.flatMap keyPart
theorem chk_lens {ls : List Lab} (h : chkL ls = true) : ls.length ≤ 8 ∧ ∀ x ∈ ls, x.1.length ≤ 16 ∧ x.2.length ≤ 32 := by
  simp only [chkL, Bool.and_eq_true, decide_eq_true_eq] at h
  refine ⟨h.1, ?_⟩
  have key : ∀ (l : List Lab) (last : Bytes), chkFrom last l = true → ∀ x ∈ l, x.1.length ≤ 16 ∧ x.2.length ≤ 32 := by
    intro l
    induction l with
    | nil => intro _ _ x hx; cases hx
    | cons y r ih =>
      intro last h x hx
      simp only [chkFrom, Bool.and_eq_true] at h
      obtain ⟨⟨⟨⟨a1, _⟩, _⟩, a4⟩, a5⟩ := h
      rcases List.mem_cons.1 hx with e | e
      · rw [e]
        simp only [nameB, Bool.and_eq_true, decide_eq_true_eq] at a1
        simp only [valueB, Bool.and_eq_true, decide_eq_true_eq] at a4
        exact ⟨a1.1.1.2, a4.1⟩
      · exact ih _ a5 x e
  exact key ls [] h.2

theorem keyL_succ {ls : List Lab} {k : Nat} (h : k < ls.length) : keyL (ls.take (k + 1)) = keyL (ls.take k) ++ keyPart (ls.getD k ([], [])) := by
  have e : ls.take (k + 1) = ls.take k ++ [ls.getD k ([], [])] := by
    rw [List.take_add_one, List.getElem?_eq_getElem h]; simp [List.getD, List.getElem?_eq_getElem h]
  unfold keyL; rw [e, List.flatMap_append]; simp
theorem keyL_len {ls : List Lab} (h : ∀ x ∈ ls, x.1.length ≤ 16 ∧ x.2.length ≤ 32) : (keyL ls).length ≤ 50 * ls.length := by
  induction ls with
  | nil => simp [keyL]
  | cons x r ih =>
    have h1 := ih fun y hy => h y (List.mem_cons_of_mem _ hy)
    have h2 := h x (List.mem_cons_self ..)
    have e : (keyL (x :: r)).length = (keyPart x).length + (keyL r).length := by simp [keyL]
    have e2 : (keyPart x).length = x.1.length + x.2.length + 2 := by simp [keyPart]; omega
    rw [e, e2]; simp only [List.length_cons]; omega
theorem Hb.below {b : Nat} {Ks : Nat → Option Obj} {l : Bytes} {w w' : World} (h : Hb b Ks l w) (hb : Below w.heap.size w w') : Hb b Ks l w' := by
  have hlt := h.lt
  obtain ⟨p, v, hp, hh, hown, hk⟩ := h
  refine ⟨p, v, hp, (hb.block b hlt).trans hh, ?_, fun k o h => ?_⟩
  · obtain ⟨h1, h2⟩ := hown
    refine ⟨h1, ?_⟩
    rcases h2 with h2 | ⟨g, cap, cur, hv, hg, hg', r⟩
    · exact .inl h2
    · exact .inr ⟨g, cap, cur, hv, hg, by rw [hb.block g (lt_of_heap hg')]; exact hg', r⟩
  · obtain ⟨k1, k2, k3⟩ := hk k o h
    exact ⟨k1, k2, (hb.block k (lt_of_heap k3)).trans k3⟩
theorem Hb.none {b : Nat} {Ks : Nat → Option Obj} {l : Bytes} {w : World} (h : Hb b Ks l w) : Hb b (fun _ => none) l w := by
  obtain ⟨p, v, hp, hh, hown, hk⟩ := h
  exact ⟨p, v, hp, hh, hown, fun k o h => by cases h⟩
set_option maxHeartbeats 1000000 in
set_option maxRecDepth 100000 in
theorem builderString_fresh {b : Nat} {w : World} (hb : w.heap[b]? = some (.cells #[.pointer none, .slice none 0 0] 124 (0, 0))) :
    Calls Tryz.prog 41 #[.pointer (some ⟨b, 0, none⟩)] w fun e w' => e = .returned (.string (bs [])) ∧ w' = w.drew := by
  have c1 : w.drew.cell? ⟨b, 1, none⟩ = some (.slice none 0 0) := by
    have : w.drew.heap[b]? = some (.cells #[.pointer none, .slice none 0 0] 124 (0, 0)) := hb
    rw [Lib.cell_of_heap this]; rfl
  have hSD : (Builtin.unsafeSliceData_ #[22] 189 #[.slice none 0 0]).run Tryz.prog w.drew = .ok (.pointer none) w.drew := rfl
  have hUS : (Builtin.unsafeString_ #[189, 3] 9 #[.pointer none, .int .i64 0]).run Tryz.prog w.drew = .ok (.string .empty) w.drew := Lib.run_unsafeString_none _ _ _ _ _
  have mixed : Tryz.prog.follows .mixedOrders = true := by kernel_rfl
  clear hb
  go_enter Tryz.func41, Tryz.ntmps41
  go_wp2_with fail
  go_region_o
  all_goals (go_wp2; go_ret; exact ⟨rfl, rfl⟩)

def printK (K : Bytes) (b : Bool) : Bytes := if b then K else []

set_option maxRecDepth 100000 in
set_option maxHeartbeats 4000000 in
attribute [local go_sem ↓] Go.wp_at_zero Go.wp_at_succ in
theorem key_any (v : Value) (ls : List Lab) (w : World) (hv : Labels w v ls) :
    Calls Tryz.prog 15 #[v] w fun e w' => e = .returned (.tuple #[.string (bs (printK (keyL ls) (chkL ls))), .int .i64 (errL (chkL ls))]) ∧ Below w.heap.size w w' := by
  have HL0 := Lib.hid hv
  have HCk := Lib.hid (check_any v ls w hv)
  obtain ⟨a, cap, rfl, h1, h2, -⟩ := hv
  cases hb : chkL ls with
  | false =>
    rw [hb] at HCk
    go_enter Tryz.func15, Tryz.ntmps15
    go_wp2_with fail
    refine HCk.out.mono ?_
    rintro e w1 ⟨rfl, hd⟩
    have HB := Lib.hid hd
    clear hd
    go_wp2_with fail
    go_ret2
    exact ⟨rfl, HB.out⟩
  | true =>
    rw [hb, show errL true = 0 from rfl] at HCk
    obtain ⟨hl8, hlx⟩ := chk_lens hb
    have HLx := Lib.hid hlx
    clear hb hlx
    go_enter Tryz.func15, Tryz.ntmps15
    go_wp2_with fail
    refine HCk.out.mono ?_
    rintro e w1 ⟨rfl, hd⟩
    have HB1 := Lib.hid hd
    clear hd HCk
    have HF := Lib.hid (Hb.fresh w1)
    have HB2 := Lib.hid (HB1.out.alloc HB1.out.size (.cells #[.pointer none, .slice none 0 0] 124))
    have hsz1 := HB1.out.size
    go_wp2_with fail
    go_loopw [15, 7] (fun i p wr => ∃ k : Nat, k ≤ ls.length ∧ i = .int .i64 k ∧ Hb w1.heap.size (fun _ => none) (keyL (ls.take k)) wr ∧ Below w.heap.size w wr ∧ (k = 0 → wr.heap[w1.heap.size]? = some (.cells #[.pointer none, .slice none 0 0] 124 (0, 0))))
      (fun i p wr => ls.length - (intOf i).toNat)
    case atStart => exact ⟨0, Nat.zero_le _, rfl, HF.out, HB2.out, fun _ => heap_alloc_new w1 _⟩
    case round =>
      obtain ⟨k, hk, rfl, hh, hbb, hz⟩ := hrel
      have HZ := Lib.hid hz
      clear hz
      have HH := Lib.hid hh
      have HB := Lib.hid hbb
      clear hh hbb HF HB2
      by_cases hlt : k < ls.length
      · obtain ⟨b, off, rfl, hb, hc1, hc2⟩ := (HL0.out.below HB.out).at_ hlt
        have HK := Lib.hid (keyL_succ hlt)
        have hkl := keyL_len (ls := ls.take k) (fun x hx => HLx.out x (List.mem_of_mem_take hx))
        have htk : (ls.take k).length ≤ ls.length := by simp; omega
        have hlx := HLx.out (ls.getD k ([], [])) (by simp only [List.getD, List.getElem?_eq_getElem hlt, Option.getD_some]; exact List.getElem_mem hlt)
        generalize ls.getD k ([], []) = x at *
        obtain ⟨n, y⟩ := x
        simp only at hlx hc1 hc2
        have HKp := Lib.hid (show keyPart (n, y) = (UInt8.ofNat n.length :: n) ++ (UInt8.ofNat y.length :: y) from rfl)
        rw [HKp.out] at HK
        generalize keyL (ls.take k) = kl at *
        have hg1 : ¬ ((UInt8.ofNat n.length :: n).length + (UInt8.ofNat y.length :: y).length > 9223372036854775807) := by simp; omega
        have hg2 : ¬ (9223372036854775807 < n.length + 1 + (y.length + 1)) := by omega
        have HA := Lib.hid (show Hb w1.heap.size (fun k => if k = wr.heap.size then some (.cells #[.string (bs n), .string (bs y)] 53 (0, 0)) else none) kl (wr.alloc (.cells #[.string (bs n), .string (bs y)] 53)).drew from (HH.out.alloc _).drew)
        have HBa := Lib.hid ((HB.out.alloc HB.out.size (.cells #[.string (bs n), .string (bs y)] 53)).drew)
        have hln : n.length < 128 := by omega
        have hly : y.length < 128 := by omega
        go_wp2_with fail
        go_region_held3 (fun w' => w'.cell? ⟨wr.heap.size, 0, none⟩ = some (.string (bs n)) ∧ w'.cell? ⟨wr.heap.size, 1, none⟩ = some (.string (bs y)))
          (first | exact ⟨by rw [Lib.cell_of_heap (hh4.kept (k := wr.heap.size) (if_pos rfl))]; rfl, by rw [Lib.cell_of_heap (hh4.kept (k := wr.heap.size) (if_pos rfl))]; rfl⟩ | exact keep2 (by assumption) hb2 | exact keep2 (by assumption) hb1 | go_keep)
          (first
            | (go_at_call 40; refine (text_any n _ hln).mono ?_; rintro e w2 ⟨rfl, hb1⟩)
            | (go_at_call 40; refine (text_any y _ hly).mono ?_; rintro e w3 ⟨rfl, hb2⟩)
            | (go_at_call 39; refine (writeString_any _ (by first | exact (HA.out.below hb1).below hb2 | exact (HA.out.below hb2).below hb1) (by simp; omega)).mono ?_; rintro e w4 ⟨rfl, hh4, hd4⟩))
        have HX := Lib.hid (show Below w.heap.size w w4 from (by first | exact ((HBa.out.trans (hb1.mono HBa.out.size)).trans (hb2.mono (Nat.le_trans HBa.out.size hb1.size))).trans (hd4.mono hsz1) | exact ((HBa.out.trans (hb2.mono HBa.out.size)).trans (hb1.mono (Nat.le_trans HBa.out.size hb2.size))).trans (hd4.mono hsz1)))
        have HY := Lib.hid hh4.none
        clear hb1 hb2 hh4 hd4 HA HBa
        go_wp2_with fail
        go_roundw
        case rel => exact ⟨k + 1, by omega, by go_num, by rw [HK.out]; exact HY.out, HX.out, fun h => by omega⟩
        case measure => simp [intOf]; omega
      · have hke : k = ls.length := by omega
        have HE := Lib.hid (show ls.take k = ls by rw [hke]; exact List.take_of_length_le (Nat.le_refl _))
        cases hls : ls with
        | nil =>
          have h0 := HZ.out (by rw [hke, hls]; rfl)
          have HS := Lib.hid (builderString_fresh h0)
          subst hls
          clear h0
          go_wp2_with fail
          refine HS.out.mono ?_
          rintro e w3 ⟨rfl, rfl⟩
          go_wp2_with fail
          go_ret2
          exact ⟨by simp [printK, errL, keyL], HB.out.drew⟩
        | cons x r =>
          have HS := Lib.hid (builderString_any HH.out (by rw [HE.out, hls]; simp [keyL, keyPart]))
          have HE' := Lib.hid (show keyL (ls.take k) = keyL (x :: r) by rw [HE.out, hls])
          rw [HE'.out] at HS
          rw [← hls] at *
          go_wp2_with fail
          refine HS.out.mono ?_
          rintro e w3 ⟨rfl, hd⟩
          have HD := Lib.hid (HB.out.trans (hd.mono hsz1))
          clear hd
          go_wp2_with fail
          go_ret2
          exact ⟨by simp [printK, errL], HD.out⟩

end Go.Proofs.YtheenlomlmbjaaaGreatDoor.L4
