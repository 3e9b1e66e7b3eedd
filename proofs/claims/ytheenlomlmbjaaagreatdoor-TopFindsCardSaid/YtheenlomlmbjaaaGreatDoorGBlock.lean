/-
  '[]byte(s)': the row of a text's bytes; files.right of a good name.
-/
import Derived.Test.YtheenlomlmbjaaaGreatDoorTSmp
import Derived.Laws.IdiomStrings
import Derived.Test.YtheenlomlmbjaaaGreatDoorTCmp
import Derived.Maps.AppendAt
import Derived.Lib.SliceRun
import Derived.Test.YtheenlomlmbjaaaGreatDoorFSer
import Derived.Outline
set_option linter.unusedSimpArgs false
set_option linter.unusedVariables false
namespace Go.Proofs.YtheenlomlmbjaaaGreatDoor
open Go.RowKit

def capB (w : World) (l : Bytes) : Nat := grownCap w l.length 0 5
def rowB (w : World) (l : Bytes) : Obj := .cells (bytesRow (bs l) (capB w l)) 5 ((bytesRow (bs l) (capB w l)).size, (bytesRow (bs l) (capB w l)).size + 1)
theorem bytesOf_run (l : Bytes) (w : World) : (convert 9 22 (.string (bs l))).run Tryz.prog w = .ok (.slice (some ⟨w.heap.size, 0, none⟩) l.length (capB w l)) (w.drew.alloc (rowB w l)) :=
  run_bytes_of_string w _ _ 5 (bs l) Tryz.underlying9 Tryz.underlying22 Tryz.underlying5
theorem rowB_cell {w w' : World} {l : Bytes} {K : Nat} (h : w'.heap[K]? = some (rowB w l)) {i : Nat} (hi : i < l.length) : w'.cell? ⟨K, i, none⟩ = some (.int .u8 (byteAt l i).toNat) := by
  rw [Lib.cell_of_heap h, bytesRow_at (bs l) (capB w l) i (by simpa [bs] using hi)]
  simp [bs, byteAt, List.getD, List.getElem?_eq_getElem hi]

def okC (c : UInt8) : Bool := (decide (97 ≤ c.toNat) && decide (c.toNat ≤ 122)) || (decide (48 ≤ c.toNat) && decide (c.toNat ≤ 57))
def nameOk (s : Bytes) : Bool := s.all okC && decide (0 < s.length) && decide (s.length ≤ 16)
theorem nameOk_iff {s : Bytes} (h : nameOk s = true) : (∀ i, i < s.length → okC (byteAt s i) = true) ∧ 0 < s.length ∧ s.length ≤ 16 := by
  simp only [nameOk, Bool.and_eq_true, decide_eq_true_eq] at h
  refine ⟨fun i hi => ?_, h.1.2, h.2⟩
  rw [byteAt_lt hi]
  exact List.all_eq_true.1 h.1.1 _ (List.getElem_mem ..)

set_option maxRecDepth 100000 in
set_option maxHeartbeats 1000000 in
theorem rightF_any (s : Bytes) (w : World) (hs : nameOk s = true) :
    Calls Tryz.prog 205 #[.string (bs s)] w fun e w' => e = .returned (.bool true) ∧ Below w.heap.size w w' := by
  obtain ⟨hok, h0, h16⟩ := nameOk_iff hs
  have HOK := Lib.hid hok
  have hne : s.isEmpty = false := by cases s with
    | nil => simp at h0
    | cons _ _ => rfl
  have hne2 : (s = []) = False := by simp; intro e; subst e; simp at h0
  clear hs hok
  have hcv := bytesOf_run s
  have HR := Lib.hid (fun (w' : World) (h : w'.heap[w.heap.size]? = some (rowB w s)) i (hi : i < s.length) => rowB_cell h hi)
  have HX := Lib.hid (heap_alloc_new w (rowB w s))
  have HB := Lib.hid (show Below w.heap.size w (w.alloc (rowB w s)).drew from ((Below.refl _ _).alloc (Nat.le_refl _) _).drew)
  have h17 : decide ((s.length : Int) ≤ 16) = true := by simp; omega
  go_enter Tryz.func205, Tryz.ntmps205
  go_wp2_with fail
  clear hcv
  generalize rowB w s = R at *
  generalize capB w s = cap at *
  go_loop [8] (fun i => ∃ k : Nat, i = .int .i64 k ∧ k ≤ s.length) (fun i => s.length - (intOf i).toNat)
  case atStart => exact ⟨0, rfl, Nat.zero_le _⟩
  case round =>
    obtain ⟨k, rfl, hk⟩ := hrel
    by_cases hlt : k < s.length
    · have hc := HR.out _ HX.out k hlt
      have hk0 := HOK.out k hlt
      generalize byteAt s k = c at *
      obtain ⟨n, hn⟩ : ∃ n : Nat, c.toNat = n := ⟨_, rfl⟩
      rw [hn] at hc
      unfold okC at hk0
      rw [hn] at hk0
      clear hn
      simp only [Bool.or_eq_true, Bool.and_eq_true, decide_eq_true_eq] at hk0
      rcases hk0 with ⟨h1, h2⟩ | ⟨h1, h2⟩
      · have d1 : decide ((n : Int) < 97) = false := by simp; omega
        have d2 : decide ((122 : Int) < n) = false := by simp; omega
        clear h1 h2
        go_wp2_with fail
        go_round
        case rel => exact ⟨k + 1, by go_num, by omega⟩
        case measure => simp [intOf]; omega
      · have d1 : decide ((n : Int) < 97) = true := by simp; omega
        have d2 : decide ((n : Int) < 48) = false := by simp; omega
        have d3 : decide ((57 : Int) < n) = false := by simp; omega
        clear h1 h2
        go_wp2_with fail
        go_round
        case rel => exact ⟨k + 1, by go_num, by omega⟩
        case measure => simp [intOf]; omega
    · have hke : k = s.length := by omega
      subst hke
      go_wp2_with fail
      go_ret
      exact ⟨rfl, HB.out⟩

end Go.Proofs.YtheenlomlmbjaaaGreatDoor

namespace Go.Proofs.YtheenlomlmbjaaaGreatDoor
open Go.RowKit

def revK (l : List El) : Nat → List El
  | 0 => l
  | k + 1 => swapE (revK l k) k (l.length - 1 - k)
theorem revK_len (l : List El) (k : Nat) : (revK l k).length = l.length := by
  induction k with
  | zero => rfl
  | succ k ih => rw [revK, swapE_len, ih]
theorem revK_get (l : List El) (k : Nat) (hk : 2 * k ≤ l.length) : ∀ i, i < l.length → (revK l k).getD i el0 = if i < k ∨ l.length - k ≤ i then l.getD (l.length - 1 - i) el0 else l.getD i el0 := by
  induction k with
  | zero => intro i hi; rw [if_neg (by omega)]; rfl
  | succ k ih =>
    have ih := ih (by omega)
    intro i hi
    have hlen := revK_len l k
    have e1 := ih k (by omega)
    have e2 := ih (l.length - 1 - k) (by omega)
    rw [if_neg (by omega)] at e1 e2
    unfold revK swapE
    rw [e1, e2]
    have hs : ∀ (m : List El) (p : Nat) (x : El), p < m.length → (m.set p x).getD i el0 = if i = p then x else m.getD i el0 := by
      intro m p x hp
      simp only [List.getD_eq_getElem?_getD, List.getElem?_set]
      by_cases e : p = i
      · subst e; simp [hp]
      · rw [if_neg e, if_neg (fun e' => e e'.symm)]
    rw [hs _ _ _ (by rw [List.length_set, hlen]; omega), hs _ _ _ (by rw [hlen]; omega), ih i hi]
    by_cases h1 : i = l.length - 1 - k
    · rw [if_pos h1, if_pos (by omega)]
      congr 1; omega
    · rw [if_neg h1]
      by_cases h2 : i = k
      · rw [if_pos h2, if_pos (by omega)]
        congr 1; omega
      · rw [if_neg h2]
        by_cases h3 : i < k ∨ l.length - k ≤ i
        · rw [if_pos h3, if_pos (by omega)]
        · rw [if_neg h3, if_neg (by omega)]
theorem ext_getD {a b : List El} (hl : a.length = b.length) (h : ∀ i, i < b.length → a.getD i el0 = b.getD i el0) : a = b := by
  refine List.ext_getElem hl fun i h1 h2 => ?_
  have := h i h2
  simpa [List.getD_eq_getElem?_getD, List.getElem?_eq_getElem h1, List.getElem?_eq_getElem h2] using this
theorem revK_rev (l : List El) (k : Nat) (h1 : 2 * k ≤ l.length) (h2 : l.length ≤ 2 * k + 1) : revK l k = l.reverse := by
  refine ext_getD (by rw [revK_len, List.length_reverse]) fun i hi => ?_
  rw [List.length_reverse] at hi
  rw [revK_get l k h1 i hi]
  have e : l.reverse.getD i el0 = l.getD (l.length - 1 - i) el0 := by
    simp [List.getD_eq_getElem?_getD, List.getElem?_reverse hi]
  rw [e]
  by_cases h3 : i < k ∨ l.length - k ≤ i
  · rw [if_pos h3]
  · rw [if_neg h3]; congr 1; omega

def RevRel (g cap n : Nat) (l : List El) (w : World) (i j : Value) (wr : World) : Prop :=
  ∃ k : Nat, 2 * k ≤ n + 1 ∧ i = .int .i64 k ∧ j = .int .i64 ((n : Int) - 1 - k) ∧ RowE wr g cap (revK l k) ∧ w.grownBy wr (some g)

set_option maxRecDepth 100000 in
set_option maxHeartbeats 4000000 in
theorem reverse_any (g cap n : Nat) (l : List El) (w : World) (h : RowE w g cap l) (hn : l.length = n) (hle : n ≤ 1000000) :
    Calls Tryz.prog 105 #[.slice (some ⟨g, 0, none⟩) n cap] w fun e w' => e = .returned (.tuple #[]) ∧ RowE w' g cap l.reverse ∧ w.grownBy w' (some g) := by
  have HS0 := Lib.hid (show RevRel g cap n l w (.int .i64 0) (.int .i64 ((n : Int) - 1)) w from ⟨0, by omega, rfl, by simp, h, gb_refl _ _⟩)
  have hcap : n ≤ cap := by rw [← hn]; exact h.1
  have HN := Lib.hid hn
  clear h hn
  go_enter Tryz.func105, Tryz.ntmps105
  go_wp2_with fail
  go_loopw [2, 3] (fun i j wr => RevRel g cap n l w i j wr) (fun i _ _ => n - (intOf i).toNat)
  case atStart => exact HS0.out
  case round =>
    clear HS0
    obtain ⟨k, hk, rfl, rfl, hrow, hgb⟩ := hrel
    have HR := Lib.hid hrow
    have HG := Lib.hid hgb
    clear hrow hgb
    by_cases hlt : 2 * k + 1 < n
    · obtain ⟨q, hq⟩ : ∃ q, q = n - 1 - k := ⟨_, rfl⟩
      have hpl : k < (revK l k).length := by rw [revK_len, HN.out]; omega
      have hql : q < (revK l k).length := by rw [revK_len, HN.out]; omega
      have HSw := Lib.hid (HR.out.swap hpl hql)
      have hst : swapE (revK l k) k q = revK l (k + 1) := by rw [revK, HN.out, hq]
      rw [hst] at HSw
      obtain ⟨c0, c1⟩ := HR.out.at_ hpl
      obtain ⟨d0, d1⟩ := HR.out.at_ hql
      have f0 := HR.out.frozen (k * 2)
      have f1 := HR.out.frozen (k * 2 + 1)
      have f2 := HR.out.frozen (q * 2)
      have f3 := HR.out.frozen (q * 2 + 1)
      generalize (revK l k).getD k el0 = x at *
      generalize (revK l k).getD q el0 = y at *
      have hqI : (n : Int) - 1 - (k : Int) = (q : Int) := by omega
      rw [hqI]
      have hkq : k < q := by omega
      have hkn : k < n := by omega
      have hqn : q < n := by omega
      have hE1 := Lib.hid (show (q : Int) - 1 = (n : Int) - 1 - ((k + 1 : Nat) : Int) by omega)
      have hK1 : 2 * (k + 1) ≤ n + 1 := by omega
      have HG2 := Lib.hid (fun v0 v1 v2 v3 p0 p1 p2 p3 => gb_trans HG.out (gb_swap (w := wr) (g := g) v0 v1 v2 v3 p0 p1 p2 p3))
      clear hq hst hpl hql hqI
      simp only [cA, cB] at c0 c1 d0 d1
      go_wp2_with fail
      go_region
      go_wp2_with fail
      go_roundw
      case rel => exact ⟨k + 1, hK1, by go_num, by rw [hE1.out], HSw.out.drew1, gb_drew1 (HG2.out ..)⟩
      case measure => simp [intOf]; omega
    · have HF := Lib.hid (show RowE wr g cap l.reverse by
        have h1 : revK l k = l.reverse ∨ n + 1 = 2 * k := by
          by_cases e : n + 1 = 2 * k
          · exact .inr e
          · exact .inl (revK_rev l k (by rw [HN.out]; omega) (by rw [HN.out]; omega))
        rcases h1 with h1 | h1
        · rw [← h1]; exact HR.out
        · have hk1 : ∃ m, k = m + 1 := ⟨k - 1, by omega⟩
          obtain ⟨m, rfl⟩ := hk1
          have hm : revK l (m + 1) = revK l m := by
            rw [revK, HN.out, show n - 1 - m = m by omega]
            unfold swapE
            refine ext_getD (by simp) fun i hi => ?_
            simp only [List.getD_eq_getElem?_getD, List.getElem?_set, List.length_set]
            by_cases e : m = i
            · subst e; simp [hi]
            · rw [if_neg e, if_neg e]
          have := HR.out
          rw [hm, revK_rev l m (by rw [HN.out]; omega) (by rw [HN.out]; omega)] at this
          exact this)
      have hge : ¬ ((k : Int) < (n : Int) - 1 - (k : Int)) := by omega
      have hged : decide ((k : Int) < (n : Int) - 1 - (k : Int)) = false := by simp; omega
      go_wp2_with fail
      go_end0
      exact ⟨rfl, HF.out, HG.out⟩

end Go.Proofs.YtheenlomlmbjaaaGreatDoor

namespace Go.Proofs.YtheenlomlmbjaaaGreatDoor
open Go.RowKit

theorem samples_news {w : World} {a : Addr} {n cap : Nat} {ls : List Smp} (h : Samples w (.slice (some a) n cap) ls) : ∀ j u, (ls.flatMap encS)[j]? = some u → w.cell? (a.add j) = some u := by
  intro j u hj
  have hlen := flat_len (enc := encS) (k := 2) (fun _ => rfl) ls
  have hjl : j < ls.length * 2 := by
    rcases Nat.lt_or_ge j (ls.length * 2) with h' | h'
    · exact h'
    · rw [List.getElem?_eq_none (by omega)] at hj; cases hj
  obtain ⟨b, off, ha, hb, h1, h2⟩ := h.at_ (i := j / 2) (by omega)
  simp only [Option.some.injEq] at ha
  subst ha
  have e : j / 2 * 2 + j % 2 = j := by omega
  rw [Addr.add_lit]
  have hf := flat_at (enc := encS) (k := 2) (fun _ => rfl) (0, 0) ls (j / 2) (j % 2) (by omega) (by omega)
  rw [e] at hf
  rw [hf] at hj
  have : j % 2 = 0 ∨ j % 2 = 1 := by omega
  rcases this with e2 | e2
  · rw [e2] at hj e
    rw [show off + j = off + j / 2 * 2 by omega, h1]; exact hj
  · rw [e2] at hj e
    rw [show off + j = off + j / 2 * 2 + 1 by omega, h2]; exact hj
theorem encS_one {ls : List Smp} : ∀ u ∈ ls.flatMap encS, u.oneCell' = true := by
  intro u hu
  obtain ⟨x, _, hx⟩ := List.mem_flatMap.1 hu
  simp only [encS, List.mem_cons, List.not_mem_nil, or_false] at hx
  rcases hx with rfl | rfl <;> rfl

set_option maxRecDepth 100000 in
set_option maxHeartbeats 1000000 in
theorem clone_any (v : Value) (ls : List Smp) (w : World) (hv : Samples w v ls) (hl : ls.length ≤ 1000000) :
    Calls Tryz.prog 103 #[v] w fun e w' => ∃ u, e = .returned u ∧ OwnR 211 2 encS w' w.heap.size u ls ∧ Below w.heap.size w w' := by
  have HV := Lib.hid hv
  obtain ⟨a, cap, rfl, h1, h2, h3⟩ := hv
  cases a with
  | none =>
    have hn : ls = [] := by
      cases ls with
      | nil => rfl
      | cons x r => obtain ⟨b, off, hx, _⟩ := h3 (by simp); cases hx
    subst hn
    have hq : ∀ w', (binOp .eql 47 (.slice none 0 cap) (.slice none 0 0)).run Tryz.prog w' = .ok (.bool true) w' := fun w' => Lib.run_eql_slice_nil w' _ _ none 0 cap 0 0 Tryz.underlying47
    go_enter Tryz.func103, Tryz.ntmps103
    go_wp2_with fail
    go_ret
    exact ⟨_, rfl, OwnR.nil _ _, Below.refl _ _⟩
  | some a =>
    obtain ⟨i0, hi, hz0, hz1, hz2⟩ := info_parts infoSmp
    have HO := Lib.hid (OwnR.fresh (α := Smp) (t := 211) (k := 2) (enc := encS) w (base := w.heap.size) (Nat.le_refl _))
    have HN := Lib.hid (samples_news (HV.out.below ((Below.refl _ w).alloc (Nat.le_refl _) (.cells #[] 211))))
    clear h3
    have hq : ∀ w', (binOp .eql 47 (.slice (some a) ls.length cap) (.slice none 0 0)).run Tryz.prog w' = .ok (.bool false) w' := fun w' => Lib.run_eql_slice_nil w' _ _ (some a) ls.length cap 0 0 Tryz.underlying47
    go_enter Tryz.func103, Tryz.ntmps103
    go_wp2_with (at_builtin; refine wpList_append_own_at _ rfl (.tmp 5) (.tmp 6) 47 rfl w.heap.size 211 i0 _ 2 16 Tryz.underlying47 hi hz0 hz1 hz2 rfl (by decide) _ 0 [] rfl HO.out a ls.length cap (ls.flatMap encS) rfl (flat_len (enc := encS) (k := 2) (fun _ => rfl) ls) HN.out encS_one (by simp only [maxLen]; omega) (by omega) (by simp) ?_; intro v' w4 hown4 hg4 _ _)
    go_ret
    have hg5 : (w.alloc (.cells #[] 211)).grownBy w4 (some w.heap.size) := hg4
    refine ⟨_, rfl, by unfold OwnR; simpa using hown4, ((Below.refl _ w).alloc (Nat.le_refl _) _).grown hg5 (by simp) (fun k hk => by cases hk; exact Nat.le_refl _)⟩

end Go.Proofs.YtheenlomlmbjaaaGreatDoor

namespace Go.Proofs.YtheenlomlmbjaaaGreatDoor
open Go.RowKit

def lenG : Value → Nat | .slice _ n _ => n | _ => 0
theorem drE0 {w w2 : World} (h : Below w.drew.heap.size w.drew w2) : Below w.heap.size w w2 := (Below.refl _ _).drew.trans h
end Go.Proofs.YtheenlomlmbjaaaGreatDoor

namespace Go.Proofs.YtheenlomlmbjaaaGreatDoor
open Go.RowKit

structure Out (F : Nat → Prop) (w w' : World) : Prop where
  os : w'.os = w.os
  tape : w'.tape = w.tape
  output : w'.output = w.output
  size : w.heap.size ≤ w'.heap.size
  block : ∀ k, k < w.heap.size → ¬ F k → w'.heap[k]? = w.heap[k]?

section
variable {F G : Nat → Prop} {a b c w w' : World}
theorem Out.refl (F : Nat → Prop) (w : World) : Out F w w := ⟨rfl, rfl, rfl, Nat.le_refl _, fun _ _ _ => rfl⟩
theorem Out.trans (h : Out F a b) (k : Out G b c) (hG : ∀ i, i < a.heap.size → G i → F i) : Out F a c :=
  ⟨k.os.trans h.os, k.tape.trans h.tape, k.output.trans h.output, Nat.le_trans h.size k.size, fun i hi hf => (k.block i (Nat.lt_of_lt_of_le hi h.size) (fun hg => hf (hG i hi hg))).trans (h.block i hi hf)⟩
theorem Out.same (h : Out F a b) (k : Out F b c) : Out F a c := h.trans k fun _ _ h => h
theorem Out.mono (h : Out F a b) (hG : ∀ i, i < a.heap.size → F i → G i) : Out G a b := ⟨h.os, h.tape, h.output, h.size, fun i hi hg => h.block i hi (fun hf => hg (hG i hi hf))⟩
theorem Out.of_below (h : Below w.heap.size w w') : Out F w w' := ⟨h.os, h.tape, h.output, h.size, fun i hi _ => h.block i hi⟩
theorem Out.thenB (h : Out F a b) (k : Below b.heap.size b c) : Out F a c := h.trans (Out.of_below (F := F) k) fun _ _ h => h
theorem Out.below {B : Nat} (h : Out F a b) (hF : ∀ k, k < B → ¬ F k) (hB : B ≤ a.heap.size) : Below B a b := ⟨h.os, h.tape, h.output, h.size, fun i hi => h.block i (by omega) (hF i hi)⟩
theorem Out.grown {row : Option Nat} (h : w.grownBy w' row) : Out (fun k => some k = row) w w' := ⟨h.os, h.tape, h.output, h.size, fun i hi hf => h.block i hi hf⟩
theorem Out.setCell (w : World) (p : Addr) (u : Value) : Out (fun k => k = p.block) w (w.setCell p u) := ⟨rfl, rfl, rfl, by simp [World.setCell], fun i _ hf => Below.heap_setCell _ _ _ _ hf⟩
theorem Out.toGrown {b0 : Nat} (h : Out (fun k => k = b0) w w') : w.grownBy w' (some b0) := ⟨h.os, h.tape, h.output, h.size, fun i hi hne => h.block i hi (fun e => hne (by rw [e]))⟩
theorem Out.cell (h : Out F w w') {p : Addr} (hp : p.block < w.heap.size) (hf : ¬ F p.block) : w'.cell? p = w.cell? p := World.cell?_of_block (w := w) (h.block p.block hp hf)
theorem Out.cellE (h : Out F w w') {g i : Nat} {v : Value} (hc : w.cell? ⟨g, i, none⟩ = some v) (hf : ¬ F g) : w'.cell? ⟨g, i, none⟩ = some v := (h.cell (p := ⟨g, i, none⟩) (World.block_lt_of_cell? w _ hc) hf).trans hc
end

def CellsF (F : Nat → Prop) (w : World) : Prop := ∀ k, F k → ∃ c t f, w.heap[k]? = some (.cells c t f)
theorem OwnR.out {α : Type} {t : TypeId} {k : Nat} {enc : α → List Value} {w w' : World} {base : Nat} {v : Value} {l : List α} {F : Nat → Prop} (h : OwnR t k enc w base v l) (ho : Out F w w') (hf : ∀ j, v.ownBlock = some j → ¬ F j) : OwnR t k enc w' base v l := by
  obtain ⟨h1, h2⟩ := h
  refine ⟨h1, ?_⟩
  rcases h2 with h2 | ⟨g, cap, cur, hv, hg, hh, r⟩
  · exact Or.inl h2
  · exact Or.inr ⟨g, cap, cur, hv, hg, (ho.block g (Array.getElem?_eq_some_iff.1 hh).1 (hf g (by rw [hv]; rfl))).trans hh, r⟩

end Go.Proofs.YtheenlomlmbjaaaGreatDoor

namespace Go.Proofs.YtheenlomlmbjaaaGreatDoor
open Go.RowKit Go.Maps

def DiskOk (w : World) (d : Nat) : Prop := ∃ m, w.cell? ⟨d, 0, none⟩ = some (.int .i64 512) ∧ w.cell? ⟨d, 1, none⟩ = some (.string (bs [])) ∧ w.cell? ⟨d, 2, none⟩ = some (.string (bs [])) ∧
  w.cell? ⟨d, 513, none⟩ = some (.map (some m)) ∧ w.cell? ⟨d, 514, none⟩ = some (.bool false) ∧ OMap Tryz.prog 3 w m 0 (.map [])
theorem DiskOk.out {F : Nat → Prop} {w w' : World} {p : Nat} (h : DiskOk w p) (ho : Out F w w') (hp : ¬ F p) (hF : CellsF F w) : DiskOk w' p := by
  obtain ⟨m, h0, h1, h2, h3, h4, es, clock, h5, h6⟩ := h
  have hm : ¬ F m := fun hf => by obtain ⟨c, t, f, h7⟩ := hF m hf; rw [h5] at h7; cases h7
  exact ⟨m, ho.cellE h0 hp, ho.cellE h1 hp, ho.cellE h2 hp, ho.cellE h3 hp, ho.cellE h4 hp, es, clock, (ho.block m (Array.getElem?_eq_some_iff.1 h5).1 hm).trans h5, h6⟩
theorem DiskOk.below {w w' : World} {p : Nat} (h : DiskOk w p) (hb : Below w.heap.size w w') : DiskOk w' p :=
  h.out (F := fun _ => False) (Out.of_below hb) (fun h => h) (fun _ h => h.elim)

set_option maxRecDepth 100000 in
theorem dead_any (d : Nat) (w : World) (h : DiskOk w d) :
    Calls Tryz.prog 66 #[.pointer (some ⟨d, 0, none⟩)] w fun e w' => e = .returned (.bool false) ∧ w = w' := by
  obtain ⟨m, -, -, -, -, h4, -⟩ := h
  go_enter Tryz.func66, Tryz.ntmps66
  go_wp2_with fail
  go_ret
  exact ⟨rfl, rfl⟩
theorem zeroStrs (w : World) : (zeroValue 36).run Tryz.prog w = .ok (.slice none 0 0) w := by kernel_rfl
set_option maxRecDepth 1000000 in
set_option maxHeartbeats 4000000 in
theorem readD_any (d : Nat) (i : Int) (w : World) (h : DiskOk w d) (hi : i = 0 ∨ i = 1) :
    Calls Tryz.prog 128 #[.pointer (some ⟨d, 0, none⟩), .int .i64 i] w fun e w' => e = .returned (.tuple #[.string (bs []), .int .i64 0]) ∧ w = w' := by
  obtain ⟨m, h0, h1, h2, h3, h4, hm⟩ := h
  have hlk : (Instr.lookup 60 (.map (some m)) (.int .i64 i) false).run Tryz.prog w = .ok (.slice none 0 0) w := by
    obtain ⟨v', ps, hrun, hv⟩ := World.ownsMap.lookup hm keyedInt Tryz.underlying60 (zeroStrs w) (rawE_eq _) (keyI (id := i) (by omega) (by omega))
    have e : v' = .slice none 0 0 := by cases hv; rfl
    rw [e] at hrun
    exact hrun
  clear hm
  rcases hi with rfl | rfl
  · go_enter Tryz.func128, Tryz.ntmps128
    go_wp2_with fail
    go_ret2
    exact ⟨rfl, rfl⟩
  · go_enter Tryz.func128, Tryz.ntmps128
    go_wp2_with fail
    go_ret2
    exact ⟨rfl, rfl⟩

end Go.Proofs.YtheenlomlmbjaaaGreatDoor
