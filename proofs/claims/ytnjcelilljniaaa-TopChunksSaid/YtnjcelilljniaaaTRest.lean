/-
  delta.rest: the samples behind the first, read back.
-/
import Derived.Test.YtnjcelilljniaaaTEnc
import Derived.Deep.RegionHeld3
namespace Go.Proofs.Ytnjcelilljniaaa
open Go.RowKit

theorem prsL_cut {st m k : Nat} (h : k < m) : ∃ r, prsL st m = prsL st k ++ pr st k :: r := by
  obtain ⟨r, hr⟩ := prsL_pre (st := st) (m := m) (k := k + 1) (by omega)
  refine ⟨r, ?_⟩
  rw [← hr, prsL_succ, List.append_assoc]
  rfl
theorem bitsE_cut {ba bb st m k : Nat} (h : k < m) : ∃ r, bitsE ba bb (prsL st m) = bitsE ba bb (prsL st k) ++ (riceB (pr st k).1 ba ++ (riceB (pr st k).2 bb ++ r)) := by
  obtain ⟨r, hr⟩ := prsL_cut (st := st) h
  refine ⟨bitsE ba bb r, ?_⟩
  rw [hr]
  unfold bitsE
  rw [List.flatMap_append, List.flatMap_cons, List.append_assoc]
/-- Where the reader stands behind k samples. -/
def posE (ba bb st k : Nat) : Nat := (bitsE ba bb (prsL st k)).length
theorem posE_succ (ba bb st k : Nat) : posE ba bb st (k + 1) = posE ba bb st k + riceC (pr st k).1 ba + riceC (pr st k).2 bb := by
  unfold posE
  rw [bitsE_snoc, List.length_append, List.length_append, riceB_len, riceB_len]
theorem bits_at {P : Bytes} {ba bb st m k : Nat} (hp : Packed P (bitsE ba bb (prsL st m))) (h : k < m) :
    ∃ r, (bitsOf P).drop (posE ba bb st k) = riceB (pr st k).1 ba ++ (riceB (pr st k).2 bb ++ r) ∧ (bitsOf P).drop (posE ba bb st k + riceC (pr st k).1 ba) = riceB (pr st k).2 bb ++ r := by
  obtain ⟨pad, _, e⟩ := hp
  obtain ⟨r, hr⟩ := bitsE_cut (ba := ba) (bb := bb) (st := st) h
  refine ⟨r ++ List.replicate pad false, ?_, ?_⟩
  · rw [e, hr, List.append_assoc, List.drop_append, List.drop_of_length_le (by unfold posE; omega), posE, Nat.sub_self, List.drop_zero, List.nil_append, List.append_assoc, List.append_assoc]
  · rw [e, hr, List.append_assoc, List.drop_append, List.drop_of_length_le (by unfold posE; omega), posE, Nat.add_sub_cancel_left, List.nil_append, List.append_assoc, List.drop_append, ← riceB_len, List.drop_of_length_le (Nat.le_refl _), Nat.sub_self, List.drop_zero, List.nil_append, List.append_assoc]
theorem bits_end {P : Bytes} {ba bb st m : Nat} (hp : Packed P (bitsE ba bb (prsL st m))) : posE ba bb st m ≤ 8 * P.length ∧ 8 * P.length - posE ba bb st m < 8 ∧ ofB ((bitsOf P).drop (posE ba bb st m)) = 0 := by
  obtain ⟨pad, hpad, e⟩ := hp
  have hl := congrArg List.length e
  rw [bitsOf_len, List.length_append, List.length_replicate] at hl
  change 8 * P.length = posE ba bb st m + pad at hl
  refine ⟨by omega, by omega, ?_⟩
  rw [e, List.drop_append, List.drop_of_length_le (by unfold posE; omega), posE, Nat.sub_self, List.drop_zero, List.nil_append, ← toB_zeros, ofB_toB, Nat.zero_mod]

theorem smpL_succ (n st : Nat) (v : Int) : smpL (n + 1) st v = smpL n st v ++ [(((n * st : Nat) : Int), v)] := by simp [smpL, List.range_succ]

/-- 'l = append(l, x)': one sample; which blocks change. -/
theorem app_smpG (w : World) {ops : Array Oper} {rest : List Oper} {o : Oper} {a : Act} {Q : Exit → Act → World → Prop} (hgd : o.guard = none) (s x : Operand)
    (ho : o.op = .call { callee := .builtin .append, args := #[s, x], argTypes := #[22, 22] })
    (base : Nat) (v : Value) (l : List Smp) (y : Smp) (g : Nat) (hs : a.eval s = v) (hx : a.eval x = .slice (some ⟨g, 0, none⟩) 1 1)
    (hnew : w.heap[g]? = some (.cells #[.int .i64 y.1, .int .i64 y.2] 25 (0, 0))) (hown : OwnR 25 2 encS w base v l) (hbase : base ≤ w.heap.size) (hlen : l.length ≤ 1000000000)
    (h : ∀ g' cap w', OwnR 25 2 encS w' base (.slice (some ⟨g', 0, none⟩) (l.length + 1) cap) (l ++ [y]) → w.grownBy w' v.ownBlock → wpList Try.prog ops Q rest (a.put o.dst (.slice (some ⟨g', 0, none⟩) (l.length + 1) cap)) w') :
    wpList Try.prog ops Q (o :: rest) a w := by
  obtain ⟨i0, hi, hz0, hz1, hz2⟩ := info_parts infoSmp
  refine wpList_append_lies w hgd s x 22 ho base 25 i0 _ 2 16 Try.underlying22 hi hz0 hz1 hz2 rfl (by decide) v l.length _ hs hown
    ⟨g, 0, none⟩ 1 1 [.int .i64 y.1, .int .i64 y.2] hx rfl (World.news_of_block hnew) ?_ (by omega) (by simp only [maxLen]; omega) (by omega) hbase _ rfl ?_
  · intro u hu
    simp at hu; rcases hu with rfl | rfl <;> rfl
  · intro g' cap w' h1 h2 _ _
    refine h g' cap w' ?_ h2
    unfold OwnR
    simpa [encS] using h1

/-- The same at a step of a region that draws. -/
theorem step_smpG (w : World) {ops : Array Oper} {o : Oper} {a : Act} {K : Act → World → Prop} {Q : Exit → Act → World → Prop} {E : Prop} (hgd : o.guard = none) (s x : Operand)
    (ho : o.op = .call { callee := .builtin .append, args := #[s, x], argTypes := #[22, 22] })
    (base : Nat) (v : Value) (l : List Smp) (y : Smp) (g : Nat) (hs : a.eval s = v) (hx : a.eval x = .slice (some ⟨g, 0, none⟩) 1 1)
    (hnew : w.heap[g]? = some (.cells #[.int .i64 y.1, .int .i64 y.2] 25 (0, 0))) (hown : OwnR 25 2 encS w base v l) (hbase : base ≤ w.heap.size) (hlen : l.length ≤ 1000000000)
    (h : ∀ g' cap w', OwnR 25 2 encS w' base (.slice (some ⟨g', 0, none⟩) (l.length + 1) cap) (l ++ [y]) → w.grownBy w' v.ownBlock → K (a.put o.dst (.slice (some ⟨g', 0, none⟩) (l.length + 1) cap)) w') :
    if Region.wanted o (yielded ops a.tmps) = true then Oper.wp Try.prog o a w K Q else E := by
  obtain ⟨i0, hi, hz0, hz1, hz2⟩ := info_parts infoSmp
  refine step_append_lies w hgd s x 22 ho base 25 i0 _ 2 16 Try.underlying22 hi hz0 hz1 hz2 rfl (by decide) v l.length _ hs hown
    ⟨g, 0, none⟩ 1 1 [.int .i64 y.1, .int .i64 y.2] hx rfl (World.news_of_block hnew) ?_ (by omega) (by simp only [maxLen]; omega) (by omega) hbase _ rfl ?_
  · intro u hu
    simp at hu; rcases hu with rfl | rfl <;> rfl
  · intro g' cap w' h1 h2 _ _
    refine h g' cap w' ?_ h2
    unfold OwnR
    simpa [encS] using h1

theorem rd_alloc {b : Nat} {s : Bytes} {p : Nat} {w : World} (h : Rd b s p w) (o : Obj) : Rd b s p (w.alloc o) := (Below.heap_alloc _ _ _ (lt_of_heap h)).trans h
theorem Rd.drew {b : Nat} {s : Bytes} {p : Nat} {w : World} (h : Rd b s p w) : Rd b s p w.drew := h
theorem row_ne {w : World} {base b : Nat} {v : Value} {l : List Smp} {c : Array Value} {U : TypeId} {fr : Nat × Nat} (h : OwnR 25 2 encS w base v l) (hb : w.heap[b]? = some (.cells c U fr)) (hU : U ≠ 25) : v.ownBlock ≠ some b := by
  intro e
  rcases h.2 with ⟨e', _⟩ | ⟨g, cap, cur, e', _, hh, _⟩
  · rw [e'] at e; cases e
  · rw [e'] at e
    obtain rfl : g = b := by simpa [Value.ownBlock] using e
    rw [hh] at hb
    simp at hb
    exact hU hb.2.1.symm
theorem OwnR.setFar {w : World} {base b i : Nat} {v x : Value} {l : List Smp} (h : OwnR 25 2 encS w base v l) (hne : v.ownBlock ≠ some b) : OwnR 25 2 encS (w.setCell ⟨b, i, none⟩ x) base v l :=
  World.ownsRow.kept (row := some b) h ⟨rfl, rfl, rfl, by simp [World.setCell], fun k _ hk => Below.heap_setCell _ _ _ _ (fun e => hk (by simp [e]))⟩ (Or.inr hne)
theorem OwnR.drewN {w : World} {base : Nat} {v : Value} {l : List Smp} (h : OwnR 25 2 encS w base v l) (q : Nat) : OwnR 25 2 encS (w.drewN q) base v l := h

set_option maxHeartbeats 400000 in
set_option maxRecDepth 100000 in
theorem read_any (s : Bytes) (w : World) : Calls Try.prog 87 #[.string (bs s)] w fun e w' => e = .returned (.pointer (some ⟨w.heap.size, 0, none⟩)) ∧ w' = w.alloc (.cells #[.string (bs s), .int .i64 0] 167) := by
  go_enter Try.func87, Try.ntmps87
  go_wp2_with fail
  go_ret
  exact ⟨rfl, rfl⟩

theorem Rd.moved {b : Nat} {s : Bytes} {p p' : Nat} {w : World} (h : Rd b s p w) : Rd b s p' (w.setCell ⟨b, 1, none⟩ (.int .i64 p')) := by
  unfold Rd at *
  simp [World.setCell, Array.getElem?_modify, h]
theorem more_is {st k dk : Nat} (h : dk = if k = 0 then 0 else st) : unfoldN (pr st k).1 = (st : Int) - dk := by
  unfold pr unfoldN
  simp only
  split at h
  · rename_i h0
    rw [if_pos h0, if_pos (by omega)]; omega
  · rename_i h0
    rw [if_neg h0, if_pos (by omega)]; omega

theorem keepX {b : Nat} {c0 c1 : Value} {w w' : World} {u : Option Nat} (h : w.cell? ⟨b, 0, none⟩ = some c0 ∧ w.cell? ⟨b, 1, none⟩ = some c1) (hg : w.grownBy w' u) (hne : some b ≠ u) :
    w'.cell? ⟨b, 0, none⟩ = some c0 ∧ w'.cell? ⟨b, 1, none⟩ = some c1 := by
  have hlt : b < w.heap.size := World.block_lt_of_cell? w _ h.1
  have e := hg.block b hlt hne
  exact ⟨(World.cell?_of_block (a := ⟨b, 0, none⟩) e).trans h.1, (World.cell?_of_block (a := ⟨b, 1, none⟩) e).trans h.2⟩
theorem rest_two {w w3 : World} {base bk g n cap p : Nat} {P : Bytes} {l : List Smp} (ho : OwnR 25 2 encS w3 base (.slice (some ⟨g, 0, none⟩) n cap) l) (hr : Rd bk P p w3) (hb : Below base w w3) (hbk : base ≤ bk) (x y v : Int) :
    (((w3.alloc (.cells #[.int .i64 x, .int .i64 v] 25)).alloc (.cells #[.int .i64 y, .int .i64 v] 25)).drew).heap[w3.heap.size + 1]? = some (.cells #[.int .i64 y, .int .i64 v] 25 (0, 0)) ∧
    OwnR 25 2 encS (((w3.alloc (.cells #[.int .i64 x, .int .i64 v] 25)).alloc (.cells #[.int .i64 y, .int .i64 v] 25)).drew) base (.slice (some ⟨g, 0, none⟩) n cap) l ∧
    Rd bk P p (((w3.alloc (.cells #[.int .i64 x, .int .i64 v] 25)).alloc (.cells #[.int .i64 y, .int .i64 v] 25)).drew) ∧
    Below base w (((w3.alloc (.cells #[.int .i64 x, .int .i64 v] 25)).alloc (.cells #[.int .i64 y, .int .i64 v] 25)).drew) ∧
    base ≤ (((w3.alloc (.cells #[.int .i64 x, .int .i64 v] 25)).alloc (.cells #[.int .i64 y, .int .i64 v] 25)).drew).heap.size := by
  have h2 := lt_of_heap hr
  have hs : base ≤ w3.heap.size := by omega
  refine ⟨?_, (ho.below ((Below.refl _ _).alloc (Nat.le_refl _) (.cells #[.int .i64 x, .int .i64 v] 25))).below (((Below.refl _ _).alloc (Nat.le_refl _) (.cells #[.int .i64 y, .int .i64 v] 25)).drew), rd_alloc (rd_alloc hr _) _, ((hb.alloc hs _).alloc (by simp; omega) _).drew, ?_⟩
  · have h := heap_alloc_new (w3.alloc (.cells #[.int .i64 x, .int .i64 v] 25)) (.cells #[.int .i64 y, .int .i64 v] 25)
    rw [World.size_alloc] at h
    exact h
  · show base ≤ ((w3.alloc _).alloc _).heap.size
    simp; omega

theorem rest_x {w3 : World} (x y v : Int) :
    (((w3.alloc (.cells #[.int .i64 x, .int .i64 v] 25)).alloc (.cells #[.int .i64 y, .int .i64 v] 25)).drew).cell? ⟨w3.heap.size, 0, none⟩ = some (.int .i64 x) ∧
    (((w3.alloc (.cells #[.int .i64 x, .int .i64 v] 25)).alloc (.cells #[.int .i64 y, .int .i64 v] 25)).drew).cell? ⟨w3.heap.size, 1, none⟩ = some (.int .i64 v) := by
  have h : (((w3.alloc (.cells #[.int .i64 x, .int .i64 v] 25)).alloc (.cells #[.int .i64 y, .int .i64 v] 25)).drew).heap[w3.heap.size]? = some (.cells #[.int .i64 x, .int .i64 v] 25 (0, 0)) :=
    (Below.heap_alloc _ _ _ (by simp)).trans (heap_alloc_new w3 _)
  exact ⟨by rw [Lib.cell_of_heap h]; rfl, by rw [Lib.cell_of_heap h]; rfl⟩

set_option maxHeartbeats 1000000 in
set_option maxRecDepth 100000 in
theorem rest_any (g0 cap0 base n st : Nat) (v : Int) (w : World) (h0 : OwnR 25 2 encS w base (.slice (some ⟨g0, 0, none⟩) 1 cap0) (smpL 1 st v)) (hbase : base ≤ w.heap.size) (hn2 : 2 ≤ n) (hn : n ≤ 90) (hst1 : 1 ≤ st) (hst : st ≤ 300)
    (hv0 : -9223372036854775808 ≤ v) (hv1 : v ≤ 9223372036854775807) (hpk : Packed (packB (bitsE (bestL (tsL st n)) (bestL (vsL st n)) (prsL st (n - 1)))) (bitsE (bestL (tsL st n)) (bestL (vsL st n)) (prsL st (n - 1)))) :
    Calls Try.prog 71 #[.slice (some ⟨g0, 0, none⟩) 1 cap0, .int .i64 n, .string (bs (restL n st))] w fun e w' =>
      ∃ g cap, e = .returned (.tuple #[.slice (some ⟨g, 0, none⟩) n cap, .bool true]) ∧ OwnR 25 2 encS w' base (.slice (some ⟨g, 0, none⟩) n cap) (smpL n st v) ∧ Below base w w' := by
  have H0 := Lib.hid h0
  clear h0
  have hba := bestL_le (tsL st n)
  have hbb := bestL_le (vsL st n)
  have hpl := packed_len hpk
  have hbe := bitsE_le hba hbb (prsL st (n - 1))
  rw [prsL_len] at hbe
  unfold restL
  generalize bestL (tsL st n) = ba at *
  generalize bestL (vsL st n) = bb at *
  have HAt := Lib.hid (fun k (h : k < n - 1) => bits_at hpk h)
  have HEnd := Lib.hid (bits_end hpk)
  have hP : (packB (bitsE ba bb (prsL st (n - 1)))).length ≤ 100000 := by omega
  clear hpl hbe hpk
  generalize packB (bitsE ba bb (prsL st (n - 1))) = P at *
  have ha8 : (UInt8.ofNat ba).toNat = ba := by rw [UInt8.toNat_ofNat_of_lt' (by show _ < 256; omega)]
  have hb8 : (UInt8.ofNat bb).toNat = bb := by rw [UInt8.toNat_ofNat_of_lt' (by show _ < 256; omega)]
  obtain ⟨S, hS⟩ : ∃ S : Bytes, S = [UInt8.ofNat ba, UInt8.ofNat bb] ++ P := ⟨_, rfl⟩
  rw [← hS]
  have k0 : byteAt S 0 = UInt8.ofNat ba := by rw [hS]; rfl
  have k1 : byteAt S 1 = UInt8.ofNat bb := by rw [hS]; rfl
  have hSl : S.length = P.length + 2 := by rw [hS]; simp
  have hSd := Lib.hid (show (S.drop 2).take P.length = P by rw [hS]; simp)
  clear hS
  go_enter Try.func71, Try.ntmps71
  go_wp2_with fail
  go_quiet (fail)
  go_wp2_with fail
  rw [hSd.out]
  refine (read_any P _).mono ?_
  rintro e w1 ⟨rfl, h1⟩
  have HR1 := Lib.hid (show Rd w.heap.size P 0 w1 by rw [h1]; exact heap_alloc_new (w.drewN nq) _)
  have HO1 := Lib.hid (show OwnR 25 2 encS w1 base (.slice (some ⟨g0, 0, none⟩) 1 cap0) (smpL 1 st v) by rw [h1]; exact (H0.out.drewN nq).below ((Below.refl _ _).alloc (Nat.le_refl _) _))
  have HB1 := Lib.hid (show Below base w w1 by rw [h1]; exact (belowN (Below.refl _ _) nq).alloc hbase _)
  clear h1 H0 hSd k0 k1 hSl ha8 hb8
  rw [show (w.drewN nq).heap.size = w.heap.size from rfl]
  obtain ⟨bk, hbk⟩ : ∃ bk, bk = w.heap.size := ⟨_, rfl⟩
  rw [← hbk] at HR1 hbase ⊢
  clear hbk
  go_wp2_with fail
  go_loopw [0, 11] (fun x y wr => ∃ (k g cap dk : Nat), k ≤ n - 1 ∧ x = .slice (some ⟨g, 0, none⟩) (k + 1) cap ∧ y = .int .i64 dk ∧ Hid (dk = if k = 0 then 0 else st) ∧
      OwnR 25 2 encS wr base (.slice (some ⟨g, 0, none⟩) (k + 1) cap) (smpL (k + 1) st v) ∧ Rd bk P (posE ba bb st k) wr ∧ Below base w wr)
    (fun x y wr => n + 1 - (match x with | .slice _ l _ => l | _ => 0))
  case atStart => exact ⟨0, g0, cap0, 0, Nat.zero_le _, rfl, rfl, Lib.hid rfl, HO1.out, HR1.out, HB1.out⟩
  case round =>
    obtain ⟨k, g, cap, dk, hk, rfl, rfl, HDk, ho, hr, hbl⟩ := hrel
    have HO := Lib.hid ho
    have HR := Lib.hid hr
    have HB := Lib.hid hbl
    clear ho hr hbl HO1 HR1 HB1
    by_cases hlt : k < n - 1
    · obtain ⟨r, ha1, ha2⟩ := HAt.out k hlt
      have hx1 : (pr st k).1 < 18446744073709551616 := by unfold pr; simp only; split <;> omega
      have hx2 : (pr st k).2 = 0 := rfl
      have HMore := Lib.hid (more_is (st := st) (k := k) HDk.out)
      have hdk : dk ≤ 300 ∧ dk ≤ st := by have := HDk.out; split at this <;> omega
      have HPos := Lib.hid (posE_succ ba bb st k)
      have HSm := Lib.hid (smpL_succ (k + 1) st v)
      have hmul : (k + 1) * st = k * st + st := Nat.succ_mul _ _
      have hkb : k * st ≤ 90 * 300 := Nat.mul_le_mul (by omega) hst
      have hget := smpL_get (n := k + 1) (st := st) (v := v) (i := k) (by omega)
      rw [hx2] at ha1 ha2 HPos
      rw [hmul] at HSm
      generalize (pr st k).1 = p1 at *
      generalize k * st = x0 at *
      have HGet := Lib.hid hget
      have HG1 := Lib.hid (riceGet_any bk P (posE ba bb st k) p1 ba _ wr HR.out ha1 hx1 hba (by omega))
      have HG2 := Lib.hid (fun w' h => riceGet_any bk P (posE ba bb st k + riceC p1 ba) 0 bb r w' h ha2 (by omega) hbb (by omega))
      clear ha1 ha2 hmul hget
      go_wp2_with fail
      refine HG1.out.mono ?_
      rintro e w2 ⟨rfl, d2, h2⟩
      have HR2 := Lib.hid (show Rd bk P (posE ba bb st k + riceC p1 ba) w2 by rw [h2]; exact (HR.out.drewN d2).moved)
      have HO2 := Lib.hid (show OwnR 25 2 encS w2 base (.slice (some ⟨g, 0, none⟩) (k + 1) cap) (smpL (k + 1) st v) by rw [h2]; exact (HO.out.drewN d2).setFar (row_ne HO.out HR.out (by decide)))
      have HB2 := Lib.hid (show Below base w w2 by rw [h2]; exact (belowN HB.out d2).setCell (p := ⟨bk, 1, none⟩) hbase _)
      clear h2
      go_wp2_with fail
      refine (HG2.out _ HR2.out).mono ?_
      rintro e w3 ⟨rfl, d3, h3⟩
      have HR3 := Lib.hid (show Rd bk P (posE ba bb st (k + 1)) w3 by rw [h3, HPos.out]; exact (HR2.out.drewN d3).moved)
      have HO3 := Lib.hid (show OwnR 25 2 encS w3 base (.slice (some ⟨g, 0, none⟩) (k + 1) cap) (smpL (k + 1) st v) by rw [h3]; exact (HO2.out.drewN d3).setFar (row_ne HO2.out HR2.out (by decide)))
      have HB3 := Lib.hid (show Below base w w3 by rw [h3]; exact (belowN HB2.out d3).setCell (p := ⟨bk, 1, none⟩) hbase _)
      clear h3
      obtain ⟨b', off', hb', hgl3, q0, q1⟩ := HO3.out.samples.at_ (i := k) (by rw [smpL_len]; omega)
      simp only [Option.some.injEq, Addr.mk.injEq, and_true] at hb'
      obtain ⟨rfl, rfl⟩ := hb'
      rw [HGet.out, Nat.zero_add] at q0 q1
      simp only at q0 q1
      have hw1 : IntKind.i64.wrap ((x0 : Int) + st) = (x0 : Int) + st := IntWalk.i64_in _ (by omega)
      have hw2 : IntKind.i64.wrap (v + 0) = v := by rw [Int.add_zero]; exact IntWalk.i64_in _ (by omega)
      have hw3 : IntKind.i64.wrap v = v := IntWalk.i64_in _ (by omega)
      have HU := Lib.hid (unfold_any p1 (w := w3.alloc (.cells #[.int .i64 x0, .int .i64 v] 25)) hx1)
      have hu0 : unfoldN 0 = 0 := rfl
      go_wp2_with fail
      refine HU.out.mono ?_
      rintro e w4 ⟨rfl, rfl⟩
      rw [HMore.out]
      go_wp2_with fail
      rw [show ((dk : Int) + ((st : Int) - dk)) = (st : Int) by omega]
      have hlen : (smpL (k + 1) st v).length ≤ 1000000000 := by rw [smpL_len]; omega
      have HF := Lib.hid (rest_two HO3.out HR3.out HB3.out hbase x0 ((x0 : Int) + st) v)
      have HXC := Lib.hid (rest_x (w3 := w3) x0 ((x0 : Int) + st) v)
      have HNe := Lib.hid (show some w3.heap.size ≠ (Value.slice (some ⟨g, 0, none⟩) (k + 1) cap).ownBlock by simp [Value.ownBlock]; omega)
      go_region_held3 (fun w' => w'.cell? ⟨w3.heap.size, 0, none⟩ = some (.int .i64 x0) ∧ w'.cell? ⟨w3.heap.size, 1, none⟩ = some (.int .i64 v)) (first | exact hk6 | go_keep)
        (first
          | (go_at_call 86; refine (unfold_any 0 _ (by omega)).mono ?_; rintro e w5 ⟨rfl, rfl⟩)
          | (refine step_smpG _ rfl (.tmp 84) (.tmp 95) rfl base _ (smpL (k + 1) st v) ((x0 : Int) + st, v) _ rfl rfl HF.out.1 HF.out.2.1 HF.out.2.2.2.2 hlen ?_; intro g' cap' w6 hown' hgr'; have hk6 := keepX HXC.out hgr' HNe.out))
      have hRd6 : Rd bk P (posE ba bb st (k + 1)) w6 := (hgr'.block bk (lt_of_heap HF.out.2.2.1) (fun e => row_ne HO3.out HR3.out (by decide) e.symm)).trans HF.out.2.2.1
      have hB6 : Below base w w6 := HF.out.2.2.2.1.grown hgr' HF.out.2.2.2.2 (fun j e => (World.ownsRow.lt HO3.out j e).1)
      have HR6 := Lib.hid hRd6
      have HB6 := Lib.hid hB6
      have HO6 := Lib.hid hown'
      have hle : (smpL (k + 1) st v).length = k + 1 := smpL_len _ _ _
      rw [hle] at HO6 ⊢
      clear hRd6 hB6 hown' hgr' hk6
      go_wp2_with fail
      go_roundw
      case rel => exact ⟨k + 1, g', cap', st, by omega, rfl, rfl, Lib.hid (by rw [if_neg (by omega)]), by rw [HSm.out]; exact HO6.out, HR6.out, HB6.out⟩
      case measure => simp; omega
    · have hke : n - 1 = k := by omega
      have HE := Lib.hid (end_any bk P (posE ba bb st k) wr HR.out (by rw [← hke]; exact HEnd.out.1) (by rw [← hke]; exact HEnd.out.2.1) (by rw [← hke]; exact HEnd.out.2.2) (by omega))
      have hkn : n = k + 1 := by omega
      have hnlt : ¬ ((k : Int) + 1 < (n : Int)) := by omega
      clear hke
      go_wp2_with fail
      refine HE.out.mono ?_
      rintro e w2 ⟨rfl, d2, rfl⟩
      go_wp2_with fail
      go_ret2
      refine ⟨g, cap, by rw [hkn]; rfl, ?_, belowN HB.out d2⟩
      rw [hkn]
      exact HO.out.drewN d2

end Go.Proofs.Ytnjcelilljniaaa
