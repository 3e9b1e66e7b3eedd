/-
  slices.DeleteFunc of a row that the call owns.
-/
import Derived.Test.YtilkcojfencggaaAIdx
set_option linter.unusedSimpArgs false
set_option linter.unusedVariables false
namespace Go.Proofs.Ytilkcojfencggaa
open Go.RowKit

theorem zero_cells (n : Nat) : (Builtin.zeroCells #[.int .i64 0, .int .i64 0] n).toList = (List.replicate n ((0, 0) : Smp)).flatMap encS := by
  have h : ∀ n, (Builtin.zeroCells #[.int .i64 0, .int .i64 0] n).toList = List.replicate (n * 2) (.int .i64 0) := by
    intro n
    apply List.ext_getElem
    · simp [Builtin.zeroCells]
    · intro i h1 h2
      have : i % 2 = 0 ∨ i % 2 = 1 := by omega
      simp [Builtin.zeroCells]
      rcases this with e | e <;> rw [e] <;> rfl
  rw [h]
  induction n with
  | zero => rfl
  | succ m ih => rw [List.replicate_succ, List.flatMap_cons, ← ih, Nat.succ_mul]; rfl
theorem zeroSmp (w : World) : (zeroValue 37).run Try.prog w = .ok (.agg #[.int .i64 0, .int .i64 0]) w := Try.zeroValue37 w

theorem below_setRow {n : Nat} {w w' : World} {g : Nat} (h : Below n w w') (hg : n ≤ g) (cs : Array Value) : Below n w (w'.setRow g cs) :=
  h.trans ⟨rfl, rfl, rfl, by rw [setRow_size]; exact Nat.le_refl _, fun k hk => setRow_other _ _ _ _ (by omega)⟩

theorem clear_run {w : World} {base g n cap i : Nat} {m : List Smp} (h : Row w base g n cap m) (hi : i < n) (ty : TypeId) (c : Nat) :
    ∃ w', (Builtin.clear_ #[22] ty #[.slice (some ⟨g, i * 2, none⟩) (n - i) c]).run Try.prog w = .ok (.tuple #[]) w' ∧
      Row w' base g n cap (m.take i ++ List.replicate (n - i) (0, 0)) ∧ ∀ w0 b, b ≤ g → Below b w0 w → Below b w0 w' := by
  obtain ⟨h0, h1, h2, h3, cur, h4, h5, h6⟩ := h
  have hst := run_storeCells_at Try.prog g (i * 2) 37 ((List.replicate (n - i) ((0, 0) : Smp)).flatMap encS) 0 cur w h4
    (by rw [flat_len (enc := encS) (k := 2) (fun _ => rfl), List.length_replicate, h5]; omega)
    (fun v hv => by
      obtain ⟨x, _, hx⟩ := List.mem_flatMap.1 hv
      simp only [encS, List.mem_cons, List.not_mem_nil, or_false] at hx
      rcases hx with rfl | rfl <;> rfl)
  obtain ⟨k, hk⟩ : ∃ k, n - i = k + 1 := ⟨n - i - 1, by omega⟩
  simp only [Nat.add_zero] at hst
  generalize hcs : (cur.toList.take (i * 2) ++ (List.replicate (n - i) ((0, 0) : Smp)).flatMap encS ++ cur.toList.drop (i * 2 + ((List.replicate (n - i) ((0, 0) : Smp)).flatMap encS).length)).toArray = cs at hst
  refine ⟨w.setRow g cs, ?_, ?_, fun w0 b hb hB => below_setRow hB hb _⟩
  · rw [hk] at hst ⊢
    simp only [Builtin.clear_]
    simp [run_underlying Try.underlying22, zeroSmp, Value.cells, zero_cells, hst]
  · refine ⟨h0, by rw [List.length_append, List.length_take, List.length_replicate]; omega, h2, h3, _, setRow_heap _ _ _ _ _ _ h4, ?_, ?_⟩
    · rw [← hcs]
      simp only [List.size_toArray, List.length_append, List.length_take, List.length_drop, Array.length_toList, flat_len (enc := encS) (k := 2) (fun _ => rfl), List.length_replicate]
      rw [h5]; omega
    · rw [← hcs]
      have e1 : cur.toList.take (i * 2) = (m.take i).flatMap encS := by
        have : cur.toList.take (i * 2) = (m.flatMap encS).take (i * 2) := by rw [← h6, List.take_take]; congr 1; omega
        rw [this]
        conv => lhs; rw [← List.take_append_drop i m, List.flatMap_append]
        rw [List.take_left']
        rw [flat_len (enc := encS) (k := 2) (fun _ => rfl), List.length_take]; omega
      rw [e1, ← List.flatMap_append, List.take_left']
      rw [flat_len (enc := encS) (k := 2) (fun _ => rfl), List.length_append, List.length_take, List.length_replicate]; omega

theorem from_run {g n cap i : Nat} (hi : i < n) (hn : n ≤ cap) (w' : World) :
    (Instr.sliceAt 22 (.slice (some ⟨g, 0, none⟩) n cap) (some (.int .i64 i)) none none).run Try.prog w' = .ok (.slice (some ⟨g, i * 2, none⟩) (n - i) (cap - i)) w' := by
  rw [run_sliceAt_slice _ _ _ _ _ _ rfl, run_slice_l _ _ _ _ _ rfl _ _ (by omega) (by omega)]
  have : ¬ cap = i := by omega
  show Result.ok (Value.slice (if cap = i then some ⟨g, 0, none⟩ else (some (⟨g, 0, none⟩ : Addr)).map (·.add (i * 2))) (n - i) (cap - i)) w' = _
  rw [if_neg this]
  simp [Addr.add_lit]
theorem to_run {g n cap i : Nat} (hi : i < n) (hn : n ≤ cap) (w' : World) :
    (Instr.sliceAt 22 (.slice (some ⟨g, 0, none⟩) n cap) none (some (.int .i64 i)) none).run Try.prog w' = .ok (.slice (some ⟨g, 0, none⟩) i cap) w' := by
  rw [run_sliceAt_slice _ _ _ _ _ _ rfl, run_slice_h _ _ _ _ _ rfl _ _ (by omega) (by omega)]
  have : ¬ cap = 0 := by omega
  show Result.ok (Value.slice (if cap = 0 then some ⟨g, 0, none⟩ else (some (⟨g, 0, none⟩ : Addr)).map (·.add (0 * 2))) (i - 0) (cap - 0)) w' = _
  rw [if_neg this]
  simp [Addr.add_lit]

theorem filter_all {p : Smp → Bool} {l : List Smp} (h : (l.takeWhile p).length = l.length) : l.filter p = l := by
  have := take_run (p := p) l
  rw [h, List.take_of_length_le (Nat.le_refl _)] at this
  rw [List.filter_eq_self]
  intro y hy
  rw [this] at hy
  exact (List.all_eq_true.1 (List.all_takeWhile (p := p) (l := l))) _ hy
theorem filter_head (f t : Int) {l : List Smp} (h : badAt f t l < l.length) : (l.take (badAt f t l + 1)).filter (inB f t) = l.take (badAt f t l) := by
  rw [filt_snoc h, bad_out h, if_neg (by simp), List.append_nil, List.filter_eq_self]
  intro y hy
  have e := take_run (p := fun x => inB f t x) l
  rw [show (l.takeWhile fun x => inB f t x).length = badAt f t l from rfl] at e
  rw [e] at hy
  exact (List.all_eq_true.1 (List.all_takeWhile (p := fun x => inB f t x) (l := l))) _ hy
theorem drop_get {m l : List Smp} {j : Nat} (h : m.drop j = l.drop j) (hl : m.length = l.length) : m.getD j (0, 0) = l.getD j (0, 0) := by
  have h2 : (m.drop j).getD 0 (0, 0) = (l.drop j).getD 0 (0, 0) := by rw [h]
  simpa [List.getD, List.getElem?_drop] using h2

theorem take_set_eq {m : List Smp} {i : Nat} {x : Smp} (hi : i < m.length) : (m.set i x).take (i + 1) = m.take i ++ [x] := by
  rw [getD_take_snoc (by simpa using hi)]
  congr 1
  · rw [List.take_set_of_le (Nat.le_refl _)]
  · simp [List.getD, hi]
theorem drop_set_eq {m : List Smp} {i k : Nat} {x : Smp} (hi : i < k) : (m.set i x).drop k = m.drop k := List.drop_set_of_lt hi
theorem drop_succ {m l : List Smp} {j : Nat} (h : m.drop j = l.drop j) : m.drop (j + 1) = l.drop (j + 1) := by
  rw [← List.drop_drop, ← List.drop_drop, h]
set_option maxRecDepth 100000 in
set_option maxHeartbeats 2000000 in
theorem deleteFunc_any (g n cap base : Nat) (ls : List Smp) (f t : Int) (C B : Nat) (w : World) (hr : Row w base g n cap ls) (he : Env w C B f t) (hC : C < base) (hB : B < base) (hbase : base ≤ w.heap.size) :
    Calls Try.prog 23 #[.slice (some ⟨g, 0, none⟩) n cap, del C] w fun e w' => ∃ u, e = .returned u ∧ Samples w' u (ls.filter (inB f t)) ∧ Below base w w' := by
  have HR := Lib.hid hr
  have HE := Lib.hid he
  have HBase := Lib.hid hbase
  obtain ⟨-, hln, hnc, hcm, -⟩ := hr
  simp only [maxLen] at hcm
  clear he hbase
  have HS := Lib.hid (show Samples w (.slice (some ⟨g, 0, none⟩) n cap) ls by have := HR.out.samples n (Nat.le_refl _); rwa [List.take_of_length_le (by omega)] at this)
  have HI := Lib.hid (fun w v (h : Samples w v ls) (h2 : Env w C B f t) => indexFunc_any v ls f t C B w h h2)
  have hbl := bad_le f t ls
  rw [del]
  rw [del] at HI
  by_cases hall : badAt f t ls = ls.length
  · have HF := Lib.hid (filter_all (p := inB f t) hall)
    have hidx : idxL f t ls = -1 := by unfold idxL; rw [if_pos hall]
    rw [hidx] at HI
    clear hidx hall
    go_enter Try.func23, Try.ntmps23
    go_wp2_with fail
    refine (HI.out _ _ HS.out HE.out).mono ?_
    rintro e w1 ⟨rfl, hd⟩
    go_wp2_with fail
    go_ret
    exact ⟨_, rfl, by rw [HF.out]; exact HS.out.below hd, hd.mono HBase.out⟩
  · have hk0 : badAt f t ls < ls.length := by omega
    have HK := Lib.hid (filter_head f t hk0)
    have hidx : idxL f t ls = ((badAt f t ls : Nat) : Int) := by unfold idxL; rw [if_neg hall]
    rw [hidx] at HI
    clear hidx hall hbl
    generalize badAt f t ls = k0 at *
    go_enter Try.func23, Try.ntmps23
    go_wp2_with fail
    refine (HI.out _ _ HS.out HE.out).mono ?_
    rintro e w1 ⟨rfl, hd⟩
    have HB1 := Lib.hid (hd.mono HBase.out)
    have HR1 := Lib.hid (HR.out.below hd)
    clear hd HI HS
    have hk1 : ((k0 : Int) == -1) = false := by simp <;> omega
    go_wp2_with fail
    go_loopw [6, 5, 7] (fun q p r wr => ∃ (i j : Nat) (m : List Smp), i < j ∧ j ≤ n ∧ q = .int .i64 j ∧ p = .int .i64 i ∧ Row wr base g n cap m ∧ m.take i = (ls.take j).filter (inB f t) ∧ m.drop j = ls.drop j ∧ Below base w wr)
      (fun q p r wr => n - (intOf q).toNat)
    case atStart => exact ⟨k0, k0 + 1, ls, by omega, by omega, rfl, rfl, HR1.out, HK.out.symm, rfl, HB1.out⟩
    case round =>
      obtain ⟨i, j, m, hij, hjn, rfl, rfl, hr0, ht0, hd0, hb0⟩ := hrel
      have HR2 := Lib.hid hr0
      have HT := Lib.hid ht0
      have HD := Lib.hid hd0
      have HB2 := Lib.hid hb0
      have hml : m.length = n := hr0.2.1
      clear hr0 ht0 hd0 hb0 HR1 HB1 HK hk1 hk0
      by_cases hlt : j < n
      · have HX := Lib.hid (drop_get HD.out (by omega))
        have HFs := Lib.hid (filt_snoc (p := inB f t) (l := ls) (k := j) (by omega))
        obtain ⟨b, off, hbb, hb, hc1, hc2⟩ := (HR2.out.samples n (Nat.le_refl _)).at_ (i := j) (by rw [List.length_take, hml]; omega)
        obtain ⟨rfl, rfl⟩ : g = b ∧ 0 = off := by simpa using hbb
        have hgt : (m.take n).getD j (0, 0) = m.getD j (0, 0) := by simp [List.getD, List.getElem?_take, hlt]
        rw [hgt] at hc1 hc2
        rw [← HX.out] at HFs
        clear hgt hbb HX
        simp only [Nat.zero_add] at hc1 hc2
        generalize m.getD j (0, 0) = x at *
        obtain ⟨x1, x2⟩ := x
        have HE2 := Lib.hid (HE.out.below' (HB2.out.mono (Nat.le_refl _)) (by omega) (by omega))
        have HC := Lib.hid (fun w (h : Env w C B f t) => in1_any x1 x2 f t C B w h)
        have hnew : ∀ w', Below (wr.alloc (.cells #[.int .i64 x1, .int .i64 x2] 37)).heap.size (wr.alloc (.cells #[.int .i64 x1, .int .i64 x2] 37)) w' → w'.cell? ⟨wr.heap.size, 0, none⟩ = some (.int .i64 x1) ∧ w'.cell? ⟨wr.heap.size, 1, none⟩ = some (.int .i64 x2) := fun w' hb' =>
          ⟨(hb'.cell (p := ⟨wr.heap.size, 0, none⟩) (by simp)).trans (by rw [World.cell?_alloc_at _ _ _ _ rfl]; rfl), (hb'.cell (p := ⟨wr.heap.size, 1, none⟩) (by simp)).trans (by rw [World.cell?_alloc_at _ _ _ _ rfl]; rfl)⟩
        have HN := Lib.hid hnew
        have HBS := Lib.hid (show base ≤ wr.heap.size from Nat.le_trans HBase.out HB2.out.size)
        clear hnew
        cases hbo : inB f t (x1, x2) with
        | false =>
          rw [hbo] at HC HFs
          go_wp2_with (go_at_call 25; refine (HC.out _ (HE2.out.below ((Below.refl _ _).alloc (Nat.le_refl _) _))).mono ?_; rintro e w5 ⟨rfl, hd⟩)
          exact ⟨⟨i, j + 1, m, by omega, by omega, by go_num, rfl, HR2.out.below (below_al hd), by rw [HT.out, HFs.out]; simp, drop_succ HD.out, HB2.out.trans ((below_al hd).mono HBS.out)⟩, by simp [intOf]; omega⟩
        | true =>
          rw [hbo] at HC HFs
          have HRB := Lib.hid (fun w' hb' => (HR2.out.below (w' := w') hb').cells (i := i) (by omega))
          go_wp2_with (go_at_call 25; refine (HC.out _ (HE2.out.below ((Below.refl _ _).alloc (Nat.le_refl _) _))).mono ?_; rintro e w5 ⟨rfl, hd⟩; obtain ⟨n1, n2⟩ := HN.out _ hd; obtain ⟨⟨c1, c2, e1, e2⟩, f1, f2⟩ := HRB.out _ (below_al hd))
          exact ⟨⟨i + 1, j + 1, m.set i (x1, x2), by omega, by omega, by go_num, by go_num, (HR2.out.below (below_al hd)).set (x1, x2) (by omega), by rw [take_set_eq (by omega), HT.out, HFs.out, if_pos trivial], by rw [drop_set_eq (by omega)]; exact drop_succ HD.out,
            ((HB2.out.trans ((below_al hd).mono HBS.out)).setCell (p := ⟨g, _, none⟩) HR2.out.1 _).setCell (p := ⟨g, _, none⟩) HR2.out.1 _⟩, by simp [intOf]; omega⟩
      · have hje : j = n := by omega
        rw [hje] at HT
        obtain ⟨w6, hcl, hr6, hb6⟩ := clear_run HR2.out (i := i) (by omega) 0 (cap - i)
        have HR6 := Lib.hid hr6
        have HB6 := Lib.hid (hb6 _ _ HR2.out.1 HB2.out)
        clear hr6 hb6
        have hfr := fun w' => from_run (g := g) (n := n) (cap := cap) (i := i) (by omega) (by omega) w'
        have hto := fun w' => to_run (g := g) (n := n) (cap := cap) (i := i) (by omega) (by omega) w'
        go_wp2_with fail
        go_ret
        exact ⟨_, rfl, by have := HR6.out.samples i (by omega); rwa [List.take_left' (by rw [List.length_take, hml]; omega), HT.out, List.take_of_length_le (by omega)] at this, HB6.out⟩

end Go.Proofs.Ytilkcojfencggaa
