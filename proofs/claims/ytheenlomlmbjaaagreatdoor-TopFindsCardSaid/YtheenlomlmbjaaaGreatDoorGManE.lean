/-
  manifest.Encode of a state of this law: how long it is.
-/
import Derived.Test.YtheenlomlmbjaaaGreatDoorGRight
import Derived.Test.YtheenlomlmbjaaaGreatDoorGApply2
set_option linter.unusedSimpArgs false
set_option linter.unusedVariables false
namespace Go.Proofs.YtheenlomlmbjaaaGreatDoor
open Go.RowKit Go.Maps

def IntB (w : World) (g : Nat) (L : List Int) : Prop := w.heap[g]? = some (.cells (L.map fun x => Value.int .i64 x).toArray 3 (0, 0))
theorem IntB.cell {w : World} {g k : Nat} {L : List Int} (h : IntB w g L) (hk : k < L.length) : w.cell? ⟨g, k, none⟩ = some (.int .i64 (L.getD k 0)) := by
  rw [cell_of_row w _ _ _ _ _ h]
  simp [List.getD_eq_getElem?_getD, List.getElem?_eq_getElem hk]
theorem IntB.wr {w w' : World} {g b : Nat} {L : List Int} {v v' : Value} {l : Bytes} (h : IntB w g L) (hb : Bw TB [] b v l w) (hw : Wr b v v' w w') : IntB w' g L := by
  have hgb : g ≠ b := fun e => by
    obtain ⟨p, _, h1, _⟩ := hb
    subst e
    rw [h] at h1
    have h2 := (Obj.cells.inj (Option.some.inj h1)).2.1
    exact absurd h2 (by decide)
  exact (hw.block g (lt_of_heap h) hgb (hb.ne h (by decide))).trans h
def PutA (b : Nat) (l : Bytes) (m : Nat) (w : World) (e : Ending) (w' : World) : Prop := e = .returned (.tuple #[]) ∧ ∃ v' l', Bw TB [] b v' l' w' ∧ l'.length ≤ l.length + 3 * m ∧ l.length + m ≤ l'.length ∧ Below b w w'
set_option maxRecDepth 100000 in
set_option maxHeartbeats 2000000 in
theorem put1_any (b g : Nat) (v : Value) (l : Bytes) (L : List Int) (m : Nat) (w : World) (hb : Bw TB [] b v l w) (hg : IntB w g L) (hL : ∀ x ∈ L, 0 ≤ x ∧ x < 1000000) (hm : L.length = m) (hm4 : m ≤ 4) (hl : l.length ≤ 1000) :
    Calls Tryz.prog 271 #[.slice (some ⟨g, 0, none⟩) m m, .pointer (some ⟨b, 0, none⟩)] w (PutA b l m w) := by
  have HB0 := Lib.hid hb
  have HG := Lib.hid hg
  have HL := Lib.hid hL
  have HM := Lib.hid hm
  clear hb hg hL hm
  go_enter Tryz.func271, Tryz.ntmps271
  go_wp2_with fail
  go_loopw [7] (fun x wr => ∃ (k : Nat) (u : Value) (t : Bytes), x = .int .i64 k ∧ k ≤ m ∧ Bw TB [] b u t wr ∧ t.length ≤ l.length + 3 * k ∧ l.length + k ≤ t.length ∧ Below b w wr ∧ IntB wr g L) (fun x _ => m - (intOf x).toNat)
  case atStart => exact ⟨0, _, l, rfl, Nat.zero_le _, HB0.out, by omega, by omega, Below.refl _ _, HG.out⟩
  case round =>
    clear HG
    obtain ⟨k, u, t, rfl, hk, hb, ht, htp, hbl, hg⟩ := hrel
    have HB := Lib.hid hb
    have HBl := Lib.hid hbl
    have HG := Lib.hid hg
    by_cases hlt : k < m
    · have hkl : k < L.length := by rw [HM.out]; exact hlt
      have c0 := hg.cell hkl
      have hgl := lt_of_heap hg
      obtain ⟨x0, x1⟩ := HL.out _ (getD_mem' 0 hkl)
      generalize L.getD k 0 = x at *
      obtain ⟨y, rfl⟩ : ∃ y : Nat, x = y := ⟨x.toNat, by omega⟩
      have hy : y < 18446744073709551616 := by omega
      have hul := uintL_len 3 y (by omega) (by omega)
      have hup := uintL_pos y
      have HU := Lib.hid (fun w => uint_any y w hy)
      have hki : (k : Int) < (m : Int) := by omega
      clear hb hbl hkl hg
      generalize uintL y = U at *
      go_wp2_with fail
      refine (HU.out _).mono ?_
      rintro e w2 ⟨rfl, hb2⟩
      have HB2 := Lib.hid (HB.out.below hb2)
      have HBl2 := Lib.hid (HBl.out.trans (hb2.mono (Nat.le_of_lt HB.out.lt)))
      have HG2 := Lib.hid (show IntB w2 g L from (hb2.block g (lt_of_heap HG.out)).trans HG.out)
      clear hb2 c0 hgl
      go_wp2_with fail
      refine (writeString_any U HB2.out tokB (by omega)).mono ?_
      rintro e w3 ⟨rfl, v3, hb3, hw3⟩
      have HB3 := Lib.hid hb3
      have HG3 := Lib.hid (HG2.out.wr HB2.out hw3)
      have HBl3 := Lib.hid (HBl2.out.trans (HB2.out.wrBelow hw3 (Nat.le_refl _)))
      clear hb3 hw3
      go_wp2_with fail
      go_roundw
      case rel => exact ⟨k + 1, _, _, by go_num, by omega, HB3.out, by rw [List.length_append]; omega, by rw [List.length_append]; omega, HBl3.out, HG3.out⟩
      case measure => simp [intOf]; omega
    · have hke : m = k := by omega
      subst hke
      clear hb hbl hg
      go_wp2_with fail
      go_end0
      exact ⟨rfl, u, t, HB.out, ht, htp, HBl.out⟩

structure MEnc (M b : Nat) (row : Array Value) (lo hi : Nat) (w wr : World) : Prop where
  bw : ∃ v l, Bw TB [] b v l wr ∧ lo ≤ l.length ∧ l.length ≤ hi
  m : wr.heap[M]? = some (.cells row 91 (0, 0))
  be : Below w.heap.size w wr
  lt : M < b ∧ w.heap.size ≤ b
theorem MEnc.below {M b lo hi : Nat} {row : Array Value} {w wr w' : World} (h : MEnc M b row lo hi w wr) (hb : Below wr.heap.size wr w') : MEnc M b row lo hi w w' := by
  obtain ⟨⟨v, l, h1, h2⟩, h3, h4, h5⟩ := h
  exact ⟨⟨v, l, h1.below hb, h2⟩, (hb.block M (lt_of_heap h3)).trans h3, h4.trans (hb.mono h4.size), h5⟩
theorem MEnc.weak {M b lo hi lo' hi' : Nat} {row : Array Value} {w wr : World} (h : MEnc M b row lo hi w wr) (h1 : lo' ≤ lo) (h2 : hi ≤ hi') : MEnc M b row lo' hi' w wr := by
  obtain ⟨⟨v, l, k1, k2, k3⟩, k4, k5, k6⟩ := h
  exact ⟨⟨v, l, k1, by omega, by omega⟩, k4, k5, k6⟩
theorem MEnc.cells {M b lo hi n : Nat} {a : Value} {w wr : World} (h : MEnc M b #[a, .int .i64 (n : Int), .int .i64 0, .bool false, .int .i64 0, .int .i64 0, .int .i64 0] lo hi w wr) : wr.cell? ⟨M, 0, none⟩ = some a ∧ wr.cell? ⟨M, 1, none⟩ = some (.int .i64 (n : Int)) ∧ wr.cell? ⟨M, 2, none⟩ = some (.int .i64 0) ∧ wr.cell? ⟨M, 3, none⟩ = some (.bool false) := by
  refine ⟨?_, ?_, ?_, ?_⟩ <;> (rw [cell_of_row wr _ _ _ _ _ h.m]; rfl)
theorem MEnc.put {M b lo hi : Nat} {row : Array Value} {w wr : World} (h : MEnc M b row lo hi w wr) (L : List Int) (m g : Nat) (hgE : g = wr.heap.size) (hm : L.length = m) (hm4 : m ≤ 4) (hh : hi ≤ 900) (hL : ∀ x ∈ L, 0 ≤ x ∧ x < 1000000) :
    Calls Tryz.prog 271 #[.slice (some ⟨g, 0, none⟩) m m, .pointer (some ⟨b, 0, none⟩)] (wr.alloc (.cells (L.map fun x => Value.int .i64 x).toArray 3)) fun e w' => e = .returned (.tuple #[]) ∧ MEnc M b row (lo + m) (hi + 3 * m) w w' := by
  subst hgE
  have h' := h.below ((Below.refl wr.heap.size wr).alloc (Nat.le_refl _) (.cells (L.map fun x => Value.int .i64 x).toArray 3))
  obtain ⟨⟨v, l, h1, h2, h2'⟩, h3, h4, h5⟩ := h'
  refine (put1_any b wr.heap.size v l L m _ h1 (heap_alloc_new ..) hL hm hm4 (by omega)).mono ?_
  rintro e w' ⟨rfl, v', l', k1, k2, k3, k4⟩
  exact ⟨rfl, ⟨v', l', k1, by omega, by omega⟩, (k4.block M h5.1).trans h3, h4.trans (k4.mono h5.2), h5⟩
set_option maxRecDepth 100000 in
set_option maxHeartbeats 4000000 in
attribute [local go_sem ↓] Go.wp_at_zero Go.wp_at_succ in
theorem manEnc_any (u : Value) (ds : List Int) (n : Nat) (w : World) (hu : RowG 3 encPt w u (ptL ds)) (hds : ds.Pairwise (· < ·)) (hd0 : ∀ d ∈ ds, 0 ≤ d ∧ d < 100000) (hn : n = ds.length) (h12 : n ≤ 12) :
    Calls Tryz.prog 202 #[manV u n 0] w fun e w' => ∃ t, e = .returned (.tuple #[.string (bs t), .int .i64 0]) ∧ t.length ≤ 500 ∧ Below w.heap.size w w' := by
  have HU := Lib.hid hu
  have HD0 := Lib.hid hd0
  have HN := Lib.hid hn
  have HRt := Lib.hid (fun W (hb : Below w.heap.size w W) => right_any' u ds n W (hu.below hb) hds hd0 hn h12)
  obtain ⟨a, ca, rfl, a1, a2, -⟩ := hu
  rw [ptL_len, ← hn] at a1 HU HRt ⊢
  have HX := Lib.hid (heap_alloc_new w (.cells (manC (.slice a n ca) n 0) 91))
  have HB := Lib.hid (show Below w.heap.size w (w.alloc (.cells (manC (.slice a n ca) n 0) 91)) from (Below.refl _ _).alloc (Nat.le_refl _) _)
  unfold manC at HX HB
  unfold manV at HRt
  clear hds hd0 hn
  unfold manV
  go_enter Tryz.func202, Tryz.ntmps202
  have m0 := HX.out
  go_wp2_with fail
  refine (HRt.out _ HB.out).mono ?_
  rintro e w1 ⟨rfl, hb1⟩
  have HB1 := Lib.hid (HB.out.trans (hb1.mono HB.out.size))
  have hx1 := (hb1.block _ (lt_of_heap HX.out)).trans HX.out
  have HE1 := Lib.hid (show MEnc w.heap.size w1.heap.size #[.slice a n ca, .int .i64 (n : Int), .int .i64 0, .bool false, .int .i64 0, .int .i64 0, .int .i64 0] 0 0 w (w1.alloc (.cells #[.pointer none, .slice none 0 0] TB)) from
    ⟨⟨_, [], ⟨.pointer none, .inl rfl, heap_alloc_new .., World.ownsRow_nil _ _ _ _⟩, Nat.le_refl _, Nat.le_refl _⟩, heap_old hx1, HB1.out.alloc HB1.out.size _, lt_of_heap hx1, HB1.out.size⟩)
  clear hb1 hx1 m0 HX HB HRt
  go_upto_region 4 with (fail)
  generalize w1.alloc (.cells #[.pointer none, .slice none 0 0] TB) = W at *
  generalize w1.heap.size = b at *
  obtain ⟨m0, m1, m2, m3⟩ := HE1.out.cells
  go_wp2_with fail
  refine (HE1.out.put [(n : Int)] 1 W.heap.size rfl rfl (by omega) (by omega) (by simp; omega)).mono ?_
  rintro e w2 ⟨rfl, he2⟩
  have HE2 := Lib.hid he2
  clear he2 HE1 m0 m1 m2 m3
  obtain ⟨m0, m1, m2, m3⟩ := HE2.out.cells
  go_wp2_with fail
  clear m0 m1 m2 m3
  go_loopw [21] (fun iv wr => ∃ k : Nat, iv = .int .i64 k ∧ k ≤ n ∧ MEnc w.heap.size b #[.slice a n ca, .int .i64 (n : Int), .int .i64 0, .bool false, .int .i64 0, .int .i64 0, .int .i64 0] 1 (3 + 9 * k) w wr) (fun iv _ => n - (intOf iv).toNat)
  case atStart => exact ⟨0, rfl, Nat.zero_le _, HE2.out⟩
  case round =>
    clear HE2
    obtain ⟨k, rfl, hk, hE⟩ := hrel
    have HE := Lib.hid hE
    clear hE
    by_cases hlt : k < n
    · have hki : (k : Int) < (n : Int) := by omega
      have hk12 : k < 12 := by omega
      have hkd : k < ds.length := by rw [← HN.out]; exact hlt
      obtain ⟨pb, off, rfl, hbl, hc⟩ := (HU.out.below HE.out.be).at_ (fun _ => rfl) (0, 0, []) (i := k) (by rw [ptL_len]; exact hkd)
      have c0 := hc 0 (by omega)
      have c1 := hc 1 (by omega)
      have c2 := hc 2 (by omega)
      rw [ptL_get hkd] at c0 c1 c2
      simp only [encPt, Nat.add_zero, List.getElem?_cons_zero, List.getElem?_cons_succ] at c0 c1 c2
      obtain ⟨hd0, hd1⟩ := HD0.out _ (getD_mem' 0 hkd)
      generalize ds.getD k 0 = d at *
      have HAl := Lib.hid (show Below wr.heap.size wr (wr.alloc (.cells #[.int .i64 d, .int .i64 0, .string (bs (fileN k))] 139)) from (Below.refl _ _).alloc (Nat.le_refl _) _)
      have HX := Lib.hid (heap_alloc_new wr (.cells #[.int .i64 d, .int .i64 0, .string (bs (fileN k))] 139))
      have HNu := Lib.hid (fun W => number_any' k W hk12)
      have HEa := Lib.hid (HE.out.below HAl.out)
      generalize fileN k = fk at *
      clear hc
      go_upto_region 9 with (fail)
      generalize wr.alloc (.cells #[.int .i64 d, .int .i64 0, .string (bs fk)] 139) = W2 at *
      have HQ := Lib.hid (fun (W' : World) (hb : Below W2.heap.size W2 W') => show W'.cell? ⟨wr.heap.size, 0, none⟩ = some (.int .i64 d) ∧ W'.cell? ⟨wr.heap.size, 1, none⟩ = some (.int .i64 0) ∧ W'.cell? ⟨wr.heap.size, 2, none⟩ = some (.string (bs fk)) from by
        have h1 := (hb.block _ (lt_of_heap HX.out)).trans HX.out
        refine ⟨?_, ?_, ?_⟩ <;> (rw [cell_of_row W' _ _ _ _ _ h1]; rfl))
      obtain ⟨q0, q1, q2⟩ := HQ.out W2 (Below.refl _ _)
      have HPt := Lib.hid (fun (W' : World) (hb : Below W2.heap.size W2 W') => (HEa.out.below hb).put [d, 0, (k : Int)] 3 W'.heap.size rfl rfl (by omega) (by omega) (by simp; omega))
      clear c0 c1 c2 hbl
      go_region_law (go_simp; go_wp2_with (first
        | (go_at_call 133; refine (HNu.out _).mono ?_; rintro e w3 ⟨rfl, hb3⟩; have hb3' : Below W2.heap.size W2 w3 := (by first | exact hb3 | exact (Below.refl _ _).drew.trans hb3); obtain ⟨p0, p1, p2⟩ := HQ.out w3 hb3')
        | (go_at_call 271; refine (HPt.out _ hb3').mono ?_; rintro e w4 ⟨rfl, he4⟩)))
      all_goals
        (have HE4 := Lib.hid he4
         clear he4 hb3 hb3' p0 p1 p2 q0 q1 q2
         go_wp2_with fail
         go_roundw
         case rel => exact ⟨k + 1, by go_num, by omega, HE4.out.weak (by omega) (by omega)⟩
         case measure => simp [intOf]; omega)
    · have hke : k = n := by omega
      subst hke
      obtain ⟨m0, m1, m2, m3⟩ := HE.out.cells
      go_wp2_with fail
      refine (HE.out.put [(k : Int), 0] 2 wr.heap.size rfl rfl (by omega) (by omega) (by simp; omega)).mono ?_
      rintro e w4 ⟨rfl, he4⟩
      have HE4 := Lib.hid he4
      clear he4 m0 m1 m2 m3
      obtain ⟨m0, m1, m2, m3⟩ := HE4.out.cells
      go_wp2_with fail
      refine (HE4.out.put [0] 1 w4.heap.size rfl rfl (by omega) (by omega) (by simp)).mono ?_
      rintro e w5 ⟨rfl, he5⟩
      obtain ⟨⟨v5, l5, h1, h2, h3⟩, h4, h5, h6⟩ := he5
      have HBw := Lib.hid h1
      have HB5 := Lib.hid h5
      have HB6 := Lib.hid h6
      have hne : l5 ≠ [] := fun e => by rw [e] at h2; simp at h2
      clear m0 m1 m2 m3 h1 h4 h5 h6
      go_wp2_with fail
      refine (builderString_any HBw.out tokB hne).mono ?_
      rintro e w6 ⟨rfl, hw6, -⟩
      have HB7 := Lib.hid (HB5.out.trans ((HBw.out.wrBelow hw6 (Nat.le_refl _)).mono HB6.out.2))
      clear hw6
      go_wp2_with fail
      go_ret2
      exact ⟨l5, rfl, by omega, HB7.out⟩

end Go.Proofs.YtheenlomlmbjaaaGreatDoor
