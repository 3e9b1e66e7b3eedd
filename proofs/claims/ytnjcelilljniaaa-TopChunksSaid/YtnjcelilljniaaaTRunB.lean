/-
  runs.fence.read: the rows of a block.
-/
import Derived.Test.YtnjcelilljniaaaTRunQ
import Derived.Test.YtnjcelilljniaaaTRunE
import Derived.Test.YtnjcelilljniaaaTPut
namespace Go.Proofs.Ytnjcelilljniaaa
open Go.RowKit

/-- Rows of even times from X on. -/
def rowsX (X k st : Nat) (v : Int) : List Rw := (List.range k).map fun i => (((X + i * st : Nat) : Int), 7, v)
theorem rowsX_len (X k st : Nat) (v : Int) : (rowsX X k st v).length = k := by simp [rowsX]
theorem rowsX_get {X k st i : Nat} {v : Int} (h : i < k) : (rowsX X k st v).getD i (0, 0, 0) = (((X + i * st : Nat) : Int), 7, v) := by
  simp [rowsX, List.getD, List.getElem?_map, List.getElem?_range h]
theorem rowsX_succ (X k st : Nat) (v : Int) : rowsX X (k + 1) st v = rowsX X k st v ++ [(((X + k * st : Nat) : Int), 7, v)] := by simp [rowsX, List.range_succ]
theorem rowsX_in {X k st : Nat} {v : Int} (h : X + k * st < 1099511627776) : InT (rowsX X k st v) := by
  intro x hx
  simp only [rowsX, List.mem_map, List.mem_range] at hx
  obtain ⟨i, hi, rfl⟩ := hx
  have : i * st ≤ k * st := Nat.mul_le_mul_right st (by omega)
  simp only
  omega
theorem blk_rest_ex {m st k : Nat} {v : Int} (h : k < m) : ∃ r, blkL m st v = blkL k st v ++ (uintL (stp st k) ++ (uintL 7 ++ (uintL (foldN v) ++ r))) := by
  obtain ⟨d, rfl⟩ : ∃ d, m = k + 1 + d := ⟨m - k - 1, by omega⟩
  refine ⟨(List.range d).flatMap (fun i => rowB (stp st (k + 1 + i)) v), ?_⟩
  unfold blkL
  rw [List.range_add, List.flatMap_append, List.range_succ, List.flatMap_append, List.flatMap_map]
  simp only [List.flatMap_cons, List.flatMap_nil, List.append_nil, rowB, List.append_assoc]

theorem keep7 {w' w'' : World} {p B g : Nat} {e a b c x y z : Nat} {u0 u1 u2 u3 u4 u5 u6 : Value} (h : w'.cell? ⟨p, e, none⟩ = some u0 ∧ w'.cell? ⟨B, a, none⟩ = some u1 ∧ w'.cell? ⟨B, b, none⟩ = some u2 ∧ w'.cell? ⟨B, c, none⟩ = some u3 ∧ w'.cell? ⟨g, x, none⟩ = some u4 ∧ w'.cell? ⟨g, y, none⟩ = some u5 ∧ w'.cell? ⟨g, z, none⟩ = some u6) (hb : Below w'.heap.size w' w'') :
    w''.cell? ⟨p, e, none⟩ = some u0 ∧ w''.cell? ⟨B, a, none⟩ = some u1 ∧ w''.cell? ⟨B, b, none⟩ = some u2 ∧ w''.cell? ⟨B, c, none⟩ = some u3 ∧ w''.cell? ⟨g, x, none⟩ = some u4 ∧ w''.cell? ⟨g, y, none⟩ = some u5 ∧ w''.cell? ⟨g, z, none⟩ = some u6 := by
  have k : ∀ p v, w'.cell? p = some v → w''.cell? p = some v := fun p v hv => (hb.cell (World.block_lt_of_cell? w' _ hv)).trans hv
  exact ⟨k _ _ h.1, k _ _ h.2.1, k _ _ h.2.2.1, k _ _ h.2.2.2.1, k _ _ h.2.2.2.2.1, k _ _ h.2.2.2.2.2.1, k _ _ h.2.2.2.2.2.2⟩

/-- What a round of read's loop knows. -/
structure RdI (N X T m st k : Nat) (v : Int) (S : Bytes) (rows : Value) (w w' : World) : Prop where
  rd : RdB w' (N + 1) S (blkL k st v).length
  fn : w'.heap[N]? = some (.cells #[.int .i64 X, .int .i64 (T + 1 : Nat), .int .i64 m, .string (bs S)] 119 (0, 0))
  ow : OwnR 27 3 encRw w' (N + 2) rows (rowsX X k st v)
  be : Below N w w'
  sz : N + 2 ≤ w'.heap.size
theorem RdI.start (w : World) (X T m st : Nat) (v : Int) (S : Bytes) : RdI w.heap.size X T m st 0 v S (.slice none 0 0) w ((w.alloc (.cells #[.int .i64 X, .int .i64 (T + 1 : Nat), .int .i64 m, .string (bs S)] 119)).alloc (.cells #[.string (bs S), .int .i64 0, .bool true] 140)) :=
  ⟨by have := heap_alloc_new (w.alloc (.cells #[.int .i64 X, .int .i64 (T + 1 : Nat), .int .i64 m, .string (bs S)] 119)) (.cells #[.string (bs S), .int .i64 0, .bool true] 140)
      rwa [World.size_alloc] at this, (Below.heap_alloc _ _ _ (by simp)).trans (heap_alloc_new _ _), OwnR.nil _ _, ((Below.refl _ _).alloc (Nat.le_refl _) _).alloc (by simp) _, by simp⟩
theorem RdI.next {N X T m st k L2 L3 A : Nat} {v : Int} {S : Bytes} {w w5 w7 : World} {o : Obj} {u : Value} (hr : RdB w5 (N + 1) S L2) (hf : w5.heap[N]? = some (.cells #[.int .i64 X, .int .i64 (T + 1 : Nat), .int .i64 m, .string (bs S)] 119 (0, 0)))
    (hb : Below N w w5) (hs : N + 2 ≤ w5.heap.size) (ho : OwnR 27 3 encRw w7 (N + 2) u (rowsX X k st v ++ [((A : Int), 7, v)])) (h7 : Below (N + 2) ((w5.setCell ⟨N + 1, 1, none⟩ (.int .i64 L3)).alloc o) w7)
    (hl : (blkL (k + 1) st v).length = L3) (hA : X + k * st = A) : RdI N X T m st (k + 1) v S u w w7 := by
  have hsz : ((w5.setCell ⟨N + 1, 1, none⟩ (.int .i64 L3)).alloc o).heap.size = w5.heap.size + 1 := by simp [World.setCell]
  have hsc : (w5.setCell ⟨N + 1, 1, none⟩ (.int .i64 L3)).heap.size = w5.heap.size := by simp [World.setCell]
  refine ⟨?_, ?_, ?_, ?_, ?_⟩
  · rw [hl]
    exact (h7.block (N + 1) (by omega)).trans ((Below.heap_alloc _ _ _ (by omega)).trans (hr.set (j := L3)))
  · exact (h7.block N (by omega)).trans ((Below.heap_alloc _ _ _ (by omega)).trans ((heap_other (by omega)).trans hf))
  · rw [rowsX_succ, hA]; exact ho
  · exact (hb.trans (((Below.refl N w5).setCell (p := ⟨N + 1, 1, none⟩) (by simp) _).alloc (by omega) _)).trans (h7.mono (by omega))
  · have := h7.size; omega
theorem heap_alloc_set (w : World) (p : Addr) (v : Value) (o : Obj) : ((w.setCell p v).alloc o).heap[w.heap.size]? = some o := by
  have := heap_alloc_new (w.setCell p v) o
  rwa [show (w.setCell p v).heap.size = w.heap.size by simp [World.setCell]] at this
theorem drop3 {S A B C r : Bytes} (h : S = A ++ (B ++ (C ++ r))) : S.drop A.length = B ++ (C ++ r) ∧ S.drop (A.length + B.length) = C ++ r ∧ S.drop (A.length + B.length + C.length) = r := by
  subst h
  refine ⟨by simp, ?_, ?_⟩
  · rw [← List.drop_drop]; simp
  · rw [← List.drop_drop, ← List.drop_drop]; simp

set_option maxRecDepth 100000 in
set_option maxHeartbeats 4000000 in
theorem readB_any (X T m st : Nat) (v : Int) (w : World) (hT : T = X + (m - 1) * st) (hm : 1 ≤ m) (hm2 : m ≤ 16) (hst1 : 1 ≤ st) (hst : st ≤ 300) (hX : X ≤ 27000) (hv0 : -9223372036854775808 ≤ v) (hv1 : v ≤ 9223372036854775807) :
    Calls Try.prog 60 #[.agg #[.int .i64 X, .int .i64 (T + 1 : Nat), .int .i64 m, .string (bs (blkL m st v))]] w
      fun e w' => ∃ u, e = .returned (.tuple #[u, .bool true]) ∧ OwnR 27 3 encRw w' w.heap.size u (rowsX X m st v) ∧ Below w.heap.size w w' := by
  have hbl := blkL_len (v := v) hst hv0 hv1 m
  have HI0 := Lib.hid (RdI.start w X T m st v (blkL m st v))
  have HR := Lib.hid (fun k (hk : k < m) => blk_rest_ex (st := st) (v := v) hk)
  have HL0 := Lib.hid (show (blkL 0 st v).length = 0 from rfl)
  have HLm := Lib.hid (show (blkL m st v).length = (blkL m st v).length from rfl)
  have hTm : (m - 1) * st ≤ 16 * 300 := Nat.mul_le_mul (by omega) hst
  have hTb : T ≤ 40000 := by omega
  have HT := Lib.hid hT
  clear hT hTm
  obtain ⟨S, hS⟩ : ∃ S, S = blkL m st v := ⟨_, rfl⟩
  have HS := Lib.hid hS
  rw [← hS] at HI0 HR HLm hbl ⊢
  clear hS
  go_enter Try.func60, Try.ntmps60
  go_wp2_with fail
  obtain ⟨N, hN⟩ : ∃ N, N = w.heap.size := ⟨_, rfl⟩
  rw [← hN] at HI0 ⊢
  have HNw := Lib.hid hN
  clear hN
  go_loopw [21, 5, 6] (fun i rv t wr => ∃ k : Nat, i = .int .i64 k ∧ k ≤ m ∧ t = .int .i64 ((X + (k - 1) * st : Nat) : Int) ∧ RdI N X T m st k v S rv w wr) (fun i rv t wr => m - (intOf i).toNat)
  case atStart => exact ⟨0, rfl, Nat.zero_le _, by simp, HI0.out⟩
  case round =>
    obtain ⟨k, rfl, hk, rfl, hI⟩ := hrel
    have HI := Lib.hid hI
    obtain ⟨ao, rc, hrv, hrc, hrm, -⟩ := hI.ow.src
    rw [rowsX_len] at hrv hrc
    subst hrv
    have HOw := Lib.hid hI.ow
    clear hI HI0
    by_cases hlt : k < m
    · obtain ⟨r, hr⟩ := HR.out k hlt
      obtain ⟨hd1, hd2, hd3⟩ := drop3 hr
      have hqs : k * st ≤ 16 * 300 := Nat.mul_le_mul (by omega) hst
      have hqs1 : (k - 1) * st ≤ k * st := Nat.mul_le_mul_right st (by omega)
      have HD := Lib.hid (show (X + k * st) = (X + (k - 1) * st) + stp st k by
        unfold stp
        by_cases e : k = 0
        · subst e; simp
        · rw [if_neg e]
          have : k * st = (k - 1) * st + st := by
            conv => lhs; rw [show k = (k - 1) + 1 by omega]
            exact Nat.succ_mul _ _
          omega)
      have hA : X + k * st ≤ 40000 := by omega
      have HA' := Lib.hid (show X + k * st = X + (k + 1 - 1) * st by rw [Nat.add_sub_cancel])
      have HLs := Lib.hid (show (blkL (k + 1) st v).length = (blkL k st v).length + (uintL (stp st k)).length + (uintL 7).length + (uintL (foldN v)).length by
        rw [blkL_succ]; unfold rowB; simp only [List.length_append]; omega)
      have hdl := stp_le hst k
      have hLk : (blkL k st v).length ≤ 480 := by have := blkL_len (v := v) hst hv0 hv1 k; omega
      have hu1 := uintL_len10 (n := stp st k) (by omega)
      have hu2 := uintL_len10 (n := 7) (by omega)
      have hu3 := uintL_len10 (foldN_lt hv0 hv1)
      have HPrev := Lib.hid (fun (h0 : k ≠ 0) => show ∃ b, ao = some ⟨b, 0, none⟩ ∧ b ≠ N + 1 ∧ b < wr.heap.size ∧ wr.cell? ⟨b, (k - 1) * 3, none⟩ = some (.int .i64 ((X + (k - 1) * st : Nat) : Int)) ∧ wr.cell? ⟨b, (k - 1) * 3 + 1, none⟩ = some (.int .i64 7) ∧ wr.cell? ⟨b, (k - 1) * 3 + 2, none⟩ = some (.int .i64 v) from by
        obtain ⟨a', c', e1, -, -, e4⟩ := OwnR.open_ (enc := encRw) (k := 3) (fun _ => rfl) (0, 0, 0) HOw.out
        obtain ⟨b, e5, e6, e7, e8⟩ := e4 (by rw [rowsX_len]; omega)
        simp only [Value.slice.injEq] at e1
        refine ⟨b, by rw [e1.1, e5], by omega, e7, ?_, ?_, ?_⟩
        · have := e8 (k - 1) (by rw [rowsX_len]; omega) 0 (by omega); rw [rowsX_get (by omega)] at this; exact this
        · have := e8 (k - 1) (by rw [rowsX_len]; omega) 1 (by omega); rw [rowsX_get (by omega)] at this; exact this
        · have := e8 (k - 1) (by rw [rowsX_len]; omega) 2 (by omega); rw [rowsX_get (by omega)] at this; exact this)
      have HDp := Lib.hid (fun (h0 : k ≠ 0) => show X + (k - 1) * st < X + k * st by
        have : (k - 1) * st < k * st := Nat.mul_lt_mul_of_pos_right (by omega) (by omega)
        omega)
      have HAr := Lib.hid (show X + k * st = X + k * st from rfl)
      have HN1 := Lib.hid (number_any S _ (N + 1) _ (stp st k) 1099511627776 wr HI.out.rd hd1 (by omega) (by omega) (by omega) (by omega))
      have HN2 := Lib.hid (fun w' (h : RdB w' (N + 1) S ((blkL k st v).length + (uintL (stp st k)).length)) => number_any S _ (N + 1) _ 7 200 w' h hd2 (by omega) (by omega) (by omega) (by omega))
      have HN3 := Lib.hid (fun w' : World => getInt_any S r _ v w' hd3 hv0 hv1 (by omega))
      generalize X + (k - 1) * st = C at *
      generalize hAe : X + k * st = A at *
      have HAe := Lib.hid hAe
      clear hAe
      generalize stp st k = d at *
      have HP0 := Lib.hid HI.out.rd
      have HLk := Lib.hid (show (blkL k st v).length = (blkL k st v).length from rfl)
      generalize hL1 : (blkL k st v).length + (uintL d).length = L1 at *
      generalize hL2 : L1 + (uintL 7).length = L2 at *
      generalize hL3 : L2 + (uintL (foldN v)).length = L3 at *
      have hL3b : L3 ≤ 1000 := by omega
      clear hL1 hL2 hL3 hu1 hu2 hu3
      have hs1 : (C : Int) + (d : Int) = (A : Int) := by have := HD.out; omega
      clear hr hd1 hd2 hd3 hqs hqs1
      go_wp2_with fail
      refine HN1.out.mono ?_
      rintro e w1 ⟨rfl, rd1, g1⟩
      have HR1 := Lib.hid rd1
      have HG1 := Lib.hid g1
      clear rd1 g1
      go_wp2_with fail
      refine (HN2.out _ HR1.out).mono ?_
      rintro e w2 ⟨rfl, rd2, g2⟩
      obtain ⟨c0, c1, c2, f1⟩ := rd2.cells
      have HR2 := Lib.hid rd2
      have HG2 := Lib.hid (gb_trans HG1.out g2)
      clear rd2 g2
      go_wp2_with fail
      go_quiet ((go_at_call 70; exact Calls.quiet_of_same ((HN3.out _).mono (fun _ _ h => ⟨h.1, h.2.symm⟩))))
      obtain ⟨w3, hw3⟩ : ∃ w3, w3 = w2.drewN nq := ⟨_, rfl⟩
      rw [← hw3]
      have HR3 := Lib.hid (show RdB w3 (N + 1) S _ by rw [hw3]; exact HR2.out)
      have HG3 := Lib.hid (show wr.grownBy w3 (some (N + 1)) by rw [hw3]; exact gb_drewN HG2.out nq)
      clear hw3 HR2 HG2 c0 c1 c2 f1
      have HO3 := Lib.hid (show OwnR 27 3 encRw w3 (N + 2) (.slice ao k rc) (rowsX X k st v) from World.ownsRow.kept HOw.out HG3.out (.inr fun e => by have := (World.ownsRow.lt HOw.out _ e).1; omega))
      have HF3 := Lib.hid ((HG3.out.block N (lt_of_heap HI.out.fn) (fun e => by have := Option.some.inj e; omega)).trans HI.out.fn)
      have HB3 := Lib.hid (HI.out.be.grown HG3.out (by have := HI.out.sz; omega) (fun j hj => by cases hj; omega))
      have hsz3 : N + 2 ≤ w3.heap.size := Nat.le_trans HI.out.sz HG3.out.size
      have HBx := Lib.hid (heap_alloc_new w3 (.cells #[.int .i64 A, .int .i64 7, .int .i64 v] 27))
      have HGr := Lib.hid HG3.out
      clear HOw HI HG3 HN1 HN2 HN3 HR1 HG1
      obtain ⟨c0, c1, c2, f1⟩ := HR3.out.cells
      have hlen := rowsX_len X k st v
      have hlt1 : N + 1 < w3.heap.size := by omega
      by_cases hk0 : k = 0
      · subst hk0
        go_wp2_with fail
        simp only [Int.natCast_zero]
        go_quiet (fail)
        obtain ⟨w5, hw5⟩ : ∃ w5, w5 = (w3.alloc (.cells #[.int .i64 A, .int .i64 7, .int .i64 v] 27)).drewN nq := ⟨_, rfl⟩
        rw [← hw5]
        have HB5 := Lib.hid (show Below (w3.heap.size + 1) (w3.alloc (.cells #[.int .i64 A, .int .i64 7, .int .i64 v] 27)) w5 by rw [hw5]; exact belowN (Below.refl _ _) nq)
        clear hw5
        have hlt5 : w3.heap.size < w5.heap.size := Nat.lt_of_lt_of_le (by simp) HB5.out.size
        have HBy := Lib.hid ((HB5.out.block _ (Nat.lt_succ_self _)).trans HBx.out)
        have hbz : Below w3.heap.size w3 w5 := ((Below.refl w3.heap.size w3).alloc (Nat.le_refl _) _).trans (HB5.out.mono (Nat.le_succ _))
        have HR5 := Lib.hid (show RdB w5 (N + 1) S L2 from (hbz.block (N + 1) hlt1).trans HR3.out)
        have HF5 := Lib.hid ((hbz.block N (by omega)).trans HF3.out)
        have HO5 := Lib.hid (World.ownsRow.kept (HO3.out.below hbz) (gb_setE (gb_refl w5 (some (N + 1))) 1 (.int .i64 L3)) (.inr fun e => by have := (World.ownsRow.lt (HO3.out.below hbz) _ e).1; omega))
        have HBe := Lib.hid (HB3.out.trans (hbz.mono (show N ≤ w3.heap.size by omega)))
        have hNs : N ≤ w5.heap.size := by omega
        have y0 : w5.cell? ⟨w3.heap.size, 0, none⟩ = some (.int .i64 A) := by rw [cell_of_row w5 _ _ _ _ _ HBy.out]; rfl
        have y1 : w5.cell? ⟨w3.heap.size, 1, none⟩ = some (.int .i64 7) := by rw [cell_of_row w5 _ _ _ _ _ HBy.out]; rfl
        have y2 : w5.cell? ⟨w3.heap.size, 2, none⟩ = some (.int .i64 v) := by rw [cell_of_row w5 _ _ _ _ _ HBy.out]; rfl
        obtain ⟨e0, e1, e2, g1⟩ := HR5.out.cells
        have hne : ¬ w3.heap.size = N + 1 := by omega
        have hne' : ¬ N + 1 = w3.heap.size := by omega
        clear hbz c0 c1 c2 f1 HB5 HBx
        rw [rowsX_len] at HO5
        generalize w3.heap.size = M at *
        go_wp2_with (at_builtin; refine app_row _ rfl (.tmp 75) (.tmp 77) rfl (N + 2) _ (rowsX X 0 st v) ((A : Int), 7, v) w5.heap.size rfl (by rfl) (heap_alloc_set ..) ((show OwnR 27 3 encRw _ (N + 2) _ (rowsX X 0 st v) by unfold OwnR; rw [rowsX_len]; exact HO5.out).below (((Below.refl _ _).alloc (Nat.le_refl _) _))) (by simp [World.setCell]; omega) (by rw [rowsX_len]; omega) ?_; intro g' cap' w7 hown' hbl'; rw [hlen] at hown'; have HO7 := Lib.hid hown'; have HB7 := Lib.hid hbl'; clear hown' hbl')
        go_roundw
        case rel => exact ⟨0 + 1, by go_num, by omega, by rw [← HA'.out], RdI.next HR5.out HF5.out HBe.out (by omega) HO7.out HB7.out HLs.out HAe.out⟩
        case measure => simp [intOf]; omega
      · obtain ⟨b, rfl, hb1, hb2, p0, p1, p2⟩ := HPrev.out hk0
        have hlx := HDp.out hk0
        have q0 : w3.cell? ⟨b, (k - 1) * 3, none⟩ = some (.int .i64 C) := by rw [World.cell?_of_block (a := ⟨b, (k - 1) * 3, none⟩) (HGr.out.block b hb2 (fun e => hb1 (Option.some.inj e)))]; exact p0
        have q1 : w3.cell? ⟨b, (k - 1) * 3 + 1, none⟩ = some (.int .i64 7) := by rw [World.cell?_of_block (a := ⟨b, (k - 1) * 3 + 1, none⟩) (HGr.out.block b hb2 (fun e => hb1 (Option.some.inj e)))]; exact p1
        have q2 : w3.cell? ⟨b, (k - 1) * 3 + 2, none⟩ = some (.int .i64 v) := by rw [World.cell?_of_block (a := ⟨b, (k - 1) * 3 + 2, none⟩) (HGr.out.block b hb2 (fun e => hb1 (Option.some.inj e)))]; exact p2
        have hb3 : b < w3.heap.size := World.block_lt_of_cell? w3 _ q0
        obtain ⟨j, hj⟩ : ∃ j, j = k - 1 := ⟨_, rfl⟩
        rw [← hj] at q0 q1 q2
        have hz1 : (0 : Int) ≤ (k : Int) - 1 := by omega
        have hz3 : (1 : Int) ≤ (k : Int) := by omega
        have hz4 : (0 : Int) < (k : Int) := by omega
        have hz2 : (k : Int) - 1 < (k : Int) := by omega
        have hww : IntKind.i64.wrap ((k : Int) - 1) = (k : Int) - 1 := IntWalk.i64_in _ (by omega)
        have htn : ((k : Int) - 1).toNat = j := by omega
        have hdk : decide ((0 : Int) < (k : Int)) = true := by simp; omega
        have hdk2 : decide (0 < k) = true := by simp; omega
        have hjk : j < k := by omega
        have HBh := Lib.hid (fun w => behind_yes A 7 v 7 C v w (by omega))
        clear hj p0 p1 p2 hlx
        go_wp2_with fail
        go_region_held3 (fun w' => w'.cell? ⟨N + 1, 2, none⟩ = some (.bool true) ∧ w'.cell? ⟨w3.heap.size, 0, none⟩ = some (.int .i64 A) ∧ w'.cell? ⟨w3.heap.size, 1, none⟩ = some (.int .i64 7) ∧ w'.cell? ⟨w3.heap.size, 2, none⟩ = some (.int .i64 v) ∧
            w'.cell? ⟨b, j * 3, none⟩ = some (.int .i64 C) ∧ w'.cell? ⟨b, j * 3 + 1, none⟩ = some (.int .i64 7) ∧ w'.cell? ⟨b, j * 3 + 2, none⟩ = some (.int .i64 v))
          (first | exact keep7 (by assumption) hb9 | go_keep)
          (first | (go_at_call 30; refine (HBh.out _).mono ?_; rintro e w5 ⟨rfl, hb9⟩))
        have HB5 := Lib.hid (show Below (w3.heap.size + 1) (w3.alloc (.cells #[.int .i64 A, .int .i64 7, .int .i64 v] 27)) w5 from (drE2 hb9).mono (by simp))
        clear hb9 q0 q1 q2
        have hlt5 : w3.heap.size < w5.heap.size := Nat.lt_of_lt_of_le (by simp) HB5.out.size
        have HBy := Lib.hid ((HB5.out.block _ (Nat.lt_succ_self _)).trans HBx.out)
        have hbz : Below w3.heap.size w3 w5 := ((Below.refl w3.heap.size w3).alloc (Nat.le_refl _) _).trans (HB5.out.mono (Nat.le_succ _))
        have HR5 := Lib.hid (show RdB w5 (N + 1) S L2 from (hbz.block (N + 1) hlt1).trans HR3.out)
        have HF5 := Lib.hid ((hbz.block N (by omega)).trans HF3.out)
        have HO5 := Lib.hid (World.ownsRow.kept (HO3.out.below hbz) (gb_setE (gb_refl w5 (some (N + 1))) 1 (.int .i64 L3)) (.inr fun e => by have := (World.ownsRow.lt (HO3.out.below hbz) _ e).1; omega))
        have HBe := Lib.hid (HB3.out.trans (hbz.mono (show N ≤ w3.heap.size by omega)))
        have hNs : N ≤ w5.heap.size := by omega
        have y0 : w5.cell? ⟨w3.heap.size, 0, none⟩ = some (.int .i64 A) := by rw [cell_of_row w5 _ _ _ _ _ HBy.out]; rfl
        have y1 : w5.cell? ⟨w3.heap.size, 1, none⟩ = some (.int .i64 7) := by rw [cell_of_row w5 _ _ _ _ _ HBy.out]; rfl
        have y2 : w5.cell? ⟨w3.heap.size, 2, none⟩ = some (.int .i64 v) := by rw [cell_of_row w5 _ _ _ _ _ HBy.out]; rfl
        obtain ⟨e0, e1, e2, g1⟩ := HR5.out.cells
        have hne : ¬ w3.heap.size = N + 1 := by omega
        have hne' : ¬ N + 1 = w3.heap.size := by omega
        clear hbz c0 c1 c2 f1 HB5 HBx
        rw [rowsX_len] at HO5
        generalize w3.heap.size = M at *
        go_wp2_with (at_builtin; refine app_row _ rfl (.tmp 75) (.tmp 77) rfl (N + 2) _ (rowsX X k st v) ((A : Int), 7, v) w5.heap.size rfl (by rfl) (heap_alloc_set ..) ((show OwnR 27 3 encRw _ (N + 2) _ (rowsX X k st v) by unfold OwnR; rw [rowsX_len]; exact HO5.out).below (((Below.refl _ _).alloc (Nat.le_refl _) _))) (by simp [World.setCell]; omega) (by rw [rowsX_len]; omega) ?_; intro g' cap' w7 hown' hbl'; rw [hlen] at hown'; have HO7 := Lib.hid hown'; have HB7 := Lib.hid hbl'; clear hown' hbl')
        go_roundw
        case rel => exact ⟨k + 1, by go_num, by omega, by rw [← HA'.out], RdI.next HR5.out HF5.out HBe.out (by omega) HO7.out HB7.out HLs.out HAe.out⟩
        case measure => simp [intOf]; omega
    · have hkm : k = m := by omega
      subst hkm
      obtain ⟨c0, c1, c2, f1⟩ := HI.out.rd.cells
      rw [← HS.out] at c1
      obtain ⟨a', c', e1, -, -, e4⟩ := OwnR.open_ (enc := encRw) (k := 3) (fun _ => rfl) (0, 0, 0) HOw.out
      obtain ⟨b, e5, e6, e7, e8⟩ := e4 (by rw [rowsX_len]; omega)
      simp only [Value.slice.injEq] at e1
      obtain rfl : ao = some ⟨b, 0, none⟩ := by rw [e1.1, e5]
      have p0 : wr.cell? ⟨b, 0, none⟩ = some (.int .i64 X) := by
        have := e8 0 (by rw [rowsX_len]; omega) 0 (by omega)
        rw [rowsX_get (by omega)] at this
        simpa [encRw] using this
      have d0 : wr.cell? ⟨N, 0, none⟩ = some (.int .i64 X) := by rw [cell_of_row wr _ _ _ _ _ HI.out.fn]; rfl
      have d1 : wr.cell? ⟨N, 1, none⟩ = some (.int .i64 (T + 1 : Nat)) := by rw [cell_of_row wr _ _ _ _ _ HI.out.fn]; rfl
      have hTT : X + (k - 1) * st = T := HT.out.symm
      rw [hTT]
      have hs1 : ((T + 1 : Nat) : Int) - 1 = (T : Int) := by omega
      have hs2 : (T : Int) + 1 - 1 = (T : Int) := by omega
      have hww : IntKind.i64.wrap (((T + 1 : Nat) : Int) - 1) = (T : Int) := by rw [hs1]; exact IntWalk.i64_in _ (by omega)
      have hww2 : IntKind.i64.wrap ((T : Int) + 1 - 1) = (T : Int) := by rw [hs2]; exact IntWalk.i64_in _ (by omega)
      clear e1 e4 e5 e6 e7 e8 hTT
      go_wp2_with fail
      go_quiet (fail)
      go_wp2_with fail
      go_ret2
      exact ⟨.slice (some ⟨b, 0, none⟩) k rc, by simp, by rw [← HNw.out]; exact OwnR.base (HOw.out) (by omega), by rw [← HNw.out]; exact belowN HI.out.be _⟩

end Go.Proofs.Ytnjcelilljniaaa
