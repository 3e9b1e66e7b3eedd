/-
  The parser of labels: take, value.
-/
import Derived.Test.YtamdkmcdleilpaaCut
import Derived.Test.YtamdkmcdleilpaaKey
namespace Go.Proofs.Ytamdkmcdleilpaa
open Go.RowKit

/-- The parser in block pb: s is left. -/
def Par (pb : Nat) (s : Bytes) (w : World) : Prop := w.heap[pb]? = some (.cells #[.string (bs s)] 80 (0, 0))
theorem Par.lt {pb : Nat} {s : Bytes} {w : World} (h : Par pb s w) : pb < w.heap.size := lt_of_heap h
theorem Par.cell {pb : Nat} {s : Bytes} {w : World} (h : Par pb s w) : w.cell? ⟨pb, 0, none⟩ = some (.string (bs s)) := by rw [Lib.cell_of_heap h]; rfl
theorem Par.below {pb B : Nat} {s : Bytes} {w w' : World} (h : Par pb s w) (hb : Below B w w') (hB : pb < B) : Par pb s w' := (hb.block pb hB).trans h
theorem Par.set {pb : Nat} {s : Bytes} {w : World} (h : Par pb s w) (t : Bytes) : Par pb t (w.setCell ⟨pb, 0, none⟩ (.string (bs t))) := by
  unfold Par at *
  simp [World.setCell, Array.getElem?_modify, h]
theorem gb_refl (w : World) (pb : Option Nat) : w.grownBy w pb := ⟨rfl, rfl, rfl, Nat.le_refl _, fun _ _ _ => rfl⟩
theorem gb_below {w w1 w2 : World} {pb : Option Nat} {B : Nat} (h : w.grownBy w1 pb) (hb : Below B w1 w2) (hB : w.heap.size ≤ B) : w.grownBy w2 pb :=
  ⟨hb.os.trans h.os, hb.tape.trans h.tape, hb.output.trans h.output, Nat.le_trans h.size hb.size, fun k hk hne => (hb.block k (by omega)).trans (h.block k hk hne)⟩
theorem gb_set {w w1 : World} {pb : Nat} (h : w.grownBy w1 (some pb)) (v : Value) : w.grownBy (w1.setCell ⟨pb, 0, none⟩ v) (some pb) :=
  ⟨h.os, h.tape, h.output, by have := h.size; simpa [World.setCell] using this, fun k hk hne => (Below.heap_setCell _ _ _ _ (fun e => hne (by simp [e]))).trans (h.block k hk hne)⟩
theorem gb_trans {w w1 w2 : World} {pb : Option Nat} (h : w.grownBy w1 pb) (h2 : w1.grownBy w2 pb) : w.grownBy w2 pb :=
  ⟨h2.os.trans h.os, h2.tape.trans h.tape, h2.output.trans h.output, Nat.le_trans h.size h2.size, fun k hk hne => (h2.block k (Nat.lt_of_lt_of_le hk h.size) hne).trans (h.block k hk hne)⟩
theorem hb_setOther {b pb : Nat} {l : Bytes} {w : World} (h : Hb b (fun _ => none) l w) (hlt : pb < b) (v : Value) : Hb b (fun _ => none) l (w.setCell ⟨pb, 0, none⟩ v) := by
  obtain ⟨p, v', hp, hh, hown, hk⟩ := h
  refine ⟨p, v', hp, (Below.heap_setCell _ _ _ _ (fun e => by simp at e; omega)).trans hh, ?_, fun k o h => by cases h⟩
  refine hown.kept (row := some pb) ⟨rfl, rfl, rfl, by simp [World.setCell], fun k _ hk => Below.heap_setCell _ _ _ _ (fun e => hk (by simp [e]))⟩ (Or.inr ?_)
  intro e
  have := (hown.lt pb (by first | exact e | exact e.symm)).1
  omega

set_option maxRecDepth 100000 in
theorem take_any {pb : Nat} {s : Bytes} {w : World} (t : Bytes) (h : Par pb s w) (hs : s.length ≤ 1000000000) (ht : t.length ≤ 1000000000) :
    Calls Try.prog 63 #[.pointer (some ⟨pb, 0, none⟩), .string (bs t)] w fun e w' => e = .returned (.bool (isPre t s)) ∧ Par pb (leftB t s) w' ∧ w.grownBy w' (some pb) := by
  have HC := Lib.hid (cutPre_any s t w (by omega) (by omega))
  have HP := Lib.hid h
  have c0 := h.cell
  have f0 := Lib.frozen_of_heap h 0
  clear h
  cases hb : isPre t s with
  | false =>
    have HL := Lib.hid (show leftB t s = s by unfold leftB; rw [hb]; rfl)
    rw [hb, HL.out] at HC
    rw [HL.out]
    go_enter Try.func63, Try.ntmps63
    go_wp2_with fail
    refine HC.out.mono ?_
    rintro e w' ⟨rfl, rfl⟩
    go_wp2_with fail
    go_ret
    exact ⟨rfl, HP.out, gb_refl _ _⟩
  | true =>
    rw [hb] at HC
    generalize leftB t s = x at *
    go_enter Try.func63, Try.ntmps63
    go_wp2_with fail
    refine HC.out.mono ?_
    rintro e w' ⟨rfl, rfl⟩
    go_wp2_with fail
    go_ret
    exact ⟨rfl, HP.out.set _, gb_set (gb_refl _ _) _⟩

def valF : Bytes → Bool → Bytes → Option (Bytes × Bytes)
  | [], _, _ => none
  | c :: r, true, t => if c = 110 then valF r false (t ++ [10]) else if c = 34 ∨ c = 92 then valF r false (t ++ [c]) else none
  | c :: r, false, t => if c = 92 then valF r true t else if c = 34 then some (t, r) else if c = 10 then none else valF r false (t ++ [c])
def valP (s : Bytes) : Option (Bytes × Bytes) := if isPre [34] s then valF (s.drop 1) false [] else none
def valT : Option (Bytes × Bytes) → Value
  | none => .tuple #[.string (bs []), .bool false]
  | some (v, _) => .tuple #[.string (bs v), .bool true]
def ValPost (pb : Nat) (w : World) (o : Option (Bytes × Bytes)) (e : Ending) (w' : World) : Prop :=
  e = .returned (valT o) ∧ (∀ v r, o = some (v, r) → Par pb r w') ∧ w.grownBy w' (some pb)

set_option maxRecDepth 100000 in
set_option maxHeartbeats 4000000 in
theorem pvalue_any {pb : Nat} {s : Bytes} {w : World} (h : Par pb s w) (hs : s.length ≤ 100000000) :
    Calls Try.prog 65 #[.pointer (some ⟨pb, 0, none⟩)] w (ValPost pb w (valP s)) := by
  have HT := Lib.hid (take_any [34] h (by omega) (by simp))
  have hplt := h.lt
  clear h
  cases hb : isPre [34] s with
  | false =>
    have HV := Lib.hid (show valP s = none by unfold valP; rw [hb]; rfl)
    rw [hb] at HT
    rw [HV.out]
    go_enter Try.func65, Try.ntmps65
    go_wp2_with fail
    refine HT.out.mono ?_
    rintro e w1 ⟨rfl, hp, hg⟩
    have HG := Lib.hid hg
    clear hg hp
    go_wp2_with fail
    go_ret2
    exact ⟨rfl, fun _ _ h => (by cases h), HG.out⟩
  | true =>
    have HV := Lib.hid (show valP s = valF (s.drop 1) false [] by unfold valP; rw [hb]; rfl)
    have HLe := Lib.hid (show leftB [34] s = s.drop 1 by unfold leftB; rw [hb]; rfl)
    rw [hb, HLe.out] at HT
    have hrl : (s.drop 1).length ≤ 100000000 := by simp; omega
    rw [HV.out]
    clear hb HV HLe
    generalize s.drop 1 = l at *
    generalize hO : valF l false [] = O
    have HO := Lib.hid hO
    clear hO
    go_enter Try.func65, Try.ntmps65
    go_wp2_with fail
    refine HT.out.mono ?_
    rintro e w1 ⟨rfl, hp, hg⟩
    have HP := Lib.hid hp
    have HG := Lib.hid hg
    have hsz0 := hg.size
    have H0 := Lib.hid (Hb.fresh w1)
    have hcv := bytesOf_run l
    have hpl1 : pb < w1.heap.size := by omega
    have HP1 := Lib.hid (hp.below ((Below.refl w1.heap.size w1).alloc (Nat.le_refl _) (.cells #[.pointer none, .slice none 0 0] 64)) hpl1)
    have c0 := HP1.out.cell
    clear hg hp HT
    go_wp2_with fail
    obtain ⟨wb, hwb⟩ : ∃ wb, wb = w1.alloc (.cells #[.pointer none, .slice none 0 0] 64) := ⟨_, rfl⟩
    have hwbs : wb.heap.size = w1.heap.size + 1 := by rw [hwb]; simp
    rw [← hwb] at H0 HP1 c0 ⊢
    have HFr := Lib.hid (show wb.heap[w1.heap.size]? = some (.cells #[.pointer none, .slice none 0 0] 64 (0, 0)) by rw [hwb]; exact heap_alloc_new w1 _)
    have HB1 := Lib.hid (show Below w1.heap.size w1 wb by rw [hwb]; exact (Below.refl _ _).alloc (Nat.le_refl _) _)
    clear hwb
    have HK := Lib.hid ((H0.out.alloc (rowB wb l)).drew)
    have BK := Lib.hid ((HB1.out.alloc (show w1.heap.size ≤ wb.heap.size by omega) (rowB wb l)).drew)
    have PK := Lib.hid (HP1.out.below (((Below.refl wb.heap.size wb).alloc (Nat.le_refl _) (rowB wb l)).drew) (by omega))
    have FK := Lib.hid (show (wb.alloc (rowB wb l)).drew.heap[w1.heap.size]? = some (.cells #[.pointer none, .slice none 0 0] 64 (0, 0)) from (Below.heap_alloc wb (rowB wb l) w1.heap.size (by omega)).trans HFr.out)
    rw [hwbs] at HK
    obtain ⟨K, hK⟩ : ∃ K, K = w1.heap.size + 1 := ⟨_, rfl⟩
    rw [← hK] at HK ⊢
    have hKne : K ≠ pb := by omega
    have HR : Hid (∀ w' : World, w'.heap[K]? = some (rowB wb l) → ∀ i, i < l.length → w'.cell? ⟨K, i, none⟩ = some (.int .u8 (byteAt l i).toNat)) := Lib.hid (fun w' h i hi => rowB_cell h hi)
    clear HP HP1 H0 HFr HB1 hcv c0 hwbs
    obtain ⟨wk, hwk⟩ : ∃ wk, wk = (wb.alloc (rowB wb l)).drew := ⟨_, rfl⟩
    rw [← hwk] at HK BK PK FK ⊢
    generalize rowB wb l = R at *
    generalize capB wb l = cap at *
    clear hwk
    obtain ⟨B, hB⟩ : ∃ B, B = w1.heap.size := ⟨_, rfl⟩
    have hBw0 : w.heap.size ≤ B := by omega
    have hBp : pb < B := by omega
    rw [← hB] at HK BK FK ⊢
    have HB1w := Lib.hid (gb_below HG.out (Below.refl B w1) hBw0)
    clear hpl1 hK hB
    go_loopw [17, 5] (fun i c wr => ∃ (k : Nat) (back : Bool) (t : Bytes), k ≤ l.length ∧ i = .int .i64 k ∧ c = .bool back ∧ Hb B (fun k => if k = K then some R else none) t wr ∧ Below B w1 wr ∧ Par pb l wr ∧ t.length ≤ k ∧ valF (l.drop k) back t = O ∧
        (t = [] → wr.heap[B]? = some (.cells #[.pointer none, .slice none 0 0] 64 (0, 0))))
      (fun i c wr => l.length - (intOf i).toNat)
    case atStart => exact ⟨0, false, [], Nat.zero_le _, rfl, rfl, HK.out, BK.out, PK.out, by simp, HO.out, fun _ => FK.out⟩
    case round =>
      clear HK BK PK FK HO
      obtain ⟨k, back, t, hk, rfl, rfl, hh, hbl, hpp, htk, hv, hz⟩ := hrel
      have HH := Lib.hid hh
      have HBl := Lib.hid hbl
      have HPp := Lib.hid hpp
      have HV := Lib.hid hv
      have HZ := Lib.hid hz
      have hBw := hh.lt
      clear hh hbl hpp hv hz
      by_cases hlt : k < l.length
      · have hc : wr.cell? ⟨K, k, none⟩ = some (.int .u8 (byteAt l k).toNat) := HR.out _ (HH.out.kept (if_pos rfl)) k hlt
        have c0 := HPp.out.cell
        have f0 := Lib.frozen_of_heap HPp.out 0
        have HD := Lib.hid (drop_byte hlt)
        rw [HD.out] at HV
        have hfr : ∀ w, (Instr.sliceAt 9 (.string (bs l)) (some (.int .i64 ((k : Int) + 1))) none none).run Try.prog w = .ok (.string (bs (l.drop (k + 1)))) w := fun w => sfrom_run l (k + 1) (by omega) w
        generalize byteAt l k = c at *
        cases back with
        | true =>
          by_cases c110 : c = 110
          · have d1 : ((c.toNat : Int) == 110) = true := by rw [c110]; rfl
            have HV1 := Lib.hid (show valF (l.drop (k + 1)) false (t ++ [10]) = O by have := HV.out; rw [valF, if_pos c110] at this; exact this)
            clear c110 HV
            go_wp2_with fail
            refine (writeByte_any 10 HH.out (by omega)).mono ?_
            rintro e w3 ⟨rfl, h3, b3⟩
            have H3 := Lib.hid h3
            have B3 := Lib.hid b3
            clear h3 b3
            go_wp2_with fail
            go_roundw
            case rel => exact ⟨k + 1, false, t ++ [10], by omega, by go_num, rfl, H3.out, HBl.out.trans B3.out, HPp.out.below B3.out hBp, by simp; omega, HV1.out, fun h => by simp at h⟩
            case measure => simp [intOf]; omega
          · have d1 : ((c.toNat : Int) == 110) = false := (by rw [beq_eq_false_iff_ne]; intro e; exact c110 (UInt8.toNat_inj.1 (by show c.toNat = 110; omega)))
            by_cases c34 : c = 34
            · have d2 : ((c.toNat : Int) != 34) = false := by rw [c34]; rfl
              have HV1 := Lib.hid (show valF (l.drop (k + 1)) false (t ++ [c]) = O by have := HV.out; rw [valF, if_neg c110, if_pos (.inl c34)] at this; exact this)
              clear c110 c34 HV
              go_wp2_with fail
              refine (writeByte_any c HH.out (by omega)).mono ?_
              rintro e w3 ⟨rfl, h3, b3⟩
              have H3 := Lib.hid h3
              have B3 := Lib.hid b3
              clear h3 b3
              go_wp2_with fail
              go_roundw
              case rel => exact ⟨k + 1, false, t ++ [c], by omega, by go_num, rfl, H3.out, HBl.out.trans B3.out, HPp.out.below B3.out hBp, by simp; omega, HV1.out, fun h => by simp at h⟩
              case measure => simp [intOf]; omega
            · have d2 : ((c.toNat : Int) != 34) = true := (by rw [bne_iff_ne]; intro e; exact c34 (UInt8.toNat_inj.1 (by show c.toNat = 34; omega)))
              by_cases c92 : c = 92
              · have d3 : ((c.toNat : Int) != 92) = false := by rw [c92]; rfl
                have HV1 := Lib.hid (show valF (l.drop (k + 1)) false (t ++ [c]) = O by have := HV.out; rw [valF, if_neg c110, if_pos (.inr c92)] at this; exact this)
                clear c110 c34 c92 HV
                go_wp2_with fail
                refine (writeByte_any c HH.out (by omega)).mono ?_
                rintro e w3 ⟨rfl, h3, b3⟩
                have H3 := Lib.hid h3
                have B3 := Lib.hid b3
                clear h3 b3
                go_wp2_with fail
                go_roundw
                case rel => exact ⟨k + 1, false, t ++ [c], by omega, by go_num, rfl, H3.out, HBl.out.trans B3.out, HPp.out.below B3.out hBp, by simp; omega, HV1.out, fun h => by simp at h⟩
                case measure => simp [intOf]; omega
              · have d3 : ((c.toNat : Int) != 92) = true := (by rw [bne_iff_ne]; intro e; exact c92 (UInt8.toNat_inj.1 (by show c.toNat = 92; omega)))
                have HN := Lib.hid (show none = O by have := HV.out; rw [valF, if_neg c110, if_neg (fun h => h.elim c34 c92)] at this; exact this)
                clear c110 c34 c92 HV
                go_wp2_with fail
                go_ret2
                exact ⟨by rw [← HN.out]; rfl, fun v r h => (by rw [← HN.out] at h; cases h), gb_below HG.out HBl.out hBw0⟩
        | false =>
          by_cases c92 : c = 92
          · have d3 : ((c.toNat : Int) == 92) = true := by rw [c92]; rfl
            have HV1 := Lib.hid (show valF (l.drop (k + 1)) true t = O by have := HV.out; rw [valF, if_pos c92] at this; exact this)
            clear c92 HV
            go_wp2_with fail
            exact ⟨⟨k + 1, true, t, by omega, by go_num, rfl, HH.out, HBl.out, HPp.out, by omega, HV1.out, HZ.out⟩, by simp [intOf]; omega⟩
          · have d3 : ((c.toNat : Int) == 92) = false := (by rw [beq_eq_false_iff_ne]; intro e; exact c92 (UInt8.toNat_inj.1 (by show c.toNat = 92; omega)))
            by_cases c34 : c = 34
            · have d2 : ((c.toNat : Int) == 34) = true := by rw [c34]; rfl
              have HV1 := Lib.hid (show some (t, l.drop (k + 1)) = O by have := HV.out; rw [valF, if_neg c92, if_pos c34] at this; exact this)
              clear c92 c34 HV
              have HS := Lib.hid (hb_setOther HH.out.none hBp (.string (bs (l.drop (k + 1)))))
              have HPs := Lib.hid (HPp.out.set (l.drop (k + 1)))
              have HGs := Lib.hid (gb_set (gb_below HG.out HBl.out hBw0) (.string (bs (l.drop (k + 1)))))
              have HZs := Lib.hid (fun h => (Below.heap_setCell wr ⟨pb, 0, none⟩ (.string (bs (l.drop (k + 1)))) B (by show B ≠ pb; omega)).trans (HZ.out h))
              clear HH HZ
              go_wp2_with fail
              generalize wr.setCell ⟨pb, 0, none⟩ (.string (bs (l.drop (k + 1)))) = ws at *
              by_cases ht : t = []
              · have HZ2 := Lib.hid (HZs.out ht)
                subst ht
                refine (builderString_fresh HZ2.out).mono ?_
                rintro e w4 ⟨rfl, rfl⟩
                go_wp2_with fail
                go_ret2
                exact ⟨by rw [← HV1.out]; rfl, fun v r h => (by rw [← HV1.out] at h; cases h; exact HPs.out), gb_below HGs.out (Below.refl w.heap.size ws).drew (Nat.le_refl _)⟩
              · refine (builderString_any HS.out ht).mono ?_
                rintro e w4 ⟨rfl, hb4⟩
                have H4 := Lib.hid hb4
                clear hb4
                go_wp2_with fail
                go_ret2
                exact ⟨by rw [← HV1.out]; rfl, fun v r h => (by rw [← HV1.out] at h; cases h; exact HPs.out.below H4.out hBp), gb_below HGs.out H4.out hBw0⟩
            · have d2 : ((c.toNat : Int) == 34) = false := (by rw [beq_eq_false_iff_ne]; intro e; exact c34 (UInt8.toNat_inj.1 (by show c.toNat = 34; omega)))
              by_cases c10 : c = 10
              · have d4 : ((c.toNat : Int) == 10) = true := by rw [c10]; rfl
                have HN := Lib.hid (show none = O by have := HV.out; rw [valF, if_neg c92, if_neg c34, if_pos c10] at this; exact this)
                clear c92 c34 c10 HV
                go_wp2_with fail
                go_ret2
                exact ⟨by rw [← HN.out]; rfl, fun v r h => (by rw [← HN.out] at h; cases h), gb_below HG.out HBl.out hBw0⟩
              · have d4 : ((c.toNat : Int) == 10) = false := (by rw [beq_eq_false_iff_ne]; intro e; exact c10 (UInt8.toNat_inj.1 (by show c.toNat = 10; omega)))
                have HV1 := Lib.hid (show valF (l.drop (k + 1)) false (t ++ [c]) = O by have := HV.out; rw [valF, if_neg c92, if_neg c34, if_neg c10] at this; exact this)
                clear c92 c34 c10 HV
                go_wp2_with fail
                refine (writeByte_any c HH.out (by omega)).mono ?_
                rintro e w3 ⟨rfl, h3, b3⟩
                have H3 := Lib.hid h3
                have B3 := Lib.hid b3
                clear h3 b3
                go_wp2_with fail
                go_roundw
                case rel => exact ⟨k + 1, false, t ++ [c], by omega, by go_num, rfl, H3.out, HBl.out.trans B3.out, HPp.out.below B3.out hBp, by simp; omega, HV1.out, fun h => by simp at h⟩
                case measure => simp [intOf]; omega
      · have HN := Lib.hid (show none = O by have := HV.out; rw [List.drop_of_length_le (by omega)] at this; exact this)
        clear HV
        go_wp2_with fail
        go_ret2
        exact ⟨by rw [← HN.out]; rfl, fun v r h => (by rw [← HN.out] at h; cases h), gb_below HG.out HBl.out hBw0⟩

end Go.Proofs.Ytamdkmcdleilpaa
