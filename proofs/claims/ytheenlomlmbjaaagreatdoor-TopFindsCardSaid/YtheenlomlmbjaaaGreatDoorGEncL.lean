/-
  files: Read, Write, Append, Delete of a store of the names that this law writes.
-/
import Derived.Shelf.SlMaps.Clone
import Derived.Test.YtheenlomlmbjaaaGreatDoorGPlan
import Derived.Test.YtheenlomlmbjaaaGreatDoorGApply2
import Derived.Test.YtheenlomlmbjaaaGreatDoorMatch
import Derived.BigQuiet
import Derived.Test.YtheenlomlmbjaaaGreatDoorKey
import Derived.Deep.DrawnRows
import Derived.Defers
import Derived.Outline
set_option linter.unusedSimpArgs false
set_option linter.unusedVariables false
namespace Go.Proofs.YtheenlomlmbjaaaGreatDoor
open Go.RowKit Go.Maps Go.Shelf

set_option maxRecDepth 100000 in
set_option maxHeartbeats 1000000 in
theorem cloneM_any (b n : Nat) (D : DataW Value) (w : World) (hown : OMap Tryz.prog 9 w b n D) :
    Calls Tryz.prog 308 #[.map (some b)] w fun e w' => e = .returned (.map (some w.heap.size)) ∧ OMap Tryz.prog 9 w' w.heap.size n D ∧ Below w.heap.size w w' := by
  obtain ⟨es, clock, hb, F, hs, hD⟩ := hown
  have HB := Lib.hid (show OMap Tryz.prog 9 (w.alloc (.map es clock)) w.heap.size n D from ⟨es, clock, heap_alloc_new .., F, hs, hD⟩)
  have hq := fun w => run_eql_map_nil_sl (P := Tryz.prog) w 150 _ _ (some b) Tryz.underlying150
  clear F hs hD
  go_enter Tryz.func308, Tryz.ntmps308
  go_wp2_with fail
  rw [run_callFunc_extern (f := 337) (fn := Tryz.f337) (by kernel_rfl) (by kernel_rfl) (by kernel_rfl) (by kernel_rfl) (e := Extern.MapsClone.clone) (by kernel_rfl), run_maps_clone_sl w 150 hb]
  simp only [Result.andThen]
  rw [Oper.upon_value]
  go_wp2
  rw [run_typeAssert_map_sl _ 150 _ _ _ _ Tryz.underlying150]
  simp only [Result.andThen]
  rw [Oper.upon_value]
  go_wp2
  go_ret
  exact ⟨rfl, HB.out, (Below.refl _ _).alloc (Nat.le_refl _) _⟩

section
variable {w : World} {S : Nat} {f : Fs}
set_option maxRecDepth 100000 in
theorem readF_yes {N : Nat} (h : StoreOk w S f N) {nm d : Bytes} (hl : nm.length ≤ 100000) (hf : f nm = some d) :
    Calls Tryz.prog 27 #[.pointer (some ⟨S, 0, none⟩), .string (bs nm)] w fun e w' => e = .returned (.tuple #[.string (bs d), .bool true]) ∧ w = w' := by
  obtain ⟨dd, m, m2, D, hS, -, hm, hD, -⟩ := h
  have hlk := look_ok hm keyedStr Tryz.underlying150 (zeroStr w) (keyS hl) (v := .string (bs d)) (fun zd => by rw [hD.at_, hf]; rfl)
  have c1 := hS.cells.2.1
  clear hS hm hD hf hl
  go_enter Tryz.func27, Tryz.ntmps27
  go_wp2_with fail
  go_ret2
  exact ⟨rfl, rfl⟩
set_option maxRecDepth 100000 in
theorem readF_no {N : Nat} (h : StoreOk w S f N) {nm : Bytes} (hl : nm.length ≤ 100000) (hf : f nm = none) :
    Calls Tryz.prog 27 #[.pointer (some ⟨S, 0, none⟩), .string (bs nm)] w fun e w' => e = .returned (.tuple #[.string (bs []), .bool false]) ∧ w = w' := by
  obtain ⟨dd, m, m2, D, hS, -, hm, hD, -⟩ := h
  have hlk := look_no hm keyedStr Tryz.underlying150 (zeroStr w) (keyS hl) (by rw [hD.at_, hf]; rfl)
  have c1 := hS.cells.2.1
  clear hS hm hD hf hl
  go_enter Tryz.func27, Tryz.ntmps27
  go_wp2_with fail
  go_ret2
  exact ⟨rfl, rfl⟩
end

def Turned (g : Fs) (m : Nat) (w : World) (e : Ending) (w' : World) : Prop := ∃ n D, e = .returned (.tuple #[]) ∧ OMap Tryz.prog 9 w' m n D ∧ FsD g n D ∧ w.grownBy w' (some m)
set_option maxRecDepth 100000 in
set_option maxHeartbeats 1000000 in
theorem wr1_any (m db nb n : Nat) (D : DataW Value) (f : Fs) (nm d : Bytes) (w : World) (hm : OMap Tryz.prog 9 w m n D) (hf : FsD f n D) (hn : n ≤ 1000) (hd : w.cell? ⟨db, 0, none⟩ = some (.string (bs d))) (hnm : w.cell? ⟨nb, 0, none⟩ = some (.string (bs nm))) (hl : nm.length ≤ 16) :
    Calls Tryz.prog 269 #[.map (some m), .pointer (some ⟨db, 0, none⟩), .pointer (some ⟨nb, 0, none⟩)] w (Turned (setFs f nm d) m w) := by
  obtain ⟨hrun, -, hg⟩ := hm.keysOk.put keyedStr Tryz.underlying150 (keyS (nm := nm) (by omega)) (.string (bs d))
  have HP := Lib.hid (hm.put keyedStr Tryz.underlying150 (by simp only [maxLen]; omega) (keyS (nm := nm) (by omega)) (.string (bs d)))
  have HF := Lib.hid (hf.put nm d)
  have HG := Lib.hid hg
  clear hm hf hg
  go_enter Tryz.func269, Tryz.ntmps269
  go_wp2_with fail
  go_end0
  refine ⟨_, _, rfl, HP.out, ⟨HF.out.tidy, HF.out.keys, HF.out.at_, ?_⟩, HG.out⟩
  have := HF.out.size
  split at this <;> omega
set_option maxRecDepth 100000 in
set_option maxHeartbeats 1000000 in
theorem del1_any (m nb n : Nat) (D : DataW Value) (f : Fs) (nm : Bytes) (w : World) (hm : OMap Tryz.prog 9 w m n D) (hf : FsD f n D) (hnm : w.cell? ⟨nb, 0, none⟩ = some (.string (bs nm))) (hl : nm.length ≤ 16) :
    Calls Tryz.prog 270 #[.map (some m), .pointer (some ⟨nb, 0, none⟩)] w (Turned (delFs f nm) m w) := by
  have HM := Lib.hid hm
  have HF := Lib.hid (hf.del nm)
  have hky := Lib.hid (keyS (nm := nm) (by omega))
  clear hm hf
  go_enter Tryz.func270, Tryz.ntmps270
  go_wp2_with (at_delete; refine wpList_delete_own _ rfl _ _ 150 9 rfl 9 keyedStr Tryz.underlying150 rawE m n D rfl HM.out _ _ rfl hky.out ?_; intro w1 hown1 hturn1)
  go_end0
  exact ⟨_, _, rfl, hown1, HF.out, hturn1.grown⟩

theorem planFits (c0 c1 c2 c3 c4 c5 : Value) (w : World) : (Instr.field 415 (.agg #[c0, c1, c2, c3, c4, c5, .bool true]) 5).run Tryz.prog w = .ok (.bool true) w := by kernel_rfl
def Changed (F : Bl) (S : Nat) (g : Fs) (w : World) (e : Ending) (w' : World) : Prop := ∃ m', e = .returned (.int .i64 0) ∧ w.heap.size ≤ m' ∧ StoreL (fun k => F k ∨ k = m') w' S g 15 ∧ Out (fun k => k = S) w w'
set_option maxRecDepth 100000 in
set_option maxHeartbeats 1000000 in
theorem changeW_any (F : Bl) (S db nb : Nat) (f : Fs) (nm d : Bytes) (w : World) (h : StoreL F w S f 15) (hf : FsOk f) (hn : nm ∈ names15) (hd : d.length ≤ limF nm)
    (hdb : w.cell? ⟨db, 0, none⟩ = some (.string (bs d))) (hnb : w.cell? ⟨nb, 0, none⟩ = some (.string (bs nm))) :
    Calls Tryz.prog 268 #[.pointer (some ⟨S, 0, none⟩), .func (.func 269) #[] #[.pointer (some ⟨db, 0, none⟩), .pointer (some ⟨nb, 0, none⟩)]] w (Changed F S (setFs f nm d) w) := by
  have HL := Lib.hid h
  obtain ⟨dd, m, m2, D, hS, -, hm, hD, -⟩ := h.ex
  have HS := Lib.hid hS
  have HD := Lib.hid hD
  have HM := Lib.hid hm
  have HF := Lib.hid (hf.set hn hd)
  have hl16 := (names_ok nm hn).2
  have c1 := hS.cells.2.1
  have hSl := lt_of_heap hS
  clear h hS hm hD hf hn hd
  go_enter Tryz.func268, Tryz.ntmps268
  go_wp2_with fail
  refine (cloneM_any m 15 D _ HM.out).mono ?_
  rintro e w1 ⟨rfl, h1, hb1⟩
  have HM1 := Lib.hid h1
  have hdb1 := (hb1.cell (p := ⟨db, 0, none⟩) (World.block_lt_of_cell? w _ hdb)).trans hdb
  have hnb1 := (hb1.cell (p := ⟨nb, 0, none⟩) (World.block_lt_of_cell? w _ hnb)).trans hnb
  have HB1 := Lib.hid hb1
  clear h1 hb1 hdb hnb
  go_wp2_with fail
  refine (wr1_any w.heap.size db nb 15 D f nm d w1 HM1.out HD.out (by omega) hdb1 hnb1 hl16).mono ?_
  rintro e w2 ⟨n', D', rfl, h2, h3, h4⟩
  have h3' := h3.n15 HF.out
  have HM2 := Lib.hid (OMap.shrink h2 h3'.size)
  have HD2 := Lib.hid h3'
  have HB2 := Lib.hid (HB1.out.grown h4 HB1.out.size (fun j hj => by cases hj; exact Nat.le_refl _))
  clear h2 h3 h3' h4 hdb1 hnb1
  have HST2 := Lib.hid ((HL.out.below HB2.out).ok)
  go_wp2_with fail
  refine (planned_any S w.heap.size 15 15 f (setFs f nm d) D' w2 HST2.out HM2.out HD2.out (by omega) HF.out.lim).mono ?_
  rintro e w3 ⟨c0, c1, c2, c3, c4, c5, rfl, hb3⟩
  have HB3 := Lib.hid (HB2.out.trans (hb3.mono HB2.out.size))
  have hS3 := (HB3.out.block S hSl).trans HS.out
  have HS3 := Lib.hid hS3
  have s3 := (StoreAt.cells hS3).2.1
  have hSl3 := lt_of_heap hS3
  have f3 : w3.frozen? ⟨S, 1, none⟩ = false := Lib.frozen_of_heap hS3 1
  have HM3 := Lib.hid (OMap.below HM2.out hb3)
  have hfit := planFits c0 c1 c2 c3 c4 c5
  clear hS3 hb3
  go_wp2_with fail
  go_ret
  refine ⟨w.heap.size, rfl, Nat.le_refl _, ?_, (Out.of_below HB3.out).same (Out.setCell w3 ⟨S, 1, none⟩ _)⟩
  refine HL.out.turn ((Out.of_below HB3.out).same (Out.setCell w3 ⟨S, 1, none⟩ _)) (fun d' q q2 hq => ?_) ?_ HD2.out
  · have e : w3.heap[S]? = some (.cells #[.pointer (some ⟨d', 0, none⟩), .map (some q), .map (some q2), .slice none 0 0, .int .i64 0, .bool false] 153 (0, 0)) := (HB3.out.block S hSl).trans hq
    unfold StoreAt
    rw [heap_setC e]; rfl
  · obtain ⟨es, clock, e1, e2⟩ := HM3.out
    exact ⟨es, clock, (heap_setO e1 (by omega)), e2⟩

end Go.Proofs.YtheenlomlmbjaaaGreatDoor

namespace Go.Proofs.YtheenlomlmbjaaaGreatDoor
open Go.RowKit Go.Maps Go.Shelf

theorem Changed.below {F : Bl} {S : Nat} {g : Fs} {w w1 : World} {e : Ending} {w' : World} (h : Changed F S g w1 e w') (hb : Below w.heap.size w w1) : Changed F S g w e w' := by
  obtain ⟨m', h1, h2, h3, h4⟩ := h
  exact ⟨m', h1, Nat.le_trans hb.size h2, h3, (Out.of_below hb).same h4⟩
set_option maxRecDepth 100000 in
set_option maxHeartbeats 1000000 in
theorem writeF_any (F : Bl) (S : Nat) (f : Fs) (nm d : Bytes) (w : World) (h : StoreL F w S f 15) (hf : FsOk f) (hn : nm ∈ names15) (hd : d.length ≤ limF nm) :
    Calls Tryz.prog 198 #[.pointer (some ⟨S, 0, none⟩), .string (bs nm), .string (bs d)] w (Changed F S (setFs f nm d) w) := by
  have HL := Lib.hid h
  have HF := Lib.hid hf
  have HN := Lib.hid hn
  have HD := Lib.hid hd
  have HR := Lib.hid (fun w => rightF_any nm w (names_ok nm hn).1)
  have HW := Lib.hid (heap2 w (.cells #[.string (bs nm)] 9) (.cells #[.string (bs d)] 9))
  have HB := Lib.hid (show Below w.heap.size w ((w.alloc (.cells #[.string (bs nm)] 9)).alloc (.cells #[.string (bs d)] 9)) from ((Below.refl _ _).alloc (Nat.le_refl _) _).alloc (by simp) _)
  clear h hf hn hd
  go_enter Tryz.func198, Tryz.ntmps198
  go_wp2_with fail
  refine (HR.out _).mono ?_
  rintro e w1 ⟨rfl, hb1⟩
  have h1 := (hb1.block _ (lt_of_heap HW.out.1)).trans HW.out.1
  have h2 := (hb1.block _ (lt_of_heap HW.out.2)).trans HW.out.2
  have HB1 := Lib.hid (HB.out.trans (hb1.mono HB.out.size))
  have HX1 := Lib.hid (show w1.cell? ⟨w.heap.size, 0, none⟩ = some (.string (bs nm)) by rw [cell_of_row w1 _ _ _ _ _ h1]; rfl)
  have HX2 := Lib.hid (show w1.cell? ⟨w.heap.size + 1, 0, none⟩ = some (.string (bs d)) by rw [cell_of_row w1 _ _ _ _ _ h2]; rfl)
  clear h1 h2 hb1 HW HB HR
  go_wp2_with fail
  refine (changeW_any F S (w.heap.size + 1) w.heap.size f nm d w1 (HL.out.below HB1.out) HF.out HN.out HD.out HX2.out HX1.out).mono ?_
  rintro e w2 ⟨m', rfl, h2, h3, h4⟩
  have HC := Lib.hid (Changed.below ⟨m', rfl, h2, h3, h4⟩ HB1.out)
  clear h2 h3 h4
  go_wp2_with fail
  go_ret
  exact HC.out

theorem lenSum {a b : Bytes} {n : Nat} (h : (a ++ b).length ≤ n) (hn : n ≤ 1000000) : ¬ (a.length + b.length > 9223372036854775807) := by
  rw [List.length_append] at h; omega
set_option maxRecDepth 100000 in
set_option maxHeartbeats 1000000 in
theorem appendF_any (F : Bl) (S : Nat) (f : Fs) (nm d : Bytes) (was : Bytes) (hwas : f nm = some was ∨ f nm = none ∧ was = []) (w : World) (h : StoreL F w S f 15) (hf : FsOk f) (hn : nm ∈ names15) (hd : (was ++ d).length ≤ limF nm) :
    Calls Tryz.prog 158 #[.pointer (some ⟨S, 0, none⟩), .string (bs nm), .string (bs d)] w (Changed F S (setFs f nm (was ++ d)) w) := by
  have HW := Lib.hid (writeF_any F S f nm (was ++ d) w h hf hn hd)
  obtain ⟨dd, m, m2, D, hS, -, hm, hD, -⟩ := h.ex
  have hl16 := (names_ok nm hn).2
  have hlk : (Instr.lookup 150 (.map (some m)) (.string (bs nm)) false).run Tryz.prog w = .ok (.string (bs was)) w := by
    rcases hwas with e | ⟨e, rfl⟩
    · exact look_raw hm keyedStr Tryz.underlying150 (zeroStr w) (keyS (by omega)) (by rw [hD.at_, e]; rfl)
    · exact look_raw hm keyedStr Tryz.underlying150 (zeroStr w) (keyS (by omega)) (by rw [hD.at_, e]; rfl)
  have c1 := hS.cells.2.1
  have hlim : limF nm ≤ 2880 := by unfold limF; split <;> omega
  have hg := lenSum hd (by omega)
  clear h hf hn hd hwas hS hm hD hlim hl16
  go_enter Tryz.func158, Tryz.ntmps158
  go_wp2_with fail
  refine HW.out.mono ?_
  rintro e w2 ⟨m', rfl, h2, h3, h4⟩
  have HC := Lib.hid (show Changed F S (setFs f nm (was ++ d)) w (.returned (.int .i64 0)) w2 from ⟨m', rfl, h2, h3, h4⟩)
  clear h2 h3 h4
  go_wp2_with fail
  go_ret
  exact HC.out

set_option maxRecDepth 100000 in
set_option maxHeartbeats 1000000 in
theorem changeD_any (F : Bl) (S nb : Nat) (f : Fs) (nm : Bytes) (w : World) (h : StoreL F w S f 15) (hf : FsOk f) (hl16 : nm.length ≤ 16)
    (hnb : w.cell? ⟨nb, 0, none⟩ = some (.string (bs nm))) :
    Calls Tryz.prog 268 #[.pointer (some ⟨S, 0, none⟩), .func (.func 270) #[] #[.pointer (some ⟨nb, 0, none⟩)]] w (Changed F S (delFs f nm) w) := by
  have HL := Lib.hid h
  obtain ⟨dd, m, m2, D, hS, -, hm, hD, -⟩ := h.ex
  have HS := Lib.hid hS
  have HD := Lib.hid hD
  have HM := Lib.hid hm
  have HF := Lib.hid (hf.del nm)
  have c1 := hS.cells.2.1
  have hSl := lt_of_heap hS
  clear h hS hm hD hf
  go_enter Tryz.func268, Tryz.ntmps268
  go_wp2_with fail
  refine (cloneM_any m 15 D _ HM.out).mono ?_
  rintro e w1 ⟨rfl, h1, hb1⟩
  have HM1 := Lib.hid h1
  have hnb1 := (hb1.cell (p := ⟨nb, 0, none⟩) (World.block_lt_of_cell? w _ hnb)).trans hnb
  have HB1 := Lib.hid hb1
  clear h1 hb1 hnb
  go_wp2_with fail
  refine (del1_any w.heap.size nb 15 D f nm w1 HM1.out HD.out hnb1 hl16).mono ?_
  rintro e w2 ⟨n', D', rfl, h2, h3, h4⟩
  have h3' := h3.n15 HF.out
  have HM2 := Lib.hid (OMap.shrink h2 h3'.size)
  have HD2 := Lib.hid h3'
  have HB2 := Lib.hid (HB1.out.grown h4 HB1.out.size (fun j hj => by cases hj; exact Nat.le_refl _))
  clear h2 h3 h3' h4 hnb1
  have HST2 := Lib.hid ((HL.out.below HB2.out).ok)
  go_wp2_with fail
  refine (planned_any S w.heap.size 15 15 f (delFs f nm) D' w2 HST2.out HM2.out HD2.out (by omega) HF.out.lim).mono ?_
  rintro e w3 ⟨c0, c1, c2, c3, c4, c5, rfl, hb3⟩
  have HB3 := Lib.hid (HB2.out.trans (hb3.mono HB2.out.size))
  have hS3 := (HB3.out.block S hSl).trans HS.out
  have HS3 := Lib.hid hS3
  have s3 := (StoreAt.cells hS3).2.1
  have hSl3 := lt_of_heap hS3
  have f3 : w3.frozen? ⟨S, 1, none⟩ = false := Lib.frozen_of_heap hS3 1
  have HM3 := Lib.hid (OMap.below HM2.out hb3)
  have hfit := planFits c0 c1 c2 c3 c4 c5
  clear hS3 hb3
  go_wp2_with fail
  go_ret
  refine ⟨w.heap.size, rfl, Nat.le_refl _, ?_, (Out.of_below HB3.out).same (Out.setCell w3 ⟨S, 1, none⟩ _)⟩
  refine HL.out.turn ((Out.of_below HB3.out).same (Out.setCell w3 ⟨S, 1, none⟩ _)) (fun d' q q2 hq => ?_) ?_ HD2.out
  · have e : w3.heap[S]? = some (.cells #[.pointer (some ⟨d', 0, none⟩), .map (some q), .map (some q2), .slice none 0 0, .int .i64 0, .bool false] 153 (0, 0)) := (HB3.out.block S hSl).trans hq
    unfold StoreAt
    rw [heap_setC e]; rfl
  · obtain ⟨es, clock, e1, e2⟩ := HM3.out
    exact ⟨es, clock, (heap_setO e1 (by omega)), e2⟩

set_option maxRecDepth 100000 in
set_option maxHeartbeats 1000000 in
theorem deleteF_any (F : Bl) (S : Nat) (f : Fs) (nm d : Bytes) (w : World) (h : StoreL F w S f 15) (hf : FsOk f) (hn : nm ∈ names15) (hd : f nm = some d) :
    Calls Tryz.prog 200 #[.pointer (some ⟨S, 0, none⟩), .string (bs nm)] w (Changed F S (delFs f nm) w) := by
  have HL := Lib.hid h
  have HF := Lib.hid hf
  have HD := Lib.hid hd
  have hl16 := (names_ok nm hn).2
  have HR := Lib.hid (fun w => rightF_any nm w (names_ok nm hn).1)
  have HW := Lib.hid (heap_alloc_new w (.cells #[.string (bs nm)] 9))
  have HB := Lib.hid (show Below w.heap.size w (w.alloc (.cells #[.string (bs nm)] 9)) from (Below.refl _ _).alloc (Nat.le_refl _) _)
  clear h hf hn hd
  go_enter Tryz.func200, Tryz.ntmps200
  go_wp2_with fail
  refine (HR.out _).mono ?_
  rintro e w1 ⟨rfl, hb1⟩
  have h1 := (hb1.block _ (lt_of_heap HW.out)).trans HW.out
  have HB1 := Lib.hid (HB.out.trans (hb1.mono HB.out.size))
  have hx1 : w1.cell? ⟨w.heap.size, 0, none⟩ = some (.string (bs nm)) := by rw [cell_of_row w1 _ _ _ _ _ h1]; rfl
  have HX1 := Lib.hid hx1
  obtain ⟨dd, m, m2, D, hS, -, hm, hDt, -⟩ := (HL.out.below HB1.out).ex
  have hlk := look_ok (w := w1.drew) hm keyedStr Tryz.underlying150 (zeroStr _) (keyS (nm := nm) (by omega)) (v := .string (bs d)) (fun zd => by rw [hDt.at_, HD.out]; rfl)
  have c1 := hS.cells.2.1
  clear h1 hb1 HW HB HR hS hm hDt
  go_wp2_with fail
  go_region
  have HL1 := Lib.hid (show StoreL F w1.drew S f 15 from (HL.out.below HB1.out).below ((Below.refl _ _).drew))
  have HX2 := Lib.hid (show w1.drew.cell? ⟨w.heap.size, 0, none⟩ = some (.string (bs nm)) from HX1.out)
  have HB2 := Lib.hid (HB1.out.drew)
  clear hlk c1 hx1
  go_wp2_with fail
  refine (changeD_any F S w.heap.size f nm _ HL1.out HF.out hl16 HX2.out).mono ?_
  rintro e w2 ⟨m', rfl, h2, h3, h4⟩
  have HC := Lib.hid (Changed.below ⟨m', rfl, h2, h3, h4⟩ HB2.out)
  clear h2 h3 h4
  go_wp2_with fail
  go_ret
  exact HC.out

end Go.Proofs.YtheenlomlmbjaaaGreatDoor

namespace Go.Proofs.YtheenlomlmbjaaaGreatDoor
open Go.RowKit Go.Maps

set_option maxRecDepth 100000 in
set_option maxHeartbeats 2000000 in
theorem checkLab_any (a : Option Addr) (n c : Nat) (w : World) (hn : 0 < n) (hc : n ≤ 1000) :
    Calls Tryz.prog 141 #[.agg #[.int .i64 0, .slice a n c, .slice none 0 0, .slice none 0 0, .int .i64 0]] w fun e w' => e = .returned (.bool true) ∧ Below w.heap.size w w' := by
  have d0 : decide (0 < n) = true := by simpa using hn
  have HW := Lib.hid (fun n m w h0 h1 => within_any n m w h0 h1)
  have i0 : ∀ w, (Instr.index 330 (.agg #[.bool true, .bool false, .bool false, .bool false]) (.int .i64 0)).run Tryz.prog w = .ok (.bool true) w := fun _ => by kernel_rfl
  have i1 : ∀ w, (Instr.index 330 (.agg #[.bool true, .bool false, .bool false, .bool false]) (.int .i64 1)).run Tryz.prog w = .ok (.bool false) w := fun _ => by kernel_rfl
  have i2 : ∀ w, (Instr.index 330 (.agg #[.bool true, .bool false, .bool false, .bool false]) (.int .i64 2)).run Tryz.prog w = .ok (.bool false) w := fun _ => by kernel_rfl
  have i3 : ∀ w, (Instr.index 330 (.agg #[.bool true, .bool false, .bool false, .bool false]) (.int .i64 3)).run Tryz.prog w = .ok (.bool false) w := fun _ => by kernel_rfl
  go_enter Tryz.func141, Tryz.ntmps141
  go_wp2_with fail
  refine wp_loop_rounds 5 ?_
  rw [rounds_succ]
  go_wp2_with fail
  rw [rounds_succ]
  go_wp2_with fail
  rw [rounds_succ]
  go_wp2_with fail
  rw [rounds_succ]
  go_wp2_with fail
  rw [rounds_succ]
  go_wp2_with fail
  refine wp_loop_rounds 1 ?_
  rw [rounds_succ]
  go_wp2_with fail
  refine wp_loop_rounds 1 ?_
  rw [rounds_succ]
  go_wp2_with fail
  refine (HW.out 0 3 _ (by omega) (by omega)).mono ?_
  rintro e w1 ⟨rfl, rfl⟩
  go_wp2_with fail
  refine (HW.out 0 1099511627776 _ (by omega) (by omega)).mono ?_
  rintro e w1 ⟨rfl, rfl⟩
  go_wp2_with fail
  go_ret
  exact ⟨rfl, ((Below.refl _ _).alloc (Nat.le_refl _) _).alloc (by simp) _⟩

set_option maxRecDepth 100000 in
set_option maxHeartbeats 4000000 in
theorem checkRows_any (u : Value) (R : List Rw) (w : World) (hu : RowG 3 encRw w u R) (hR : ∀ r ∈ R, POk (r.1, r.2.2) ∧ 0 ≤ r.2.1 ∧ r.2.1 < 200) (hn : 0 < R.length) (hc : R.length ≤ 1000) :
    Calls Tryz.prog 141 #[.agg #[.int .i64 1, .slice none 0 0, u, .slice none 0 0, .int .i64 0]] w fun e w' => e = .returned (.bool true) ∧ Below w.heap.size w w' := by
  have HU := Lib.hid hu.rowsV
  have HR := Lib.hid hR
  obtain ⟨n, hnn⟩ : ∃ n, n = R.length := ⟨_, rfl⟩
  obtain ⟨a, c, rfl, h1, h2⟩ : ∃ a cap, u = .slice a n cap ∧ n ≤ cap ∧ cap ≤ 9223372036854775807 := by
    obtain ⟨a, cap, h1, h2, h3, _⟩ := hu
    rw [← hnn] at h1 h2
    exact ⟨a, cap, h1, h2, h3⟩
  have HN := Lib.hid hnn
  rw [← hnn] at hn hc
  have d0 : decide (0 < n) = true := by simpa using hn
  have HW := Lib.hid (fun n m w h0 h1 => within_any n m w h0 h1)
  clear hu hR hnn
  have i0 : ∀ w, (Instr.index 330 (.agg #[.bool false, .bool true, .bool false, .bool false]) (.int .i64 0)).run Tryz.prog w = .ok (.bool false) w := fun _ => by kernel_rfl
  have i1 : ∀ w, (Instr.index 330 (.agg #[.bool false, .bool true, .bool false, .bool false]) (.int .i64 1)).run Tryz.prog w = .ok (.bool true) w := fun _ => by kernel_rfl
  have i2 : ∀ w, (Instr.index 330 (.agg #[.bool false, .bool true, .bool false, .bool false]) (.int .i64 2)).run Tryz.prog w = .ok (.bool false) w := fun _ => by kernel_rfl
  have i3 : ∀ w, (Instr.index 330 (.agg #[.bool false, .bool true, .bool false, .bool false]) (.int .i64 3)).run Tryz.prog w = .ok (.bool false) w := fun _ => by kernel_rfl
  go_enter Tryz.func141, Tryz.ntmps141
  go_wp2_with fail
  refine wp_loop_rounds 5 ?_
  rw [rounds_succ]
  go_wp2_with fail
  rw [rounds_succ]
  go_wp2_with fail
  rw [rounds_succ]
  go_wp2_with fail
  rw [rounds_succ]
  go_wp2_with fail
  rw [rounds_succ]
  go_wp2_with fail
  clear i0 i1 i2 i3
  have HX0 := heap2 w (.cells #[.int .i64 1, .slice none 0 0, .slice a n c, .slice none 0 0, .int .i64 0] 107) (.cells #[.bool false, .bool true, .bool false, .bool false] 330)
  have HB0 := Lib.hid (show Below w.heap.size w ((w.alloc (.cells #[.int .i64 1, .slice none 0 0, .slice a n c, .slice none 0 0, .int .i64 0] 107)).alloc (.cells #[.bool false, .bool true, .bool false, .bool false] 330)) from ((Below.refl _ _).alloc (Nat.le_refl _) _).alloc (by simp) _)
  have HX := Lib.hid HX0.1
  clear HX0
  generalize (w.alloc (.cells #[.int .i64 1, .slice none 0 0, .slice a n c, .slice none 0 0, .int .i64 0] 107)).alloc (.cells #[.bool false, .bool true, .bool false, .bool false] 330) = W at HB0 HX ⊢
  have HUW := Lib.hid (HU.out.below HB0.out)
  go_loopw [42] (fun x wr => ∃ k : Nat, x = .int .i64 k ∧ k ≤ n ∧ Below W.heap.size W wr) (fun x _ => n - (intOf x).toNat)
  case atStart => exact ⟨0, rfl, Nat.zero_le _, Below.refl _ _⟩
  case round =>
    obtain ⟨k, rfl, hk, hbl⟩ := hrel
    have HB := Lib.hid hbl
    by_cases hlt : k < n
    · have hkR : k < R.length := by rw [← HN.out]; exact hlt
      obtain ⟨b, off, rfl, hb, c0, c1, c2⟩ := (HUW.out.below hbl).at_ (i := k) hkR
      obtain ⟨⟨p0, p1, -⟩, q0, q1⟩ := HR.out _ (getD_mem' (0, 0, 0) hkR)
      simp only at p0 p1
      generalize (R.getD k (0, 0, 0)).1 = x0 at *
      generalize (R.getD k (0, 0, 0)).2.1 = x1 at *
      generalize (R.getD k (0, 0, 0)).2.2 = x2 at *
      clear hbl hkR
      go_wp2_with fail
      refine (HW.out x0 1099511627776 _ (by omega) (by omega)).mono ?_
      rintro e w1 ⟨rfl, rfl⟩
      go_wp2_with fail
      refine (HW.out x1 199 _ (by omega) (by omega)).mono ?_
      rintro e w1 ⟨rfl, rfl⟩
      go_wp2_with fail
      go_roundw
      case rel => exact ⟨k + 1, by go_num, by omega, HB.out.alloc HB.out.size _⟩
      case measure => simp [intOf]; omega
    · have hke : n = k := by omega
      subst hke
      have hx := (hbl.block _ (lt_of_heap HX.out)).trans HX.out
      have r0 : wr.cell? ⟨w.heap.size, 0, none⟩ = some (.int .i64 1) := by rw [Lib.cell_of_heap hx]; rfl
      have r2 : wr.cell? ⟨w.heap.size, 2, none⟩ = some (.slice a n c) := by rw [Lib.cell_of_heap hx]; rfl
      have r3 : wr.cell? ⟨w.heap.size, 3, none⟩ = some (.slice none 0 0) := by rw [Lib.cell_of_heap hx]; rfl
      have r4 : wr.cell? ⟨w.heap.size, 4, none⟩ = some (.int .i64 0) := by rw [Lib.cell_of_heap hx]; rfl
      have HB2 := Lib.hid (HB0.out.trans (hbl.mono HB0.out.size))
      have hc5 : (n : Int) ≤ 5000 := by omega
      clear hbl hx
      go_wp2_with fail
      refine wp_loop_rounds 1 ?_
      rw [rounds_succ]
      go_wp2_with fail
      refine (HW.out 1 3 _ (by omega) (by omega)).mono ?_
      rintro e w1 ⟨rfl, rfl⟩
      go_wp2_with fail
      refine (HW.out 0 1099511627776 _ (by omega) (by omega)).mono ?_
      rintro e w1 ⟨rfl, rfl⟩
      go_wp2_with fail
      go_ret
      exact ⟨rfl, HB2.out⟩

end Go.Proofs.YtheenlomlmbjaaaGreatDoor

namespace Go.Proofs.YtheenlomlmbjaaaGreatDoor
open Go.RowKit Go.Maps

set_option maxRecDepth 100000 in
set_option maxHeartbeats 2000000 in
theorem form1_any (B : Nat) (v : Value) (ls : List L4.Lab) (w : World) (hv : L4.Labels w v ls) (hB : w.cell? ⟨B, 1, none⟩ = some v) (hw : ls.length + L4.wt ls ≤ 1000) (hk : L4.chkL ls = true) (hl : (L4.printL (L4.bodyL ls) true).length ≤ 1000) :
    Calls Tryz.prog 211 #[.pointer (some ⟨B, 0, none⟩)] w fun e w' => ∃ t, e = .returned (.tuple #[.string (bs t), .int .i64 0]) ∧ t.length ≤ (L4.printL (L4.bodyL ls) true).length + 10 ∧ Below w.heap.size w w' := by
  have HP := Lib.hid (fun w (h : L4.Labels w v ls) => L4.print_any v ls w h (by omega))
  have HV := Lib.hid hv
  rw [hk] at HP
  obtain ⟨a, c, rfl, -⟩ := hv
  generalize L4.printL (L4.bodyL ls) true = T at *
  have hul := uintL_len10 (n := T.length) (by omega)
  have HT := Lib.hid (fun w => textG_any T w (by omega))
  have HTl := Lib.hid (show (uintL T.length ++ T).length ≤ T.length + 10 by rw [List.length_append]; omega)
  generalize uintL T.length ++ T = T2 at *
  clear hul hk
  go_enter Tryz.func211, Tryz.ntmps211
  go_wp2_with fail
  refine (HP.out _ HV.out).mono ?_
  rintro e w1 ⟨rfl, hb1⟩
  have HB1 := Lib.hid hb1
  clear hb1
  go_wp2_with fail
  refine (HT.out _).mono ?_
  rintro e w2 ⟨rfl, hb2⟩
  have HB2 := Lib.hid (HB1.out.trans (hb2.mono HB1.out.size))
  clear hb2
  go_wp2_with fail
  go_ret2
  exact ⟨T2, rfl, HTl.out, HB2.out⟩

theorem RowG.ofHeap {α : Type} {k : Nat} {enc : α → List Value} {w : World} {g n : Nat} {cs : Array Value} {t : TypeId} {fr : Nat × Nat} {l : List α} (h : w.heap[g]? = some (.cells cs t fr)) (hcs : cs.toList = l.flatMap enc) (hn : l.length = n) (hm : n ≤ 1000000) : RowG k enc w (.slice (some ⟨g, 0, none⟩) n n) l := by
  subst hn
  refine ⟨_, l.length, rfl, Nat.le_refl _, by omega, (fun e => by cases e), fun _ => ⟨g, 0, rfl, lt_of_heap h, fun j u hj => ?_⟩⟩
  rw [Nat.zero_add, cell_of_row w g j cs t fr h, ← Array.getElem?_toList, hcs]
  exact hj
theorem keepB3 {W w' w'' : World} {B : Nat} {a b c : Value} (h : w'.cell? ⟨B, 0, none⟩ = some a ∧ w'.cell? ⟨B, 1, none⟩ = some b ∧ w'.cell? ⟨B, 2, none⟩ = some c ∧ Below W.heap.size W w') (hb : Below w'.heap.size w' w'') :
    w''.cell? ⟨B, 0, none⟩ = some a ∧ w''.cell? ⟨B, 1, none⟩ = some b ∧ w''.cell? ⟨B, 2, none⟩ = some c ∧ Below W.heap.size W w'' :=
  ⟨(hb.cell (World.block_lt_of_cell? w' _ h.1)).trans h.1, (hb.cell (World.block_lt_of_cell? w' _ h.2.1)).trans h.2.1, (hb.cell (World.block_lt_of_cell? w' _ h.2.2.1)).trans h.2.2.1, h.2.2.2.trans (hb.mono h.2.2.2.size)⟩
def FormRel (w : World) (n : Nat) (s x : Value) (wr : World) : Prop :=
  ∃ (k : Nat) (t : Bytes), s = .string (bs t) ∧ x = .int .i64 k ∧ k ≤ n ∧ t.length ≤ 10 + 30 * k ∧ Below w.heap.size w wr

set_option maxRecDepth 100000 in
set_option maxHeartbeats 4000000 in
attribute [local go_sem ↓] Go.wp_at_zero Go.wp_at_succ in
theorem form3_any (B : Nat) (u : Value) (R : List Rw) (w : World) (hu : RowG 3 encRw w u R) (hB : w.cell? ⟨B, 2, none⟩ = some u) (hR : ∀ r ∈ R, POk (r.1, r.2.2) ∧ 0 ≤ r.2.1 ∧ r.2.1 < 200) (hc : R.length ≤ 1000) :
    Calls Tryz.prog 213 #[.pointer (some ⟨B, 0, none⟩)] w fun e w' => ∃ t, e = .returned (.tuple #[.string (bs t), .int .i64 0]) ∧ t.length ≤ 10 + 30 * R.length ∧ Below w.heap.size w w' := by
  have HU := Lib.hid hu.rowsV
  have HR := Lib.hid hR
  have hBl := World.block_lt_of_cell? w _ hB
  obtain ⟨n, hnn⟩ : ∃ n, n = R.length := ⟨_, rfl⟩
  obtain ⟨a, c, rfl, h1, h2⟩ : ∃ a cap, u = .slice a n cap ∧ n ≤ cap ∧ cap ≤ 9223372036854775807 := by
    obtain ⟨a, cap, h1, h2, h3, _⟩ := hu
    rw [← hnn] at h1 h2
    exact ⟨a, cap, h1, h2, h3⟩
  have HN := Lib.hid hnn
  rw [← hnn] at hc ⊢
  clear hu hR hnn
  have HNum := Lib.hid (fun v l w h1 h2 h3 h4 => walNum_any v l w h1 h2 h3 h4)
  have HX := Lib.hid (heap_alloc_new w (.cells #[.int .i64 n] 3))
  have HA := Lib.hid (show Below w.heap.size w (w.alloc (.cells #[.int .i64 n] 3)) from (Below.refl _ _).alloc (Nat.le_refl _) _)
  go_enter Tryz.func213, Tryz.ntmps213
  go_wp2_with fail
  refine (HNum.out _ [(n : Int)] _ (RowG.ofHeap HX.out rfl rfl (by simp)) (by simp; omega) (by simp) (by simp)).mono ?_
  rintro e w1 ⟨t1, rfl, ht1, -, hb1⟩
  have HB1 := Lib.hid (HA.out.trans (hb1.mono HA.out.size))
  have hB1 := (HB1.out.cell (p := ⟨B, 2, none⟩) hBl).trans hB
  have HUW := Lib.hid (HU.out.below HB1.out)
  have HT1 := Lib.hid (show t1.length ≤ 10 by simpa using ht1)
  clear hb1 ht1 hB HX HA
  go_wp2_with fail
  go_loopw [4, 19] (fun s x wr => FormRel w1 n s x wr) (fun _ x _ => n - (intOf x).toNat)
  case atStart => exact ⟨0, t1, rfl, rfl, Nat.zero_le _, HT1.out, Below.refl _ _⟩
  case round =>
    obtain ⟨k, t, rfl, rfl, hk, htl, hbl⟩ := hrel
    have HB := Lib.hid hbl
    by_cases hlt : k < n
    · have hkR : k < R.length := by rw [← HN.out]; exact hlt
      obtain ⟨b, off, rfl, hb, c0, c1, c2⟩ := (HUW.out.below hbl).at_ (i := k) hkR
      obtain ⟨⟨p0, p1, p2, p3⟩, q0, q1⟩ := HR.out _ (getD_mem' (0, 0, 0) hkR)
      simp only at p0 p1 p2 p3
      generalize (R.getD k (0, 0, 0)).1 = x0 at *
      generalize (R.getD k (0, 0, 0)).2.1 = x1 at *
      generalize (R.getD k (0, 0, 0)).2.2 = x2 at *
      have hul := uintL_len10 (foldN_lt (v := x2) (by omega) (by omega))
      have HI := Lib.hid (fun w => int_any x2 w (by omega) (by omega))
      generalize uintL (foldN x2) = U at *
      have HS0 := Lib.hid (show _ ∧ _ ∧ _ ∧ Below wr.heap.size wr (wr.alloc (.cells #[.int .i64 x0, .int .i64 x1, .int .i64 x2] 119)) from
        ⟨(by rw [World.cell?_alloc_at _ _ _ _ rfl]; rfl : (wr.alloc (.cells #[.int .i64 x0, .int .i64 x1, .int .i64 x2] 119)).cell? ⟨wr.heap.size, 0, none⟩ = some (.int .i64 x0)),
         (by rw [World.cell?_alloc_at _ _ _ _ rfl]; rfl : (wr.alloc (.cells #[.int .i64 x0, .int .i64 x1, .int .i64 x2] 119)).cell? ⟨wr.heap.size, 1, none⟩ = some (.int .i64 x1)),
         (by rw [World.cell?_alloc_at _ _ _ _ rfl]; rfl : (wr.alloc (.cells #[.int .i64 x0, .int .i64 x1, .int .i64 x2] 119)).cell? ⟨wr.heap.size, 2, none⟩ = some (.int .i64 x2)), (Below.refl _ _).alloc (Nat.le_refl _) _⟩)
      have HX2 := Lib.hid (show ∀ x ∈ [x0, x1], 0 ≤ x ∧ x ≤ 1099511627776 by simp; omega)
      clear hbl hkR p0 p1 p2 p3 q0 q1
      go_wp2_with fail
      go_region_held3 (fun w' => w'.cell? ⟨wr.heap.size, 0, none⟩ = some (.int .i64 x0) ∧ w'.cell? ⟨wr.heap.size, 1, none⟩ = some (.int .i64 x1) ∧ w'.cell? ⟨wr.heap.size, 2, none⟩ = some (.int .i64 x2) ∧ Below wr.heap.size wr w')
        (first | assumption | exact HS0.out | exact keepB3 (by assumption) ((Below.refl _ _).alloc (Nat.le_refl _) _) | exact keepB3 (by assumption) hbN | exact keepB3 (by assumption) hbI | exact keepB3 (by assumption) (Below.refl _ _).drew)
        (first
          | (go_at_call 214; refine (HNum.out _ [x0, x1] _ (RowG.ofHeap (n := 2) (by first | exact heap_alloc2_new .. | exact heap_alloc_new .. | (simp; done) | exact (hbI.block _ (by simp)).trans (heap_alloc2_new ..)) rfl rfl (by simp)) HX2.out (by simp) (by simp)).mono ?_; rintro e w3 ⟨t2, rfl, ht2, -, hbN⟩; have hg1 : ¬ (t2.length + U.length > 9223372036854775807) := (by simp at ht2; omega); have hg2 : ¬ (t.length + (t2.length + U.length) > 9223372036854775807) := (by simp at ht2; omega))
          | (go_at_call 215; refine (HI.out _).mono ?_; rintro e w4 ⟨rfl, hbI⟩))
      have hF : w4.cell? ⟨wr.heap.size, 0, none⟩ = some (.int .i64 x0) ∧ w4.cell? ⟨wr.heap.size, 1, none⟩ = some (.int .i64 x1) ∧ w4.cell? ⟨wr.heap.size, 2, none⟩ = some (.int .i64 x2) ∧ Below wr.heap.size wr w4 := by assumption
      have HB4 := Lib.hid (HB.out.trans (hF.2.2.2.mono HB.out.size))
      have HTl := Lib.hid (show (t ++ (t2 ++ U)).length ≤ 10 + 30 * (k + 1) by simp at ht2; simp; omega)
      clear hF hbN hbI ht2 hg1 hg2 HS0 hb c0 c1 c2
      go_wp2_with fail
      go_roundw
      case rel => exact ⟨k + 1, _, rfl, by go_num, by omega, HTl.out, HB4.out⟩
      case measure => simp [intOf]; omega
    · have hke : n = k := by omega
      subst hke
      have HTl := Lib.hid htl
      clear hbl htl
      go_wp2_with fail
      go_ret2
      exact ⟨t, rfl, HTl.out, HB1.out.trans (HB.out.mono HB1.out.size)⟩

end Go.Proofs.YtheenlomlmbjaaaGreatDoor

namespace Go.Proofs.YtheenlomlmbjaaaGreatDoor
open Go.RowKit Go.Maps

def recLab (v : Value) : Value := .agg #[.int .i64 0, v, .slice none 0 0, .slice none 0 0, .int .i64 0]
def recRows (u : Value) : Value := .agg #[.int .i64 1, .slice none 0 0, u, .slice none 0 0, .int .i64 0]

set_option maxRecDepth 100000 in
theorem encD_any (e s : Nat) (w : World) (h : w.cell? ⟨e, 0, none⟩ = some (.int .i64 0)) :
    CallsD Tryz.prog 229 #[.pointer (some ⟨e, 0, none⟩), .pointer (some ⟨s, 0, none⟩)] .returning w fun en u' w' => u' = .returning ∧ (en = .returned (.tuple #[]) ∧ w' = w) := by
  go_enter_d Tryz.func229, Tryz.ntmps229
  go_wp2
  go_end0
  exact ⟨rfl, rfl⟩

theorem keepE2 {w W W' : World} {k : Int} {B E J P : Nat} {r : Value} {o : Obj} (h : W.cell? ⟨B, 0, none⟩ = some (.int .i64 k) ∧ W.cell? ⟨B, J, none⟩ = some r ∧ W.cell? ⟨E, 0, none⟩ = some (.int .i64 0) ∧ W.frozen? ⟨E, 0, none⟩ = false ∧ W.heap[P]? = some o ∧ Below w.heap.size w W) (hb : Below W.heap.size W W') :
    W'.cell? ⟨B, 0, none⟩ = some (.int .i64 k) ∧ W'.cell? ⟨B, J, none⟩ = some r ∧ W'.cell? ⟨E, 0, none⟩ = some (.int .i64 0) ∧ W'.frozen? ⟨E, 0, none⟩ = false ∧ W'.heap[P]? = some o ∧ Below w.heap.size w W' :=
  ⟨(hb.cell (World.block_lt_of_cell? W _ h.1)).trans h.1, (hb.cell (World.block_lt_of_cell? W _ h.2.1)).trans h.2.1, (hb.cell (World.block_lt_of_cell? W _ h.2.2.1)).trans h.2.2.1, (hb.frozen (World.block_lt_of_cell? W _ h.2.2.1)).trans h.2.2.2.1, (hb.block _ (lt_of_heap h.2.2.2.2.1)).trans h.2.2.2.2.1, h.2.2.2.2.2.trans (hb.mono h.2.2.2.2.2.size)⟩
theorem keepE2s {w W : World} {k : Int} {B E J P : Nat} {r : Value} {o : Obj} (h : W.cell? ⟨B, 0, none⟩ = some (.int .i64 k) ∧ W.cell? ⟨B, J, none⟩ = some r ∧ W.cell? ⟨E, 0, none⟩ = some (.int .i64 0) ∧ W.frozen? ⟨E, 0, none⟩ = false ∧ W.heap[P]? = some o ∧ Below w.heap.size w W) (hne : E ≠ B) (hPE : P ≠ E) (hE : w.heap.size ≤ E) :
    (W.setCell ⟨E, 0, none⟩ (.int .i64 0)).cell? ⟨B, 0, none⟩ = some (.int .i64 k) ∧ (W.setCell ⟨E, 0, none⟩ (.int .i64 0)).cell? ⟨B, J, none⟩ = some r ∧ (W.setCell ⟨E, 0, none⟩ (.int .i64 0)).cell? ⟨E, 0, none⟩ = some (.int .i64 0) ∧ (W.setCell ⟨E, 0, none⟩ (.int .i64 0)).frozen? ⟨E, 0, none⟩ = false ∧ (W.setCell ⟨E, 0, none⟩ (.int .i64 0)).heap[P]? = some o ∧ Below w.heap.size w (W.setCell ⟨E, 0, none⟩ (.int .i64 0)) :=
  ⟨(World.cell?_setCell_other W ⟨E, 0, none⟩ ⟨B, 0, none⟩ _ (fun e => hne (by injection e))).trans h.1, (World.cell?_setCell_other W ⟨E, 0, none⟩ ⟨B, J, none⟩ _ (fun e => hne (by injection e))).trans h.2.1,
   World.cell?_setCell_same' _ _ _ (by rw [h.2.2.1]; rfl), by rw [World.frozen?_setCell]; exact h.2.2.2.1, (Below.heap_setCell _ _ _ _ hPE).trans h.2.2.2.2.1, h.2.2.2.2.2.setCell hE _⟩
theorem keepE3 {w W W' : World} {k : Int} {B E J : Nat} {r : Value} (h : W.cell? ⟨B, 0, none⟩ = some (.int .i64 k) ∧ W.cell? ⟨B, J, none⟩ = some r ∧ W.cell? ⟨E, 0, none⟩ = some (.int .i64 0) ∧ W.frozen? ⟨E, 0, none⟩ = false ∧ Below w.heap.size w W) (hb : Below W.heap.size W W') :
    W'.cell? ⟨B, 0, none⟩ = some (.int .i64 k) ∧ W'.cell? ⟨B, J, none⟩ = some r ∧ W'.cell? ⟨E, 0, none⟩ = some (.int .i64 0) ∧ W'.frozen? ⟨E, 0, none⟩ = false ∧ Below w.heap.size w W' :=
  ⟨(hb.cell (World.block_lt_of_cell? W _ h.1)).trans h.1, (hb.cell (World.block_lt_of_cell? W _ h.2.1)).trans h.2.1, (hb.cell (World.block_lt_of_cell? W _ h.2.2.1)).trans h.2.2.1, (hb.frozen (World.block_lt_of_cell? W _ h.2.2.1)).trans h.2.2.2.1, h.2.2.2.2.trans (hb.mono h.2.2.2.2.size)⟩
theorem keepE3s {w W : World} {k : Int} {B E J : Nat} {r : Value} (h : W.cell? ⟨B, 0, none⟩ = some (.int .i64 k) ∧ W.cell? ⟨B, J, none⟩ = some r ∧ W.cell? ⟨E, 0, none⟩ = some (.int .i64 0) ∧ W.frozen? ⟨E, 0, none⟩ = false ∧ Below w.heap.size w W) (hne : E ≠ B) (hE : w.heap.size ≤ E) :
    (W.setCell ⟨E, 0, none⟩ (.int .i64 0)).cell? ⟨B, 0, none⟩ = some (.int .i64 k) ∧ (W.setCell ⟨E, 0, none⟩ (.int .i64 0)).cell? ⟨B, J, none⟩ = some r ∧ (W.setCell ⟨E, 0, none⟩ (.int .i64 0)).cell? ⟨E, 0, none⟩ = some (.int .i64 0) ∧ (W.setCell ⟨E, 0, none⟩ (.int .i64 0)).frozen? ⟨E, 0, none⟩ = false ∧ Below w.heap.size w (W.setCell ⟨E, 0, none⟩ (.int .i64 0)) :=
  ⟨(World.cell?_setCell_other W ⟨E, 0, none⟩ ⟨B, 0, none⟩ _ (fun e => hne (by injection e))).trans h.1, (World.cell?_setCell_other W ⟨E, 0, none⟩ ⟨B, J, none⟩ _ (fun e => hne (by injection e))).trans h.2.1,
   World.cell?_setCell_same' _ _ _ (by rw [h.2.2.1]; rfl), by rw [World.frozen?_setCell]; exact h.2.2.2.1, h.2.2.2.2.setCell hE _⟩
theorem keepE3t {w W : World} {k : Int} {B E J P : Nat} {r v : Value} (h : W.cell? ⟨B, 0, none⟩ = some (.int .i64 k) ∧ W.cell? ⟨B, J, none⟩ = some r ∧ W.cell? ⟨E, 0, none⟩ = some (.int .i64 0) ∧ W.frozen? ⟨E, 0, none⟩ = false ∧ Below w.heap.size w W) (h1 : P ≠ B) (h2 : P ≠ E) (hP : w.heap.size ≤ P) :
    (W.setCell ⟨P, 0, none⟩ v).cell? ⟨B, 0, none⟩ = some (.int .i64 k) ∧ (W.setCell ⟨P, 0, none⟩ v).cell? ⟨B, J, none⟩ = some r ∧ (W.setCell ⟨P, 0, none⟩ v).cell? ⟨E, 0, none⟩ = some (.int .i64 0) ∧ (W.setCell ⟨P, 0, none⟩ v).frozen? ⟨E, 0, none⟩ = false ∧ Below w.heap.size w (W.setCell ⟨P, 0, none⟩ v) :=
  ⟨(World.cell?_setCell_other W ⟨P, 0, none⟩ ⟨B, 0, none⟩ _ (fun e => h1 (by injection e))).trans h.1, (World.cell?_setCell_other W ⟨P, 0, none⟩ ⟨B, J, none⟩ _ (fun e => h1 (by injection e))).trans h.2.1,
   (World.cell?_setCell_other W ⟨P, 0, none⟩ ⟨E, 0, none⟩ _ (fun e => h2 (by injection e))).trans h.2.2.1, by rw [World.frozen?_setCell]; exact h.2.2.2.1, h.2.2.2.2.setCell hP _⟩

end Go.Proofs.YtheenlomlmbjaaaGreatDoor

namespace Go.Proofs.YtheenlomlmbjaaaGreatDoor
open Go.RowKit Go.Maps

set_option maxRecDepth 100000 in
set_option maxHeartbeats 4000000 in
attribute [local go_sem ↓] Go.wp_at_zero Go.wp_at_succ in
theorem encLab_any (u : Value) (ls : List L4.Lab) (w : World) (hu : L4.Labels w u ls) (hw : ls.length + L4.wt ls ≤ 1000) (hk : L4.chkL ls = true) (hl : (L4.printL (L4.bodyL ls) true).length ≤ 1000) (hn : 0 < ls.length) :
    Calls Tryz.prog 156 #[recLab u] w fun e w' => ∃ t, e = .returned (.tuple #[.string (bs t), .int .i64 0]) ∧ t.length ≤ (L4.printL (L4.bodyL ls) true).length + 20 ∧ Below w.heap.size w w' := by
  have HU := Lib.hid hu
  have hu' := hu
  obtain ⟨a, c, rfl, -⟩ := hu'
  have HC := Lib.hid (fun w (_ : L4.Labels w (.slice a ls.length c) ls) => checkLab_any a ls.length c w hn (by omega))
  have HW := Lib.hid (fun B w (h : L4.Labels w (.slice a ls.length c) ls) hb => form1_any B _ ls w h hb hw hk hl)
  clear hk hu
  generalize L4.printL (L4.bodyL ls) true = PL at *
  have hl9 : ls.length ≤ 1000 := by omega
  clear hw
  generalize hgen : ls.length = n at *
  have HLN := Lib.hid hgen
  clear hgen
  have HF := Lib.hid (fun w => forms_any w)
  have hmf : ∀ (fn : Fn) (first cap : Array Value) (w : World), (Instr.makeFunc fn first cap).run Tryz.prog w = .ok (.func fn first cap) w := fun _ _ _ _ => rfl
  have hix : ∀ w, (Instr.index 272 formsV (.int .i64 0)).run Tryz.prog w = .ok (.agg #[.func (.func 211) #[] #[], .func (.func 212) #[] #[]]) w := fun _ => by kernel_rfl
  have hfi : ∀ w, (Instr.field 271 (.agg #[.func (.func 211) #[] #[], .func (.func 212) #[] #[]]) 0).run Tryz.prog w = .ok (.func (.func 211) #[] #[]) w := fun _ => by kernel_rfl
  generalize formsV = FV at *
  have HNum := Lib.hid (fun v l w h1 h2 h3 h4 => walNum_any v l w h1 h2 h3 h4)
  unfold recLab
  go_enter_defers Tryz.func156, Tryz.ntmps156
  go_wp2_with fail
  have hw3 := heap3 w (.cells #[.int .i64 0, .slice a n c, .slice none 0 0, .slice none 0 0, .int .i64 0] 107) (.cells #[.string (bs [])] 9) (.cells #[.int .i64 0] 33)
  generalize ((w.alloc (.cells #[.int .i64 0, .slice a n c, .slice none 0 0, .slice none 0 0, .int .i64 0] 107)).alloc (.cells #[.string (bs [])] 9)).alloc (.cells #[.int .i64 0] 33) = W at hw3 ⊢
  obtain ⟨h1, h2, h3, -, h5⟩ := hw3
  have HX1 := Lib.hid h1
  have HX2 := Lib.hid h2
  have HX3 := Lib.hid h3
  have HB := Lib.hid h5
  clear h1 h2 h3 h5
  refine (HC.out W (HU.out.below HB.out)).mono ?_
  rintro e w1 ⟨rfl, hb1⟩
  have HX1' := Lib.hid ((hb1.block _ (lt_of_heap HX1.out)).trans HX1.out)
  have HX2' := Lib.hid ((hb1.block _ (lt_of_heap HX2.out)).trans HX2.out)
  have HX3' := Lib.hid ((hb1.block _ (lt_of_heap HX3.out)).trans HX3.out)
  have HB1 := Lib.hid (HB.out.trans (hb1.mono HB.out.size))
  have HS1 := Lib.hid (show w1.cell? ⟨w.heap.size, 0, none⟩ = some (.int .i64 0) ∧ w1.cell? ⟨w.heap.size, 1, none⟩ = some (.slice a n c) ∧ w1.cell? ⟨w.heap.size + 2, 0, none⟩ = some (.int .i64 0) ∧ w1.frozen? ⟨w.heap.size + 2, 0, none⟩ = false ∧ w1.heap[w.heap.size + 1]? = some (.cells #[.string (bs [])] 9 (0, 0)) ∧ Below w.heap.size w w1 from
    ⟨by rw [Lib.cell_of_heap HX1'.out]; rfl, by rw [Lib.cell_of_heap HX1'.out]; rfl, by rw [Lib.cell_of_heap HX3'.out]; rfl, Lib.frozen_of_heap HX3'.out 0, HX2'.out, HB1.out⟩)
  clear hb1 HX1 HX2 HX3 HC HB
  go_wp2_with fail
  go_region_held3 (fun w' => w'.cell? ⟨w.heap.size, 0, none⟩ = some (.int .i64 0) ∧ w'.cell? ⟨w.heap.size, 1, none⟩ = some (.slice a n c) ∧ w'.cell? ⟨w.heap.size + 2, 0, none⟩ = some (.int .i64 0) ∧ w'.frozen? ⟨w.heap.size + 2, 0, none⟩ = false ∧ w'.heap[w.heap.size + 1]? = some (.cells #[.string (bs [])] 9 (0, 0)) ∧ Below w.heap.size w w')
    (first | assumption | exact HS1.out | exact keepE2 (by assumption) hbF | exact keepE2 (by assumption) hbW | exact keepE2s (by assumption) (by omega) (by omega) (by omega) | exact keepE2 (by assumption) (Below.refl _ _).drew)
    (first
      | (go_at_call 140; refine (HF.out _).mono ?_; rintro e w2 ⟨rfl, hbF⟩)
      | (go_at_call 211; refine (HW.out w.heap.size _ (HU.out.below (And.right (And.right (And.right (And.right (And.right (by assumption))))))) (And.left (And.right (by assumption)))).mono ?_; rintro e w3 ⟨t3, rfl, ht3, hbW⟩))
  have hS3 : (w3.setCell ⟨w.heap.size + 1 + 1, 0, none⟩ (.int .i64 0)).cell? ⟨w.heap.size, 0, none⟩ = some (.int .i64 0) ∧ (w3.setCell ⟨w.heap.size + 1 + 1, 0, none⟩ (.int .i64 0)).cell? ⟨w.heap.size, 1, none⟩ = some (.slice a n c) ∧ (w3.setCell ⟨w.heap.size + 1 + 1, 0, none⟩ (.int .i64 0)).cell? ⟨w.heap.size + 2, 0, none⟩ = some (.int .i64 0) ∧ (w3.setCell ⟨w.heap.size + 1 + 1, 0, none⟩ (.int .i64 0)).frozen? ⟨w.heap.size + 2, 0, none⟩ = false ∧ (w3.setCell ⟨w.heap.size + 1 + 1, 0, none⟩ (.int .i64 0)).heap[w.heap.size + 1]? = some (.cells #[.string (bs [])] 9 (0, 0)) ∧ Below w.heap.size w (w3.setCell ⟨w.heap.size + 1 + 1, 0, none⟩ (.int .i64 0)) := by assumption
  generalize w3.setCell ⟨w.heap.size + 1 + 1, 0, none⟩ (.int .i64 0) = W3 at hS3 ⊢
  have HT3 := Lib.hid ht3
  have ht3' : t3.length ≤ 1000000 := by omega
  have HS3 := Lib.hid hS3
  have HS4 := Lib.hid (show W3.cell? ⟨w.heap.size, 0, none⟩ = some (.int .i64 0) ∧ W3.cell? ⟨w.heap.size, 1, none⟩ = some (.slice a n c) ∧ W3.cell? ⟨w.heap.size + 2, 0, none⟩ = some (.int .i64 0) ∧ W3.frozen? ⟨w.heap.size + 2, 0, none⟩ = false ∧ Below w.heap.size w W3 from ⟨hS3.1, hS3.2.1, hS3.2.2.1, hS3.2.2.2.1, hS3.2.2.2.2.2⟩)
  clear hS3 hbF hbW ht3 HW HF HS1
  have HN4 := Lib.hid (HNum.out (.slice (some ⟨W3.heap.size, 0, none⟩) 1 1) [(0 : Int)] (W3.alloc (.cells #[.int .i64 0] 3)).drew (RowG.ofHeap (heap_alloc_new W3 (.cells #[.int .i64 0] 3)) rfl rfl (by simp)) (by simp) (by simp) (by simp))
  have HG := Lib.hid (fun (t4 : Bytes) (h : t4.length ≤ 10 * [(0 : Int)].length) => show ¬ (t4.length + t3.length > 9223372036854775807) by simp at h; omega)
  have HQ := Lib.hid (fun (w4 : World) (hb : Below (W3.alloc (.cells #[.int .i64 0] 3)).drew.heap.size (W3.alloc (.cells #[.int .i64 0] 3)).drew w4) => show w4.cell? ⟨w.heap.size + 1, 0, none⟩ = some (.string (bs [])) ∧ w4.frozen? ⟨w.heap.size + 1, 0, none⟩ = false by
    have h1 := heap_old (o := .cells #[.int .i64 0] 3) HS3.out.2.2.2.2.1
    have hq := (hb.block _ (lt_of_heap h1)).trans h1
    exact ⟨by rw [Lib.cell_of_heap hq]; rfl, Lib.frozen_of_heap hq 0⟩)
  go_wp2_with fail
  go_region_held3 (fun w' => w'.cell? ⟨w.heap.size, 0, none⟩ = some (.int .i64 0) ∧ w'.cell? ⟨w.heap.size, 1, none⟩ = some (.slice a n c) ∧ w'.cell? ⟨w.heap.size + 2, 0, none⟩ = some (.int .i64 0) ∧ w'.frozen? ⟨w.heap.size + 2, 0, none⟩ = false ∧ Below w.heap.size w w')
    (first | assumption | exact HS4.out | exact keepE3 (by assumption) hbN | exact keepE3 (by assumption) ((Below.refl _ _).alloc (Nat.le_refl _) _) | exact keepE3 (by assumption) (Below.refl _ _).drew | exact keepE3s (by assumption) (by omega) (by omega) | exact keepE3t (by assumption) (by omega) (by omega) (by omega))
    (first
      | (go_at_call 214; refine HN4.out.mono ?_; rintro e w4 ⟨t4, rfl, ht4, -, hbN⟩; have hg1 := HG.out t4 ht4; have s4 := (HQ.out _ hbN).1; have f4 := (HQ.out _ hbN).2))
  have hS5 : ((w4.setCell ⟨w.heap.size + 1, 0, none⟩ (.string (bs (t4 ++ t3)))).setCell ⟨w.heap.size + 1 + 1, 0, none⟩ (.int .i64 0)).cell? ⟨w.heap.size, 0, none⟩ = some (.int .i64 0) ∧ ((w4.setCell ⟨w.heap.size + 1, 0, none⟩ (.string (bs (t4 ++ t3)))).setCell ⟨w.heap.size + 1 + 1, 0, none⟩ (.int .i64 0)).cell? ⟨w.heap.size, 1, none⟩ = some (.slice a n c) ∧ ((w4.setCell ⟨w.heap.size + 1, 0, none⟩ (.string (bs (t4 ++ t3)))).setCell ⟨w.heap.size + 1 + 1, 0, none⟩ (.int .i64 0)).cell? ⟨w.heap.size + 2, 0, none⟩ = some (.int .i64 0) ∧ ((w4.setCell ⟨w.heap.size + 1, 0, none⟩ (.string (bs (t4 ++ t3)))).setCell ⟨w.heap.size + 1 + 1, 0, none⟩ (.int .i64 0)).frozen? ⟨w.heap.size + 2, 0, none⟩ = false ∧ Below w.heap.size w ((w4.setCell ⟨w.heap.size + 1, 0, none⟩ (.string (bs (t4 ++ t3)))).setCell ⟨w.heap.size + 1 + 1, 0, none⟩ (.int .i64 0)) := by assumption
  have hs5 : ((w4.setCell ⟨w.heap.size + 1, 0, none⟩ (.string (bs (t4 ++ t3)))).setCell ⟨w.heap.size + 1 + 1, 0, none⟩ (.int .i64 0)).cell? ⟨w.heap.size + 1, 0, none⟩ = some (.string (bs (t4 ++ t3))) :=
    (World.cell?_setCell_other _ ⟨w.heap.size + 1 + 1, 0, none⟩ ⟨w.heap.size + 1, 0, none⟩ _ (fun e => by injection e with e; omega)).trans (World.cell?_setCell_same' _ _ _ (by rw [s4]; rfl))
  have HTL := Lib.hid (show (t4 ++ t3).length ≤ PL.length + 20 by have := HT3.out; simp at ht4; simp; omega)
  generalize ((w4.setCell ⟨w.heap.size + 1, 0, none⟩ (.string (bs (t4 ++ t3)))).setCell ⟨w.heap.size + 1 + 1, 0, none⟩ (.int .i64 0)) = W5 at hS5 hs5 ⊢
  generalize t4 ++ t3 = T at *
  have HB5 := Lib.hid hS5.2.2.2.2
  have e5 : W5.cell? ⟨w.heap.size + 1 + 1, 0, none⟩ = some (.int .i64 0) := hS5.2.2.1
  clear hS5 s4 f4 hbN ht4 hg1 HQ HG HN4 HS3 HS4
  go_wp2_with fail
  refine leaves_cons (f := 229) (args := #[.pointer (some ⟨w.heap.size + 1 + 1, 0, none⟩), .pointer (some ⟨w.heap.size + 1, 0, none⟩)]) (by simp) (by simp [go_sem]) ?_
  refine (encD_any _ _ _ e5).mono ?_
  rintro e u' w'' ⟨rfl, rfl, rfl⟩
  simp [Leaves, settle, results, Tryz.results156, go_sem, hs5, e5]
  exact ⟨T, rfl, HTL.out, HB5.out⟩

end Go.Proofs.YtheenlomlmbjaaaGreatDoor
