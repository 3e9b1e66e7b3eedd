/-
  engine.change: write.
-/
import Derived.Test.YtheenlomlmbjaaaGreatDoorGChg
set_option linter.unusedSimpArgs false
set_option linter.unusedVariables false
namespace Go.Proofs.YtheenlomlmbjaaaGreatDoor
open Go.RowKit Go.Maps

def StpA (FSb : Bl) (C S : Nat) (v : Value) (n : Nat) (g : Fs) (w : World) (e : Ending) (w' : World) : Prop := e = .returned (.tuple #[]) ∧ ∃ FSb' v' U', StoreL FSb' w' S g 15 ∧ ChP C S v' U' w' ∧ U'.length ≤ n + 1 ∧ Apart FSb' (chF C v') ∧ (∀ k, FSb' k → FSb k ∨ w.heap.size ≤ k) ∧ (∀ k, chF C v' k → chF C v k ∨ w.heap.size ≤ k) ∧ Out (fun k => k = S ∨ chF C v k) w w'
structure WrB (K C S : Nat) (nm : Bytes) (w : World) : Prop where
  c : w.cell? ⟨K, 0, none⟩ = some (.pointer (some ⟨C, 0, none⟩))
  n : w.cell? ⟨K + 1, 0, none⟩ = some (.string (bs nm))
  s : w.cell? ⟨C, 0, none⟩ = some (.pointer (some ⟨S, 0, none⟩))
  e : w.cell? ⟨C, 1, none⟩ = some (.int .i64 0)
theorem WrB.below {K C S : Nat} {nm : Bytes} {w w' : World} (h : WrB K C S nm w) (hb : Below w.heap.size w w') : WrB K C S nm w' := by
  have k : ∀ B i v, w.cell? ⟨B, i, none⟩ = some v → w'.cell? ⟨B, i, none⟩ = some v := fun B i v hv => (hb.cell (p := ⟨B, i, none⟩) (World.block_lt_of_cell? w _ hv)).trans hv
  exact ⟨k _ _ _ h.c, k _ _ _ h.n, k _ _ _ h.s, k _ _ _ h.e⟩
theorem read_or {F : Bl} {S : Nat} {f : Fs} {nm : Bytes} {w : World} (h : StoreL F w S f 15) (hl : nm.length ≤ 100000) :
    ∃ was b, ∀ W, StoreOk W S f 15 → Calls Tryz.prog 27 #[.pointer (some ⟨S, 0, none⟩), .string (bs nm)] W fun e w' => e = .returned (.tuple #[.string (bs was), .bool b]) ∧ W = w' := by
  cases hf : f nm with
  | some d => exact ⟨d, true, fun W hW => readF_yes hW hl hf⟩
  | none => exact ⟨[], false, fun W hW => readF_no hW hl hf⟩
set_option maxRecDepth 100000 in
set_option maxHeartbeats 4000000 in
attribute [local go_sem ↓] Go.wp_at_zero Go.wp_at_succ in
theorem chgWrite_any (FSb : Bl) (C S : Nat) (v : Value) (U : List FnV) (f : Fs) (nm d : Bytes) (w : World) (hs : StoreL FSb w S f 15) (hf : FsOk f) (hc : ChP C S v U w) (hn : U.length < 900) (hap : Apart FSb (chF C v)) (hnm : nm ∈ names15) (hd : d.length ≤ limF nm) :
    Calls Tryz.prog 122 #[.pointer (some ⟨C, 0, none⟩), .string (bs nm), .string (bs d)] w (StpA FSb C S v U.length (setFs f nm d) w) := by
  have HS := Lib.hid hs
  have HC := Lib.hid hc
  have hnl := (names_ok nm hnm).2
  obtain ⟨was, bb, hrd⟩ := read_or hs (nm := nm) (by omega)
  have HRd := Lib.hid hrd
  have hCl := hc.lt
  have HBx := Lib.hid (heap2 w (.cells #[.pointer (some ⟨C, 0, none⟩)] 235) (.cells #[.string (bs nm)] 9))
  have HB := Lib.hid (show Below w.heap.size w ((w.alloc (.cells #[.pointer (some ⟨C, 0, none⟩)] 235)).alloc (.cells #[.string (bs nm)] 9)) from ((Below.refl _ _).alloc (Nat.le_refl _) _).alloc (by simp) _)
  clear hs hc hrd
  go_enter Tryz.func122, Tryz.ntmps122
  go_upto_region 1 with (fail)
  generalize (w.alloc (.cells #[.pointer (some ⟨C, 0, none⟩)] 235)).alloc (.cells #[.string (bs nm)] 9) = W at *
  have HW := Lib.hid (show WrB w.heap.size C S nm W from by
    have h3 := (HB.out.block C hCl).trans HC.out.c
    exact ⟨by rw [cell_of_row W _ _ _ _ _ HBx.out.1]; rfl, by rw [cell_of_row W _ _ _ _ _ HBx.out.2]; rfl, by rw [cell_of_row W _ _ _ _ _ h3]; rfl, by rw [cell_of_row W _ _ _ _ _ h3]; rfl⟩)
  obtain ⟨b0, b1, c0, c1⟩ := HW.out
  have hl1 : w.heap.size + 1 < W.heap.size := lt_of_heap HBx.out.2
  have hl0 : w.heap.size < W.heap.size := by omega
  have hlC : C < W.heap.size := by omega
  go_upto_region 2 with (fail)
  have HRW := Lib.hid (fun (W' : World) (hb : Below W.heap.size W W') => HRd.out W' (HS.out.below (HB.out.trans (hb.mono HB.out.size))).ok)
  go_cut [6, 7] (fun p q wx => ∃ A B, p = .pointer (some ⟨A, 0, none⟩) ∧ q = .pointer (some ⟨B, 0, none⟩) ∧ Below W.heap.size W wx)
  case first =>
    as_aux_lemma =>
    go_region_law (go_simp; go_wp2_with (go_at_call 27; refine (HRW.out _ (by first | exact (Below.refl _ _).drew | exact (Below.refl _ _).drew.alloc (Nat.le_refl _) _ | exact ((Below.refl _ _).drew.alloc (Nat.le_refl _) _).alloc (by simp) _ | exact Below.refl _ _)).mono ?_; rintro e w9 ⟨rfl, rfl⟩))
    all_goals
      (go_wp2_with fail
       go_meet
       first
       | exact ⟨_, _, rfl, rfl, (((Below.refl _ _).alloc (Nat.le_refl _) _).alloc (by simp) _).drew⟩
       | exact ⟨_, _, rfl, rfl, ((Below.refl _ _).alloc (Nat.le_refl _) _).alloc (by simp) _⟩)
  case rest =>
    obtain ⟨A, B, rfl, rfl, hbc⟩ := hcut
    have HB2 := Lib.hid (HB.out.trans (hbc.mono HB.out.size))
    have HW2 := Lib.hid (HW.out.below hbc)
    have HK := Lib.hid (show ¬ FSb w.heap.size ∧ ¬ FSb (w.heap.size + 1) ∧ ¬ FSb C ∧ ¬ chF C v w.heap.size ∧ ¬ chF C v (w.heap.size + 1) from
      ⟨fun e => by have := HS.out.lt _ e; omega, fun e => by have := HS.out.lt _ e; omega, fun e => hap C e (.inl rfl), fun e => by have := HC.out.fLt e; omega, fun e => by have := HC.out.fLt e; omega⟩)
    have HS2 := Lib.hid (HS.out.below HB2.out)
    have HC2 := Lib.hid (HC.out.below HB2.out)
    have HWr := Lib.hid (fun (W' : World) (hb : Below wc.heap.size wc W') => writeF_any FSb S f nm d W' (HS2.out.below hb) hf hnm hd)
    have HDd := Lib.hid (fun (W' : World) (h : ChP C S v U W') => did_any C S v U 199 #[.pointer (some ⟨B, 0, none⟩), .pointer (some ⟨w.heap.size, 0, none⟩), .pointer (some ⟨w.heap.size + 1, 0, none⟩), .pointer (some ⟨A, 0, none⟩)] W' h (by omega))
    have hSC : ¬ chF C v S := fun e => hap S HS.out.s e
    have HS0 := Lib.hid (show wc.drew.cell? ⟨w.heap.size, 0, none⟩ = some (.pointer (some ⟨C, 0, none⟩)) ∧ wc.drew.cell? ⟨w.heap.size + 1, 0, none⟩ = some (.string (bs nm)) ∧ wc.drew.cell? ⟨C, 0, none⟩ = some (.pointer (some ⟨S, 0, none⟩)) from ⟨HW2.out.c, HW2.out.n, HW2.out.s⟩)
    have HSn := Lib.hid (show w.heap.size ≠ S ∧ w.heap.size + 1 ≠ S ∧ C ≠ S from ⟨fun e => HK.out.1 (e ▸ HS.out.s), fun e => HK.out.2.1 (e ▸ HS.out.s), fun e => HK.out.2.2.1 (e ▸ HS.out.s)⟩)
    clear b0 b1 c0 c1 hl0 hl1
    go_upto_region 3 with (fail)
    go_region_held3 (fun w' => w'.cell? ⟨w.heap.size, 0, none⟩ = some (.pointer (some ⟨C, 0, none⟩)) ∧ w'.cell? ⟨w.heap.size + 1, 0, none⟩ = some (.string (bs nm)) ∧ w'.cell? ⟨C, 0, none⟩ = some (.pointer (some ⟨S, 0, none⟩)))
      (first
        | assumption
        | exact HS0.out
        | exact ⟨ho3.cellE HS0.out.1 HSn.out.1, ho3.cellE HS0.out.2.1 HSn.out.2.1, ho3.cellE HS0.out.2.2 HSn.out.2.2⟩
        | exact ⟨ho4.cellE (ho3.cellE HS0.out.1 HSn.out.1) HK.out.2.2.2.1, ho4.cellE (ho3.cellE HS0.out.2.1 HSn.out.2.1) HK.out.2.2.2.2, by rw [cell_of_row w4 _ _ _ _ _ hc4.c]; rfl⟩)
      (first
        | (go_at_call 198; refine (HWr.out _ (by first | exact (Below.refl _ _).drew | exact Below.refl _ _)).mono ?_; rintro e w3 ⟨m3, rfl, hm3, hs3, ho3⟩)
        | (go_at_call 121; refine (HDd.out _ ((HC2.out.below (Below.refl _ _).drew).out ho3 (fun k hk e => hSC (e ▸ hk)))).mono ?_; rintro e w4 ⟨rfl, v4, U4, hc4, hu4, hf4, ho4⟩))
    all_goals
      (have HEnd := Lib.hid (show StpA FSb C S v U.length (setFs f nm d) w (.returned (.tuple #[])) w4 from by
         have hz1 : w.heap.size ≤ wc.heap.size := HB2.out.size
         have hz3 : wc.heap.size ≤ w3.heap.size := ho3.size
         have hm : wc.heap.size ≤ m3 := hm3
         have hml : m3 < w3.heap.size := hs3.lt m3 (.inr rfl)
         refine ⟨rfl, _, v4, U4, hs3.out ho4 (fun k hk hk2 => ?_), hc4, by omega, fun k hk hk2 => ?_, fun k hk => ?_, fun k hk => ?_, ?_⟩
         · rcases hk with hk | rfl
           · exact hap k hk hk2
           · have := HC.out.fLt hk2; omega
         · rcases hf4 k hk2 with h5 | h5
           · rcases hk with hk | rfl
             · exact hap k hk h5
             · have := HC.out.fLt h5; omega
           · rcases hk with hk | rfl
             · have := HS.out.lt k hk; omega
             · omega
         · rcases hk with hk | rfl
           · exact .inl hk
           · exact .inr (by omega)
         · rcases hf4 k hk with h5 | h5
           · exact .inl h5
           · exact .inr (by omega)
         · exact (((Out.of_below (HB2.out.drew)).trans (G := fun k => k = S) ho3 (fun k _ e => .inl e)).trans ho4 (fun k _ e => .inr e)))
       clear hc4 hu4 hf4 ho4 hs3 ho3 hm3
       go_wp2_with fail
       go_end0
       exact HEnd.out)

end Go.Proofs.YtheenlomlmbjaaaGreatDoor
