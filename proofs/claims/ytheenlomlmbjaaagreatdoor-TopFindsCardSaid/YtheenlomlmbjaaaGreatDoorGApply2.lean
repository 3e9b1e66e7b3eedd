/-
  The names of the files that this law writes; a map's entries, counted (plain).
-/
import Derived.Test.YtheenlomlmbjaaaGreatDoorGIdx1
import Derived.Test.YtheenlomlmbjaaaGreatDoorGBlock
import Derived.Test.YtheenlomlmbjaaaGreatDoorTEncR
import Derived.Test.YtheenlomlmbjaaaGreatDoorFNum
import Derived.Test.YtheenlomlmbjaaaGreatDoorFSer
import Derived.Test.YtheenlomlmbjaaaGreatDoorGIn
import Derived.Test.YtheenlomlmbjaaaGreatDoorGFrame
import Derived.Laws.EntriesVeiled
import Derived.Laws.ResultCell
import Derived.Test.YtheenlomlmbjaaaGreatDoorGInt
import Derived.Lib.ConvBytes
import Derived.Test.YtheenlomlmbjaaaGreatDoorFBin
import Derived.Deep.RegionLaw
import Derived.Deep.DeepCutAuto
import Derived.StillTailTactics
set_option linter.unusedSimpArgs false
set_option linter.unusedVariables false
namespace Go.Proofs.YtheenlomlmbjaaaGreatDoor
open Go.RowKit Go.Maps

theorem OMap.shrink {P : Program} {k : TypeId} {w : World} {b n m : Nat} {D : DataW Value} (h : OMap P k w b n D) (hs : Maps.size D ≤ m) : OMap P k w b m D := by
  obtain ⟨es, clock, hb, F, _, rfl⟩ := h
  refine ⟨es, clock, hb, F, ?_, rfl⟩
  rw [Maps.size_eq, length_sorted] at hs
  simpa using hs
theorem len_le_of {l : List Bytes} : ∀ {L : List Bytes}, l.Pairwise (· ≠ ·) → (∀ x ∈ l, x ∈ L) → l.length ≤ L.length := by
  induction l with
  | nil => intro L _ _; exact Nat.zero_le _
  | cons x l ih =>
    intro L hp hs
    have hp' := List.pairwise_cons.1 hp
    have hx := hs x (List.mem_cons_self ..)
    have h1 := ih (L := L.erase x) hp'.2 (fun y hy => (List.mem_erase_of_ne (fun e => hp'.1 y hy e.symm)).2 (hs y (List.mem_cons_of_mem _ hy)))
    rw [List.length_erase_of_mem hx] at h1
    have := List.length_pos_of_mem hx
    simp only [List.length_cons]
    omega
def fileN (k : Nat) : Bytes := if k < 10 then [102, UInt8.ofNat (48 + k)] else [102, 49, UInt8.ofNat (38 + k)]
def manNm : Bytes := [109, 97, 110, 105, 102, 101, 115, 116]
def idxNm : Bytes := [105, 110, 100, 101, 120]
def names15 : List Bytes := walNm :: manNm :: idxNm :: (List.range 12).map fileN
theorem names_ok : ∀ nm ∈ names15, nameOk nm = true ∧ nm.length ≤ 16 := by decide +kernel
theorem fileN_in {k : Nat} (h : k < 12) : fileN k ∈ names15 := by
  unfold names15
  refine List.mem_cons_of_mem _ (List.mem_cons_of_mem _ (List.mem_cons_of_mem _ (List.mem_map.2 ⟨k, List.mem_range.2 h, rfl⟩)))
theorem wal_in : walNm ∈ names15 := List.mem_cons_self ..
theorem man_in : manNm ∈ names15 := List.mem_cons_of_mem _ (List.mem_cons_self ..)
theorem idx_in : idxNm ∈ names15 := List.mem_cons_of_mem _ (List.mem_cons_of_mem _ (List.mem_cons_self ..))
def FsOk (f : Fs) : Prop := ∀ nm d, f nm = some d → nm ∈ names15 ∧ d.length ≤ limF nm
theorem FsOk.start : FsOk (fun _ => none) := fun nm d h => by cases h
theorem FsOk.set {f : Fs} (h : FsOk f) {nm d : Bytes} (hn : nm ∈ names15) (hd : d.length ≤ limF nm) : FsOk (setFs f nm d) := fun x y hx => by
  unfold setFs at hx
  split at hx
  · rename_i e; subst e; cases hx; exact ⟨hn, hd⟩
  · exact h x y hx
theorem FsOk.del {f : Fs} (h : FsOk f) (nm : Bytes) : FsOk (delFs f nm) := fun x y hx => by
  unfold delFs at hx
  split at hx
  · cases hx
  · exact h x y hx
theorem FsOk.lim {f : Fs} (h : FsOk f) : ∀ nm d, f nm = some d → nm.length ≤ 16 ∧ d.length ≤ limF nm := fun nm d hd => ⟨(names_ok nm (h nm d hd).1).2, (h nm d hd).2⟩
theorem strKeys_size {D : DataW Value} (h : Maps.IsMap D) : (strKeys D).length = Maps.size D := by
  obtain ⟨es, rfl⟩ := h
  simp [strKeys, Maps.size]
theorem FsD.n15 {f : Fs} {N : Nat} {D : DataW Value} (h : FsD f N D) (hf : FsOk f) : FsD f 15 D := by
  refine ⟨h.tidy, h.keys, h.at_, ?_⟩
  obtain ⟨_, h2, h3⟩ := h.names
  rw [← strKeys_size h.tidy.isMap]
  refine Nat.le_trans (len_le_of h2 (L := names15) fun x hx => ?_) (by decide)
  obtain ⟨d, hd⟩ := h3 x hx
  exact (hf x d hd).1

end Go.Proofs.YtheenlomlmbjaaaGreatDoor

namespace Go.Proofs.YtheenlomlmbjaaaGreatDoor
open Go.RowKit Go.Shelf

attribute [local go_sem] Oper.semAt_some

def EncI (N B : Nat) (pre : List (Nat × Nat)) (W : World) : Prop :=
  ∃ v1 v2, Boxed W B 404 v1 ∧ Boxed W (B + 1) 404 v2 ∧ OwnR 62 1 encN W N v1 (pre.map (·.1)) ∧ OwnR 62 1 encN W N v2 (pre.map (·.2)) ∧ (v1.ownBlock = none ∨ v1.ownBlock ≠ v2.ownBlock)
theorem encI_own (N B : Nat) : Own (EncI N B) := by
  rintro pre X Y row ⟨v1, v2, b1, b2, o1, o2, hd⟩ hg hrow
  obtain ⟨_, b1', o1', rfl⟩ := holdsRow_own N B 404 62 1 (fun _ : List (Nat × Nat) => (pre.map Prod.fst).length) (fun _ => (pre.map Prod.fst).flatMap encN) (fun _ v => v = v1) pre X Y row ⟨v1, b1, o1, rfl⟩ hg hrow
  obtain ⟨_, b2', o2', rfl⟩ := holdsRow_own N (B + 1) 404 62 1 (fun _ : List (Nat × Nat) => (pre.map Prod.snd).length) (fun _ => (pre.map Prod.snd).flatMap encN) (fun _ v => v = v2) pre X Y row ⟨v2, b2, o2, rfl⟩ hg hrow
  exact ⟨_, _, b1', b2', o1', o2', hd⟩
theorem encI_start {N B : Nat} {W : World} (h1 : Boxed W B 404 (.slice none 0 0)) (h2 : Boxed W (B + 1) 404 (.slice none 0 0)) : EncI N B [] W :=
  ⟨_, _, h1, h2, OwnR.nil _ _, OwnR.nil _ _, .inl rfl⟩
def EncR (N B : Nat) (w W w' : World) : Prop := KeepsFrom N W w' ∧ ButX N (fun k => k = B ∨ k = B + 1) W w' ∧ Below w.heap.size w w' ∧ N ≤ w'.heap.size
theorem encR_start {N B : Nat} {w W : World} (hN : N ≤ W.heap.size) (hB : Below w.heap.size w W) : EncR N B w W W.drew :=
  ⟨(KeepsOthers.drew W).from _, ButX.own ((Below.refl _ W).drew), hB.drew, hN⟩
theorem encR_step {N B : Nat} {w W w' : World} (hw : w.heap.size ≤ B) (hB : B < N ∧ B + 1 < N) (h : EncR N B w W w') :
    N ≤ w'.heap.size ∧ (∀ o, EncR N B w W (w'.alloc o)) ∧ (∀ w'' u, w'.grownBy w'' u → (∀ k, u = some k → N ≤ k ∧ ∃ o : Obj, w'.heap[k]? = some o ∧ o.isCells = true) → EncR N B w W w'') ∧
      (∀ y, EncR N B w W (w'.setCell ⟨B, 0, none⟩ y)) ∧ (∀ y, EncR N B w W (w'.setCell ⟨B + 1, 0, none⟩ y)) := by
  obtain ⟨h1, h2, h3, h4⟩ := h
  have hset : ∀ b y, b < N → (b = B ∨ b = B + 1) → w.heap.size ≤ b → EncR N B w W (w'.setCell ⟨b, 0, none⟩ y) := fun b y hb hx hwb => by
    refine ⟨h1.trans ((KeepsOthers.setCell _ _ _).from _), h2.trans ⟨by simp [World.setCell], fun k hk hnx _ => Below.heap_setCell _ _ _ _ (fun e => hnx ?_)⟩, h3.setCell (p := ⟨b, 0, none⟩) hwb _, by simpa [World.setCell] using h4⟩
    have e' : k = b := e
    rw [e']; exact hx
  refine ⟨h4, fun o => ?_, fun w'' u hg hu => ?_, fun y => hset B y hB.1 (.inl rfl) hw, fun y => hset (B + 1) y hB.2 (.inr rfl) (by omega)⟩
  · exact ⟨h1.trans ((KeepsOthers.alloc _ _).from _), h2.trans (ButX.own ((Below.refl _ _).alloc (Nat.le_refl _) _)), h3.alloc h3.size _, by simp; omega⟩
  · refine ⟨h1.trans ((KeepsOthers.of_grownBy hg fun j o e ho => ?_).from _), h2.trans ⟨hg.size, fun k hk _ hkl => hg.block k hkl (fun e => ?_)⟩, h3.grown hg h3.size (fun k e => ?_), Nat.le_trans h4 hg.size⟩
    · obtain ⟨-, o', ho', hc⟩ := hu j e
      rw [ho] at ho'; cases ho'; exact hc
    · have := (hu k e.symm).1; omega
    · have := (hu k e).1; omega
theorem keepB2 {B : Nat} {c0 c1 : Value} {w w' : World} (h : w.cell? ⟨B, 0, none⟩ = some c0 ∧ w.cell? ⟨B + 1, 0, none⟩ = some c1) (hb : Below w.heap.size w w') :
    w'.cell? ⟨B, 0, none⟩ = some c0 ∧ w'.cell? ⟨B + 1, 0, none⟩ = some c1 := by
  have hlt : B < w.heap.size := World.block_lt_of_cell? w _ h.1
  have hlt2 : B + 1 < w.heap.size := World.block_lt_of_cell? w _ h.2
  exact ⟨(hb.cell (p := ⟨B, 0, none⟩) hlt).trans h.1, (hb.cell (p := ⟨B + 1, 0, none⟩) hlt2).trans h.2⟩
theorem bitsE_le {ba bb : Nat} (ha : ba ≤ 40) (hb : bb ≤ 40) : ∀ l : List (Nat × Nat), (bitsE ba bb l).length ≤ 176 * l.length
  | [] => by simp [bitsE]
  | x :: l => by
    have ih := bitsE_le ha hb l
    have e : bitsE ba bb (x :: l) = (riceB x.1 ba ++ riceB x.2 bb) ++ bitsE ba bb l := rfl
    rw [e, List.length_append, List.length_append, riceB_len, riceB_len, List.length_cons]
    have h1 := riceC_le x.1 ba ha
    have h2 := riceC_le x.2 bb hb
    omega
theorem Wt.wrBelow {b : Nat} {v v' : Value} {B : List Bool} {w w' : World} (h : Wt b v B w) (hw : Wr b v v' w w') : Below b w w' := by
  obtain ⟨l, left, many, hbw, _⟩ := h
  exact hbw.wrBelow hw (Nat.le_refl b)
theorem Wt.packed {b : Nat} {v : Value} {B : List Bool} {w : World} (h : Wt b v B w) : Packed (packB B) B := by
  obtain ⟨l, left, many, _, hmany, hleft, rfl, _⟩ := h
  by_cases h0 : many = 0
  · subst h0
    have hp : Packed l (bitsOf l ++ toB left 0) := ⟨0, by omega, by simp [toB]⟩
    rw [← hp.is]; exact hp
  · obtain ⟨hp, _⟩ := packed_last (l := l) hmany (by omega) hleft
    rw [← hp.is]; exact hp
theorem packed_len {P : Bytes} {B : List Bool} (h : Packed P B) : 8 * P.length ≤ B.length + 7 ∧ B.length ≤ 8 * P.length := by
  obtain ⟨p, hp, e⟩ := h
  have := congrArg List.length e
  rw [bitsOf_len, List.length_append, List.length_replicate] at this
  omega
theorem Wt.below {b : Nat} {v : Value} {B : List Bool} {w w' : World} (h : Wt b v B w) (hw : Below w.heap.size w w') : Wt b v B w' := by
  obtain ⟨l, left, many, hbw, r⟩ := h
  exact ⟨l, left, many, hbw.below hw, r⟩
theorem cv2_after {w : World} {K : Nat} {x y : Int} (h : w.heap[K]? = some (.cells #[.int .u8 x, .int .u8 y] 5 (0, 0))) :
    (convert 22 9 (.slice (some ⟨K, 0, none⟩) 2 2)).run Tryz.prog w = .ok (.string (bs [UInt8.ofNat x.toNat, UInt8.ofNat y.toNat])) w := by
  rw [run_convert_bytes_string w _ _ 5 _ _ _ Tryz.underlying22 Tryz.underlying5 Tryz.underlying9, run_bytesToString w ⟨K, 0, none⟩ 2 2 [x, y] ?_]
  · rfl
  · exact run_loadCells_list w ⟨K, 0, none⟩ [.int .u8 x, .int .u8 y] (fun j u hj => by
      have hadd : (⟨K, 0, none⟩ : Addr).add j = ⟨K, j, none⟩ := by unfold Addr.add; split <;> simp_all
      rw [hadd, Lib.cell_of_heap h]
      match j, hj with
      | 0, hj => simp at hj; subst hj; rfl
      | 1, hj => simp at hj; subst hj; rfl
      | j + 2, hj => simp at hj)
theorem kept_rowT {b : Nat} {v : Value} {B : List Bool} {w w2 : World} {o : Obj} (ht : Wt b v B w) {W : World} (h2 : Wr b v v W w2) (hW : W.heap[w.heap.size]? = some o) : w2.heap[w.heap.size]? = some o := by
  obtain ⟨l, left, many, hbw, r⟩ := ht
  exact kept_row hbw h2 hW
theorem fin_below {b : Nat} {v : Value} {B : List Bool} {w W w2 : World} (ht : Wt b v B w) (hW : Below w.heap.size w W) (h2 : Wr b v v W w2) : Below b w w2 := by
  have hb : b < w.heap.size := by obtain ⟨l, left, many, hbw, _⟩ := ht; exact hbw.lt
  exact (hW.mono (Nat.le_of_lt hb)).trans ((ht.below hW).wrBelow h2)
theorem byte_small (x : Nat) (h : x ≤ 40) : UInt8.ofNat (IntKind.u8.wrap (x : Int)).toNat = UInt8.ofNat x := by
  rw [IntKind.wrap_u8, show ((x : Int) % 256).toNat = x by omega]
end Go.Proofs.YtheenlomlmbjaaaGreatDoor

namespace Go.Proofs.YtheenlomlmbjaaaGreatDoor
open Go.RowKit Go.Shelf

attribute [local go_sem] Oper.semAt_some

def tsG (l : List Smp) : List Nat := (prsG l (l.length - 1)).map (·.1)
def vsG (l : List Smp) : List Nat := (prsG l (l.length - 1)).map (·.2)
noncomputable def restG (l : List Smp) : Bytes :=
  [UInt8.ofNat (bestL (tsG l)), UInt8.ofNat (bestL (vsG l))] ++ packB (bitsE (bestL (tsG l)) (bestL (vsG l)) (prsG l (l.length - 1)))
noncomputable def encG (l : List Smp) : Bytes :=
  if l.length = 0 then uintL 0 else uintL l.length ++ (uintL (l.getD 0 (0, 0)).1.toNat ++ uintL (foldN (l.getD 0 (0, 0)).2)) ++ (if l.length < 2 then [] else restG l)

set_option maxRecDepth 100000 in
set_option maxHeartbeats 4000000 in
attribute [local go_sem ↓] Go.wp_at_zero Go.wp_at_succ in
theorem encG_small (vv : Value) (n : Nat) (l : List Smp) (w : World) (hv : Samples w vv l) (hln : l.length = n) (hL : LOk l) (hn : n < 2) :
    Calls Tryz.prog 259 #[vv] w fun e w' => e = .returned (.tuple #[.string (bs (encG l)), .int .i64 0]) ∧ Below w.heap.size w w' := by
  obtain ⟨a, cap, rfl, hnc, hcm⟩ : ∃ a cap, vv = .slice a n cap ∧ n ≤ cap ∧ cap ≤ 9223372036854775807 := by
    obtain ⟨a, cap, h1, h2, h3, _⟩ := hv
    rw [hln] at h1 h2
    exact ⟨a, cap, h1, h2, h3⟩
  have HV := Lib.hid hv
  have HL := Lib.hid hL
  clear hv hL
  go_enter Tryz.func259, Tryz.ntmps259
  go_wp2_with fail
  go_loopw [22, 4] (fun x y wr => ∃ (k : Nat) (last : Int), x = .int .i64 k ∧ k ≤ n ∧ y = .int .i64 last ∧ -1 ≤ last ∧ last < 100000 ∧ Hid (∀ h : k < n, last < (l.getD k (0, 0)).1) ∧ Below w.heap.size w wr)
    (fun x y wr => n - (intOf x).toNat)
  case atStart => exact ⟨0, -1, rfl, Nat.zero_le _, rfl, by omega, by omega, Lib.hid (fun h => by have := HL.out.t0 0 (by omega); omega), Below.refl _ _⟩
  case round =>
    obtain ⟨k, last, rfl, hk, rfl, hl0, hl2, HLS, hbl⟩ := hrel
    have HB := Lib.hid hbl
    have HV1 := Lib.hid (HV.out.below hbl)
    clear hbl
    by_cases hlt : k < n
    · obtain ⟨b, off, rfl, hbs, c0, c1⟩ := HV1.out.at_ (i := k) (by omega)
      have hl1 := HLS.out hlt
      have ht := HL.out.t0 k (by omega)
      have HNx := Lib.hid (show ∀ h : k + 1 < n, (l.getD k (0, 0)).1 < (l.getD (k + 1) (0, 0)).1 from fun h => HL.out.rise k (by omega))
      generalize (l.getD k (0, 0)).1 = x0 at *
      generalize (l.getD k (0, 0)).2 = x1 at *
      go_wp2_with fail
      go_roundw
      case rel => exact ⟨k + 1, x0, by go_num, by omega, rfl, by omega, by omega, HNx, HB.out.alloc HB.out.size _⟩
      case measure => simp [intOf]; omega
    · have hke : n = k := by omega
      subst hke
      clear hl0 hl2 HLS
      go_wp2_with fail
      refine (uint_any n _ (by omega)).mono ?_
      rintro e w1 ⟨rfl, b1⟩
      have HB1 := Lib.hid (HB.out.trans (b1.mono HB.out.size))
      have HV2 := Lib.hid (HV1.out.below b1)
      clear b1 HV1 HB
      by_cases h0 : n = 0
      · subst h0
        go_wp2_with fail
        go_ret2
        exact ⟨by unfold encG; rw [if_pos hln]; rfl, HB1.out⟩
      · obtain ⟨b, off, rfl, hbs, c0, c1⟩ := HV2.out.at_ (i := 0) (by omega)
        simp only [Nat.zero_mul, Nat.add_zero] at c0 c1
        have hlt0 : (0 : Int) < n := by omega
        have HEn := Lib.hid (show encG l = uintL n ++ (uintL (l.getD 0 (0, 0)).1.toNat ++ uintL (foldN (l.getD 0 (0, 0)).2)) by unfold encG; rw [hln, if_neg h0, if_pos hn, List.append_nil])
        obtain ⟨t0, ht0⟩ : ∃ t0 : Nat, (l.getD 0 (0, 0)).1 = t0 := ⟨(l.getD 0 (0, 0)).1.toNat, by have := HL.out.t0 0 (by omega); omega⟩
        have htb := HL.out.t0 0 (by omega)
        have hvb := HL.out.v0 0 (by omega)
        rw [ht0] at c0 HEn htb
        rw [Int.toNat_natCast] at HEn
        generalize (l.getD 0 (0, 0)).2 = v at *
        have hv0 : -9223372036854775808 ≤ v := by omega
        have hv1 : v ≤ 9223372036854775807 := by omega
        have hwt : IntKind.u64.wrap (t0 : Int) = t0 := by rw [IntKind.wrap_u64]; omega
        have hu0 := uintL_len10 (n := t0) (by omega)
        have hun := uintL_len10 (n := n) (by omega)
        have huv := uintL_len10 (foldN_lt hv0 hv1)
        have hg1 : ¬ ((uintL t0).length + (uintL (foldN v)).length > 9223372036854775807) := by omega
        have hg2 : ¬ ((uintL n).length + (uintL t0 ++ uintL (foldN v)).length > 9223372036854775807) := by rw [List.length_append]; omega
        have hg3 : ¬ ((uintL n).length + ((uintL t0).length + (uintL (foldN v)).length) > 9223372036854775807) := by omega
        have htl : t0 < 18446744073709551616 := by omega
        clear hu0 hun huv ht0 htb hvb
        go_wp2_with fail
        go_region_held3 (fun w' => w'.cell? ⟨b, off, none⟩ = some (.int .i64 t0) ∧ w'.cell? ⟨b, off + 1, none⟩ = some (.int .i64 v)) (first | exact keepT (by assumption) hb2 | exact keepT (by assumption) hb1 | go_keep)
          (first
            | (go_at_call 86; refine (uint_any t0 _ htl).mono ?_; rintro e w2 ⟨rfl, hb1⟩)
            | (go_at_call 215; refine (int_any v _ hv0 hv1).mono ?_; rintro e w3 ⟨rfl, hb2⟩))
        have HB3 := Lib.hid (HB1.out.drew.trans (hb1.mono HB1.out.size))
        have HB4 := Lib.hid (HB3.out.trans (hb2.mono HB3.out.size))
        obtain rfl : n = 1 := by omega
        go_wp2_with fail
        go_ret2
        exact ⟨by rw [HEn.out]; rfl, HB4.out⟩

end Go.Proofs.YtheenlomlmbjaaaGreatDoor

namespace Go.Proofs.YtheenlomlmbjaaaGreatDoor
open Go.RowKit Go.Shelf

attribute [local go_sem] Oper.semAt_some

theorem packed_anyG (B : List Bool) : Packed (packB B) B := by
  have h : ∀ (k : Nat) (B : List Bool), B.length ≤ 8 * k → ∃ P, Packed P B := by
    intro k
    induction k with
    | zero =>
      intro B hB
      have : B = [] := List.eq_nil_of_length_eq_zero (by omega)
      subst this
      exact ⟨[], 0, by omega, rfl⟩
    | succ k ih =>
      intro B hB
      by_cases h8 : 8 < B.length
      · obtain ⟨P, pad, hp, e⟩ := ih (B.drop 8) (by rw [List.length_drop]; omega)
        refine ⟨UInt8.ofNat (ofB (B.take 8)) :: P, pad, hp, ?_⟩
        show toB (UInt8.ofNat (ofB (B.take 8))).toNat 8 ++ bitsOf P = _
        have hl : (B.take 8).length = 8 := by rw [List.length_take]; omega
        have hlt := ofB_lt (B.take 8)
        rw [hl] at hlt
        have ht := toB_ofB (B.take 8)
        rw [hl] at ht
        rw [UInt8.toNat_ofNat_of_lt' (by show _ < 256; omega), ht, e, ← List.append_assoc, List.take_append_drop]
      · by_cases h0 : B.length = 0
        · have : B = [] := List.eq_nil_of_length_eq_zero h0
          subst this
          exact ⟨[], 0, by omega, rfl⟩
        · obtain ⟨hp, _⟩ : Packed ([] ++ [UInt8.ofNat (ofB (B ++ List.replicate (8 - B.length) false))]) B ∧ True := by
            refine ⟨⟨8 - B.length, by omega, ?_⟩, trivial⟩
            have hl : (B ++ List.replicate (8 - B.length) false).length = 8 := by rw [List.length_append, List.length_replicate]; omega
            have hlt := ofB_lt (B ++ List.replicate (8 - B.length) false)
            rw [hl] at hlt
            have ht := toB_ofB (B ++ List.replicate (8 - B.length) false)
            rw [hl] at ht
            rw [List.nil_append, bitsOf_one, UInt8.toNat_ofNat_of_lt' (by show _ < 256; omega), ht]
          exact ⟨_, hp⟩
  obtain ⟨P, hP⟩ := h B.length B (by omega)
  rw [← hP.is]; exact hP
theorem packB_len8 (B : List Bool) : 8 * (packB B).length ≤ B.length + 7 := (packed_len (packed_anyG B)).1

theorem tsG_lt {l : List Smp} (h : LOk l) : ∀ x ∈ tsG l, x < 18446744073709551616 := by
  intro x hx
  unfold tsG prsG at hx
  simp only [List.map_map, List.mem_map, List.mem_range, Function.comp] at hx
  obtain ⟨i, hi, rfl⟩ := hx
  exact (prG_lt h (k := i) (by omega)).1
theorem vsG_lt {l : List Smp} (h : LOk l) : ∀ x ∈ vsG l, x < 18446744073709551616 := by
  intro x hx
  unfold vsG prsG at hx
  simp only [List.map_map, List.mem_map, List.mem_range, Function.comp] at hx
  obtain ⟨i, hi, rfl⟩ := hx
  exact (prG_lt h (k := i) (by omega)).2
theorem encG_big' {l : List Smp} (h : 2 ≤ l.length) :
    encG l = uintL l.length ++ (uintL (l.getD 0 (0, 0)).1.toNat ++ uintL (foldN (l.getD 0 (0, 0)).2)) ++ ([UInt8.ofNat (bestL (tsG l)), UInt8.ofNat (bestL (vsG l))] ++ packB (bitsE (bestL (tsG l)) (bestL (vsG l)) (prsG l (l.length - 1)))) := by
  unfold encG restG
  rw [if_neg (by omega), if_neg (by omega)]
theorem bitsG_snoc (ba bb : Nat) (l : List Smp) (k : Nat) : bitsE ba bb (prsG l (k + 1)) = bitsE ba bb (prsG l k) ++ riceB (prG l k).1 ba ++ riceB (prG l k).2 bb := by
  rw [prsG_succ]
  unfold bitsE
  rw [List.flatMap_append]
  simp
theorem tsG_get {l : List Smp} {n k : Nat} (hn : l.length = n) (h : k < n - 1) : (tsG l).getD k 0 = (prG l k).1 := by
  subst hn
  simp [tsG, prsG, List.getD, List.getElem?_map, List.getElem?_range h]
theorem vsG_get {l : List Smp} {n k : Nat} (hn : l.length = n) (h : k < n - 1) : (vsG l).getD k 0 = (prG l k).2 := by
  subst hn
  simp [vsG, prsG, List.getD, List.getElem?_map, List.getElem?_range h]
theorem tsG_len {l : List Smp} {n : Nat} (hn : l.length = n) : (tsG l).length = n - 1 := by unfold tsG; rw [List.length_map, prsG_len, hn]
theorem vsG_len {l : List Smp} {n : Nat} (hn : l.length = n) : (vsG l).length = n - 1 := by unfold vsG; rw [List.length_map, prsG_len, hn]
theorem tsG_eq {l : List Smp} {n : Nat} (hn : l.length = n) : (prsG l (n - 1)).map (·.1) = tsG l := by subst hn; rfl
theorem vsG_eq {l : List Smp} {n : Nat} (hn : l.length = n) : (prsG l (n - 1)).map (·.2) = vsG l := by subst hn; rfl
theorem encG_boxes {w3 w4 : World} {b off n cap : Nat} {l : List Smp}
    (h : w4 = ((w3.alloc (.cells #[.slice none 0 0] 404)).alloc (.cells #[.slice none 0 0] 404)).alloc (.cells #[.slice (some ⟨b, off, none⟩) n cap] 47))
    (hs : Samples w3 (.slice (some ⟨b, off, none⟩) n cap) l) (hln : l.length = n) (hn : 0 < n) :
    Below w3.heap.size w3 w4 ∧ Boxed w4 w3.heap.size 404 (.slice none 0 0) ∧ Boxed w4 (w3.heap.size + 1) 404 (.slice none 0 0) ∧ w4.heap.size = w3.heap.size + 3 ∧
      NSeenG w4.heap.size (fun k => k = w3.heap.size ∨ k = w3.heap.size + 1) w4 (w3.heap.size + 1 + 1) b off cap n l := by
  subst h
  have hb : Below w3.heap.size w3 (((w3.alloc (.cells #[.slice none 0 0] 404)).alloc (.cells #[.slice none 0 0] 404)).alloc (.cells #[.slice (some ⟨b, off, none⟩) n cap] 47)) :=
    (((Below.refl _ _).alloc (Nat.le_refl _) _).alloc (by simp) _).alloc (by simp; omega) _
  have e3 : (((w3.alloc (.cells #[.slice none 0 0] 404)).alloc (.cells #[.slice none 0 0] 404)).alloc (.cells #[.slice (some ⟨b, off, none⟩) n cap] 47)).heap[w3.heap.size + 1 + 1]? = some (.cells #[.slice (some ⟨b, off, none⟩) n cap] 47 (0, 0)) := by
    have := heap_alloc_new ((w3.alloc (.cells #[.slice none 0 0] 404)).alloc (.cells #[.slice none 0 0] 404)) (.cells #[.slice (some ⟨b, off, none⟩) n cap] 47)
    simpa using this
  refine ⟨hb, ?_, ?_, by simp, ⟨by simp, by omega, ?_⟩, hs.below hb, ?_⟩
  · exact ((Boxed.new w3 _ _).alloc _).alloc _
  · have := (Boxed.new (w3.alloc (.cells #[.slice none 0 0] 404)) 404 (.slice none 0 0)).alloc (.cells #[.slice (some ⟨b, off, none⟩) n cap] 47)
    simpa using this
  · rw [Lib.cell_of_heap e3]; rfl
  · obtain ⟨b', off', hb', hlt, _, h1⟩ := hs.at_ (i := 0) (by omega)
    simp only [Option.some.injEq, Addr.mk.injEq, and_true] at hb'
    obtain ⟨rfl, rfl⟩ := hb'
    exact ⟨by simp; omega, by omega⟩

set_option maxRecDepth 100000 in
set_option maxHeartbeats 4000000 in
attribute [local go_sem ↓] Go.wp_at_zero Go.wp_at_succ in
theorem encG_big (vv : Value) (n : Nat) (l : List Smp) (w : World) (hv : Samples w vv l) (hln : l.length = n) (hL : LOk l) (hn2 : 2 ≤ n) :
    Calls Tryz.prog 259 #[vv] w fun e w' => e = .returned (.tuple #[.string (bs (encG l)), .int .i64 0]) ∧ Below w.heap.size w w' := by
  obtain ⟨a, cap, rfl, hnc, hcm⟩ : ∃ a cap, vv = .slice a n cap ∧ n ≤ cap ∧ cap ≤ 9223372036854775807 := by
    obtain ⟨a, cap, h1, h2, h3, _⟩ := hv
    rw [hln] at h1 h2
    exact ⟨a, cap, h1, h2, h3⟩
  have HV := Lib.hid hv
  have HLK := Lib.hid hL
  have hn : n ≤ 1000 := by rw [← hln]; exact hL.len
  clear hv hL
  refine (callsIn_wide (n := 5)).1 ?_
  refine callsIn_of_wp_marks Tryz.func259 rfl trivial ?_ rfl
  simp only [Tryz.ntmps259, List.size_toArray, List.length_cons, List.length_nil, Nat.reduceAdd, Nat.reduceSub, Array.replicate_succ, Array.replicate_zero, List.push_toArray, List.append_toArray, List.nil_append, List.cons_append]
  refine (wpIn_wide (n := 5)).2 ?_
  go_wp2_with fail
  go_loopw [22, 4] (fun x y wr => ∃ (k : Nat) (last : Int), x = .int .i64 k ∧ k ≤ n ∧ y = .int .i64 last ∧ -1 ≤ last ∧ last < 100000 ∧ Hid (∀ h : k < n, last < (l.getD k (0, 0)).1) ∧ Below w.heap.size w wr)
    (fun x y wr => n - (intOf x).toNat)
  case atStart => exact ⟨0, -1, rfl, Nat.zero_le _, rfl, by omega, by omega, Lib.hid (fun h => by have := HLK.out.t0 0 (by omega); omega), Below.refl _ _⟩
  case round =>
    obtain ⟨k, last, rfl, hk, rfl, hl0, hl2, HLS, hbl⟩ := hrel
    have HB := Lib.hid hbl
    have HV1 := Lib.hid (HV.out.below hbl)
    clear hbl
    by_cases hlt : k < n
    · obtain ⟨b, off, rfl, hbs, c0, c1⟩ := HV1.out.at_ (i := k) (by omega)
      have hl1 := HLS.out hlt
      have ht := HLK.out.t0 k (by omega)
      have HNx := Lib.hid (show ∀ h : k + 1 < n, (l.getD k (0, 0)).1 < (l.getD (k + 1) (0, 0)).1 from fun h => HLK.out.rise k (by omega))
      generalize (l.getD k (0, 0)).1 = x0 at *
      generalize (l.getD k (0, 0)).2 = x1 at *
      go_wp2_with fail
      go_roundw
      case rel => exact ⟨k + 1, x0, by go_num, by omega, rfl, by omega, by omega, HNx, HB.out.alloc HB.out.size _⟩
      case measure => simp [intOf]; omega
    · have hke : n = k := by omega
      subst hke
      clear hl0 hl2 HLS
      go_wp2_with fail
      refine (uint_any n _ (by omega)).mono ?_
      rintro e w1 ⟨rfl, b1⟩
      have HB1 := Lib.hid (HB.out.trans (b1.mono HB.out.size))
      have HV2 := Lib.hid (HV1.out.below b1)
      clear b1 HV1 HB
      obtain ⟨b, off, rfl, hbs, c0, c1⟩ := HV2.out.at_ (i := 0) (by omega)
      simp only [Nat.zero_mul, Nat.add_zero] at c0 c1
      have hlt0 : (0 : Int) < n := by omega
      have HEL := Lib.hid (encG_big' (l := l) (by omega))
      rw [hln] at HEL
      obtain ⟨t0, ht0⟩ : ∃ t0 : Nat, (l.getD 0 (0, 0)).1 = t0 := ⟨(l.getD 0 (0, 0)).1.toNat, by have := HLK.out.t0 0 (by omega); omega⟩
      have htb := HLK.out.t0 0 (by omega)
      have hvb := HLK.out.v0 0 (by omega)
      rw [ht0] at c0 HEL htb
      rw [Int.toNat_natCast] at HEL
      generalize (l.getD 0 (0, 0)).2 = v at *
      have hv0 : -9223372036854775808 ≤ v := by omega
      have hv1 : v ≤ 9223372036854775807 := by omega
      have hwt : IntKind.u64.wrap (t0 : Int) = t0 := by rw [IntKind.wrap_u64]; omega
      have hu0 := uintL_len10 (n := t0) (by omega)
      have hun := uintL_len10 (n := n) (by omega)
      have huv := uintL_len10 (foldN_lt hv0 hv1)
      have hg1 : ¬ ((uintL t0).length + (uintL (foldN v)).length > 9223372036854775807) := by omega
      have hg2 : ¬ ((uintL n).length + (uintL t0 ++ uintL (foldN v)).length > 9223372036854775807) := by rw [List.length_append]; omega
      have hg3 : ¬ ((uintL n).length + ((uintL t0).length + (uintL (foldN v)).length) > 9223372036854775807) := by omega
      have htl : t0 < 18446744073709551616 := by omega
      clear hu0 hun huv ht0 htb hvb
      go_wp2_with fail
      go_region_held3 (fun w' => w'.cell? ⟨b, off, none⟩ = some (.int .i64 t0) ∧ w'.cell? ⟨b, off + 1, none⟩ = some (.int .i64 v)) (first | exact keepT (by assumption) hb2 | exact keepT (by assumption) hb1 | go_keep)
        (first
          | (go_at_call 86; refine (uint_any t0 _ htl).mono ?_; rintro e w2 ⟨rfl, hb1⟩)
          | (go_at_call 215; refine (int_any v _ hv0 hv1).mono ?_; rintro e w3 ⟨rfl, hb2⟩))
      have HB3 := Lib.hid (HB1.out.drew.trans (hb1.mono HB1.out.size))
      have HB4 := Lib.hid (HB3.out.trans (hb2.mono HB3.out.size))
      have HV3 := Lib.hid ((HV2.out.below (w' := w2) ((Below.refl _ _).drew.trans hb1)).below hb2)
      clear hb1 hb2 HB1 HB3 HV2 c0 c1
      go_wp2_with fail
      refine (numbers_any _ n cap _).mono ?_
      rintro e w4 ⟨rfl, h4⟩
      have H4 := Lib.hid h4
      clear h4
      go_wp2_with fail
      obtain ⟨hb5, hx1, hx2, hsz, HSeen⟩ := encG_boxes H4.out HV3.out hln (by omega)
      have HB5 := Lib.hid (HB4.out.trans (hb5.mono HB4.out.size))
      have hws := HB4.out.size
      clear H4 HB4 HV3 hb5
      refine (wpIn_wide (n := 5)).1 ?_
      refine wpIn_rangeFunc_ownG (F := Fence.wide) rfl (by omega) (gf := 332) (lb := #[.pointer (some ⟨w3.heap.size + 1 + 1, 0, none⟩)]) rfl trivial (enters_of Tryz.func332 (by kernel_rfl) rfl)
        (numbersG_stops 4 w4.heap.size (w3.heap.size + 1 + 1) b off cap n l (fun k => k = w3.heap.size ∨ k = w3.heap.size + 1) (by omega) hn2 hln HLK.out w4 (Nat.le_refl _) HSeen) (fun h k => ButX.trans h k) (ButX.putObj (Nat.le_refl _)) (Below.refl _ _) (fun _ => rfl)
        (fun pre W => EncI w4.heap.size w3.heap.size pre W ∧ (Below w.heap.size w W ∧ w4.heap.size ≤ W.heap.size))
        (fun _ _ _ => False)
        (OwnFrom.and (Own.from (encI_own w4.heap.size w3.heap.size) _) (OwnFrom.and (ownFrom_below (Nat.le_refl _) HB5.out.size) (fun _ X Y row hs hg _ => Nat.le_trans hs hg.size)))
        (fun _ _ _ _ _ hs _ _ => hs)
        ⟨encI_start hx1 hx2, HB5.out, Nat.le_refl _⟩
        ?a₁
        ?assign ?body ?done ?stop
      case assign =>
        intro l x W K hK
        gi_wp2
        exact hK
      case stop =>
        rintro D c pre W _ _ h _
        exact h.elim
      case body =>
        rintro l pre x W ⟨⟨v1, v2, bx1, bx2, o1, o2, hd⟩, hB, hN⟩ hlt
        have hpl : pre.length ≤ 1000 := by omega
        have hB1 : w3.heap.size < w4.heap.size ∧ w3.heap.size + 1 < w4.heap.size := by omega
        refine wpIn_block ?_
        refine region20 ?r20 (N := w4.heap.size) (B := w3.heap.size) (x1 := x.1) (x2 := x.2) (l1 := pre.map (·.1)) (l2 := pre.map (·.2)) (v1 := v1) (v2 := v2) (EncR w4.heap.size w3.heap.size w W) ?_ rfl rfl rfl rfl rfl bx1 bx2 o1 o2 hd ?_ ?_ ?_
        case r20 =>
          refine ⟨rfl, ⟨_, rfl, rfl, rfl, rfl⟩, ⟨_, rfl, rfl, rfl, rfl⟩, ⟨_, rfl, rfl, rfl, rfl⟩, ⟨_, rfl, rfl, rfl, rfl⟩, ⟨_, rfl, rfl, rfl, rfl⟩, ⟨_, rfl, rfl, rfl, rfl⟩, ⟨_, rfl, rfl, rfl, rfl⟩, ⟨_, rfl, rfl, rfl, rfl⟩, ⟨_, rfl, rfl, rfl, rfl⟩, ⟨_, rfl, rfl, rfl, rfl⟩, ?_, ?_⟩
          · intro i l hi
            have h := (ready_iff hi).2.2
            refine ⟨?_, ?_, ?_, ?_, ?_, ?_⟩ <;> rintro rfl <;> simp [Region.binds] at h <;> simp [h]
          · intro l hs hr k hk
            exact ready_last hs (by kernel_rfl) hr k hk
        · simp; exact hpl
        · exact encR_start hN hB
        · exact fun w' h => encR_step hws hB1 h
        · intro a' w' u1 u2 h1 h2 h3 h4 h5 h6
          exact ⟨h6.1, h6.2.1, ⟨u1, u2, h1, h2, by rw [List.map_append]; exact h3, by rw [List.map_append]; exact h4, h5⟩, h6.2.2.1, h6.2.2.2⟩
      case done =>
        rintro D ys W hD rfl ⟨⟨v1, v2, bx1, bx2, o1, o2, hd⟩, hB, hN⟩ hK
        obtain ⟨a1, cp1, rfl, hc1, hm1⟩ : ∃ a1 cp1, v1 = .slice a1 (n - 1) cp1 ∧ n - 1 ≤ cp1 ∧ cp1 ≤ 9223372036854775807 := by
          obtain ⟨a1, cp1, h1, h2, h3, _⟩ := o1.nums
          rw [List.length_map, prsG_len] at h1 h2
          exact ⟨a1, cp1, h1, h2, h3⟩
        obtain ⟨a2, cp2, rfl, hc2, hm2⟩ : ∃ a2 cp2, v2 = .slice a2 (n - 1) cp2 ∧ n - 1 ≤ cp2 ∧ cp2 ≤ 9223372036854775807 := by
          obtain ⟨a1, cp1, h1, h2, h3, _⟩ := o2.nums
          rw [List.length_map, prsG_len] at h1 h2
          exact ⟨a1, cp1, h1, h2, h3⟩
        have HK := Lib.hid hK
        have HB := Lib.hid hB
        have c1 := bx1.cell
        have c2 := bx2.cell
        have n1 := o1.nums
        have n2 := o2.nums
        rw [tsG_eq hln] at n1
        rw [vsG_eq hln] at n2
        have N1 := Lib.hid n1
        have N2 := Lib.hid n2
        clear hK hB hd o1 o2 n1 n2 bx1 bx2
        have hB0 := HB.out.size
        have hl1 : (tsG l).length ≤ 100000 := by rw [tsG_len hln]; omega
        have hl2 : (vsG l).length ≤ 100000 := by rw [vsG_len hln]; omega
        have hu1 := tsG_lt HLK.out
        have hu2 := vsG_lt HLK.out
        go_wp2_with fail
        have HA1 := Lib.hid (fun w' h => best_any (.slice a1 (n - 1) cp1) (tsG l) w' h hl1 hu1)
        have HA2 := Lib.hid (fun w' h => best_any (.slice a2 (n - 1) cp2) (vsG l) w' h hl2 hu2)
        go_region_held3 (fun w' => w'.cell? ⟨w3.heap.size, 0, none⟩ = some (.slice a1 (n - 1) cp1) ∧ w'.cell? ⟨w3.heap.size + 1, 0, none⟩ = some (.slice a2 (n - 1) cp2)) (first | exact keepB2 (by assumption) hb2 | exact keepB2 (by assumption) hb1 | go_keep)
          (first
            | (go_at_call 302; refine (HA1.out _ (N1.out.below ((Below.refl _ _).drew))).mono ?_; clear HA1; rintro e w5 ⟨rfl, hb1⟩)
            | (go_at_call 302; refine (HA2.out _ ((N2.out.below ((Below.refl _ _).drew)).below hb1)).mono ?_; rintro e w6 ⟨rfl, hb2⟩))
        have hW6 : Below W.heap.size W w6 := (((Below.refl _ _).drew).trans hb1).trans (hb2.mono hb1.size)
        have HB6 := Lib.hid (HB.out.trans (hW6.mono HB.out.size))
        have N1' := Lib.hid (N1.out.below hW6)
        have N2' := Lib.hid (N2.out.below hW6)
        obtain ⟨e1, e2⟩ := keepB2 ⟨c1, c2⟩ hW6
        have hDl : D < W.heap.size := lt_of_heap HK.out
        have HK6 := Lib.hid ((hW6.block D hDl).trans HK.out)
        have hba := bestL_le (tsG l)
        have hbb := bestL_le (vsG l)
        clear hb1 hb2 hW6 N1 N2 HB c1 c2 hl1 hl2 hu1 hu2 HA2
        obtain ⟨ba, hbae⟩ : ∃ ba, ba = bestL (tsG l) := ⟨_, rfl⟩
        obtain ⟨bb, hbbe⟩ : ∃ bb, bb = bestL (vsG l) := ⟨_, rfl⟩
        rw [← hbae, ← hbbe] at HEL
        rw [← hbae] at hba ⊢
        rw [← hbbe] at hbb ⊢
        clear hbae hbbe
        go_wp2_with fail
        refine (newW_any _).mono ?_
        rintro e w7 ⟨rfl, h7⟩
        have HW7 := Lib.hid (show Wt w6.heap.size (.slice none 0 0) [] w7 by rw [h7]; exact Wt.fresh w6)
        have HB7 := Lib.hid (show Below w6.heap.size w6 w7 by rw [h7]; exact (Below.refl _ _).alloc (Nat.le_refl _) _)
        clear h7
        have hlt1 : w3.heap.size < w6.heap.size := World.block_lt_of_cell? w6 _ e1
        have hlt2 : w3.heap.size + 1 < w6.heap.size := World.block_lt_of_cell? w6 _ e2
        have g1 := (HB7.out.cell (p := ⟨w3.heap.size, 0, none⟩) hlt1).trans e1
        go_wp2_with fail
        clear g1
        go_loopw [82] (fun x wr => ∃ (k : Nat) (vW : Value), x = .int .i64 k ∧ k ≤ n - 1 ∧ Wt w6.heap.size vW (bitsE ba bb (prsG l k)) wr ∧ Below w6.heap.size w6 wr)
          (fun x wr => n - (intOf x).toNat)
        case atStart => exact ⟨0, _, rfl, Nat.zero_le _, HW7.out, HB7.out⟩
        case round =>
          obtain ⟨k, vW, rfl, hk', hwt, hbl⟩ := hrel
          have HT := Lib.hid hwt
          have HL := Lib.hid hbl
          clear hwt hbl HW7 HB7
          have hbe := bitsE_le (ba := ba) (bb := bb) hba hbb (prsG l k)
          rw [prsG_len] at hbe
          by_cases hlt' : k < n - 1
          · obtain ⟨b1, f1, rfl, hbl1, q1⟩ := N1'.out.at_ (i := k) (by rw [tsG_len hln]; exact hlt')
            obtain ⟨b2, f2, rfl, hbl2, q2⟩ := N2'.out.at_ (i := k) (by rw [vsG_len hln]; exact hlt')
            rw [tsG_get hln hlt'] at q1
            rw [vsG_get hln hlt'] at q2
            have r1 := (HL.out.cell (p := ⟨b1, f1 + k, none⟩) hbl1).trans q1
            have hx1 : (prG l k).1 < 18446744073709551616 := (prG_lt HLK.out (by omega)).1
            have hx2 : (prG l k).2 < 18446744073709551616 := (prG_lt HLK.out (by omega)).2
            have HSn := Lib.hid (bitsG_snoc ba bb l k)
            generalize prG l k = pk at *
            obtain ⟨p1, p2⟩ := pk
            simp only at r1 q2 hx1 hx2 HSn
            have HR1 := Lib.hid (riceW_any w6.heap.size vW _ p1 ba wr HT.out hba hx1 (by omega))
            clear q1
            go_wp2_with fail
            refine HR1.out.mono ?_
            rintro e w8 ⟨rfl, v8, t8, r8⟩
            have HL8 := Lib.hid (HL.out.trans ((HT.out.wrBelow r8)))
            have g2 := (HL8.out.cell (p := ⟨w3.heap.size + 1, 0, none⟩) hlt2).trans e2
            have g3 := (HL8.out.cell (p := ⟨b2, f2 + k, none⟩) hbl2).trans q2
            have HR2 := Lib.hid (riceW_any w6.heap.size v8 _ p2 bb w8 t8 hbb hx2 (by rw [List.length_append, riceB_len]; have := riceC_le p1 ba hba; omega))
            have T8 := Lib.hid t8
            clear t8 r8 r1 HR1
            go_wp2_with fail
            refine HR2.out.mono ?_
            rintro e w9 ⟨rfl, v9, t9, r9⟩
            rw [← HSn.out] at t9
            have T9 := Lib.hid t9
            have HL9 := Lib.hid (HL8.out.trans ((T8.out.wrBelow r9)))
            clear t9 r9 g2 g3
            go_wp2_with fail
            go_roundw
            case rel => exact ⟨k + 1, v9, by go_num, by omega, T9.out, HL9.out⟩
            case measure => simp [intOf]; omega
          · have hke : n - 1 = k := by omega
            rw [← hke] at HT hbe
            have HK9 := Lib.hid ((HL.out.block D (lt_of_heap HK6.out)).trans HK6.out)
            have HB9 := Lib.hid (HB6.out.trans (HL.out.mono (by have := HB6.out.size; omega)))
            have hpk := HT.out.packed
            have hpl := packed_len hpk
            generalize bitsE ba bb (prsG l (n - 1)) = BB at *
            have HBY := Lib.hid (fun W' (hW : Below wr.heap.size wr W') => bytes_any w6.heap.size vW BB W' (HT.out.below hW) (by omega))
            have hcv := fun (X : World) (x y : Int) => cv2_after (w := X.alloc (.cells #[.int .u8 x, .int .u8 y] 5)) (heap_alloc_new X _)
            have hcv2 := fun (X : World) (x y : Int) => cv2_after (w := (X.alloc (.cells #[.int .u8 x, .int .u8 y] 5)).drew) (heap_alloc_new X _)
            have hu0 := uintL_len10 (n := t0) (by omega)
            have hun := uintL_len10 (n := n) (by omega)
            have huv := uintL_len10 (foldN_lt hv0 hv1)
            have HG1 := Lib.hid (show (uintL n ++ (uintL t0 ++ uintL (foldN v))).length ≤ 30 by simp only [List.length_append]; omega)
            clear hu0 hun huv
            generalize uintL n ++ (uintL t0 ++ uintL (foldN v)) = SS at *
            have hg1 := HG1.out
            have hs1 : ¬ (SS.length + 1 + 1 > 9223372036854775807) := by omega
            have hs2 : ¬ (SS.length + 2 > 9223372036854775807) := by omega
            have hs3 : ¬ (SS.length + 2 + (packB BB).length > 9223372036854775807) := by omega
            have hs4 : ¬ (SS.length + (1 + 1) + (packB BB).length > 9223372036854775807) := by omega
            have hD6 : D < w6.heap.size := lt_of_heap HK6.out
            have hDw : w.heap.size ≤ D := Nat.le_trans HB5.out.size hD
            have hw6 : w.heap.size ≤ w6.heap.size := HB6.out.size
            have HBA := Lib.hid (byte_small ba hba)
            have HBB := Lib.hid (byte_small bb hbb)
            go_wp2_with fail
            refine wp_region_noPanic ?_
            go_region_with (go_at_call 305; refine (HBY.out _ (by first | exact (Below.refl _ _).drew | exact ((Below.refl _ _).drew).alloc (Nat.le_refl _) _ | exact ((Below.refl _ _).alloc (Nat.le_refl _) _).drew)).mono ?_; rintro e w9 ⟨rfl, hp9, h9⟩; try (have cv2 := cv2_after (kept_rowT HT.out h9 (heap_alloc_new wr _))))
            all_goals refine NoPanic.normal ?_
            all_goals (go_wp2_with fail)
            all_goals first
              | have hfin := fin_below HT.out ((Below.refl _ _).drew) h9
              | have hfin := fin_below HT.out (((Below.refl _ _).drew).alloc (Nat.le_refl _) _) h9
              | have hfin := fin_below HT.out (((Below.refl _ _).alloc (Nat.le_refl _) _).drew) h9
            all_goals
              (have HKf := (hfin.block D hD6).trans HK9.out
               have hBf := HB9.out.trans (hfin.mono hw6)
               have HKg := fun o => (Below.heap_alloc w9 o D (lt_of_heap HKf)).trans HKf
               have hBg := fun o => hBf.alloc hBf.size o)
            all_goals first
              | (refine ⟨by simp, .inl ⟨_, _, rfl, run_takeDeferred HKf, ?_⟩⟩
                 refine ⟨_, results_tmp2 rfl _ _ _, ?_, hBf.trans (belowK_b (w := w) (Nat.le_refl _) w9 D _ _ hDw HKf rfl rfl)⟩)
              | (refine ⟨by simp, .inl ⟨_, _, rfl, run_takeDeferred (HKg _), ?_⟩⟩
                 refine ⟨_, results_tmp2 rfl _ _ _, ?_, (hBg _).trans (belowK_b (w := w) (Nat.le_refl _) _ D _ _ hDw (HKg _) rfl rfl)⟩)
            all_goals
              (show Ending.returned (.tuple #[.string (bs (SS ++ (UInt8.ofNat (IntKind.u8.wrap (ba : Int)).toNat :: UInt8.ofNat (IntKind.u8.wrap (bb : Int)).toNat :: packB BB))), .int .i64 0]) = _
               rw [HEL.out, HBA.out, HBB.out]
               rfl)

theorem encG_any (vv : Value) (l : List Smp) (w : World) (hv : Samples w vv l) (hL : LOk l) :
    Calls Tryz.prog 259 #[vv] w fun e w' => e = .returned (.tuple #[.string (bs (encG l)), .int .i64 0]) ∧ Below w.heap.size w w' := by
  rcases Nat.lt_or_ge l.length 2 with h | h
  · exact encG_small vv _ l w hv rfl hL h
  · exact encG_big vv _ l w hv rfl hL h

theorem encG_len {l : List Smp} (hL : LOk l) : (encG l).length ≤ 40 + 22 * l.length := by
  have h1 := uintL_len10 (n := l.length) (by have := hL.len; omega)
  by_cases h0 : l.length = 0
  · unfold encG; rw [if_pos h0]; have := uintL_len10 (n := 0) (by omega); omega
  · have ht := hL.t0 0 (by omega)
    have hv := hL.v0 0 (by omega)
    have h2 := uintL_len10 (n := (l.getD 0 (0, 0)).1.toNat) (by omega)
    have h3 := uintL_len10 (foldN_lt (v := (l.getD 0 (0, 0)).2) (by omega) (by omega))
    unfold encG
    rw [if_neg h0, List.length_append, List.length_append, List.length_append]
    split
    · simp only [List.length_nil]; omega
    · unfold restG
      have hb := bitsE_le (bestL_le (tsG l)) (bestL_le (vsG l)) (prsG l (l.length - 1))
      rw [prsG_len] at hb
      have hp := packB_len8 (bitsE (bestL (tsG l)) (bestL (vsG l)) (prsG l (l.length - 1)))
      simp only [List.length_append, List.length_cons, List.length_nil]
      omega

end Go.Proofs.YtheenlomlmbjaaaGreatDoor

namespace Go.Proofs.YtheenlomlmbjaaaGreatDoor
open Go.RowKit

theorem lok_of {l : List Smp} (h1 : RiseC cmpS l) (h2 : ∀ p ∈ l, POk p) (h3 : l.length ≤ 1000) : LOk l := by
  have hg : ∀ i, i < l.length → l.getD i (0, 0) ∈ l := fun i hi => by
    rw [List.getD_eq_getElem?_getD, List.getElem?_eq_getElem hi]; exact List.getElem_mem ..
  refine ⟨h3, fun i hi => ⟨(h2 _ (hg i hi)).1, (h2 _ (hg i hi)).2.1⟩, fun i hi => ⟨(h2 _ (hg i hi)).2.2.1, (h2 _ (hg i hi)).2.2.2⟩, fun i hi => ?_⟩
  have := cmpS_lt.1 (List.pairwise_iff_getElem.1 h1 i (i + 1) (by omega) hi (by omega))
  simpa [List.getD_eq_getElem?_getD, List.getElem?_eq_getElem hi, List.getElem?_eq_getElem (show i < l.length by omega)] using this
theorem encG_ne {l : List Smp} : encG l ≠ [] := by
  unfold encG
  split
  · exact uintL_ne 0
  · intro e
    have := congrArg List.length e
    have h2 := uintL_pos l.length
    simp only [List.length_append, List.length_nil] at this
    omega
noncomputable def majHd (S : List Ser) : Bytes := S.flatMap fun s => uintL s.1.toNat ++ uintL (encG s.2).length
noncomputable def majBd (S : List Ser) : Bytes := S.flatMap fun s => encG s.2
noncomputable def majG (S : List Ser) : Bytes := uintL S.length ++ majHd S ++ majBd S

theorem majHd_len {S : List Ser} (hi : ∀ s ∈ S, 0 ≤ s.1 ∧ s.1 < 200) (hS : ∀ s ∈ S, LOk s.2) : (majHd S).length ≤ 20 * S.length := by
  induction S with
  | nil => simp [majHd]
  | cons s S ih =>
    have e : majHd (s :: S) = (uintL s.1.toNat ++ uintL (encG s.2).length) ++ majHd S := rfl
    have hs := hi s (List.mem_cons_self ..)
    have hl := hS s (List.mem_cons_self ..)
    have hg := encG_len hl
    have hll := hl.len
    have h1 := uintL_len10 (n := s.1.toNat) (by omega)
    have h2 := uintL_len10 (n := (encG s.2).length) (by omega)
    have ih := ih (fun x hx => hi x (List.mem_cons_of_mem _ hx)) (fun x hx => hS x (List.mem_cons_of_mem _ hx))
    rw [e, List.length_append, List.length_append, List.length_cons]
    omega
theorem getD_take_succ (S : List Ser) {k : Nat} (h : k < S.length) : S.take (k + 1) = S.take k ++ [S.getD k (0, [])] := by
  rw [List.take_add_one, List.getElem?_eq_getElem h, List.getD_eq_getElem?_getD, List.getElem?_eq_getElem h]
  rfl
theorem majHd_snoc (S : List Ser) {k : Nat} (h : k < S.length) : majHd (S.take (k + 1)) = majHd (S.take k) ++ (uintL (S.getD k (0, [])).1.toNat ++ uintL (encG (S.getD k (0, [])).2).length) := by
  rw [getD_take_succ S h]
  unfold majHd
  rw [List.flatMap_append]
  simp
theorem majBd_snoc (S : List Ser) {k : Nat} (h : k < S.length) : majBd (S.take (k + 1)) = majBd (S.take k) ++ encG (S.getD k (0, [])).2 := by
  rw [getD_take_succ S h]
  unfold majBd
  rw [List.flatMap_append]
  simp
theorem majBd_len {S : List Ser} (hS : ∀ s ∈ S, LOk s.2) : (majBd S).length ≤ 40 * S.length + 22 * tot S := by
  induction S with
  | nil => simp [majBd]
  | cons s S ih =>
    have e : majBd (s :: S) = encG s.2 ++ majBd S := rfl
    have h1 := encG_len (hS s (List.mem_cons_self ..))
    have h2 := ih (fun x hx => hS x (List.mem_cons_of_mem _ hx))
    have e2 : tot (s :: S) = s.2.length + tot S := by simp [tot]
    rw [e, List.length_append, List.length_cons, e2]
    omega
set_option maxHeartbeats 2000000 in
set_option maxRecDepth 100000 in
theorem majG_any (u : Value) (S : List Ser) (w : World) (hu : SerV w u S) (hS : SOk S) (hl : S.length ≤ 200) (ht : tot S ≤ 1000) :
    Calls Tryz.prog 188 #[u] w fun e w' => e = .returned (.tuple #[.string (bs (majG S)), .int .i64 0]) ∧ Below w.heap.size w w' := by
  have HU := Lib.hid hu
  have HS := Lib.hid hS
  have HT := Lib.hid ht
  have hLK : ∀ s ∈ S, LOk s.2 := fun s hs => lok_of (hS.rises s hs) (hS.ok s hs) (Nat.le_trans (tot_get hs) ht)
  have HLK := Lib.hid hLK
  obtain ⟨a, cap, rfl, h1, h2⟩ := hu.shape
  obtain ⟨n, hn⟩ : ∃ n, n = S.length := ⟨_, rfl⟩
  have HN := Lib.hid hn
  rw [← hn] at h1 hl HU ⊢
  clear hu hS ht hLK hn
  have HT0 := Lib.hid (TwoB.start w)
  have HB0 := Lib.hid (show Below w.heap.size w ((w.alloc (.cells #[.pointer none, .slice none 0 0] 124)).alloc (.cells #[.pointer none, .slice none 0 0] 124)) from ((Below.refl _ _).alloc (Nat.le_refl _) _).alloc (by simp) _)
  have HUn := Lib.hid (uint_any n (w := ((w.alloc (.cells #[.pointer none, .slice none 0 0] 124)).alloc (.cells #[.pointer none, .slice none 0 0] 124))) (by omega))
  have hun := uintL_len10 (n := n) (by omega)
  have hne := uintL_ne n
  have HG := Lib.hid (show majG S = uintL n ++ majHd (S.take n) ++ majBd (S.take n) by unfold majG; rw [← HN.out, HN.out, List.take_length])
  rw [HG.out]
  clear HG
  generalize uintL n = U at *
  have hwn : IntKind.u64.wrap (n : Int) = n := by rw [IntKind.wrap_u64]; omega
  go_enter Tryz.func188, Tryz.ntmps188
  go_wp2_with fail
  refine HUn.out.mono ?_
  rintro e w1 ⟨rfl, b1⟩
  have HT1 := Lib.hid (HT0.out.below b1)
  have HB1 := Lib.hid (HB0.out.trans (b1.mono HB0.out.size))
  clear b1
  go_wp2_with fail
  refine (write1_any U HT1.out (by simp; omega) hne).mono ?_
  rintro e w2 ⟨rfl, t2, b2⟩
  have HT2 := Lib.hid t2
  have HB2 := Lib.hid (HB1.out.trans b2)
  clear t2 b2 HT0 HB0 HT1 HB1
  go_wp2_with fail
  go_loopw [18, 6] (fun x y wr => ∃ (k : Nat) (last : Int), x = .int .i64 k ∧ k ≤ n ∧ y = .int .i64 last ∧ -1 ≤ last ∧ last < 200 ∧ Hid (∀ h : k < n, last < (S.getD k (0, [])).1) ∧ TwoB w.heap.size (U ++ majHd (S.take k)) (majBd (S.take k)) wr ∧ Below w.heap.size w wr)
    (fun x y wr => n - (intOf x).toNat)
  case atStart => exact ⟨0, -1, rfl, Nat.zero_le _, rfl, by omega, by omega, Lib.hid (fun h => by
      have hm : S.getD 0 (0, []) ∈ S := by
        rw [List.getD_eq_getElem?_getD, List.getElem?_eq_getElem (show 0 < S.length by have := HN.out; omega)]; exact List.getElem_mem ..
      have := (HS.out.id _ hm).1; omega), by simpa [majHd, majBd] using HT2.out, HB2.out⟩
  case round =>
    obtain ⟨k, last, rfl, hk, rfl, hl0, hl2, HLS, htb, hbl⟩ := hrel
    have HT2 := Lib.hid htb
    have HB := Lib.hid hbl
    have hHd := majHd_len (S := S.take k) (fun s hs => HS.out.id s (List.mem_of_mem_take hs)) (fun s hs => HLK.out s (List.mem_of_mem_take hs))
    have hBd := majBd_len (S := S.take k) (fun s hs => HLK.out s (List.mem_of_mem_take hs))
    have htt := tot_take S k
    have htt2 := HT.out
    have hlk : (S.take k).length ≤ n := by rw [List.length_take, ← HN.out]; omega
    have hHl : (majHd (S.take k)).length ≤ 4000 := by omega
    have hBl : (majBd (S.take k)).length ≤ 40000 := by omega
    clear htb hHd hBd htt htt2 hlk
    by_cases hlt : k < n
    · have hkS : k < S.length := by have := HN.out; omega
      obtain ⟨b, off, vs, rfl, hgl, c0, c1, hvs⟩ := (HU.out.below hbl).at_ (i := k) hkS
      have hm : S.getD k (0, []) ∈ S := by
        rw [List.getD_eq_getElem?_getD, List.getElem?_eq_getElem hkS]; exact List.getElem_mem ..
      have HH := Lib.hid (majHd_snoc S hkS)
      have HBs := Lib.hid (majBd_snoc S hkS)
      have hid := HS.out.id _ hm
      have hone := HS.out.one _ hm
      have hlast := HLS.out hlt
      have hLk := HLK.out _ hm
      have HNx := Lib.hid (show ∀ h : k + 1 < n, (S.getD k (0, [])).1 < (S.getD (k + 1) (0, [])).1 from fun h => by
        have hk1 : k + 1 < S.length := by have := HN.out; omega
        have := cmpS_lt.1 (List.pairwise_iff_getElem.1 HS.out.rise k (k + 1) hkS hk1 (by omega))
        simpa [List.getD_eq_getElem?_getD, List.getElem?_eq_getElem hk1, List.getElem?_eq_getElem hkS] using this)
      obtain ⟨id, hide⟩ : ∃ id : Nat, (S.getD k (0, [])).1 = id := ⟨(S.getD k (0, [])).1.toNat, by omega⟩
      rw [hide] at hid hlast c0 HH HNx
      rw [Int.toNat_natCast] at HH
      generalize (S.getD k (0, [])).2 = L at *
      have hsm := hvs.samples
      obtain ⟨va, vc, rfl, hvc, hvm, -⟩ := hsm
      have hLpos : 0 < L.length := List.length_pos_iff.2 hone
      have hLz : ((L.length : Int) == 0) = false := by rw [beq_eq_false_iff_ne]; omega
      have hLz' : ¬ (L.length : Int) = 0 := by omega
      have hLlen := hLk.len
      have HE := Lib.hid (fun w' h => encG_any (.slice va L.length vc) L w' h hLk)
      have hel := encG_len hLk
      have hene := encG_ne (l := L)
      have HV := Lib.hid hvs
      have hwi : IntKind.u64.wrap (id : Int) = id := by rw [IntKind.wrap_u64]; omega
      have hwe : IntKind.u64.wrap ((encG L).length : Int) = (encG L).length := by rw [IntKind.wrap_u64]; omega
      have HUi := Lib.hid (fun w' => uint_any id w' (by omega))
      have HUe := Lib.hid (fun w' => uint_any (encG L).length w' (by omega))
      have hui := uintL_len10 (n := id) (by omega)
      have hue := uintL_len10 (n := (encG L).length) (by omega)
      have hni : uintL id ++ uintL (encG L).length ≠ [] := fun e => uintL_ne id (List.append_eq_nil_iff.1 e).1
      generalize uintL (encG L).length = UE at *
      generalize uintL id = UI at *
      generalize encG L = C at *
      clear hvs hone hm hide hbl HLS hLk
      go_wp2_with fail
      have hb2x : Below wr.heap.size wr (wr.alloc (.cells #[.int .i64 id, .slice va L.length vc] 49)) := (Below.refl _ _).alloc (Nat.le_refl _) _
      have HX := Lib.hid (heap_alloc_new wr (.cells #[.int .i64 id, .slice va L.length vc] 49))
      refine (HE.out _ ((HV.out.below hb2x).samples)).mono ?_
      rintro e w3 ⟨rfl, b3⟩
      have HT3 := Lib.hid ((HT2.out.below hb2x).below b3)
      have HB3 := Lib.hid ((HB.out.trans (hb2x.mono HB.out.size)).trans (b3.mono (by have := HB.out.size; simp; omega)))
      have hx3 : wr.heap.size < w3.heap.size := Nat.lt_of_lt_of_le (by simp) b3.size
      have x0 := (b3.cell (p := ⟨wr.heap.size, 0, none⟩) (by simp)).trans ((Lib.cell_of_heap HX.out 0).trans rfl)
      have x1 := (b3.cell (p := ⟨wr.heap.size, 1, none⟩) (by simp)).trans ((Lib.cell_of_heap HX.out 1).trans rfl)
      clear b3 hb2x
      obtain ⟨K, hK⟩ : ∃ K, K = wr.heap.size := ⟨_, rfl⟩
      rw [← hK] at hx3 x0 x1 ⊢
      clear hK HX
      go_wp2_with fail
      refine (HUi.out _).mono ?_
      rintro e w4 ⟨rfl, b4⟩
      have HT4 := Lib.hid (HT3.out.below b4)
      have HB4 := Lib.hid (HB3.out.trans (b4.mono HB3.out.size))
      clear b4
      go_wp2_with fail
      refine (HUe.out _).mono ?_
      rintro e w5 ⟨rfl, b5⟩
      have HT5 := Lib.hid (HT4.out.below b5)
      have HB5 := Lib.hid (HB4.out.trans (b5.mono HB4.out.size))
      clear b5
      go_wp2_with fail
      refine (write1_any (UI ++ UE) HT5.out (by first | omega | (simp; omega)) hni).mono ?_
      rintro e w6 ⟨rfl, t6, b6⟩
      have HT6 := Lib.hid t6
      have HB6 := Lib.hid (HB5.out.trans b6)
      clear t6 b6
      go_wp2_with fail
      refine (write2_any C HT6.out (by first | omega | (simp; omega)) hene).mono ?_
      rintro e w7 ⟨rfl, t7, b7⟩
      rw [List.append_assoc, ← HH.out, ← HBs.out] at t7
      have HT7 := Lib.hid t7
      have HB7 := Lib.hid (HB6.out.trans b7)
      clear t7 b7
      go_wp2_with fail
      go_roundw
      case rel => exact ⟨k + 1, id, by go_num, by omega, rfl, by omega, by omega, HNx, HT7.out, HB7.out⟩
      case measure => simp [intOf]; omega
    · have hke : n = k := by omega
      subst hke
      clear hl0 hl2 HLS hbl
      generalize hM1 : majHd (S.take n) = M1 at *
      generalize hM2 : majBd (S.take n) = M2 at *
      have HM1 := Lib.hid hM1
      have HM2 := Lib.hid hM2
      clear hM1 hM2
      go_wp2_with fail
      refine (string1_any HT2.out).mono ?_
      rintro e w8 ⟨rfl, b8, v2, q2, d2⟩
      have HB8 := Lib.hid (HB.out.trans b8)
      have HS2 := Lib.hid (string2_any q2 d2)
      clear b8 q2 d2
      have hg : ¬ ((U ++ M1).length + M2.length > 9223372036854775807) := by rw [List.length_append]; omega
      have hg' : ¬ (U.length + M1.length + M2.length > 9223372036854775807) := by omega
      go_wp2_with fail
      refine HS2.out.mono ?_
      rintro e w9 ⟨rfl, b9⟩
      have HB9 := Lib.hid (HB8.out.trans b9)
      clear b9
      go_wp2_with fail
      go_ret2
      exact ⟨by rw [HM1.out, HM2.out, List.append_assoc]; rfl, HB9.out⟩

end Go.Proofs.YtheenlomlmbjaaaGreatDoor

namespace Go.Proofs.YtheenlomlmbjaaaGreatDoor
open Go.RowKit Go.Maps

abbrev TB : TypeId := 124
theorem tokB : TOk TB 2 := tokBuilder
def NumRel (w : World) (n : Nat) (x : Value) (wr : World) : Prop :=
  ∃ (k : Nat) (u : Value) (t : Bytes), x = .int .i64 k ∧ k ≤ n ∧ Bw TB [] w.heap.size u t wr ∧ t.length ≤ 10 * k ∧ (0 < k → 0 < t.length) ∧ Below w.heap.size w wr
set_option maxRecDepth 100000 in
set_option maxHeartbeats 2000000 in
theorem walNum_any (v : Value) (l : List Int) (w : World) (hv : RowG 1 encI w v l) (hl : ∀ x ∈ l, 0 ≤ x ∧ x ≤ 1099511627776) (h0 : l ≠ []) (hn : l.length ≤ 1000) :
    Calls Tryz.prog 214 #[v] w fun e w' => ∃ t, e = .returned (.string (bs t)) ∧ t.length ≤ 10 * l.length ∧ 0 < t.length ∧ Below w.heap.size w w' := by
  have HV := Lib.hid hv
  have HL := Lib.hid hl
  obtain ⟨a, c, rfl, h1, h2, -⟩ := hv
  obtain ⟨n, hn'⟩ : ∃ n, n = l.length := ⟨_, rfl⟩
  have HN := Lib.hid hn'
  have hpos : 0 < n := by rw [hn']; exact List.length_pos_iff.2 h0
  rw [← hn'] at h1 hn HV ⊢
  clear hl hn' h0
  have HB0 := Lib.hid (show Bw TB [] w.heap.size (.slice none 0 0) [] (w.alloc (.cells #[.pointer none, .slice none 0 0] TB)) from
    ⟨.pointer none, .inl rfl, heap_alloc_new .., World.ownsRow_nil _ _ _ _⟩)
  go_enter Tryz.func214, Tryz.ntmps214
  go_wp2_with fail
  rw [show (⟨#[]⟩ : ByteArray) = bs [] from rfl]
  go_loopw [8] (fun x wr => NumRel w n x wr) (fun x _ => n - (intOf x).toNat)
  case atStart => exact ⟨0, _, [], rfl, Nat.zero_le _, HB0.out, Nat.le_refl _, (fun h => by omega), (Below.refl _ _).alloc (Nat.le_refl _) _⟩
  case round =>
    clear HB0
    obtain ⟨k, u, t, rfl, hk, hb, ht, htp, hbl⟩ := hrel
    have HB := Lib.hid hb
    have HBl := Lib.hid hbl
    by_cases hlt : k < n
    · have hkl : k < l.length := by rw [← HN.out]; exact hlt
      obtain ⟨b, off, rfl, hbs, hc⟩ := (HV.out.below hbl).at_ (fun _ => rfl) 0 hkl
      have c0 := hc 0 (by omega)
      obtain ⟨x0, x1⟩ := HL.out _ (getD_mem' 0 hkl)
      simp only [encI, Nat.mul_one, Nat.add_zero, List.getElem?_cons_zero] at c0
      generalize l.getD k 0 = x at *
      obtain ⟨y, rfl⟩ : ∃ y : Nat, x = y := ⟨x.toNat, by omega⟩
      have hy : y < 18446744073709551616 := by omega
      have hul := uintL_len10 hy
      have hup := uintL_pos y
      have HU := Lib.hid (fun w => uint_any y w hy)
      have hkk : k ≤ 1000 := by omega
      clear hc hb hbl hkl
      generalize uintL y = U at *
      go_wp2_with fail
      refine (HU.out _).mono ?_
      rintro e w2 ⟨rfl, hb2⟩
      have HB2 := Lib.hid (HB.out.below hb2)
      have HBl2 := Lib.hid (HBl.out.trans (hb2.mono HBl.out.size))
      clear hb2 c0 hbs
      go_wp2_with fail
      refine (writeString_any U HB2.out tokB (by omega)).mono ?_
      rintro e w3 ⟨rfl, v3, hb3, hw3⟩
      have HB3 := Lib.hid hb3
      have HBl3 := Lib.hid (HBl2.out.trans (HB2.out.wrBelow hw3 (Nat.le_refl _)))
      clear hb3 hw3
      go_wp2_with fail
      go_roundw
      case rel => exact ⟨k + 1, _, _, by go_num, by omega, HB3.out, by rw [List.length_append]; omega, (fun _ => by rw [List.length_append]; omega), HBl3.out⟩
      case measure => simp [intOf]; omega
    · have hke : n = k := by omega
      subst hke
      have htn : t ≠ [] := by intro e; rw [e] at htp; simp at htp; omega
      have HT := Lib.hid (show t.length ≤ 10 * n from ht)
      have HTp := Lib.hid (htp hpos)
      clear hb hbl ht htp
      go_wp2_with fail
      refine (builderString_any HB.out tokB htn).mono ?_
      rintro e w3 ⟨rfl, hw3, -⟩
      have HBl3 := Lib.hid (HBl.out.trans (HB.out.wrBelow hw3 (Nat.le_refl _)))
      clear hw3
      go_wp2_with fail
      go_ret
      exact ⟨t, rfl, by first | exact HT.out | (rw [← HN.out]; exact HT.out), HTp.out, HBl3.out⟩

set_option maxRecDepth 100000 in
theorem within_any (n m : Int) (w : World) (h0 : 0 ≤ n) (h1 : n ≤ m) :
    Calls Tryz.prog 222 #[.int .i64 n, .int .i64 m] w fun e w' => e = .returned (.bool true) ∧ w = w' := by
  have d0 : decide (0 ≤ n) = true := by simpa using h0
  have d1 : decide (n ≤ m) = true := by simpa using h1
  go_enter Tryz.func222, Tryz.ntmps222
  go_wp2_with fail
  go_ret
  exact ⟨rfl, rfl⟩

def formsV : Value := .agg #[.func (.func 211) #[] #[], .func (.func 212) #[] #[], .func (.func 213) #[] #[], .func (.func 216) #[] #[], .func (.func 218) #[] #[], .func (.func 219) #[] #[], .func (.func 220) #[] #[], .func (.func 221) #[] #[]]
set_option maxRecDepth 100000 in
theorem forms_any (w : World) :
    Calls Tryz.prog 140 #[] w fun e w' => e = .returned formsV ∧ Below w.heap.size w w' := by
  go_enter Tryz.func140, Tryz.ntmps140
  go_wp2_with fail
  exact bodyPost_ret (v := formsV) (by simp [results, Tryz.results140, go_sem, formsV]) rfl ⟨rfl, (Below.refl _ _).alloc (Nat.le_refl _) _⟩

end Go.Proofs.YtheenlomlmbjaaaGreatDoor

namespace Go.Proofs.YtheenlomlmbjaaaGreatDoor
open Go.RowKit Go.Maps

def digN (k : Nat) : Bytes := (fileN k).drop 1
theorem lt12 {k : Nat} (h : k < 12) : k = 0 ∨ k = 1 ∨ k = 2 ∨ k = 3 ∨ k = 4 ∨ k = 5 ∨ k = 6 ∨ k = 7 ∨ k = 8 ∨ k = 9 ∨ k = 10 ∨ k = 11 := by omega
set_option maxRecDepth 100000 in
theorem small_any (k : Nat) (w : World) (hk : k < 12) :
    Calls Tryz.prog 311 #[.int .i64 k] w fun e w' => e = .returned (.string (bs (digN k))) ∧ w = w' := by
  rcases lt12 hk with rfl | rfl | rfl | rfl | rfl | rfl | rfl | rfl | rfl | rfl | rfl | rfl
  all_goals
    (go_enter Tryz.func311, Tryz.ntmps311
     go_wp2_with fail
     go_ret
     exact ⟨rfl, rfl⟩)
set_option maxRecDepth 100000 in
theorem fmtInt_any (k : Nat) (w : World) (hk : k < 12) :
    Calls Tryz.prog 274 #[.int .i64 k, .int .i64 10] w fun e w' => e = .returned (.string (bs (digN k))) ∧ w = w' := by
  have h1 : (k : Int) < 100 := by omega
  go_enter Tryz.func274, Tryz.ntmps274
  go_wp2_with fail
  refine (small_any k w hk).mono ?_
  rintro e w1 ⟨rfl, rfl⟩
  go_wp2_with fail
  go_ret
  exact ⟨rfl, rfl⟩
set_option maxRecDepth 100000 in
theorem itoa0_any (k : Nat) (w : World) (hk : k < 12) :
    Calls Tryz.prog 206 #[.int .i64 k] w fun e w' => e = .returned (.string (bs (digN k))) ∧ w = w' := by
  go_enter Tryz.func206, Tryz.ntmps206
  go_wp2_with fail
  refine (fmtInt_any k w hk).mono ?_
  rintro e w1 ⟨rfl, rfl⟩
  go_wp2_with fail
  go_ret
  exact ⟨rfl, rfl⟩
set_option maxRecDepth 100000 in
theorem itoa_any (k : Nat) (w : World) (hk : k < 12) :
    Calls Tryz.prog 132 #[.int .i64 k] w fun e w' => e = .returned (.string (bs (digN k))) ∧ w = w' := by
  go_enter Tryz.func132, Tryz.ntmps132
  go_wp2_with fail
  refine (itoa0_any k w hk).mono ?_
  rintro e w1 ⟨rfl, rfl⟩
  go_wp2_with fail
  go_ret
  exact ⟨rfl, rfl⟩
set_option maxRecDepth 100000 in
theorem file_any (k : Nat) (w : World) (hk : k < 12) :
    Calls Tryz.prog 70 #[.int .i64 k] w fun e w' => e = .returned (.string (bs (fileN k))) ∧ w = w' := by
  rcases lt12 hk with rfl | rfl | rfl | rfl | rfl | rfl | rfl | rfl | rfl | rfl | rfl | rfl
  all_goals
    (have HI := Lib.hid (itoa_any _ w hk)
     go_enter Tryz.func70, Tryz.ntmps70
     go_wp2_with fail
     refine HI.out.mono ?_
     rintro e w1 ⟨rfl, rfl⟩
     go_wp2_with fail
     go_ret
     exact ⟨rfl, rfl⟩)
theorem dig0 : digN 0 = [48] := rfl
theorem dig1 : digN 1 = [49] := rfl
theorem dig2 : digN 2 = [50] := rfl
theorem dig3 : digN 3 = [51] := rfl
theorem dig4 : digN 4 = [52] := rfl
theorem dig5 : digN 5 = [53] := rfl
theorem dig6 : digN 6 = [54] := rfl
theorem dig7 : digN 7 = [55] := rfl
theorem dig8 : digN 8 = [56] := rfl
theorem dig9 : digN 9 = [57] := rfl
theorem dig10 : digN 10 = [49, 48] := rfl
theorem dig11 : digN 11 = [49, 49] := rfl
theorem conv_bytes (s : Bytes) (w : World) : ∃ cap W, (convert 9 22 (.string (bs s))).run Tryz.prog w = .ok (.slice (some ⟨w.heap.size, 0, none⟩) s.length cap) W ∧ Below w.heap.size w W ∧ ∀ j, j < s.length → W.cell? ⟨w.heap.size, j, none⟩ = some (.int .u8 ((byteAt s j).toNat : Int)) := by
  refine ⟨_, _, Lib.run_convert_string_bytes w _ _ 5 (bs s) Tryz.underlying9 Tryz.underlying22 Tryz.underlying5, ⟨rfl, rfl, rfl, by rw [Lib.bytesWorld_size]; omega, fun j hj => Lib.bytesWorld_at_old w _ _ j hj⟩, fun j hj => ?_⟩
  rw [Lib.bytesWorld_cell w _ (bs s) j hj]
  rfl
set_option maxRecDepth 100000 in
set_option maxHeartbeats 2000000 in
theorem atoi0_any (k : Nat) (w : World) (hk : k < 12) :
    Calls Tryz.prog 276 #[.string (bs (digN k))] w fun e w' => e = .returned (.tuple #[.int .i64 k, .nilIface]) ∧ Below w.heap.size w w' := by
  obtain ⟨cap, W, hrun, hb, hc⟩ := conv_bytes (digN k) w
  have HB := Lib.hid hb
  clear hb
  rcases lt12 hk with rfl | rfl | rfl | rfl | rfl | rfl | rfl | rfl | rfl | rfl | rfl | rfl
  all_goals
    (simp only [dig0, dig1, dig2, dig3, dig4, dig5, dig6, dig7, dig8, dig9, dig10, dig11] at hrun hc ⊢
     have c0 := hc 0 (by decide)
     simp [byteAt] at c0
     try (have c1 := hc 1 (by decide); simp [byteAt] at c1)
     clear hc
     go_enter Tryz.func276, Tryz.ntmps276
     go_wp2_with fail
     refine wp_loop_rounds 3 ?_
     rw [rounds_succ]
     go_wp2_with fail
     rw [rounds_succ]
     go_wp2_with fail
     try (rw [rounds_succ]; go_wp2_with fail)
     go_ret2
     exact ⟨rfl, HB.out⟩)

set_option maxRecDepth 100000 in
theorem atoi_any (k : Nat) (w : World) (hk : k < 12) :
    Calls Tryz.prog 208 #[.string (bs (digN k))] w fun e w' => e = .returned (.tuple #[.int .i64 k, .nilIface]) ∧ Below w.heap.size w w' := by
  have HA := Lib.hid (atoi0_any k w hk)
  generalize digN k = s at *
  go_enter Tryz.func208, Tryz.ntmps208
  go_wp2_with fail
  refine HA.out.mono ?_
  rintro e w1 ⟨rfl, hb⟩
  have HB := Lib.hid hb
  clear hb
  go_wp2_with fail
  go_ret2
  exact ⟨rfl, HB.out⟩

end Go.Proofs.YtheenlomlmbjaaaGreatDoor

namespace Go.Proofs.YtheenlomlmbjaaaGreatDoor
open Go.RowKit Go.Maps

set_option maxRecDepth 100000 in
theorem hasF_any (k : Nat) (w : World) (hk : k < 12) :
    Calls Tryz.prog 230 #[.string (bs (fileN k)), .string (bs [102])] w fun e w' => e = .returned (.bool true) ∧ w = w' := by
  rcases lt12 hk with rfl | rfl | rfl | rfl | rfl | rfl | rfl | rfl | rfl | rfl | rfl | rfl
  all_goals
    (go_enter Tryz.func230, Tryz.ntmps230
     go_wp2_with fail
     go_ret
     exact ⟨rfl, rfl⟩)
set_option maxRecDepth 100000 in
theorem cutF0_any (k : Nat) (w : World) (hk : k < 12) :
    Calls Tryz.prog 275 #[.string (bs (fileN k)), .string (bs [102])] w fun e w' => e = .returned (.tuple #[.string (bs (digN k)), .bool true]) ∧ w = w' := by
  rcases lt12 hk with rfl | rfl | rfl | rfl | rfl | rfl | rfl | rfl | rfl | rfl | rfl | rfl
  all_goals
    (have HP := Lib.hid (hasF_any _ w hk)
     go_enter Tryz.func275, Tryz.ntmps275
     go_wp2_with fail
     refine HP.out.mono ?_
     rintro e w1 ⟨rfl, rfl⟩
     go_wp2_with fail
     go_ret2
     exact ⟨rfl, rfl⟩)
set_option maxRecDepth 100000 in
theorem cutF_any (k : Nat) (w : World) (hk : k < 12) :
    Calls Tryz.prog 207 #[.string (bs (fileN k)), .string (bs [102])] w fun e w' => e = .returned (.tuple #[.string (bs (digN k)), .bool true]) ∧ w = w' := by
  have HP := Lib.hid (cutF0_any k w hk)
  generalize fileN k = s at *
  generalize digN k = t at *
  go_enter Tryz.func207, Tryz.ntmps207
  go_wp2_with fail
  refine HP.out.mono ?_
  rintro e w1 ⟨rfl, rfl⟩
  go_wp2_with fail
  go_ret2
  exact ⟨rfl, rfl⟩
set_option maxRecDepth 100000 in
theorem number_any' (k : Nat) (w : World) (hk : k < 12) :
    Calls Tryz.prog 133 #[.string (bs (fileN k))] w fun e w' => e = .returned (.int .i64 k) ∧ Below w.heap.size w w' := by
  have HC := Lib.hid (cutF_any k w hk)
  have HA := Lib.hid (atoi_any k w hk)
  have HF := Lib.hid (fun W => file_any k W hk)
  obtain ⟨z, hz⟩ : ∃ z : Int, z = (k : Int) := ⟨_, rfl⟩
  rw [← hz] at HA HF ⊢
  have hd : decide (100000000000000 ≤ z) = false := by rw [decide_eq_false_iff_not]; omega
  clear hz hk
  generalize fileN k = s at *
  generalize digN k = t at *
  go_enter Tryz.func133, Tryz.ntmps133
  go_wp2_with fail
  refine HC.out.mono ?_
  rintro e w1 ⟨rfl, rfl⟩
  go_wp2_with fail
  refine HA.out.mono ?_
  rintro e w2 ⟨rfl, hb⟩
  have HB := Lib.hid hb
  clear hb
  go_wp2_with fail
  refine (HF.out w2).mono ?_
  rintro e w3 ⟨rfl, rfl⟩
  go_wp2_with fail
  go_ret
  exact ⟨rfl, HB.out⟩
set_option maxRecDepth 100000 in
theorem within_yes (n m : Int) (w : World) (h0 : 0 ≤ n) (h1 : n ≤ m) :
    Calls Tryz.prog 134 #[.int .i64 n, .int .i64 m] w fun e w' => e = .returned (.bool true) ∧ w = w' := by
  have d0 : decide (0 ≤ n) = true := by simpa using h0
  have d1 : decide (n ≤ m) = true := by simpa using h1
  go_enter Tryz.func134, Tryz.ntmps134
  go_wp2_with fail
  go_ret
  exact ⟨by simp [d0, d1], rfl⟩

end Go.Proofs.YtheenlomlmbjaaaGreatDoor

namespace Go.Proofs.YtheenlomlmbjaaaGreatDoor
open Go.RowKit Go.Maps

set_option maxRecDepth 100000 in
theorem at1_any (x : Pt) (d : Int) (w : World) :
    Calls Tryz.prog 264 #[.agg #[.int .i64 x.1, .int .i64 x.2.1, .string (bs x.2.2)], .int .i64 d] w fun e w' => e = .returned (.int .i64 (cmpI x.1 d)) ∧ Below w.heap.size w w' := by
  go_enter Tryz.func264, Tryz.ntmps264
  go_wp2_with fail
  refine (cmp_any x.1 d _).mono ?_
  rintro e w1 ⟨rfl, rfl⟩
  go_wp2_with fail
  go_ret
  exact ⟨rfl, (Below.refl _ _).alloc (Nat.le_refl _) _⟩
abbrev atF : Value := .func (.func 264) #[] #[]
set_option maxRecDepth 100000 in
set_option maxHeartbeats 4000000 in
attribute [local go_sem ↓] Go.wp_at_zero Go.wp_at_succ in
theorem binP_any (u : Value) (P : List Pt) (d : Int) (w : World) (hu : RowG 3 encPt w u P) (hd : ∀ x ∈ P, x.1 < d) (hl : P.length ≤ 1000) :
    Calls Tryz.prog 263 #[u, .int .i64 d, atF] w fun e w' => e = .returned (.tuple #[.int .i64 P.length, .bool false]) ∧ Below w.heap.size w w' := by
  have HU := Lib.hid hu
  have HD := Lib.hid hd
  obtain ⟨a, cap, rfl, a1, a2, -⟩ := hu
  obtain ⟨n, hn⟩ : ∃ n, n = P.length := ⟨_, rfl⟩
  have HN := Lib.hid hn
  rw [← hn] at a1 hl HU ⊢
  have HC := Lib.hid (fun x w => at1_any x d w)
  clear hd hn
  unfold atF
  go_enter Tryz.func263, Tryz.ntmps263
  go_wp2_with fail
  go_loopw [9, 10] (fun p q wr => ∃ i : Nat, p = .int .i64 i ∧ q = .int .i64 n ∧ i ≤ n ∧ Below w.heap.size w wr)
    (fun p q wr => n - (intOf p).toNat)
  case atStart => exact ⟨0, rfl, rfl, Nat.zero_le _, Below.refl _ _⟩
  case round =>
    obtain ⟨i, rfl, rfl, hi, hbl⟩ := hrel
    have HB := Lib.hid hbl
    by_cases hlt : i < n
    · obtain ⟨h, hh⟩ : ∃ h, h = (i + n) / 2 := ⟨_, rfl⟩
      have hhI : ((i : Int) + (n : Int)) / 2 = (h : Int) := by omega
      have hih : i ≤ h := by omega
      have hhn : h < n := by omega
      obtain ⟨b, off, rfl, hgl, hc⟩ := (HU.out.below hbl).at_ (fun _ => rfl) (0, 0, []) (i := h) (by rw [← HN.out]; exact hhn)
      have c0 := hc 0 (by omega)
      have c1 := hc 1 (by omega)
      have c2 := hc 2 (by omega)
      simp only [encPt, Nat.add_zero, List.getElem?_cons_zero, List.getElem?_cons_succ] at c0 c1 c2
      have hx := HD.out _ (getD_mem' (0, 0, []) (show h < P.length by rw [← HN.out]; exact hhn))
      generalize P.getD h (0, 0, []) = x at *
      have HC1 := Lib.hid (fun w => HC.out x w)
      obtain ⟨x0, x1, x2⟩ := x
      simp only at c0 c1 c2 hx HC1
      have h1 := cmpI_lt.2 hx
      generalize cmpI x0 d = cc at *
      have hcd : decide (cc < 0) = true := by simpa using h1
      have hh0 : (0 : Int) ≤ (h : Int) := by omega
      have hh1 : (h : Int) < (n : Int) := by omega
      clear hbl hh hc hx h1
      go_wp2_with fail
      refine (HC1.out _).mono ?_
      rintro e w2 ⟨rfl, hd1⟩
      have HB2 := Lib.hid (HB.out.trans (hd1.mono HB.out.size))
      clear hd1 c0 c1 c2 hgl
      go_wp2_with fail
      go_roundw
      case rel => exact ⟨h + 1, by go_num, rfl, by omega, HB2.out⟩
      case measure => simp [intOf]; omega
    · have hje : i = n := by omega
      subst hje
      have hjn : decide (i < i) = false := by simp
      go_wp2_with fail
      go_ret2
      exact ⟨rfl, HB.out⟩
set_option maxRecDepth 100000 in
theorem at_any (u : Value) (P : List Pt) (d : Int) (w : World) (hu : RowG 3 encPt w u P) (hd : ∀ x ∈ P, x.1 < d) (hl : P.length ≤ 1000) :
    Calls Tryz.prog 192 #[u, .int .i64 d] w fun e w' => e = .returned (.tuple #[.int .i64 P.length, .bool false]) ∧ Below w.heap.size w w' := by
  have HBs := Lib.hid (binP_any u P d w hu hd hl)
  obtain ⟨a, cap, rfl, a1, a2, -⟩ := hu
  unfold atF at HBs
  generalize P.length = n at *
  go_enter Tryz.func192, Tryz.ntmps192
  go_wp2_with fail
  refine HBs.out.mono ?_
  rintro e w1 ⟨rfl, hb⟩
  have HB := Lib.hid hb
  clear hb
  go_wp2_with fail
  go_ret2
  exact ⟨rfl, HB.out⟩
set_option maxRecDepth 1000000 in
set_option maxHeartbeats 2000000 in
theorem insert_any (base g : Nat) (u : Value) (P : List Pt) (w : World) (hu : OwnR 139 3 encPt w base u P) (hl : P.length ≤ 1000) (hb : base ≤ w.heap.size) (hg : w.heap[g]? = some (.cells #[.int .i64 0, .int .i64 0, .string (bs [])] 139 (0, 0))) :
    Calls Tryz.prog 193 #[u, .int .i64 P.length, .slice (some ⟨g, 0, none⟩) 1 1] w fun e w' => ∃ g' cap', e = .returned (.slice (some ⟨g', 0, none⟩) (P.length + 1) cap') ∧ OwnR 139 3 encPt w' base (.slice (some ⟨g', 0, none⟩) (P.length + 1) cap') (P ++ [(0, 0, [])]) ∧ Below base w w' := by
  have HU := Lib.hid hu
  have HG := Lib.hid hg
  obtain ⟨a, cap, rfl, a1, a2, -⟩ := hu.rowG
  obtain ⟨n, hn⟩ : ∃ n, n = P.length := ⟨_, rfl⟩
  rw [← hn] at a1 hl HU ⊢
  have HN := Lib.hid hn
  clear hu hg
  clear hn
  have HE := Lib.hid (fun (g' cap' : Nat) (w2 : World) (h : OwnR 139 3 encPt w2 base (.slice (some ⟨g', 0, none⟩) (P.length + 1) cap') (P ++ [(0, 0, [])])) (hb2 : Below base w w2) =>
    show ∃ g cap, Ending.returned (.slice (some ⟨g', 0, none⟩) (P.length + 1) cap') = .returned (.slice (some ⟨g, 0, none⟩) (n + 1) cap) ∧ OwnR 139 3 encPt w2 base (.slice (some ⟨g, 0, none⟩) (n + 1) cap) (P ++ [(0, 0, [])]) ∧ Below base w w2 from by
      rw [← HN.out] at h ⊢
      exact ⟨g', cap', rfl, h, hb2⟩)
  rcases HU.out.2 with ⟨h0, h1⟩ | ⟨g0, cap0, cur, h0, -⟩
  · simp only [Value.slice.injEq] at h0
    obtain ⟨rfl, rfl, rfl⟩ := h0
    clear h1
    rw [show ((0 : Nat) : Int) = 0 from rfl]
    go_enter Tryz.func193, Tryz.ntmps193
    go_wp2_with (at_builtin; refine app1 tyPt _ rfl (.tmp 23) (.tmp 24) rfl base _ P (0, 0, []) g rfl (by rfl) #[.int .i64 0, .int .i64 0, .string (bs [])] rfl HG.out HU.out hb (by have := HN.out; omega) ?_; intro g' cap' w2 hown2 hbel2 hgr2; have HO2 := Lib.hid hown2; have HB2 := Lib.hid hbel2; clear hown2 hbel2 hgr2)
    all_goals
      (go_ret
       exact HE.out _ _ _ HO2.out HB2.out)
  · simp only [Value.slice.injEq] at h0
    obtain ⟨rfl, -, rfl⟩ := h0
    go_enter Tryz.func193, Tryz.ntmps193
    go_wp2_with (at_builtin; refine app1 tyPt _ rfl (.tmp 23) (.tmp 24) rfl base _ P (0, 0, []) g rfl (by rfl) #[.int .i64 0, .int .i64 0, .string (bs [])] rfl HG.out HU.out hb (by have := HN.out; omega) ?_; intro g' cap' w2 hown2 hbel2 hgr2; have HO2 := Lib.hid hown2; have HB2 := Lib.hid hbel2; clear hown2 hbel2 hgr2)
    all_goals
      (go_ret
       exact HE.out _ _ _ HO2.out HB2.out)

end Go.Proofs.YtheenlomlmbjaaaGreatDoor

namespace Go.Proofs.YtheenlomlmbjaaaGreatDoor
open Go.RowKit Go.Maps

theorem set3_last {A : List Value} {a b c x y z : Value} {m : Nat} (h : A.length = m) : (((A ++ [a, b, c]).set m x).set (m + 1) y).set (m + 2) z = A ++ [x, y, z] := by
  subst h
  rw [List.set_append_right _ _ (by omega), List.set_append_right _ _ (by omega), List.set_append_right _ _ (by omega)]
  simp
theorem ptSetLast {w : World} {base g n cap : Nat} {P : List Pt} {x : Pt} (h : OwnR 139 3 encPt w base (.slice (some ⟨g, 0, none⟩) (n + 1) cap) (P ++ [x])) (hn : P.length = n) (y : Pt) :
    OwnR 139 3 encPt (((w.setCell ⟨g, n * 3, none⟩ (.int .i64 y.1)).setCell ⟨g, n * 3 + 1, none⟩ (.int .i64 y.2.1)).setCell ⟨g, n * 3 + 2, none⟩ (.string (bs y.2.2))) base (.slice (some ⟨g, 0, none⟩) (n + 1) cap) (P ++ [y]) := by
  obtain ⟨h1, h2⟩ := h
  refine ⟨flat_len (enc := encPt) (k := 3) (fun _ => rfl) _, .inr ?_⟩
  rcases h2 with ⟨h2, _⟩ | ⟨g', cap', cur, hv, hg, hh, hn', hcap, hs, htake⟩
  · cases h2
  simp only [Value.slice.injEq, Option.some.injEq, Addr.mk.injEq, and_true, true_and] at hv
  obtain ⟨rfl, hl, rfl⟩ := hv
  refine ⟨g, cap, ((cur.setIfInBounds (n * 3) (.int .i64 y.1)).setIfInBounds (n * 3 + 1) (.int .i64 y.2.1)).setIfInBounds (n * 3 + 2) (.string (bs y.2.2)), by simp [hn], hg, heap_setE (heap_setE (heap_setE hh)), by simp [hn] at hn' ⊢; omega, hcap, by simpa using hs, ?_⟩
  have e : (P ++ [y]).length = (P ++ [x]).length := by simp
  rw [e, Array.toList_setIfInBounds, Array.toList_setIfInBounds, Array.toList_setIfInBounds, List.take_set, List.take_set, List.take_set, htake]
  have e2 : (P ++ [x]).flatMap encPt = P.flatMap encPt ++ [.int .i64 x.1, .int .i64 x.2.1, .string (bs x.2.2)] := by simp [encPt]
  have e3 : (P ++ [y]).flatMap encPt = P.flatMap encPt ++ [.int .i64 y.1, .int .i64 y.2.1, .string (bs y.2.2)] := by simp [encPt]
  rw [e2, e3]
  exact set3_last (by rw [flat_len (enc := encPt) (k := 3) (fun _ => rfl), hn])
theorem pt_block {w : World} {base g n cap : Nat} {L : List Pt} (h : OwnR 139 3 encPt w base (.slice (some ⟨g, 0, none⟩) n cap) L) : base ≤ g ∧ g < w.heap.size ∧ n ≤ cap ∧ cap ≤ 9223372036854775807 ∧ (∀ i, w.frozen? ⟨g, i, none⟩ = false) ∧ TyB w g 139 := by
  have hl := h.rowG.len
  rcases h.2 with ⟨e, h0⟩ | ⟨g', cap', cur, e, hg, hh, hn, hcap, hs, htake⟩
  · cases e
  · simp only [Value.slice.injEq, Option.some.injEq, Addr.mk.injEq, and_true, true_and] at e
    obtain ⟨rfl, rfl, rfl⟩ := e
    exact ⟨hg, lt_of_heap hh, by rw [← hl.1] at hn; exact hn, by simp only [maxLen] at hcap; omega, fun i => Lib.frozen_of_heap hh i, ⟨_, _, hh⟩⟩

end Go.Proofs.YtheenlomlmbjaaaGreatDoor

namespace Go.Proofs.YtheenlomlmbjaaaGreatDoor
open Go.RowKit Go.Maps

structure ApB (M : Nat) (k day : Int) (u : Value) (nx pa : Int) (w : World) : Prop where
  m : w.heap[M]? = some (.cells (manC u nx pa) 91 (0, 0))
  e : w.heap[M + 1]? = some (.cells #[.int .i64 k, .int .i64 day, .int .i64 0, .int .i64 0] 241 (0, 0))
  r : w.heap[M + 2]? = some (.cells (manC (.slice none 0 0) 0 0) 91 (0, 0))
section
variable {M : Nat} {k day : Int} {u : Value} {nx pa : Int} {w w' : World}
theorem ApB.belowN {B : Nat} (h : ApB M k day u nx pa w) (hb : Below B w w') (hM : M + 3 ≤ B) : ApB M k day u nx pa w' :=
  ⟨(hb.block M (by omega)).trans h.m, (hb.block (M + 1) (by omega)).trans h.e, (hb.block (M + 2) (by omega)).trans h.r⟩
theorem ApB.lt (h : ApB M k day u nx pa w) : M + 3 ≤ w.heap.size := lt_of_heap h.r
theorem ApB.below (h : ApB M k day u nx pa w) (hb : Below w.heap.size w w') : ApB M k day u nx pa w' := h.belowN hb h.lt
theorem ApB.setU (h : ApB M k day u nx pa w) (v : Value) : ApB M k day v nx pa (w.setCell ⟨M, 0, none⟩ v) :=
  ⟨by rw [heap_setC h.m]; rfl, (Below.heap_setCell _ _ _ _ (by simp only; omega)).trans h.e, (Below.heap_setCell _ _ _ _ (by simp only; omega)).trans h.r⟩
theorem ApB.setN (h : ApB M k day u nx pa w) (n : Int) : ApB M k day u n pa (w.setCell ⟨M, 1, none⟩ (.int .i64 n)) :=
  ⟨by rw [heap_setC h.m]; rfl, (Below.heap_setCell _ _ _ _ (by simp only; omega)).trans h.e, (Below.heap_setCell _ _ _ _ (by simp only; omega)).trans h.r⟩
theorem ApB.cells (h : ApB M k day u nx pa w) : w.cell? ⟨M, 0, none⟩ = some u ∧ w.cell? ⟨M, 1, none⟩ = some (.int .i64 nx) ∧ w.cell? ⟨M, 2, none⟩ = some (.int .i64 pa) ∧ w.cell? ⟨M, 3, none⟩ = some (.bool false) ∧ w.cell? ⟨M, 4, none⟩ = some (.int .i64 0) ∧ w.cell? ⟨M, 5, none⟩ = some (.int .i64 0) ∧ w.cell? ⟨M, 6, none⟩ = some (.int .i64 0) ∧
    w.cell? ⟨M + 1, 0, none⟩ = some (.int .i64 k) ∧ w.cell? ⟨M + 1, 1, none⟩ = some (.int .i64 day) ∧ w.cell? ⟨M + 1, 2, none⟩ = some (.int .i64 0) ∧ w.cell? ⟨M + 1, 3, none⟩ = some (.int .i64 0) ∧ w.frozen? ⟨M, 0, none⟩ = false ∧ w.frozen? ⟨M, 1, none⟩ = false := by
  refine ⟨?_, ?_, ?_, ?_, ?_, ?_, ?_, ?_, ?_, ?_, ?_, Lib.frozen_of_heap h.m 0, Lib.frozen_of_heap h.m 1⟩ <;> first | (rw [cell_of_row w _ _ _ _ _ h.m]; rfl) | (rw [cell_of_row w _ _ _ _ _ h.e]; rfl)
theorem ApB.frz (h : ApB M k day u nx pa w) : ∀ i, w.frozen? ⟨M + 1 + 1, i, none⟩ = false := fun i => Lib.frozen_of_heap h.r i
theorem ApB.rcells (h : ApB M k day u nx pa w) : w.cell? ⟨M + 1 + 1, 0, none⟩ = some (.slice none 0 0) ∧ w.cell? ⟨M + 1 + 1, 1, none⟩ = some (.int .i64 0) ∧ w.cell? ⟨M + 1 + 1, 2, none⟩ = some (.int .i64 0) ∧ w.cell? ⟨M + 1 + 1, 3, none⟩ = some (.bool false) ∧ w.cell? ⟨M + 1 + 1, 4, none⟩ = some (.int .i64 0) ∧ w.cell? ⟨M + 1 + 1, 5, none⟩ = some (.int .i64 0) ∧ w.cell? ⟨M + 1 + 1, 6, none⟩ = some (.int .i64 0) := by
  have hr := h.r
  refine ⟨?_, ?_, ?_, ?_, ?_, ?_, ?_⟩ <;> (rw [show M + 1 + 1 = M + 2 from rfl, cell_of_row w _ _ _ _ _ hr]; rfl)
end
def set7 (w : World) (B : Nat) (v0 v1 v2 v3 v4 v5 v6 : Value) : World := ((((((w.setCell ⟨B, 0, none⟩ v0).setCell ⟨B, 1, none⟩ v1).setCell ⟨B, 2, none⟩ v2).setCell ⟨B, 3, none⟩ v3).setCell ⟨B, 4, none⟩ v4).setCell ⟨B, 5, none⟩ v5).setCell ⟨B, 6, none⟩ v6
theorem set7_out (w : World) (B : Nat) (v0 v1 v2 v3 v4 v5 v6 : Value) : Out (fun k => k = B) w (set7 w B v0 v1 v2 v3 v4 v5 v6) :=
  ((((((Out.setCell w ⟨B, 0, none⟩ v0).same (Out.setCell _ ⟨B, 1, none⟩ v1)).same (Out.setCell _ ⟨B, 2, none⟩ v2)).same (Out.setCell _ ⟨B, 3, none⟩ v3)).same (Out.setCell _ ⟨B, 4, none⟩ v4)).same (Out.setCell _ ⟨B, 5, none⟩ v5)).same (Out.setCell _ ⟨B, 6, none⟩ v6)
theorem set7_below {n B : Nat} {w w' : World} (h : Below n w w') (hB : n ≤ B) (v0 v1 v2 v3 v4 v5 v6 : Value) : Below n w (set7 w' B v0 v1 v2 v3 v4 v5 v6) :=
  ((((((h.setCell hB v0).setCell hB v1).setCell hB v2).setCell hB v3).setCell hB v4).setCell hB v5).setCell hB v6
def App0 (P : List Pt) (n : Nat) (pa day : Int) (w : World) (e : Ending) (w' : World) : Prop := ∃ v, e = .returned (.tuple #[manV v ((n : Int) + 1) pa, .int .i64 0]) ∧ OwnR 139 3 encPt w' w.heap.size v (P ++ [(day, 0, fileN n)]) ∧ Below w.heap.size w w'
set_option maxRecDepth 100000 in
set_option maxHeartbeats 4000000 in
theorem apply0_any (u : Value) (P : List Pt) (n : Nat) (pa day : Int) (w : World) (hu : RowG 3 encPt w u P) (hd : ∀ x ∈ P, x.1 < day) (hn : n < 12) (hPn : P.length = n) (h0 : 0 ≤ day) (h1 : day < 100000) :
    Calls Tryz.prog 120 #[manV u n pa, .agg #[.int .i64 0, .int .i64 day, .int .i64 0, .int .i64 0]] w (App0 P n pa day w) := by
  have HU := Lib.hid hu
  have HD := Lib.hid hd
  have HPn := Lib.hid hPn
  obtain ⟨a, ca, rfl, a1, a2, -⟩ := hu
  rw [hPn] at a1 HU ⊢
  have hw3 := heap3 w (.cells (manC (.slice a n ca) n pa) 91) (.cells #[.int .i64 0, .int .i64 day, .int .i64 0, .int .i64 0] 241) (.cells (manC (.slice none 0 0) 0 0) 91)
  have HA := Lib.hid (show ApB w.heap.size 0 day (.slice a n ca) n pa _ from ⟨hw3.1, hw3.2.1, hw3.2.2.1⟩)
  have HB := Lib.hid hw3.2.2.2.2
  unfold manC at HA HB
  clear hd hPn hw3
  unfold manV
  go_enter Tryz.func120, Tryz.ntmps120
  go_wp2_with fail
  generalize ((w.alloc (.cells #[.slice a n ca, .int .i64 (n : Int), .int .i64 pa, .bool false, .int .i64 0, .int .i64 0, .int .i64 0] 91)).alloc (.cells #[.int .i64 0, .int .i64 day, .int .i64 0, .int .i64 0] 241)).alloc (.cells #[.slice none 0 0, .int .i64 0, .int .i64 0, .bool false, .int .i64 0, .int .i64 0, .int .i64 0] 91) = W at *
  refine (clonePt_any _ P W (HU.out.below HB.out) (by have := HPn.out; omega)).mono ?_
  rintro e w1 ⟨u1, rfl, ho1, hb1⟩
  obtain ⟨va, vn, vc, rfl⟩ := ho1.isSl
  have hvn : vn = n := by rw [(ho1.rowG.len).1, HPn.out]
  subst hvn
  have HA1 := Lib.hid (HA.out.below hb1)
  have HB1 := Lib.hid (HB.out.trans (hb1.mono HB.out.size))
  have HO1 := Lib.hid ho1
  have HMl := Lib.hid HA.out.lt
  have HSz := Lib.hid hb1.size
  clear ho1 hb1
  obtain ⟨m0, m1, m2, m3, m4, m5, m6, e0, e1, e2, e3, fz0, fz1⟩ := HA1.out.cells
  go_wp2_with fail
  have HA2 := Lib.hid (HA1.out.setU (.slice va vn vc))
  have HO2 := Lib.hid (show OwnR 139 3 encPt (w1.setCell ⟨w.heap.size, 0, none⟩ (.slice va vn vc)) W.heap.size (.slice va vn vc) P from HO1.out.out (Out.setCell w1 ⟨w.heap.size, 0, none⟩ _) (fun q e e2 => by
    have h8 := (World.ownsRow.lt HO1.out q e).1
    have h9 := HMl.out
    have h7 : q = w.heap.size := e2
    omega))
  have HB2 := Lib.hid (show Below w.heap.size w (w1.setCell ⟨w.heap.size, 0, none⟩ (.slice va vn vc)) from HB1.out.setCell (Nat.le_refl _) _)
  have HSz2 := Lib.hid (show W.heap.size ≤ (w1.setCell ⟨w.heap.size, 0, none⟩ (.slice va vn vc)).heap.size by simpa using HSz.out)
  generalize w1.setCell ⟨w.heap.size, 0, none⟩ (.slice va vn vc) = w2 at *
  clear m0 m1 m2 m3 m4 m5 m6 e0 e1 e2 e3 fz0 fz1 HA1 HO1 HB1 HSz HA
  have HF := Lib.hid (find_no (.slice va vn vc) (vn : Int) pa P day w2 HO2.out.rowG (fun x hx => by have := HD.out x hx; omega) (by have := HPn.out; omega))
  unfold manV at HF
  obtain ⟨m0, m1, m2, m3, m4, m5, m6, e0, e1, e2, e3, fz0, fz1⟩ := HA2.out.cells
  go_wp2_with fail
  refine HF.out.mono ?_
  rintro e w3 ⟨rfl, hb3⟩
  have HA3 := Lib.hid (HA2.out.below hb3)
  have HO3 := Lib.hid (HO2.out.below hb3)
  have HB3 := Lib.hid (HB2.out.trans (hb3.mono HB2.out.size))
  have HSz3 := Lib.hid (Nat.le_trans HSz2.out hb3.size)
  clear m0 m1 m2 m3 m4 m5 m6 e0 e1 e2 e3 fz0 fz1 HF hb3 HA2 HO2 HB2 HSz2
  obtain ⟨m0, m1, m2, m3, m4, m5, m6, e0, e1, e2, e3, fz0, fz1⟩ := HA3.out.cells
  have hl0 : w.heap.size < w3.heap.size := by have := HA3.out.lt; omega
  have hl1 : w.heap.size + 1 < w3.heap.size := by have := HA3.out.lt; omega
  have hd99 : day ≤ 17179869183 := by omega
  have hn40 : (vn : Int) < 1099511627776 := by omega
  have HAl := Lib.hid (show Below w3.heap.size w3 (w3.alloc (.cells #[.int .i64 0, .int .i64 0, .string (bs [])] 139)) from (Below.refl _ _).alloc (Nat.le_refl _) _)
  go_wp2_with fail
  generalize w3.alloc (.cells #[.int .i64 0, .int .i64 0, .string (bs [])] 139) = w4 at *
  have HA4 := Lib.hid (HA3.out.below HAl.out)
  have HO4 := Lib.hid (HO3.out.below HAl.out)
  have HB4 := Lib.hid (HB3.out.trans (HAl.out.mono HB3.out.size))
  have HSz4 := Lib.hid (Nat.le_trans HSz3.out HAl.out.size)
  clear m0 m1 m2 m3 m4 m5 m6 e0 e1 e2 e3 fz0 fz1
  clear HA3 HO3 HB3 HSz3 HAl hl0 hl1
  obtain ⟨m0, m1, m2, m3, m4, m5, m6, e0, e1, e2, e3, fz0, fz1⟩ := HA4.out.cells
  refine (within_yes day 17179869183 w4 h0 hd99).mono ?_
  rintro e w9 ⟨rfl, rfl⟩
  go_wp2_with fail
  refine (within_yes 0 1 w4 (by omega) (by omega)).mono ?_
  rintro e w9 ⟨rfl, rfl⟩
  have HAt := Lib.hid (at_any (.slice va vn vc) P day w4 HO4.out.rowG HD.out (by have := HPn.out; omega))
  rw [HPn.out] at HAt
  go_wp2_with fail
  refine HAt.out.mono ?_
  rintro e w5 ⟨rfl, hb5⟩
  have HA5 := Lib.hid (HA4.out.below hb5)
  have HO5 := Lib.hid (HO4.out.below hb5)
  have HB5 := Lib.hid (HB4.out.trans (hb5.mono HB4.out.size))
  have HSz5 := Lib.hid (Nat.le_trans HSz4.out hb5.size)
  clear m0 m1 m2 m3 m4 m5 m6 e0 e1 e2 e3 fz0 fz1
  clear HA4 HO4 HB4 HSz4 hb5 HAt
  obtain ⟨m0, m1, m2, m3, m4, m5, m6, e0, e1, e2, e3, fz0, fz1⟩ := HA5.out.cells
  have HIn := Lib.hid (fun (W5 : World) (hb : Below w5.heap.size w5 W5) (g : Nat) (hg : W5.heap[g]? = some (.cells #[.int .i64 0, .int .i64 0, .string (bs [])] 139 (0, 0))) => insert_any W.heap.size g (.slice va vn vc) P W5 (HO5.out.below hb) (by have := HPn.out; omega) (Nat.le_trans HSz5.out hb.size) hg)
  rw [HPn.out] at HIn
  have HAl := Lib.hid (show Below w5.heap.size w5 (w5.alloc (.cells #[.int .i64 0, .int .i64 0, .string (bs [])] 139)) from (Below.refl _ _).alloc (Nat.le_refl _) _)
  go_wp2_with fail
  refine (HIn.out _ HAl.out _ (heap_alloc_new ..)).mono ?_
  rintro e w6 ⟨g, c6, rfl, ho6, hb6⟩
  have HA6 := Lib.hid ((HA5.out.below HAl.out).belowN hb6 HMl.out)
  have HO6 := Lib.hid ho6
  have HB6 := Lib.hid ((HB5.out.trans (HAl.out.mono HB5.out.size)).trans (hb6.mono (by have := HMl.out; omega)))
  clear m0 m1 m2 m3 m4 m5 m6 e0 e1 e2 e3 fz0 fz1
  clear HA5 HO5 HB5 HSz5 hb6 ho6 HIn HAl
  obtain ⟨m0, m1, m2, m3, m4, m5, m6, e0, e1, e2, e3, fz0, fz1⟩ := HA6.out.cells
  obtain ⟨hgl, hgs, hgc, hgm, hgf, -⟩ := pt_block HO6.out
  have hgM : ¬ w.heap.size = g := by have := HMl.out; omega
  have HA7 := Lib.hid (HA6.out.setU (.slice (some ⟨g, 0, none⟩) (vn + 1) c6))
  have HO7 := Lib.hid (show OwnR 139 3 encPt (w6.setCell ⟨w.heap.size, 0, none⟩ (.slice (some ⟨g, 0, none⟩) (vn + 1) c6)) W.heap.size (.slice (some ⟨g, 0, none⟩) (vn + 1) c6) (P ++ [(0, 0, [])]) from HO6.out.out (Out.setCell w6 ⟨w.heap.size, 0, none⟩ _) (fun q e e2 => by
    have h8 := (World.ownsRow.lt HO6.out q e).1
    have h9 := HMl.out
    have h7 : q = w.heap.size := e2
    omega))
  have HB7 := Lib.hid (show Below w.heap.size w (w6.setCell ⟨w.heap.size, 0, none⟩ (.slice (some ⟨g, 0, none⟩) (vn + 1) c6)) from HB6.out.setCell (Nat.le_refl _) _)
  go_upto_region 19 with (fail)
  generalize w6.setCell ⟨w.heap.size, 0, none⟩ (.slice (some ⟨g, 0, none⟩) (vn + 1) c6) = w7 at *
  clear m0 m1 m2 m3 m4 m5 m6 e0 e1 e2 e3 fz0 fz1
  clear HA6 HO6 HB6
  obtain ⟨m0, m1, m2, m3, m4, m5, m6, e0, e1, e2, e3, fz0, fz1⟩ := HA7.out.cells
  obtain ⟨-, hgs7, -, -, hgf7, -⟩ := pt_block HO7.out
  have f0 := hgf7 (vn * 3)
  have f1 := hgf7 (vn * 3 + 1)
  have f2 := hgf7 (vn * 3 + 2)
  obtain ⟨b, o, hbo, hbl, hc⟩ := HO7.out.rowG.at_ (fun _ => rfl) (0, 0, []) (i := vn) (by have := HPn.out; simp; omega)
  obtain ⟨rfl, rfl⟩ : g = b ∧ 0 = o := by simp only [Option.some.injEq, Addr.mk.injEq] at hbo; exact ⟨hbo.1, hbo.2.1⟩
  have q0 := hc 0 (by omega)
  have q1 := hc 1 (by omega)
  have q2 := hc 2 (by omega)
  have hget : (P ++ [((0, 0, []) : Pt)]).getD vn (0, 0, []) = (0, 0, []) := by have := HPn.out; rw [← this]; simp [List.getD]
  rw [hget] at q0 q1 q2
  simp only [encPt, Nat.add_zero, Nat.zero_add, List.getElem?_cons_zero, List.getElem?_cons_succ] at q0 q1 q2
  have HFi := Lib.hid (fun W => file_any vn W hn)
  obtain ⟨fnm, hfn⟩ : ∃ fnm, fnm = fileN vn := ⟨_, rfl⟩
  have HFn := Lib.hid hfn.symm
  rw [← hfn] at HFi
  clear hfn
  have hv0 : (0 : Int) ≤ (vn : Int) := by omega
  have hv1 : (vn : Int) < (vn : Int) + 1 := by omega
  clear hc hget hbo hgf hgf7 hgc
  go_still_tail 12, (by kernel_rfl)
  still_call ((HFi.out _).mono fun e w' h => ⟨h.1, h.2.symm⟩)
  repeat still_step
  refine wpStill_nil ?_
  change wpList _ _ _ _ _ w7.drew
  have HA8 := Lib.hid (show ApB w.heap.size 0 day (.slice (some ⟨g, 0, none⟩) (vn + 1) c6) vn pa (((w7.setCell ⟨g, vn * 3, none⟩ (.int .i64 day)).setCell ⟨g, vn * 3 + 1, none⟩ (.int .i64 0)).setCell ⟨g, vn * 3 + 2, none⟩ (.string (bs fnm))).drew from
    HA7.out.belowN (B := W.heap.size) ((((Below.refl _ _).setCell hgl _).setCell hgl _).setCell hgl _).drew HMl.out)
  have HO8 := Lib.hid (show OwnR 139 3 encPt (((w7.setCell ⟨g, vn * 3, none⟩ (.int .i64 day)).setCell ⟨g, vn * 3 + 1, none⟩ (.int .i64 0)).setCell ⟨g, vn * 3 + 2, none⟩ (.string (bs fnm))).drew W.heap.size (.slice (some ⟨g, 0, none⟩) (vn + 1) c6) (P ++ [(day, 0, fnm)]) from
    (ptSetLast HO7.out HPn.out (day, 0, fnm)).below (Below.refl _ _).drew)
  have HB8 := Lib.hid (show Below w.heap.size w (((w7.setCell ⟨g, vn * 3, none⟩ (.int .i64 day)).setCell ⟨g, vn * 3 + 1, none⟩ (.int .i64 0)).setCell ⟨g, vn * 3 + 2, none⟩ (.string (bs fnm))).drew from
    (((HB7.out.setCell (show w.heap.size ≤ g by have := HMl.out; omega) _).setCell (show w.heap.size ≤ g by have := HMl.out; omega) _).setCell (show w.heap.size ≤ g by have := HMl.out; omega) _).drew)
  have hwp1 : IntKind.i64.wrap ((vn : Int) + 1) = (vn : Int) + 1 := IntWalk.i64_in _ (by omega)
  go_upto_region 20 with (fail)
  generalize (((w7.setCell ⟨g, vn * 3, none⟩ (.int .i64 day)).setCell ⟨g, vn * 3 + 1, none⟩ (.int .i64 0)).setCell ⟨g, vn * 3 + 2, none⟩ (.string (bs fnm))).drew = w8 at *
  clear m0 m1 m2 m3 m4 m5 m6 e0 e1 e2 e3 fz0 fz1
  clear f0 f1 f2 q0 q1 q2 HA7 HO7 HB7 HFi
  obtain ⟨m0, m1, m2, m3, m4, m5, m6, e0, e1, e2, e3, fz0, fz1⟩ := HA8.out.cells
  have HA9 := Lib.hid (HA8.out.setN ((vn : Int) + 1))
  have HO9 := Lib.hid (show OwnR 139 3 encPt (w8.setCell ⟨w.heap.size, 1, none⟩ (.int .i64 ((vn : Int) + 1))) W.heap.size (.slice (some ⟨g, 0, none⟩) (vn + 1) c6) (P ++ [(day, 0, fnm)]) from HO8.out.out (Out.setCell w8 ⟨w.heap.size, 1, none⟩ _) (fun q e e2 => by
    have h8 := (World.ownsRow.lt HO8.out q e).1
    have h9 := HMl.out
    have h7 : q = w.heap.size := e2
    omega))
  have HB9 := Lib.hid (show Below w.heap.size w (w8.setCell ⟨w.heap.size, 1, none⟩ (.int .i64 ((vn : Int) + 1))) from HB8.out.setCell (Nat.le_refl _) _)
  go_upto_region 33 with (fail)
  generalize w8.setCell ⟨w.heap.size, 1, none⟩ (.int .i64 ((vn : Int) + 1)) = w9 at *
  clear m0 m1 m2 m3 m4 m5 m6 e0 e1 e2 e3 fz0 fz1
  clear HA8 HO8 HB8
  obtain ⟨m0, m1, m2, m3, m4, m5, m6, e0, e1, e2, e3, fz0, fz1⟩ := HA9.out.cells
  have hrf := HA9.out.frz
  have hr := HA9.out.r
  obtain ⟨r0, r1, r2, r3, r4, r5, r6⟩ := HA9.out.rcells
  have g0 := HA9.out.frz 0
  have g1 := HA9.out.frz 1
  have g2 := HA9.out.frz 2
  have g3 := HA9.out.frz 3
  have g4 := HA9.out.frz 4
  have g5 := HA9.out.frz 5
  have g6 := HA9.out.frz 6
  have HEnd := Lib.hid (show App0 P vn pa day w (.returned (.tuple #[manV (.slice (some ⟨g, 0, none⟩) (vn + 1) c6) ((vn : Int) + 1) pa, .int .i64 0])) (set7 w9 (w.heap.size + 1 + 1) (.slice (some ⟨g, 0, none⟩) (vn + 1) c6) (.int .i64 ((vn : Int) + 1)) (.int .i64 pa) (.bool false) (.int .i64 0) (.int .i64 0) (.int .i64 0)) from
    ⟨_, rfl, by
      rw [HFn.out]
      exact (HO9.out.out (set7_out ..) (fun q e e2 => by
        have h8 := (World.ownsRow.lt HO9.out q e).1
        have h9 := HMl.out
        omega)).baseLe (by have := HMl.out; omega), set7_below HB9.out (by omega) ..⟩)
  unfold manV set7 at HEnd
  clear hrf hr
  go_wp2_with fail
  exact bodyPost_ret (v := .tuple #[.agg #[.slice (some ⟨g, 0, none⟩) (vn + 1) c6, .int .i64 ((vn : Int) + 1), .int .i64 pa, .bool false, .int .i64 0, .int .i64 0, .int .i64 0], .int .i64 0]) (by simp [results, Tryz.results120, go_sem, r0, r1, r2, r3, r4, r5, r6]) rfl HEnd.out

end Go.Proofs.YtheenlomlmbjaaaGreatDoor

namespace Go.Proofs.YtheenlomlmbjaaaGreatDoor
open Go.RowKit Go.Maps

def DRise (P : List Pt) : Prop := P.Pairwise fun x y => x.1 < y.1
theorem find_or (u : Value) (nx pa : Int) (P : List Pt) (day : Int) (w : World) (hu : RowG 3 encPt w u P) (hP : DRise P) (hl : P.length ≤ 1000) :
    Calls Tryz.prog 82 #[manV u nx pa, .int .i64 day] w fun e w' => ∃ x0 x1 x2 b, e = .returned (.tuple #[.agg #[.int .i64 x0, .int .i64 x1, .string (bs x2)], .bool b]) ∧ Below w.heap.size w w' := by
  by_cases h : ∀ x ∈ P, x.1 ≠ day
  · exact (find_no u nx pa P day w hu h hl).mono fun e w' h => ⟨0, 0, [], false, h.1, h.2⟩
  · have h2 : ∃ x ∈ P, x.1 = day := Classical.byContradiction fun hn => h fun x hx e => hn ⟨x, hx, e⟩
    obtain ⟨x, hx, e⟩ := h2
    obtain ⟨i, hi, rfl⟩ := List.mem_iff_getElem.1 hx
    have hg : ∀ j (hj : j < P.length), P.getD j (0, 0, []) = P[j] := fun j hj => by rw [List.getD_eq_getElem?_getD, List.getElem?_eq_getElem hj]; rfl
    exact (find_yes u nx pa P day i w hu hi (by rw [hg i hi]; exact e) (fun j hj => by
      have := List.pairwise_iff_getElem.1 hP j i (by omega) hi hj
      rw [hg j (by omega)]; omega) hl).mono fun e w' h => ⟨_, _, _, true, h.1, h.2⟩
set_option maxRecDepth 100000 in
set_option maxHeartbeats 4000000 in
theorem apply2_any (u : Value) (P : List Pt) (n : Nat) (w : World) (hu : RowG 3 encPt w u P) (hP : DRise P) (hn : n < 100) (hPn : P.length = n) :
    Calls Tryz.prog 120 #[manV u n 0, .agg #[.int .i64 2, .int .i64 0, .int .i64 0, .int .i64 0]] w fun e w' => e = .returned (.tuple #[manV (.slice none 0 0) 0 0, .int .i64 170]) ∧ Below w.heap.size w w' := by
  have HU := Lib.hid hu
  have HP := Lib.hid hP
  have HPn := Lib.hid hPn
  obtain ⟨a, ca, rfl, a1, a2, -⟩ := hu
  rw [hPn] at a1 HU ⊢
  have hw3 := heap3 w (.cells (manC (.slice a n ca) n 0) 91) (.cells #[.int .i64 2, .int .i64 0, .int .i64 0, .int .i64 0] 241) (.cells (manC (.slice none 0 0) 0 0) 91)
  have HA := Lib.hid (show ApB w.heap.size 2 0 (.slice a n ca) n 0 _ from ⟨hw3.1, hw3.2.1, hw3.2.2.1⟩)
  have HB := Lib.hid hw3.2.2.2.2
  unfold manC at HA HB
  clear hP hPn hw3
  unfold manV
  go_enter Tryz.func120, Tryz.ntmps120
  go_wp2_with fail
  generalize ((w.alloc (.cells #[.slice a n ca, .int .i64 (n : Int), .int .i64 0, .bool false, .int .i64 0, .int .i64 0, .int .i64 0] 91)).alloc (.cells #[.int .i64 2, .int .i64 0, .int .i64 0, .int .i64 0] 241)).alloc (.cells #[.slice none 0 0, .int .i64 0, .int .i64 0, .bool false, .int .i64 0, .int .i64 0, .int .i64 0] 91) = W at *
  refine (clonePt_any _ P W (HU.out.below HB.out) (by have := HPn.out; omega)).mono ?_
  rintro e w1 ⟨u1, rfl, ho1, hb1⟩
  obtain ⟨va, vn, vc, rfl⟩ := ho1.isSl
  have hvn : vn = n := by rw [(ho1.rowG.len).1, HPn.out]
  subst hvn
  have HA1 := Lib.hid (HA.out.below hb1)
  have HB1 := Lib.hid (HB.out.trans (hb1.mono HB.out.size))
  have HO1 := Lib.hid ho1
  have HMl := Lib.hid HA.out.lt
  clear ho1 hb1
  obtain ⟨m0, m1, m2, m3, m4, m5, m6, e0, e1, e2, e3, fz0, fz1⟩ := HA1.out.cells
  go_wp2_with fail
  have HA2 := Lib.hid (HA1.out.setU (.slice va vn vc))
  have HO2 := Lib.hid (show OwnR 139 3 encPt (w1.setCell ⟨w.heap.size, 0, none⟩ (.slice va vn vc)) W.heap.size (.slice va vn vc) P from HO1.out.out (Out.setCell w1 ⟨w.heap.size, 0, none⟩ _) (fun q e e2 => by
    have h8 := (World.ownsRow.lt HO1.out q e).1
    have h9 := HMl.out
    have h7 : q = w.heap.size := e2
    omega))
  have HB2 := Lib.hid (show Below w.heap.size w (w1.setCell ⟨w.heap.size, 0, none⟩ (.slice va vn vc)) from HB1.out.setCell (Nat.le_refl _) _)
  generalize w1.setCell ⟨w.heap.size, 0, none⟩ (.slice va vn vc) = w2 at *
  clear m0 m1 m2 m3 m4 m5 m6 e0 e1 e2 e3 fz0 fz1 HA1 HO1 HB1 HA
  have HF := Lib.hid (find_or (.slice va vn vc) (vn : Int) 0 P 0 w2 HO2.out.rowG HP.out (by have := HPn.out; omega))
  unfold manV at HF
  obtain ⟨m0, m1, m2, m3, m4, m5, m6, e0, e1, e2, e3, fz0, fz1⟩ := HA2.out.cells
  go_wp2_with fail
  refine HF.out.mono ?_
  rintro e w3 ⟨x0, x1, x2, b, rfl, hb3⟩
  have HA3 := Lib.hid (HA2.out.below hb3)
  have HB3 := Lib.hid (HB2.out.trans (hb3.mono HB2.out.size))
  clear m0 m1 m2 m3 m4 m5 m6 e0 e1 e2 e3 fz0 fz1 HF hb3 HA2 HO2 HB2
  have HAl := Lib.hid (show Below w3.heap.size w3 (w3.alloc (.cells #[.int .i64 x0, .int .i64 x1, .string (bs x2)] 139)) from (Below.refl _ _).alloc (Nat.le_refl _) _)
  go_upto_region 3 with (fail)
  generalize w3.alloc (.cells #[.int .i64 x0, .int .i64 x1, .string (bs x2)] 139) = w4 at *
  have HA4 := Lib.hid (HA3.out.below HAl.out)
  have HB4 := Lib.hid (HB3.out.trans (HAl.out.mono HB3.out.size))
  obtain ⟨m0, m1, m2, m3, m4, m5, m6, e0, e1, e2, e3, fz0, fz1⟩ := HA4.out.cells
  have HA5 := Lib.hid (show ApB w.heap.size 2 0 (.slice va vn vc) vn 0 (w4.setCell ⟨w.heap.size, 2, none⟩ (.int .i64 0)) from
    ⟨by rw [heap_setC HA4.out.m]; rfl, (Below.heap_setCell _ _ _ _ (by simp only; omega)).trans HA4.out.e, (Below.heap_setCell _ _ _ _ (by simp only; omega)).trans HA4.out.r⟩)
  have HB5 := Lib.hid (show Below w.heap.size w (w4.setCell ⟨w.heap.size, 2, none⟩ (.int .i64 0)) from HB4.out.setCell (Nat.le_refl _) _)
  have fz2 : w4.frozen? ⟨w.heap.size, 2, none⟩ = false := Lib.frozen_of_heap HA4.out.m 2
  go_upto_region 31 with (fail)
  generalize w4.setCell ⟨w.heap.size, 2, none⟩ (.int .i64 0) = w5 at *
  clear m0 m1 m2 m3 m4 m5 m6 e0 e1 e2 e3 fz0 fz1 fz2
  obtain ⟨r0, r1, r2, r3, r4, r5, r6⟩ := HA5.out.rcells
  have g0 := HA5.out.frz 0
  have g1 := HA5.out.frz 1
  have g2 := HA5.out.frz 2
  have g3 := HA5.out.frz 3
  have g4 := HA5.out.frz 4
  have g5 := HA5.out.frz 5
  have g6 := HA5.out.frz 6
  have HEnd := Lib.hid (show Below w.heap.size w (set7 w5 (w.heap.size + 1 + 1) (.slice none 0 0) (.int .i64 0) (.int .i64 0) (.bool false) (.int .i64 0) (.int .i64 0) (.int .i64 0)) from set7_below HB5.out (by omega) ..)
  unfold set7 at HEnd
  go_wp2_with fail
  exact bodyPost_ret (v := .tuple #[.agg #[.slice none 0 0, .int .i64 0, .int .i64 0, .bool false, .int .i64 0, .int .i64 0, .int .i64 0], .int .i64 170]) (by simp [results, Tryz.results120, go_sem, r0, r1, r2, r3, r4, r5, r6]) rfl ⟨rfl, HEnd.out⟩

end Go.Proofs.YtheenlomlmbjaaaGreatDoor
