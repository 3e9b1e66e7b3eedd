/-
  zig.Text of short texts; label.Key.
-/
import Derived.Test.YtamdkmcdleilpaaPrintAny
import Derived.Deep.AppendLies
namespace Go.Proofs.Ytamdkmcdleilpaa
open Go.RowKit

theorem conv1 {w : World} {base g cap : Nat} {n : Nat} (h : w.ownsRow base 5 1 (.slice (some ⟨g, 0, none⟩) (0 + 1) cap) (0 + 1) ([] ++ [.int .u8 (n : Int)])) (h3 : ((UInt8.ofNat n).toNat : Int) = (n : Int)) :
    (convert 62 9 (.slice (some ⟨g, 0, none⟩) 1 cap)).run Try.prog w = .ok (.string (bs [UInt8.ofNat n])) w := by
  have hc : w.cell? ⟨g, 0, none⟩ = some (.int .u8 (n : Int)) := by
    rcases h.2 with ⟨h, _⟩ | ⟨g', cap', cur, hv, hg, hh, hn, hcap, hs, htake⟩
    · cases h
    · simp only [Value.slice.injEq, Option.some.injEq, Addr.mk.injEq] at hv
      obtain ⟨⟨rfl, _⟩, _, rfl⟩ := hv
      rw [cell_of_row w g 0 cur _ (0, 0) hh]
      have : (cur.toList.take ((0 + 1) * 1))[0]? = some (.int .u8 (n : Int)) := by rw [htake]; rfl
      rw [List.getElem?_take] at this
      simpa using this
  have := run_convert_bytes_back w 62 9 5 ⟨g, 0, none⟩ cap [UInt8.ofNat n] Try.underlying62 Try.underlying5 Try.underlying9 (fun j hj => by
    have : j = 0 := by simpa using hj
    subst this
    rw [Addr.add_lit]
    show w.cell? ⟨g, 0 + 0, none⟩ = _
    rw [Nat.add_zero, hc]
    show some (Value.int .u8 (n : Int)) = some (.int .u8 (((UInt8.ofNat n).toNat : Nat) : Int))
    rw [h3])
  exact this

set_option maxRecDepth 100000 in
set_option maxHeartbeats 1000000 in
theorem uint_any (n : Nat) (w : World) (hn : n < 128) :
    Calls Try.prog 78 #[.int .u64 n] w fun e w' => e = .returned (.string (bs [UInt8.ofNat n])) ∧ Below w.heap.size w w' := by
  have h1 : ¬ ((128 : Int) ≤ (n : Int)) := by omega
  have h2 : IntKind.u8.wrap (n : Int) = (n : Int) := IntWalk.u8_in _ (by omega)
  have h3 : ((UInt8.ofNat n).toNat : Int) = (n : Int) := by
    have : (UInt8.ofNat n).toNat = n := by simp; omega
    omega
  obtain ⟨i0, hi, hz0, hz1, hz2⟩ := info_parts infoByte
  have HI := Lib.hid (show i0.bytes * 10 ≤ 281474976710656 by rw [hz2]; omega)
  go_enter Try.func78, Try.ntmps78
  go_wp2_with (at_make; refine wpList_make_own _ rfl _ _ 62 rfl w.heap.size 5 i0 _ 1 Try.underlying62 hi hz0 hz1 .i64 .i64 10 10 rfl rfl rfl HI.out (by decide) (Nat.le_refl _) ?_; intro w1 hown1 hg1; have HO1 := Lib.hid hown1; have HG1 := Lib.hid ((Below.refl w.heap.size w).grown hg1 (Nat.le_refl _) (fun k hk => by cases hk)); clear hown1 hg1)
  go_loopw [0, 3] (fun q p wr => q = .int .u64 n ∧ p = .slice (some ⟨w.heap.size, 0, none⟩) 0 10 ∧ wr = w1) (fun q p wr => 0)
  case atStart => exact ⟨rfl, rfl, rfl⟩
  case round =>
    obtain ⟨rfl, rfl, rfl⟩ := hrel
    go_wp2_with (at_builtin; refine wpList_append_lies _ rfl (.tmp 15) (.tmp 18) 62 rfl w.heap.size 5 i0 _ 1 1 Try.underlying62 hi hz0 hz1 hz2 rfl (by decide) _ 0 [] rfl (HO1.out.alloc _) ⟨wr.heap.size, 0, none⟩ 1 1 [.int .u8 n] rfl rfl (World.news_of_block (heap_alloc_new ..)) (by intro u hu; simp at hu; subst hu; rfl) (by omega) (by decide) (by decide) (by have := HG1.out.size; simp; omega) _ rfl ?_; intro g cap w2 hown2 hg2 _ _; have hcv := conv1 hown2 h3; have HG2 := Lib.hid ((HG1.out.alloc HG1.out.size _).grown hg2 (by have := HG1.out.size; simp; omega) (fun k hk => by cases hk; exact Nat.le_refl _)); clear hown2 hg2)
    go_ret
    exact ⟨rfl, HG2.out⟩

set_option maxRecDepth 100000 in
theorem text_any (l : Bytes) (w : World) (hl : l.length < 128) :
    Calls Try.prog 57 #[.string (bs l)] w fun e w' => e = .returned (.string (bs (UInt8.ofNat l.length :: l))) ∧ Below w.heap.size w w' := by
  have h1 : IntKind.u64.wrap (l.length : Int) = (l.length : Int) := IntWalk.u64_in _ (by omega)
  go_enter Try.func57, Try.ntmps57
  go_wp2_with fail
  refine (uint_any l.length _ hl).mono ?_
  rintro e w1 ⟨rfl, hd⟩
  have HB := Lib.hid hd
  clear hd
  go_wp2_with fail
  go_ret
  exact ⟨rfl, HB.out⟩

def keyPart (x : Lab) : Bytes := (UInt8.ofNat x.1.length :: x.1) ++ (UInt8.ofNat x.2.length :: x.2)
def keyL (ls : List Lab) : Bytes := ls.flatMap keyPart
theorem chk_lens {ls : List Lab} (h : chkL ls = true) : ls.length ≤ 8 ∧ ∀ x ∈ ls, x.1.length ≤ 16 ∧ x.2.length ≤ 32 := by
  simp only [chkL, Bool.and_eq_true, decide_eq_true_eq] at h
  refine ⟨h.1, ?_⟩
  have key : ∀ (l : List Lab) (last : Bytes), chkFrom last l = true → ∀ x ∈ l, x.1.length ≤ 16 ∧ x.2.length ≤ 32 := by
    intro l
    induction l with
    | nil => intro _ _ x hx; cases hx
    | cons y r ih =>
      intro last h x hx
      simp only [chkFrom, Bool.and_eq_true] at h
      obtain ⟨⟨⟨⟨a1, _⟩, _⟩, a4⟩, a5⟩ := h
      rcases List.mem_cons.1 hx with e | e
      · rw [e]
        simp only [nameB, Bool.and_eq_true, decide_eq_true_eq] at a1
        simp only [valueB, Bool.and_eq_true, decide_eq_true_eq] at a4
        exact ⟨a1.1.1.2, a4.1⟩
      · exact ih _ a5 x e
  exact key ls [] h.2

theorem keyL_succ {ls : List Lab} {k : Nat} (h : k < ls.length) : keyL (ls.take (k + 1)) = keyL (ls.take k) ++ keyPart (ls.getD k ([], [])) := by
  have e : ls.take (k + 1) = ls.take k ++ [ls.getD k ([], [])] := by
    rw [List.take_add_one, List.getElem?_eq_getElem h]; simp [List.getD, List.getElem?_eq_getElem h]
  unfold keyL; rw [e, List.flatMap_append]; simp
theorem keyL_len {ls : List Lab} (h : ∀ x ∈ ls, x.1.length ≤ 16 ∧ x.2.length ≤ 32) : (keyL ls).length ≤ 50 * ls.length := by
  induction ls with
  | nil => simp [keyL]
  | cons x r ih =>
    have h1 := ih fun y hy => h y (List.mem_cons_of_mem _ hy)
    have h2 := h x (List.mem_cons_self ..)
    have e : (keyL (x :: r)).length = (keyPart x).length + (keyL r).length := by simp [keyL]
    have e2 : (keyPart x).length = x.1.length + x.2.length + 2 := by simp [keyPart]; omega
    rw [e, e2]; simp only [List.length_cons]; omega
theorem Hb.below {b : Nat} {Ks : Nat → Option Obj} {l : Bytes} {w w' : World} (h : Hb b Ks l w) (hb : Below w.heap.size w w') : Hb b Ks l w' := by
  have hlt := h.lt
  obtain ⟨p, v, hp, hh, hown, hk⟩ := h
  refine ⟨p, v, hp, (hb.block b hlt).trans hh, ?_, fun k o h => ?_⟩
  · obtain ⟨h1, h2⟩ := hown
    refine ⟨h1, ?_⟩
    rcases h2 with h2 | ⟨g, cap, cur, hv, hg, hg', r⟩
    · exact .inl h2
    · exact .inr ⟨g, cap, cur, hv, hg, by rw [hb.block g (lt_of_heap hg')]; exact hg', r⟩
  · obtain ⟨k1, k2, k3⟩ := hk k o h
    exact ⟨k1, k2, (hb.block k (lt_of_heap k3)).trans k3⟩
theorem Hb.none {b : Nat} {Ks : Nat → Option Obj} {l : Bytes} {w : World} (h : Hb b Ks l w) : Hb b (fun _ => none) l w := by
  obtain ⟨p, v, hp, hh, hown, hk⟩ := h
  exact ⟨p, v, hp, hh, hown, fun k o h => by cases h⟩
set_option maxHeartbeats 1000000 in
set_option maxRecDepth 100000 in
theorem builderString_fresh {b : Nat} {w : World} (hb : w.heap[b]? = some (.cells #[.pointer none, .slice none 0 0] 64 (0, 0))) :
    Calls Try.prog 52 #[.pointer (some ⟨b, 0, none⟩)] w fun e w' => e = .returned (.string (bs [])) ∧ w' = w.drew := by
  have c1 : w.drew.cell? ⟨b, 1, none⟩ = some (.slice none 0 0) := by
    have : w.drew.heap[b]? = some (.cells #[.pointer none, .slice none 0 0] 64 (0, 0)) := hb
    rw [Lib.cell_of_heap this]; rfl
  have hSD : (Builtin.unsafeSliceData_ #[62] 90 #[.slice none 0 0]).run Try.prog w.drew = .ok (.pointer none) w.drew := rfl
  have hUS : (Builtin.unsafeString_ #[90, 3] 9 #[.pointer none, .int .i64 0]).run Try.prog w.drew = .ok (.string .empty) w.drew := Lib.run_unsafeString_none _ _ _ _ _
  have mixed : Try.prog.follows .mixedOrders = true := by kernel_rfl
  clear hb
  go_enter Try.func52, Try.ntmps52
  go_wp2_with fail
  go_region_o
  all_goals (go_wp2; go_ret; exact ⟨rfl, rfl⟩)

def printK (K : Bytes) (b : Bool) : Bytes := if b then K else []

set_option maxRecDepth 100000 in
set_option maxHeartbeats 4000000 in
attribute [local go_sem ↓] Go.wp_at_zero Go.wp_at_succ in
theorem key_any (v : Value) (ls : List Lab) (w : World) (hv : Labels w v ls) :
    Calls Try.prog 36 #[v] w fun e w' => e = .returned (.tuple #[.string (bs (printK (keyL ls) (chkL ls))), .int .i64 (errL (chkL ls))]) ∧ Below w.heap.size w w' := by
  have HL0 := Lib.hid hv
  have HCk := Lib.hid (check_any v ls w hv)
  obtain ⟨a, cap, rfl, h1, h2, -⟩ := hv
  cases hb : chkL ls with
  | false =>
    rw [hb] at HCk
    go_enter Try.func36, Try.ntmps36
    go_wp2_with fail
    refine HCk.out.mono ?_
    rintro e w1 ⟨rfl, hd⟩
    have HB := Lib.hid hd
    clear hd
    go_wp2_with fail
    go_ret2
    exact ⟨rfl, HB.out⟩
  | true =>
    rw [hb, show errL true = 0 from rfl] at HCk
    obtain ⟨hl8, hlx⟩ := chk_lens hb
    have HLx := Lib.hid hlx
    clear hb hlx
    go_enter Try.func36, Try.ntmps36
    go_wp2_with fail
    refine HCk.out.mono ?_
    rintro e w1 ⟨rfl, hd⟩
    have HB1 := Lib.hid hd
    clear hd HCk
    have HF := Lib.hid (Hb.fresh w1)
    have HB2 := Lib.hid (HB1.out.alloc HB1.out.size (.cells #[.pointer none, .slice none 0 0] 64))
    have hsz1 := HB1.out.size
    go_wp2_with fail
    go_loopw [15, 7] (fun i p wr => ∃ k : Nat, k ≤ ls.length ∧ i = .int .i64 k ∧ Hb w1.heap.size (fun _ => none) (keyL (ls.take k)) wr ∧ Below w.heap.size w wr ∧ (k = 0 → wr.heap[w1.heap.size]? = some (.cells #[.pointer none, .slice none 0 0] 64 (0, 0))))
      (fun i p wr => ls.length - (intOf i).toNat)
    case atStart => exact ⟨0, Nat.zero_le _, rfl, HF.out, HB2.out, fun _ => heap_alloc_new w1 _⟩
    case round =>
      obtain ⟨k, hk, rfl, hh, hbb, hz⟩ := hrel
      have HZ := Lib.hid hz
      clear hz
      have HH := Lib.hid hh
      have HB := Lib.hid hbb
      clear hh hbb HF HB2
      by_cases hlt : k < ls.length
      · obtain ⟨b, off, rfl, hb, hc1, hc2⟩ := (HL0.out.below HB.out).at_ hlt
        have HK := Lib.hid (keyL_succ hlt)
        have hkl := keyL_len (ls := ls.take k) (fun x hx => HLx.out x (List.mem_of_mem_take hx))
        have htk : (ls.take k).length ≤ ls.length := by simp; omega
        have hlx := HLx.out (ls.getD k ([], [])) (by simp only [List.getD, List.getElem?_eq_getElem hlt, Option.getD_some]; exact List.getElem_mem hlt)
        generalize ls.getD k ([], []) = x at *
        obtain ⟨n, y⟩ := x
        simp only at hlx hc1 hc2
        have HKp := Lib.hid (show keyPart (n, y) = (UInt8.ofNat n.length :: n) ++ (UInt8.ofNat y.length :: y) from rfl)
        rw [HKp.out] at HK
        generalize keyL (ls.take k) = kl at *
        have hg1 : ¬ ((UInt8.ofNat n.length :: n).length + (UInt8.ofNat y.length :: y).length > 9223372036854775807) := by simp; omega
        have hg2 : ¬ (9223372036854775807 < n.length + 1 + (y.length + 1)) := by omega
        have HA := Lib.hid (show Hb w1.heap.size (fun k => if k = wr.heap.size then some (.cells #[.string (bs n), .string (bs y)] 43 (0, 0)) else none) kl (wr.alloc (.cells #[.string (bs n), .string (bs y)] 43)).drew from (HH.out.alloc _).drew)
        have HBa := Lib.hid ((HB.out.alloc HB.out.size (.cells #[.string (bs n), .string (bs y)] 43)).drew)
        have hln : n.length < 128 := by omega
        have hly : y.length < 128 := by omega
        go_wp2_with fail
        go_region_held3 (fun w' => w'.cell? ⟨wr.heap.size, 0, none⟩ = some (.string (bs n)) ∧ w'.cell? ⟨wr.heap.size, 1, none⟩ = some (.string (bs y)))
          (first | exact ⟨by rw [Lib.cell_of_heap (hh4.kept (k := wr.heap.size) (if_pos rfl))]; rfl, by rw [Lib.cell_of_heap (hh4.kept (k := wr.heap.size) (if_pos rfl))]; rfl⟩ | exact keep2 (by assumption) hb2 | exact keep2 (by assumption) hb1 | go_keep)
          (first
            | (go_at_call 57; refine (text_any n _ hln).mono ?_; rintro e w2 ⟨rfl, hb1⟩)
            | (go_at_call 57; refine (text_any y _ hly).mono ?_; rintro e w3 ⟨rfl, hb2⟩)
            | (go_at_call 51; refine (writeString_any _ (by first | exact (HA.out.below hb1).below hb2 | exact (HA.out.below hb2).below hb1) (by simp; omega)).mono ?_; rintro e w4 ⟨rfl, hh4, hd4⟩))
        have HX := Lib.hid (show Below w.heap.size w w4 from (by first | exact ((HBa.out.trans (hb1.mono HBa.out.size)).trans (hb2.mono (Nat.le_trans HBa.out.size hb1.size))).trans (hd4.mono hsz1) | exact ((HBa.out.trans (hb2.mono HBa.out.size)).trans (hb1.mono (Nat.le_trans HBa.out.size hb2.size))).trans (hd4.mono hsz1)))
        have HY := Lib.hid hh4.none
        clear hb1 hb2 hh4 hd4 HA HBa
        go_wp2_with fail
        go_roundw
        case rel => exact ⟨k + 1, by omega, by go_num, by rw [HK.out]; exact HY.out, HX.out, fun h => by omega⟩
        case measure => simp [intOf]; omega
      · have hke : k = ls.length := by omega
        have HE := Lib.hid (show ls.take k = ls by rw [hke]; exact List.take_of_length_le (Nat.le_refl _))
        cases hls : ls with
        | nil =>
          have h0 := HZ.out (by rw [hke, hls]; rfl)
          have HS := Lib.hid (builderString_fresh h0)
          subst hls
          clear h0
          go_wp2_with fail
          refine HS.out.mono ?_
          rintro e w3 ⟨rfl, rfl⟩
          go_wp2_with fail
          go_ret2
          exact ⟨by simp [printK, errL, keyL], HB.out.drew⟩
        | cons x r =>
          have HS := Lib.hid (builderString_any HH.out (by rw [HE.out, hls]; simp [keyL, keyPart]))
          have HE' := Lib.hid (show keyL (ls.take k) = keyL (x :: r) by rw [HE.out, hls])
          rw [HE'.out] at HS
          rw [← hls] at *
          go_wp2_with fail
          refine HS.out.mono ?_
          rintro e w3 ⟨rfl, hd⟩
          have HD := Lib.hid (HB.out.trans (hd.mono hsz1))
          clear hd
          go_wp2_with fail
          go_ret2
          exact ⟨by simp [printK, errL], HD.out⟩

end Go.Proofs.Ytamdkmcdleilpaa
