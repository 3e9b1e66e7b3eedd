/-
  Two builders in one call: what their writes leave alone.
-/
import Derived.Test.YtnjcelilljniaaaTMajD
namespace Go.Proofs.Ytnjcelilljniaaa
open Go.RowKit Go.Shelf

/-- What a write to one of the builders in h, h + 1 leaves alone: whatever is no row of bytes. -/
structure TKeep (h : Nat) (w w' : World) : Prop where
  below : Below h w w'
  block : ∀ k, k < w.heap.size → k ≠ h → k ≠ h + 1 → (∀ cur fr, w.heap[k]? ≠ some (.cells cur 5 fr)) → w'.heap[k]? = w.heap[k]?
theorem TKeep.refl (h : Nat) (w : World) : TKeep h w w := ⟨Below.refl _ _, fun _ _ _ _ _ => rfl⟩
theorem TKeep.trans {h : Nat} {a b c : World} (x : TKeep h a b) (y : TKeep h b c) : TKeep h a c :=
  ⟨x.below.trans y.below, fun k h1 h2 h3 h4 => by
    have e := x.block k h1 h2 h3 h4
    exact (y.block k (Nat.lt_of_lt_of_le h1 x.below.size) h2 h3 (by rw [e]; exact h4)).trans e⟩
theorem TKeep.own {h : Nat} {w w' : World} (hb : Below w.heap.size w w') (hh : h ≤ w.heap.size) : TKeep h w w' := ⟨hb.mono hh, fun k h1 _ _ _ => hb.block k h1⟩
theorem TKeep.cells {h k : Nat} {w w' : World} {cs : Array Value} {T : TypeId} {fr : Nat × Nat} (x : TKeep h w w') (hk : w.heap[k]? = some (.cells cs T fr)) (hT : T ≠ 5) (h1 : k ≠ h) (h2 : k ≠ h + 1) : w'.heap[k]? = some (.cells cs T fr) := by
  rw [x.block k (lt_of_heap hk) h1 h2 (fun cur fr' e => by rw [hk] at e; cases e; exact hT rfl)]; exact hk
theorem Bw.rowCells {T : TypeId} {xs : List Value} {b k : Nat} {v : Value} {l : Bytes} {w : World} (h : Bw T xs b v l w) (hk : v.ownBlock = some k) : ∃ cur, w.heap[k]? = some (.cells cur 5 (0, 0)) := by
  obtain ⟨_, _, _, hown⟩ := h
  rcases hown.2 with ⟨hv, _⟩ | ⟨g, cap, cur, hv, _, hh, _⟩
  · rw [hv] at hk; cases hk
  · rw [hv] at hk
    obtain rfl : g = k := by simpa [Value.ownBlock] using hk
    exact ⟨cur, hh⟩
theorem TwoB.others {h : Nat} {l1 l2 : Bytes} {w w' : World} (ht : TwoB h l1 l2 w) (x : TKeep h w w') : KeepsOthers w w' := by
  obtain ⟨v1, v2, ⟨p1, _, a, _⟩, ⟨p2, _, b, _⟩, _⟩ := ht
  refine ⟨x.below.size, fun k o hk hc => ?_⟩
  rw [x.block k (lt_of_heap hk) (fun e => ?_) (fun e => ?_) (fun cur fr e => ?_)]
  · exact hk
  · subst e; rw [a] at hk; cases hk; cases hc
  · subst e; rw [b] at hk; cases hk; cases hc
  · rw [hk] at e; cases e; cases hc
theorem TwoB.own {h : Nat} {l1 l2 : Bytes} {X Y : World} {row : Option Nat} (ht : TwoB h l1 l2 X) (hg : X.grownBy Y row) (hr : ∀ r, row = some r → ∃ o : Obj, X.heap[r]? = some o ∧ o.isCells = false) : TwoB h l1 l2 Y := by
  obtain ⟨v1, v2, a, b, c, d1, d2⟩ := ht
  have key : ∀ {b : Nat} {v : Value} {l : Bytes}, Bw 65 [] b v l X → Bw 65 [] b v l Y := fun {b v l} hb => by
    have hrc := fun k hk => hb.rowCells (k := k) hk
    obtain ⟨p, hp, h1, hown⟩ := hb
    refine ⟨p, hp, (hg.block _ (lt_of_heap h1) (fun e => ?_)).trans h1, World.ownsRow.kept hown hg ?_⟩
    · obtain ⟨o, ho, hc⟩ := hr _ e.symm
      rw [h1] at ho; cases ho; cases hc
    · cases hk : v.ownBlock with
      | none => exact .inl rfl
      | some k =>
        refine .inr fun e => ?_
        obtain ⟨o, ho, hc⟩ := hr _ e.symm
        obtain ⟨cur, h3⟩ := hrc k hk
        rw [h3] at ho; cases ho; cases hc
  exact ⟨v1, v2, key a, key b, c, d1, d2⟩

theorem write1K_any {h : Nat} {l1 l2 : Bytes} {w : World} (m : Bytes) (ht : TwoB h l1 l2 w) (hlen : l1.length + m.length ≤ 1000000000000) (hm : m ≠ []) :
    Calls Try.prog 28 #[.pointer (some ⟨h, 0, none⟩), .string (bs m)] w fun e w' => e = .returned (.tuple #[.int .i64 m.length, .nilIface]) ∧ TwoB h (l1 ++ m) l2 w' ∧ TKeep h w w' := by
  obtain ⟨v1, v2, a, b, c, d1, d2⟩ := ht
  refine (writeString_any m a tokBuilder hlen).mono ?_
  rintro e w' ⟨rfl, v', a', hw⟩
  have hc2 := sym_d c
  refine ⟨rfl, ⟨v', v2, a', b.keep tokBuilder a tokBuilder hw (by omega) hc2, sym_d (own_new b hw.at_ hc2), ?_, d2⟩, a.wrBelow hw (Nat.le_refl _), fun k h1 h2 h3 h4 => hw.block k h1 h2 fun e => ?_⟩
  · intro e; simp [hm] at e
  · obtain ⟨cur, hc⟩ := a.rowCells e
    exact h4 _ _ hc
theorem write2K_any {h : Nat} {l1 l2 : Bytes} {w : World} (m : Bytes) (ht : TwoB h l1 l2 w) (hlen : l2.length + m.length ≤ 1000000000000) (hm : m ≠ []) :
    Calls Try.prog 28 #[.pointer (some ⟨h + 1, 0, none⟩), .string (bs m)] w fun e w' => e = .returned (.tuple #[.int .i64 m.length, .nilIface]) ∧ TwoB h l1 (l2 ++ m) w' ∧ TKeep h w w' := by
  obtain ⟨v1, v2, a, b, c, d1, d2⟩ := ht
  refine (writeString_any m b tokBuilder hlen).mono ?_
  rintro e w' ⟨rfl, v', b', hw⟩
  refine ⟨rfl, ⟨v1, v', a.keep tokBuilder b tokBuilder hw (by omega) c, b', own_new a hw.at_ c, d1, ?_⟩, (b.wrBelow hw (Nat.le_refl _)).mono (by omega), fun k h1 h2 h3 h4 => hw.block k h1 h3 fun e => ?_⟩
  · intro e; simp [hm] at e
  · obtain ⟨cur, hc⟩ := b.rowCells e
    exact h4 _ _ hc

theorem string1K_any {h : Nat} {l1 l2 : Bytes} {w : World} (ht : TwoB h l1 l2 w) :
    Calls Try.prog 27 #[.pointer (some ⟨h, 0, none⟩)] w fun e w' => e = .returned (.string (bs l1)) ∧ TKeep h w w' ∧ ∃ v2, Bw 65 [] (h + 1) v2 l2 w' ∧ (l2 = [] → v2.ownBlock = none) := by
  obtain ⟨v1, v2, a, b, c, d1, d2⟩ := ht
  refine (builderString_both a tokBuilder d1).mono ?_
  rintro e w' ⟨rfl, hw, -⟩
  exact ⟨rfl, ⟨a.wrBelow hw (Nat.le_refl _), fun k h1 h2 h3 h4 => hw.block k h1 h2 fun e => by obtain ⟨cur, hc⟩ := a.rowCells e; exact h4 _ _ hc⟩, v2, b.keep tokBuilder a tokBuilder hw (by omega) (sym_d c), d2⟩
theorem string2K_any {h : Nat} {l2 : Bytes} {v2 : Value} {w : World} (b : Bw 65 [] (h + 1) v2 l2 w) (d2 : l2 = [] → v2.ownBlock = none) :
    Calls Try.prog 27 #[.pointer (some ⟨h + 1, 0, none⟩)] w fun e w' => e = .returned (.string (bs l2)) ∧ TKeep h w w' := by
  refine (builderString_both b tokBuilder d2).mono ?_
  rintro e w' ⟨rfl, hw, -⟩
  exact ⟨rfl, (b.wrBelow hw (Nat.le_refl _)).mono (by omega), fun k h1 h2 h3 h4 => hw.block k h1 h3 fun e => by obtain ⟨cur, hc⟩ := b.rowCells e; exact h4 _ _ hc⟩
theorem TKeep.deferred {h k : Nat} {w w' : World} {o : Obj} (x : TKeep h w w') (hk : w.heap[k]? = some o) (ho : o.isCells = false) (h1 : k ≠ h) (h2 : k ≠ h + 1) : w'.heap[k]? = some o := by
  rw [x.block k (lt_of_heap hk) h1 h2 (fun cur fr' e => by rw [hk] at e; cases e; cases ho)]; exact hk

end Go.Proofs.Ytnjcelilljniaaa
