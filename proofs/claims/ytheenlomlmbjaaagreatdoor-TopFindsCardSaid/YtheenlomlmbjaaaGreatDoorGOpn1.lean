/-
  What a database holds, as it lies in memory; the head behind some writes (plain).
-/
import Derived.Test.YtheenlomlmbjaaaGreatDoorGSel1
import Derived.Test.YtheenlomlmbjaaaGreatDoorGAddZ
import Derived.Test.YtheenlomlmbjaaaGreatDoorGIdx1
import Derived.Test.YtheenlomlmbjaaaGreatDoorGInt
import Derived.Test.YtheenlomlmbjaaaGreatDoorGIn
import Derived.Test.YtheenlomlmbjaaaGreatDoorGEncL
set_option linter.unusedSimpArgs false
set_option linter.unusedVariables false
namespace Go.Proofs.YtheenlomlmbjaaaGreatDoor
open Go.RowKit Go.Maps

def rowsAt (t : Int) : List Rw := [(t, 0, 10 * t), (t, 1, 10 * t + 1), (t, 2, 10 * t + 2), (t, 3, 10 * t + 3), (t, 4, 10 * t + 4)]
theorem rowsAt_mem {t : Int} {r : Rw} (h : r ∈ rowsAt t) : r.1 = t ∧ 0 ≤ r.2.1 ∧ r.2.1 < 5 ∧ r.2.2 = 10 * t + r.2.1 := by
  simp only [rowsAt, List.mem_cons, List.not_mem_nil, or_false] at h
  rcases h with rfl | rfl | rfl | rfl | rfl <;> exact ⟨rfl, by simp, by simp, by simp⟩
theorem rowsAt_smp (t id : Int) : (smpOf (rowsAt t) id).length ≤ 1 := by
  unfold smpOf rowsAt
  by_cases h0 : id = 0
  · subst h0; simp [List.filter]
  by_cases h1 : id = 1
  · subst h1; simp [List.filter]
  by_cases h2 : id = 2
  · subst h2; simp [List.filter]
  by_cases h3 : id = 3
  · subst h3; simp [List.filter]
  by_cases h4 : id = 4
  · subst h4; simp [List.filter]
  have e : ∀ k : Int, k ≠ id → (k == id) = false := fun k h => by simpa using h
  simp [List.filter, e 0 (fun e => h0 e.symm), e 1 (fun e => h1 e.symm), e 2 (fun e => h2 e.symm), e 3 (fun e => h3 e.symm), e 4 (fun e => h4 e.symm)]
theorem rise_short {α : Type} {c : α → α → Int} {l : List α} (h : l.length ≤ 1) : RiseC c l := by
  cases l with
  | nil => exact List.Pairwise.nil
  | cons x r =>
    cases r with
    | nil => exact List.pairwise_singleton _ _
    | cons y r => simp at h
theorem rowsAt_prise {t : Int} (h0 : 0 ≤ t) (h1 : t ≤ 3072) : PRise (rowsAt t) :=
  ⟨fun id => rise_short (rowsAt_smp t id), fun r hr => by
    obtain ⟨e1, e2, e3, e4⟩ := rowsAt_mem hr
    refine ⟨⟨?_, ?_, ?_, ?_⟩, e2, ?_⟩
    · show 0 ≤ r.1; omega
    · show r.1 < 100000; omega
    · show 0 ≤ r.2.2; omega
    · show r.2.2 < 1000000; omega
    · omega⟩
theorem rowsAt_ids {t id : Int} : id ∈ idsOf (rowsAt t) ↔ 0 ≤ id ∧ id < 5 := by
  rw [idsOf_mem]
  constructor
  · rintro ⟨r, hr, rfl⟩
    obtain ⟨_, e2, e3, _⟩ := rowsAt_mem hr
    exact ⟨e2, e3⟩
  · rintro ⟨h0, h1⟩
    have : id = 0 ∨ id = 1 ∨ id = 2 ∨ id = 3 ∨ id = 4 := by omega
    rcases this with rfl | rfl | rfl | rfl | rfl
    · exact ⟨(t, 0, 10 * t), by simp [rowsAt], rfl⟩
    · exact ⟨(t, 1, 10 * t + 1), by simp [rowsAt], rfl⟩
    · exact ⟨(t, 2, 10 * t + 2), by simp [rowsAt], rfl⟩
    · exact ⟨(t, 3, 10 * t + 3), by simp [rowsAt], rfl⟩
    · exact ⟨(t, 4, 10 * t + 4), by simp [rowsAt], rfl⟩
theorem nodup_int {l : List Int} : ∀ {L : List Int}, l.Pairwise (· < ·) → (∀ x ∈ l, x ∈ L) → l.length ≤ L.length := by
  induction l with
  | nil => intro L _ _; exact Nat.zero_le _
  | cons x l ih =>
    intro L hp hs
    have hp' := List.pairwise_cons.1 hp
    have hx := hs x (List.mem_cons_self ..)
    have h1 := ih (L := L.erase x) hp'.2 (fun y hy => (List.mem_erase_of_ne (fun e => by have := hp'.1 y hy; omega)).2 (hs y (List.mem_cons_of_mem _ hy)))
    rw [List.length_erase_of_mem hx] at h1
    have := List.length_pos_of_mem hx
    simp only [List.length_cons]
    omega
theorem ids_le {R : List Rw} (h : ∀ r ∈ R, 0 ≤ r.2.1 ∧ r.2.1 < 5) : (idsOf R).length ≤ 5 := by
  have := nodup_int (idsOf_rise R) (L := [0, 1, 2, 3, 4]) (fun x hx => by
    obtain ⟨r, hr, rfl⟩ := idsOf_mem.1 hx
    have := h r hr
    simp only [List.mem_cons, List.not_mem_nil, or_false]
    omega)
  simpa using this

structure HOk (ts : List Int) (H : List Ser) : Prop where
  ok : SOk H
  lo : ∀ s ∈ H, s.1 < 5
  all : ts ≠ [] → ∀ id, 0 ≤ id → id < 5 → id ∈ H.map (·.1)
  tm : ∀ s ∈ H, ∀ p ∈ s.2, p.1 ∈ ts
theorem HOk.start : HOk [] [] := ⟨SOk.nil, by simp, fun h => absurd rfl h, by simp⟩
section
variable {ts : List Int} {H : List Ser}
theorem HOk.len (h : HOk ts H) : H.length ≤ 5 := by
  have := nodup_int h.ok.idsRise (L := [0, 1, 2, 3, 4]) (fun x hx => by
    obtain ⟨s, hs, rfl⟩ := List.mem_map.1 hx
    have := h.lo s hs
    have := h.ok.id s hs
    simp only [List.mem_cons, List.not_mem_nil, or_false]
    omega)
  simpa using this
theorem HOk.each (h : HOk ts H) {s : Ser} (hs : s ∈ H) : s.2.length ≤ ts.length := by
  have hr : (s.2.map (·.1)).Pairwise (· < ·) := by
    rw [List.pairwise_map]
    exact (h.ok.rises s hs).imp fun h => cmpS_lt.1 h
  have := nodup_int hr (L := ts) (fun x hx => by
    obtain ⟨p, hp, rfl⟩ := List.mem_map.1 hx
    exact h.tm s hs p hp)
  simpa using this
theorem tot_le {H : List Ser} {m : Nat} (h : ∀ s ∈ H, s.2.length ≤ m) : tot H ≤ H.length * m := by
  induction H with
  | nil => simp [tot]
  | cons s H ih =>
    have h1 := ih (fun s hs => h s (List.mem_cons_of_mem _ hs))
    have h2 := h s (List.mem_cons_self ..)
    unfold tot at *
    simp only [List.map_cons, List.sum_cons, List.length_cons, Nat.add_mul]
    omega
theorem HOk.tot (h : HOk ts H) (hl : ts.length ≤ 12) : tot H ≤ 60 := by
  have h1 := tot_le (m := ts.length) (fun s hs => h.each hs)
  have h2 := h.len
  have : H.length * ts.length ≤ 5 * 12 := Nat.mul_le_mul h2 hl
  omega
theorem HOk.put {t : Int} (h : HOk ts H) (h0 : 0 ≤ t) (h1 : t ≤ 3072) : HOk (ts ++ [t]) (putL H (rowsAt t)) := by
  have hR := rowsAt_prise h0 h1
  refine ⟨putL_ok h.ok hR, fun s hs => ?_, fun _ id h2 h3 => putL_ids.2 (.inr (rowsAt_ids.2 ⟨h2, h3⟩)), fun s hs p hp => ?_⟩
  · rcases putL_ids.1 (List.mem_map.2 ⟨s, hs, rfl⟩) with h4 | h4
    · obtain ⟨s', hs', e⟩ := List.mem_map.1 h4
      rw [← e]; exact h.lo s' hs'
    · exact (rowsAt_ids.1 h4).2
  · rcases mergeF_mem hs with h4 | h4
    · exact List.mem_append.2 (.inl (h.tm s h4 p hp))
    · obtain ⟨id, _, rfl⟩ := List.mem_map.1 h4
      rcases mergeF_mem hp with h5 | h5
      · rcases oldOf_mem (l := H) (id := id) with e | ⟨s', hs', _, e⟩
        · rw [e] at h5; cases h5
        · rw [e] at h5; exact List.mem_append.2 (.inl (h.tm s' hs' p h5))
      · have := smpOf_mem.1 h5
        obtain ⟨e1, _⟩ := rowsAt_mem this
        exact List.mem_append.2 (.inr (by simp only [List.mem_singleton]; exact e1))
end

def dbC (d S I p : Nat) (pv : Value) (nx : Int) (hv : Value) : Array Value :=
  #[.pointer (some ⟨d, 0, none⟩), .pointer (some ⟨S, 0, none⟩), .pointer (some ⟨I, 0, none⟩), pv, .int .i64 nx, .int .i64 0, .bool false, .int .i64 0, .int .i64 0, .int .i64 0, hv, .slice none 0 0, .int .i64 0, .pointer (some ⟨p, 0, none⟩), .pointer none]
structure Db (base : Nat) (w : World) (X d S I p : Nat) (hv : Value) (FSb FI FP FH : Bl) (f : Fs) (n : Nat) (H : List Ser) : Prop where
  x : w.heap[X]? = some (.cells (dbC d S I p (.slice none 0 0) 0 hv) 95 (0, 0))
  st : StoreL FSb w S f 15
  ix : IdxL FI w I n
  po : Keeps FP w (fun w => PolOk w p)
  hd : Keeps FH w (fun w => SerV w hv H)
  sX : ¬ FSb X
  iX : ¬ FI X
  pX : ¬ FP X
  hX : ¬ FH X
  si : Apart FSb FI
  sp : Apart FSb FP
  sh : Apart FSb FH
  ip : Apart FI FP
  ih : Apart FI FH
  fs : FsOk f
  ge : base ≤ X ∧ ∀ k, (FSb k ∨ FI k ∨ FP k ∨ FH k) → base ≤ k
section
variable {base : Nat} {w w' : World} {X d S I p : Nat} {hv : Value} {FSb FI FP FH : Bl} {f : Fs} {n : Nat} {H : List Ser}
theorem Db.out {G : Bl} (h : Db base w X d S I p hv FSb FI FP FH f n H) (ho : Out G w w') (h1 : ¬ G X) (h2 : Apart FSb G) (h3 : Apart FI G) (h4 : Apart FP G) (h5 : Apart FH G) : Db base w' X d S I p hv FSb FI FP FH f n H :=
  ⟨(ho.block X (lt_of_heap h.x) h1).trans h.x, h.st.out ho h2, h.ix.out ho h3, h.po.out ho h4, h.hd.out ho h5, h.sX, h.iX, h.pX, h.hX, h.si, h.sp, h.sh, h.ip, h.ih, h.fs, h.ge⟩
theorem Db.below (h : Db base w X d S I p hv FSb FI FP FH f n H) (hb : Below w.heap.size w w') : Db base w' X d S I p hv FSb FI FP FH f n H :=
  h.out (G := fun _ => False) (Out.of_below hb) (fun h => h) (fun _ _ h => h) (fun _ _ h => h) (fun _ _ h => h) (fun _ _ h => h)
theorem Db.store {FSb' : Bl} {f' : Fs} (h : Db base w X d S I p hv FSb FI FP FH f n H) (ho : Out (fun k => k = S) w w') (hs : StoreL FSb' w' S f' 15) (hsub : ∀ k, FSb' k → FSb k ∨ w.heap.size ≤ k) (hf : FsOk f') : Db base w' X d S I p hv FSb' FI FP FH f' n H := by
  have hS := h.st.s
  have aX : ¬ X = S := fun e => h.sX (by rw [e]; exact hS)
  have hl := h.st.lt S hS
  refine ⟨(ho.block X (lt_of_heap h.x) aX).trans h.x, hs, h.ix.out ho (fun k hk e => h.si k (by rw [e]; exact hS) hk), h.po.out ho (fun k hk e => h.sp k (by rw [e]; exact hS) hk), h.hd.out ho (fun k hk e => h.sh k (by rw [e]; exact hS) hk), fun e => ?_, h.iX, h.pX, h.hX, fun k h1 h2 => ?_, fun k h1 h2 => ?_, fun k h1 h2 => ?_, h.ip, h.ih, hf, h.ge.1, fun k hk => ?_⟩
  · rcases hsub X e with h1 | h1
    · exact h.sX h1
    · have := lt_of_heap h.x; omega
  · rcases hsub k h1 with h3 | h3
    · exact h.si k h3 h2
    · have := h.ix.lt k h2; omega
  · rcases hsub k h1 with h3 | h3
    · exact h.sp k h3 h2
    · have := h.po.lt k h2; omega
  · rcases hsub k h1 with h3 | h3
    · exact h.sh k h3 h2
    · have := h.hd.lt k h2; omega
  · rcases hk with hk | hk | hk | hk
    · rcases hsub k hk with h3 | h3
      · exact h.ge.2 k (.inl h3)
      · have := h.ge.1; have := lt_of_heap h.x; omega
    · exact h.ge.2 k (.inr (.inl hk))
    · exact h.ge.2 k (.inr (.inr (.inl hk)))
    · exact h.ge.2 k (.inr (.inr (.inr hk)))
theorem Db.index {FI' : Bl} {n' : Nat} (h : Db base w X d S I p hv FSb FI FP FH f n H) (ho : Out FI w w') (hi : IdxL FI' w' I n') (hsub : ∀ k, FI' k → FI k ∨ w.heap.size ≤ k) : Db base w' X d S I p hv FSb FI' FP FH f n' H := by
  refine ⟨(ho.block X (lt_of_heap h.x) h.iX).trans h.x, h.st.out ho h.si, hi, h.po.out ho h.ip.symm, h.hd.out ho h.ih.symm, h.sX, fun e => ?_, h.pX, h.hX, fun k h1 h2 => ?_, h.sp, h.sh, fun k h1 h2 => ?_, fun k h1 h2 => ?_, h.fs, h.ge.1, fun k hk => ?_⟩
  · rcases hsub X e with h1 | h1
    · exact h.iX h1
    · have := lt_of_heap h.x; omega
  · rcases hsub k h2 with h3 | h3
    · exact h.si k h1 h3
    · have := h.st.lt k h1; omega
  · rcases hsub k h1 with h3 | h3
    · exact h.ip k h3 h2
    · have := h.po.lt k h2; omega
  · rcases hsub k h1 with h3 | h3
    · exact h.ih k h3 h2
    · have := h.hd.lt k h2; omega
  · rcases hk with hk | hk | hk | hk
    · exact h.ge.2 k (.inl hk)
    · rcases hsub k hk with h3 | h3
      · exact h.ge.2 k (.inr (.inl h3))
      · have := h.ge.1; have := lt_of_heap h.x; omega
    · exact h.ge.2 k (.inr (.inr (.inl hk)))
    · exact h.ge.2 k (.inr (.inr (.inr hk)))
theorem Db.head {FH' : Bl} {hv' : Value} {H' : List Ser} (h : Db base w X d S I p hv FSb FI FP FH f n H) (ho : Out (fun k => k = X) w w') (hx : w'.heap[X]? = some (.cells (dbC d S I p (.slice none 0 0) 0 hv') 95 (0, 0))) (hh : Keeps FH' w' (fun w => SerV w hv' H')) (hnew : ∀ k, FH' k → w.heap.size ≤ k) : Db base w' X d S I p hv' FSb FI FP FH' f n H' := by
  have hXl := lt_of_heap h.x
  refine ⟨hx, h.st.out ho (fun k hk e => h.sX (by rw [← e]; exact hk)), h.ix.out ho (fun k hk e => h.iX (by rw [← e]; exact hk)), h.po.out ho (fun k hk e => h.pX (by rw [← e]; exact hk)), hh, h.sX, h.iX, h.pX, fun e => by have := hnew X e; omega, h.si, h.sp, fun k h1 h2 => by have := h.st.lt k h1; have := hnew k h2; omega, h.ip, fun k h1 h2 => by have := h.ix.lt k h1; have := hnew k h2; omega, h.fs, h.ge.1, fun k hk => ?_⟩
  rcases hk with hk | hk | hk | hk
  · exact h.ge.2 k (.inl hk)
  · exact h.ge.2 k (.inr (.inl hk))
  · exact h.ge.2 k (.inr (.inr (.inl hk)))
  · have := hnew k hk; have := h.ge.1; omega
end
theorem SerB.keeps {N : Nat} {w : World} {v : Value} {H : List Ser} (h : SerB N w v H) : Keeps (fun k => N ≤ k ∧ k < w.heap.size) w (fun w => SerV w v H) := by
  refine ⟨fun k hk => hk.2, fun w' h' => ?_⟩
  obtain ⟨Z, h1, h2, h3⟩ := h
  have hk : ∀ {α : Type} {t k : Nat} {enc : α → List Value} {v : Value} {l : List α}, OwnR t k enc w N v l → OwnR t k enc w' N v l := fun ho => ho.stay fun b e => h' b (World.ownsRow.lt ho b e)
  exact ⟨Z, h1, (hk h2).rowG, fun z hz => (hk (h3 z hz)).rowG⟩

end Go.Proofs.YtheenlomlmbjaaaGreatDoor

namespace Go.Proofs.YtheenlomlmbjaaaGreatDoor
open Go.RowKit Go.Maps

def dayR (R : List Rw) (d : Int) : List Rw := R.filter fun r => r.1 / 100 == d
theorem dayR_snoc (R : List Rw) (r : Rw) (d : Int) : dayR (R ++ [r]) d = if d = r.1 / 100 then dayR R d ++ [r] else dayR R d := by
  unfold dayR
  rw [List.filter_append]
  by_cases h : d = r.1 / 100
  · subst h; simp
  · have h' : ¬ r.1 / 100 = d := fun e => h e.symm
    simp [h, h']
theorem dayR_len (R : List Rw) (d : Int) : (dayR R d).length ≤ R.length := List.length_filter_le ..
def daysOf (R : List Rw) : List Int := R.foldr (fun r l => insI (r.1 / 100) l) []
theorem daysOf_mem {R : List Rw} {d : Int} : d ∈ daysOf R ↔ dayR R d ≠ [] := by
  have h : d ∈ daysOf R ↔ ∃ r ∈ R, r.1 / 100 = d := by
    induction R with
    | nil => simp [daysOf]
    | cons r R ih =>
      rw [show daysOf (r :: R) = insI (r.1 / 100) (daysOf R) from rfl, insI_mem, ih]
      simp only [List.mem_cons, exists_eq_or_imp]
      constructor
      · rintro (h | h)
        · exact .inl h.symm
        · exact .inr h
      · rintro (h | h)
        · exact .inl h.symm
        · exact .inr h
  rw [h]
  constructor
  · rintro ⟨r, hr, rfl⟩ e
    have : r ∈ dayR R (r.1 / 100) := List.mem_filter.2 ⟨hr, by simp⟩
    rw [e] at this
    cases this
  · intro hne
    obtain ⟨r, hr⟩ := List.exists_mem_of_ne_nil _ hne
    have := List.mem_filter.1 hr
    exact ⟨r, this.1, by simpa using this.2⟩
theorem daysOf_rise (R : List Rw) : (daysOf R).Pairwise (· < ·) := by
  induction R with
  | nil => simp [daysOf]
  | cons r R ih => exact insI_rise ih

structure RDay (ts : List Int) (R : List Rw) : Prop where
  ok : ROk R
  id : ∀ r ∈ R, r.2.1 < 5
  tm : ∀ r ∈ R, r.1 ∈ ts
  len : R.length ≤ 60
section
variable {ts : List Int} {R : List Rw} {H : List Ser}
theorem rowsOf_mem {S : List Ser} {r : Rw} (h : r ∈ rowsOf S) : ∃ s ∈ S, r.2.1 = s.1 ∧ (r.1, r.2.2) ∈ s.2 := by
  have h2 : ∀ (S : List Ser) (acc : List Rw), r ∈ S.foldl (fun acc s => mergeF cmpRw acc (rowsS s)) acc → r ∈ acc ∨ ∃ s ∈ S, r.2.1 = s.1 ∧ (r.1, r.2.2) ∈ s.2 := by
    intro S
    induction S with
    | nil => intro acc h; exact .inl h
    | cons s S ih =>
      intro acc h
      rcases ih _ h with h3 | ⟨s', hs, h3⟩
      · rcases mergeF_mem h3 with h4 | h4
        · exact .inl h4
        · obtain ⟨p, hp, rfl⟩ := List.mem_map.1 h4
          exact .inr ⟨s, List.mem_cons_self .., rfl, hp⟩
      · exact .inr ⟨s', List.mem_cons_of_mem _ hs, h3⟩
  rcases h2 S [] h with h3 | h3
  · cases h3
  · exact h3
theorem mergeF_ne {α : Type} {c : α → α → Int} {a b : List α} (h : a ≠ [] ∨ b ≠ []) : mergeF c a b ≠ [] := by
  rcases h with h | h
  · obtain ⟨z, hz⟩ := List.exists_mem_of_ne_nil _ h
    rcases mergeF_left (c := c) (b := b) hz with h1 | ⟨y, h1, _⟩
    · exact List.ne_nil_of_mem h1
    · exact List.ne_nil_of_mem (mergeF_right h1)
  · obtain ⟨z, hz⟩ := List.exists_mem_of_ne_nil _ h
    exact List.ne_nil_of_mem (mergeF_right hz)
theorem rowsOf_ne {S : List Ser} (h : S ≠ []) (h1 : ∀ s ∈ S, s.2 ≠ []) : rowsOf S ≠ [] := by
  have h2 : ∀ (S : List Ser) (acc : List Rw), acc ≠ [] → S.foldl (fun acc s => mergeF cmpRw acc (rowsS s)) acc ≠ [] := by
    intro S
    induction S with
    | nil => intro acc h; exact h
    | cons s S ih => intro acc h; exact ih _ (mergeF_ne (.inl h))
  cases S with
  | nil => exact absurd rfl h
  | cons s S =>
    refine h2 S _ (mergeF_ne (.inr fun e => h1 s (List.mem_cons_self ..) ?_))
    unfold rowsS at e
    exact List.map_eq_nil_iff.1 e
theorem HOk.rday (h : HOk ts H) (hl : ts.length ≤ 12) : RDay ts (rowsOf H) :=
  ⟨(rowsOf_ok h.ok).1, fun r hr => by obtain ⟨s, hs, e, _⟩ := rowsOf_mem hr; rw [e]; exact h.lo s hs, fun r hr => by obtain ⟨s, hs, _, e⟩ := rowsOf_mem hr; exact h.tm s hs _ e, Nat.le_trans (rowsOf_ok h.ok).2 (h.tot hl)⟩
theorem RDay.sub {Q : List Rw} (h : RDay ts R) (hQ : ROk Q) (hs : ∀ r ∈ Q, r ∈ R) (hl : Q.length ≤ 60) : RDay ts Q :=
  ⟨hQ, fun r hr => h.id r (hs r hr), fun r hr => h.tm r (hs r hr), hl⟩
theorem RDay.day (h : RDay ts R) (d : Int) : RDay ts (dayR R d) := h.sub (h.ok.filter _) (fun r hr => (List.mem_filter.1 hr).1) (Nat.le_trans (dayR_len R d) h.len)
theorem RDay.ids (h : RDay ts R) : (idsOf R).length ≤ 5 := ids_le fun r hr => ⟨(h.ok.ok r hr).2.1, h.id r hr⟩
theorem RDay.smp (h : RDay ts R) (hl : ts.length ≤ 12) (id : Int) : (smpOf R id).length ≤ 12 := by
  have hr : ((smpOf R id).map (·.1)).Pairwise (· < ·) := by
    rw [List.pairwise_map]
    exact (h.ok.prise.rises id).imp fun h => cmpS_lt.1 h
  have := nodup_int hr (L := ts) (fun x hx => by
    obtain ⟨p, hp, rfl⟩ := List.mem_map.1 hx
    exact h.tm _ (smpOf_mem.1 hp))
  rw [List.length_map] at this
  omega
theorem RDay.ser (h : RDay ts R) : SOk (putL [] R) ∧ (putL [] R).length ≤ 5 ∧ tot (putL [] R) ≤ 60 :=
  ⟨putL_ok SOk.nil h.ok.prise, by rw [putL_nil, List.length_map]; exact h.ids, Nat.le_trans (putL_tot R) h.len⟩
theorem RDay.again (h : RDay ts R) : RDay ts (rowsOf (putL [] R)) := by
  obtain ⟨h1, h2, h3⟩ := h.ser
  refine h.sub (rowsOf_ok h1).1 (fun r hr => ?_) (Nat.le_trans (rowsOf_ok h1).2 h3)
  obtain ⟨s, hs, e1, e2⟩ := rowsOf_mem hr
  rw [putL_nil] at hs
  obtain ⟨id, _, rfl⟩ := List.mem_map.1 hs
  have := smpOf_mem.1 e2
  simp only at e1 this
  rw [← e1] at this
  exact this
theorem RDay.again_ne (h : RDay ts R) (hne : R ≠ []) : rowsOf (putL [] R) ≠ [] := by
  obtain ⟨h1, h2, h3⟩ := h.ser
  refine rowsOf_ne (fun e => ?_) h1.one
  obtain ⟨r, hr⟩ := List.exists_mem_of_ne_nil _ hne
  have h4 : r.2.1 ∈ (putL [] R).map (·.1) := putL_ids.2 (.inr (idsOf_mem.2 ⟨r, hr, rfl⟩))
  rw [e] at h4
  cases h4
theorem RDay.maj (h : RDay ts R) : (majG (putL [] R)).length ≤ 1664 := by
  obtain ⟨h1, h2, h3⟩ := h.ser
  have hL : ∀ s ∈ putL [] R, LOk s.2 := fun s hs => lok_of (h1.rises s hs) (h1.ok s hs) (Nat.le_trans (tot_get hs) (by omega))
  have e1 := majHd_len h1.id hL
  have e2 := majBd_len hL
  have e3 := uintL_len10 (n := (putL [] R).length) (by omega)
  unfold majG
  rw [List.length_append, List.length_append]
  omega
theorem RDay.days (h : RDay ts R) (hT : TimesOk ts) : (daysOf R).length ≤ 12 ∧ ∀ d ∈ daysOf R, 0 ≤ d ∧ d < 100000 := by
  have h1 : ∀ d ∈ daysOf R, ∃ t ∈ ts, t / 100 = d := fun d hd => by
    obtain ⟨r, hr⟩ := List.exists_mem_of_ne_nil _ (daysOf_mem.1 hd)
    have := List.mem_filter.1 hr
    exact ⟨r.1, h.tm r this.1, by simpa using this.2⟩
  refine ⟨?_, fun d hd => ?_⟩
  · have := nodup_int (daysOf_rise R) (L := ts.map (· / 100)) (fun d hd => by
      obtain ⟨t, ht, rfl⟩ := h1 d hd
      exact List.mem_map.2 ⟨t, ht, rfl⟩)
    rw [List.length_map] at this
    have := hT.len
    omega
  · obtain ⟨t, ht, rfl⟩ := h1 d hd
    have := hT.lo t ht
    omega
end

end Go.Proofs.YtheenlomlmbjaaaGreatDoor

namespace Go.Proofs.YtheenlomlmbjaaaGreatDoor
open Go.RowKit Go.Maps

theorem zeroRws (w : World) : (zeroValue 105).run Tryz.prog w = .ok (.slice none 0 0) w := by kernel_rfl
abbrev GrpD (b : Nat) (R : List Rw) (w : World) (D : DataW Value) (V : Int → Value) : Prop := GrpG 119 3 encRw b R.length (dayR R) w D V
theorem GrpD.start (w : World) : GrpD w.heap.size [] (w.alloc (.map #[] 0)) (.map []) (fun _ => nilS) := GrpG.start w
theorem GrpD.step {b : Nat} {R : List Rw} {w w1 : World} {D : DataW Value} {V : Int → Value} {r : Rw} {d : Int} {g cap : Nat} (h : GrpD b R w D V) (hd : d = r.1 / 100) (h0 : 0 ≤ d) (h1 : d < 100000) (hl : R.length < 1000000)
    (hgr : w.grownBy w1 (V d).ownBlock) (hnew : (V d).ownBlock = some g ∨ w.heap.size ≤ g)
    (ho : OwnR 119 3 encRw w1 (b + 1) (.slice (some ⟨g, 0, none⟩) ((dayR R d).length + 1) cap) (dayR R d ++ [r])) :
    GrpD b (R ++ [r]) (mapPut Tryz.prog 231 b (.int .i64 d) (.slice (some ⟨g, 0, none⟩) ((dayR R d).length + 1) cap) w1)
      (D.put (kI d) (.held (.slice (some ⟨g, 0, none⟩) ((dayR R d).length + 1) cap))) (fun id => if id = d then .slice (some ⟨g, 0, none⟩) ((dayR R d).length + 1) cap else V id) ∧
    w1.grownBy (mapPut Tryz.prog 231 b (.int .i64 d) (.slice (some ⟨g, 0, none⟩) ((dayR R d).length + 1) cap) w1) (some b) := by
  have h2 := GrpG.step (y := r) Tryz.underlying231 h h0 h1 hl hgr hnew ho
  have e : (fun id => if id = d then dayR R id ++ [r] else dayR R id) = dayR (R ++ [r]) := by funext id; rw [dayR_snoc, hd]
  rw [e] at h2
  unfold GrpD
  rw [List.length_append]
  exact h2

def RSd (B b : Nat) (c0 c1 c2 d : Int) (w : World) : Prop :=
  w.cell? ⟨B, 0, none⟩ = some (.int .i64 c0) ∧ w.cell? ⟨B, 1, none⟩ = some (.int .i64 c1) ∧ w.cell? ⟨B, 2, none⟩ = some (.int .i64 c2) ∧
  (Instr.lookup 231 (.map (some b)) (.int .i64 d) false).run Tryz.prog w = .ok (mapGet Tryz.prog 231 b (.int .i64 d) w) w ∧
  (∀ v, (Instr.mapUpdate 231 (.map (some b)) (.int .i64 d) v).run Tryz.prog w = .ok () (mapPut Tryz.prog 231 b (.int .i64 d) v w)) ∧ KeysOk Tryz.prog 3 w b
section
variable {B b : Nat} {c0 c1 c2 d : Int} {w w' : World}
theorem RSd.mk (hy : keyOf Tryz.prog 3 (.int .i64 d) = some (kI d)) (h0 : w.cell? ⟨B, 0, none⟩ = some (.int .i64 c0)) (h1 : w.cell? ⟨B, 1, none⟩ = some (.int .i64 c1)) (h2 : w.cell? ⟨B, 2, none⟩ = some (.int .i64 c2)) (hk : KeysOk Tryz.prog 3 w b) : RSd B b c0 c1 c2 d w :=
  ⟨h0, h1, h2, hk.get keyedInt Tryz.underlying231 (zeroRws w) hy, fun v => (hk.put keyedInt Tryz.underlying231 hy v).1, hk⟩
theorem RSd.kept {row : Option Nat} (hy : keyOf Tryz.prog 3 (.int .i64 d) = some (kI d)) (h : RSd B b c0 c1 c2 d w) (hg : w.grownBy w' row) (h1 : some B ≠ row) (h2 : some b ≠ row) : RSd B b c0 c1 c2 d w' := by
  obtain ⟨a0, a1, a2, _, _, hk⟩ := h
  have hc : ∀ i v, w.cell? ⟨B, i, none⟩ = some v → w'.cell? ⟨B, i, none⟩ = some v := fun i v hv => by
    rw [World.cell?_of_block (hg.block B (World.block_lt_of_cell? w _ hv) h1)]; exact hv
  exact RSd.mk hy (hc 0 _ a0) (hc 1 _ a1) (hc 2 _ a2) (hk.kept hg h2)
theorem RSd.put (hy : keyOf Tryz.prog 3 (.int .i64 d) = some (kI d)) (h : RSd B b c0 c1 c2 d w) (hne : B ≠ b) (v : Value) : RSd B b c0 c1 c2 d (mapPut Tryz.prog 231 b (.int .i64 d) v w) := by
  obtain ⟨a0, a1, a2, _, _, hk⟩ := h
  obtain ⟨_, hk', hg⟩ := hk.put keyedInt Tryz.underlying231 hy v
  generalize mapPut Tryz.prog 231 b (.int .i64 d) v w = W at *
  have hc : ∀ i v', w.cell? ⟨B, i, none⟩ = some v' → W.cell? ⟨B, i, none⟩ = some v' := fun i v' hv => by
    rw [World.cell?_of_block (hg.block B (World.block_lt_of_cell? w _ hv) (fun e => hne (Option.some.inj e)))]; exact hv
  exact RSd.mk hy (hc 0 _ a0) (hc 1 _ a1) (hc 2 _ a2) hk'
theorem RSd.heap (hy : keyOf Tryz.prog 3 (.int .i64 d) = some (kI d)) (h : RSd B b c0 c1 c2 d w) (hh : w'.heap = w.heap) : RSd B b c0 c1 c2 d w' := by
  obtain ⟨a0, a1, a2, _, _, es, clock, hb, hk⟩ := h
  have hc : ∀ p, w'.cell? p = w.cell? p := fun p => by unfold World.cell?; rw [hh]
  exact RSd.mk hy (by rw [hc]; exact a0) (by rw [hc]; exact a1) (by rw [hc]; exact a2) ⟨es, clock, by rw [hh]; exact hb, hk⟩
end

structure DayI (b r nm : Nat) (D : DataW Value) (w0 : World) (ids : List Int) (cnt : Nat) (v : Value) (w : World) : Prop where
  rng : RngI b r nm D ids cnt w
  own : OwnR 3 1 encI w (r + 1) v ids
  nodup : ids.Nodup
  has : ∀ d ∈ ids, Maps.has D (kI d) = true
  be : Below r w0 w
  sz : w0.heap.size ≤ w.heap.size ∧ r < w0.heap.size ∧ b < r
section
variable {b r nm cnt : Nat} {D : DataW Value} {w0 w w' : World} {ids : List Int} {v : Value}
theorem DayI.start (hr : w.ranges Tryz.prog 3 rawE b r nm D (Maps.has D) cnt) (hrl : r < w.heap.size) (hb : b < r) : DayI b r nm D w [] cnt (.slice none 0 0) w :=
  ⟨RngI.start hr, OwnR.nil _ _, List.nodup_nil, (fun _ h => by cases h), Below.refl _ _, Nat.le_refl _, hrl, hb⟩
theorem DayI.next {cnt' : Nat} {z : Int} (h : DayI b r nm D w0 ids cnt v w) (hr : RngI b r nm D (ids ++ [z]) cnt' w') (hg : w.grownBy w' (some r)) : RngI b r nm D (ids ++ [z]) cnt' w' ∧ OwnR 3 1 encI w' (r + 1) v ids ∧ Below r w0 w' ∧ w0.heap.size ≤ w'.heap.size :=
  ⟨hr, h.own.kept hg (by
    cases hv : v.ownBlock with
    | none => exact .inl rfl
    | some j => exact .inr fun e => by have := (World.ownsRow.lt h.own j hv).1; have := Option.some.inj e; omega),
   h.be.grown hg (by have := h.sz; omega) (fun j hj => by cases hj; omega), Nat.le_trans h.sz.1 hg.size⟩
theorem DayI.more {cnt' : Nat} {z : Int} {v' : Value} {w2 : World} (h : DayI b r nm D w0 ids cnt v w) (hz : z ∉ ids) (hh : Maps.has D (kI z) = true) (hr : RngI b r nm D (ids ++ [z]) cnt' w') (hb : Below r w0 w') (hs : w0.heap.size ≤ w'.heap.size) (hov : OwnR 3 1 encI w' (r + 1) v ids)
    (hb2 : Below w'.heap.size w' w2) {w3 : World} (hg : w2.grownBy w3 v.ownBlock) (ho : OwnR 3 1 encI w3 (r + 1) v' (ids ++ [z])) : DayI b r nm D w0 (ids ++ [z]) cnt' v' w3 := by
  have hlt := World.ownsRow.lt hov
  have h0 := h.sz
  have hg2 : w'.grownBy w3 v.ownBlock := gb_trans (gb_of_below hb2 v.ownBlock) hg
  refine ⟨hr.kept hg2 (fun e => by have := (hlt _ e.symm).1; omega) (fun e => by have := (hlt _ e.symm).1; omega), ho, ?_, fun d hd => ?_, hb.grown hg2 (by omega) (fun j hj => by have := (hlt j hj).1; omega), Nat.le_trans hs hg2.size, h0.2⟩
  · rw [List.nodup_append]
    refine ⟨h.nodup, by simp, fun a ha c hc e => ?_⟩
    simp at hc
    subst hc
    exact hz (e ▸ ha)
  · rcases List.mem_append.1 hd with h1 | h1
    · exact h.has d h1
    · simp at h1; subst h1; exact hh
end

theorem GrpG.below {α : Type} {t k : Nat} {enc : α → List Value} {b N : Nat} {L : Int → List α} {w w' : World} {D : DataW Value} {V : Int → Value} (h : GrpG t k enc b N L w D V) (hb : Below w.heap.size w w') : GrpG t k enc b N L w' D V :=
  ⟨h.map.imp fun n h => ⟨h.1.below hb, h.2⟩, h.isM, h.at_, h.has, h.keys, fun id => (h.own id).below hb, h.apart⟩
structure GrpR (b : Nat) (w2 : World) (R : List Rw) (k : Nat) (D : DataW Value) (V : Int → Value) (wr : World) : Prop where
  g : GrpD b (R.take k) wr D V
  out : Out (fun j => j = b) w2 wr
  low : ∀ id j, (V id).ownBlock = some j → w2.heap.size ≤ j
theorem GrpR.start {b : Nat} {w w2 : World} {D : DataW Value} (R : List Rw) (h : GrpD b [] w D (fun _ => nilS)) (hb : Below w.heap.size w w2) : GrpR b w2 R 0 D (fun _ => nilS) w2 :=
  ⟨by rw [List.take_zero]; exact GrpG.below h hb, Out.refl _ _, fun id j hj => by cases hj⟩
theorem GrpR.step {b k : Nat} {w2 wr w1 : World} {R : List Rw} {D : DataW Value} {V : Int → Value} {r : Rw} {d : Int} {g cap : Nat} (h : GrpR b w2 R k D V wr) (hr : R.take (k + 1) = R.take k ++ [r]) (hd : d = r.1 / 100) (h0 : 0 ≤ d) (h1 : d < 100000) (hl : (R.take k).length < 1000000)
    (hgr : wr.grownBy w1 (V d).ownBlock) (hnew : (V d).ownBlock = some g ∨ wr.heap.size ≤ g) (ho : OwnR 119 3 encRw w1 (b + 1) (.slice (some ⟨g, 0, none⟩) ((dayR (R.take k) d).length + 1) cap) (dayR (R.take k) d ++ [r])) :
    ∃ D' V', GrpR b w2 R (k + 1) D' V' (mapPut Tryz.prog 231 b (.int .i64 d) (.slice (some ⟨g, 0, none⟩) ((dayR (R.take k) d).length + 1) cap) w1) := by
  obtain ⟨hG1, hG2⟩ := GrpD.step h.g hd h0 h1 hl hgr hnew ho
  refine ⟨_, _, by rw [hr]; exact hG1, (h.out.trans (Out.grown hgr) (fun j hj e => absurd (h.low d j e.symm) (by omega))).trans (Out.grown hG2) (fun j _ e => Option.some.inj e), fun id j hj => ?_⟩
  by_cases e : id = d
  · rw [if_pos e] at hj
    have hj' : g = j := Option.some.inj hj
    subst hj'
    rcases hnew with h2 | h2
    · exact h.low d _ h2
    · exact Nat.le_trans h.out.size h2
  · rw [if_neg e] at hj
    exact h.low id j hj

end Go.Proofs.YtheenlomlmbjaaaGreatDoor

namespace Go.Proofs.YtheenlomlmbjaaaGreatDoor
open Go.RowKit Go.Maps

structure QSt (w : World) (X S p : Nat) (pv : Value) (P : List Pt) (f : Fs) : Prop where
  c1 : w.cell? ⟨X, 1, none⟩ = some (.pointer (some ⟨S, 0, none⟩))
  c3 : w.cell? ⟨X, 3, none⟩ = some pv
  c6 : w.cell? ⟨X, 6, none⟩ = some (.bool false)
  c13 : w.cell? ⟨X, 13, none⟩ = some (.pointer (some ⟨p, 0, none⟩))
  st : StoreOk w S f 15
  po : PolOk w p
  row : RowG 3 encPt w pv P
  pt : ∀ q ∈ P, 0 ≤ q.1 ∧ q.1 < 100000 ∧ q.2.1 = 0
  len : P.length ≤ 1000
theorem QSt.below {w w' : World} {X S p : Nat} {pv : Value} {P : List Pt} {f : Fs} (h : QSt w X S p pv P f) (hb : Below w.heap.size w w') : QSt w' X S p pv P f := by
  have hk : ∀ {i v}, w.cell? ⟨X, i, none⟩ = some v → w'.cell? ⟨X, i, none⟩ = some v := fun {i v} hv => (hb.cell (p := ⟨X, i, none⟩) (World.block_lt_of_cell? w _ hv)).trans hv
  exact ⟨hk h.c1, hk h.c3, hk h.c6, hk h.c13, h.st.below hb, h.po.below hb, h.row.below hb, h.pt, h.len⟩
def FlushA (base X S p : Nat) (w w' : World) : Prop := (∃ pv P f, QSt w' X S p pv P f ∧ f walNm = none) ∧ Below base w w'
def FlushSaid (base X S p : Nat) (w : World) : Prop := Calls Tryz.prog 63 #[.pointer (some ⟨X, 0, none⟩)] w fun e w' => e = .returned (.int .i64 0) ∧ FlushA base X S p w w'

end Go.Proofs.YtheenlomlmbjaaaGreatDoor

namespace Go.Proofs.YtheenlomlmbjaaaGreatDoor
open Go.RowKit Go.Maps

theorem dbC_cells {w : World} {X d S I p : Nat} {pv hv : Value} {nx : Int} (h : w.heap[X]? = some (.cells (dbC d S I p pv nx hv) 95 (0, 0))) :
    w.cell? ⟨X, 0, none⟩ = some (.pointer (some ⟨d, 0, none⟩)) ∧ w.cell? ⟨X, 1, none⟩ = some (.pointer (some ⟨S, 0, none⟩)) ∧ w.cell? ⟨X, 2, none⟩ = some (.pointer (some ⟨I, 0, none⟩)) ∧ w.cell? ⟨X, 3, none⟩ = some pv ∧ w.cell? ⟨X, 4, none⟩ = some (.int .i64 nx) ∧ w.cell? ⟨X, 5, none⟩ = some (.int .i64 0) ∧ w.cell? ⟨X, 6, none⟩ = some (.bool false) ∧
    w.cell? ⟨X, 10, none⟩ = some hv ∧ w.cell? ⟨X, 11, none⟩ = some (.slice none 0 0) ∧ w.cell? ⟨X, 12, none⟩ = some (.int .i64 0) ∧ w.cell? ⟨X, 13, none⟩ = some (.pointer (some ⟨p, 0, none⟩)) ∧ w.cell? ⟨X, 14, none⟩ = some (.pointer none) ∧ ∀ i, w.frozen? ⟨X, i, none⟩ = false := by
  refine ⟨?_, ?_, ?_, ?_, ?_, ?_, ?_, ?_, ?_, ?_, ?_, ?_, fun i => Lib.frozen_of_heap h i⟩ <;> (rw [cell_of_row w _ _ _ _ _ h]; rfl)

def RedoL (base : Nat) (X d S I p : Nat) (hv : Value) (FSb FI FP FH : Bl) (f : Fs) (n : Nat) (H : List Ser) (w : World) (e : Ending) (w' : World) : Prop :=
  e = .returned (.tuple #[]) ∧ ∃ FI', Db base w' X d S I p hv FSb FI' FP FH f (n + 1) H ∧ Stg FI w w' FI'
theorem add_any (F : Bl) (I n : Nat) (u : Value) (w : World) (h : IdxL F w I n) (hn : n < 5) (hu : RowG 2 encL2 w u (oneL n)) (hua : ∀ b o s m c, u = .slice (some ⟨b, o, s⟩) m c → ¬ F b) :
    Calls Tryz.prog 9 #[.pointer (some ⟨I, 0, none⟩), u] w (Added F I n w) := by
  by_cases h0 : n = 0
  · exact addZ_any F I n u w h h0 hn hu hua
  · exact addP_any F I n u w h (by omega) hn hu hua
set_option maxRecDepth 100000 in
set_option maxHeartbeats 4000000 in
theorem redoL_any (base X d S I p : Nat) (hv : Value) (FSb FI FP FH : Bl) (f : Fs) (n : Nat) (H : List Ser) (u : Value) (w : World) (h : Db base w X d S I p hv FSb FI FP FH f n H) (hn : n < 5) (hu : RowG 2 encL2 w u (oneL n)) (hua : ∀ b o s m c, u = .slice (some ⟨b, o, s⟩) m c → ¬ FI b) :
    Calls Tryz.prog 31 #[.pointer (some ⟨X, 0, none⟩), .agg #[.int .i64 0, u, .slice none 0 0, .slice none 0 0, .int .i64 0]] w (RedoL base X d S I p hv FSb FI FP FH f n H w) := by
  have HD := Lib.hid h
  obtain ⟨-, -, c2, -⟩ := dbC_cells h.x
  have hXl := lt_of_heap h.x
  have HH := Lib.hid (heap2 w (.cells #[.pointer (some ⟨X, 0, none⟩)] 27) (.cells #[.int .i64 0, u, .slice none 0 0, .slice none 0 0, .int .i64 0] 107))
  have hB : Below w.heap.size w ((w.alloc (.cells #[.pointer (some ⟨X, 0, none⟩)] 27)).alloc (.cells #[.int .i64 0, u, .slice none 0 0, .slice none 0 0, .int .i64 0] 107)) := ((Below.refl _ _).alloc (Nat.le_refl _) _).alloc (by simp) _
  have HB := Lib.hid hB
  have HU := Lib.hid hu
  have HUA := Lib.hid hua
  obtain ⟨ub, uoff, ucap, rfl, -⟩ := (show RowG 2 encL2 w u (([97], lettB n) :: []) from hu).cons
  clear h hu hua hB
  go_enter Tryz.func31, Tryz.ntmps31
  go_wp2_with fail
  generalize ((w.alloc (.cells #[.pointer (some ⟨X, 0, none⟩)] 27)).alloc (.cells #[.int .i64 0, _, .slice none 0 0, .slice none 0 0, .int .i64 0] 107)) = W at *
  have b0 : W.cell? ⟨w.heap.size, 0, none⟩ = some (.pointer (some ⟨X, 0, none⟩)) := by rw [cell_of_row W _ _ _ _ _ HH.out.1]; rfl
  have b1 : W.cell? ⟨w.heap.size + 1, 1, none⟩ = some (.slice (some ⟨ub, uoff, none⟩) (([] : List L4.Lab).length + 1) ucap) := by rw [cell_of_row W _ _ _ _ _ HH.out.2]; rfl
  have x2 : W.cell? ⟨X, 2, none⟩ = some (.pointer (some ⟨I, 0, none⟩)) := (HB.out.cell (p := ⟨X, 2, none⟩) hXl).trans c2
  have HS0 := Lib.hid (show W.drew.cell? ⟨w.heap.size, 0, none⟩ = some (.pointer (some ⟨X, 0, none⟩)) ∧ W.drew.cell? ⟨X, 2, none⟩ = some (.pointer (some ⟨I, 0, none⟩)) ∧ W.drew.cell? ⟨w.heap.size + 1, 1, none⟩ = some (.slice (some ⟨ub, uoff, none⟩) (([] : List L4.Lab).length + 1) ucap) from ⟨b0, x2, b1⟩)
  have HF := Lib.hid (show ¬ FI w.heap.size ∧ ¬ FI X ∧ ¬ FI (w.heap.size + 1) from ⟨fun e => by have := HD.out.ix.lt _ e; omega, HD.out.iX, fun e => by have := HD.out.ix.lt _ e; omega⟩)
  have HAd := Lib.hid (fun (W1 : World) (hb : Below W.heap.size W W1) => add_any FI I n _ W1 (HD.out.ix.below (HB.out.trans (hb.mono HB.out.size))) hn (HU.out.below (HB.out.trans (hb.mono HB.out.size))) HUA.out)
  clear b0 b1 x2 c2
  go_region_held3 (fun w' => w'.cell? ⟨w.heap.size, 0, none⟩ = some (.pointer (some ⟨X, 0, none⟩)) ∧ w'.cell? ⟨X, 2, none⟩ = some (.pointer (some ⟨I, 0, none⟩)) ∧ w'.cell? ⟨w.heap.size + 1, 1, none⟩ = some (.slice (some ⟨ub, uoff, none⟩) (([] : List L4.Lab).length + 1) ucap))
    (first | assumption | exact HS0.out | exact ⟨hs.out.cellE HS0.out.1 HF.out.1, hs.out.cellE HS0.out.2.1 HF.out.2.1, hs.out.cellE HS0.out.2.2 HF.out.2.2⟩)
    (first
      | (go_at_call 9; refine (HAd.out _ (by first | exact Below.refl _ _ | exact (Below.refl _ _).drew)).mono ?_; rintro e w1 ⟨rfl, F1, hi, hs⟩))
  have HEnd := Lib.hid (show ∃ FI', Db base w1 X d S I p hv FSb FI' FP FH f (n + 1) H ∧ Stg FI w w1 FI' from by
    have hb9 : Below w.heap.size w W.drew := HB.out.drew
    have hd9 := HD.out.below hb9
    exact ⟨F1, hd9.index hs.out hi hs.sub, fun k hk => (hs.sub k hk).imp id (fun h => Nat.le_trans HB.out.size h), (Out.of_below hb9).same hs.out⟩)
  clear hs hi
  go_wp2_with fail
  go_end0
  exact ⟨rfl, HEnd.out⟩

def RedoR (base : Nat) (X d S I p : Nat) (FSb FI FP : Bl) (f : Fs) (n : Nat) (H : List Ser) (w : World) (e : Ending) (w' : World) : Prop :=
  e = .returned (.tuple #[]) ∧ ∃ hv' FH', Db base w' X d S I p hv' FSb FI FP FH' f n H ∧ (∀ k, FH' k → w.heap.size ≤ k) ∧ Out (fun k => k = X) w w'
set_option maxRecDepth 100000 in
set_option maxHeartbeats 4000000 in
theorem redoR_any (base X d S I p : Nat) (hv : Value) (FSb FI FP FH : Bl) (f : Fs) (n : Nat) (H : List Ser) (u : Value) (R : List Rw) (w : World) (h : Db base w X d S I p hv FSb FI FP FH f n H) (hS : SOk H) (hu : RowG 3 encRw w u R) (hR : PRise R) (hl : R.length ≤ 10000) (hSl : H.length ≤ 12) (hI : (idsOf R).length ≤ 12) (h12 : ∀ id, (smpOf R id).length ≤ 12) (ht : tot H ≤ 1000) :
    Calls Tryz.prog 31 #[.pointer (some ⟨X, 0, none⟩), .agg #[.int .i64 1, .slice none 0 0, u, .slice none 0 0, .int .i64 0]] w (RedoR base X d S I p FSb FI FP f n (putL H R) w) := by
  have HD := Lib.hid h
  obtain ⟨-, -, -, -, -, -, -, c10, -, -, -, -, hfz⟩ := dbC_cells h.x
  have hXl := lt_of_heap h.x
  have HPt := Lib.hid (fun (W1 : World) (hb : Below w.heap.size w W1) => putG_any hv u H R W1 (h.hd.now.below hb) hS (hu.below hb) hR hl hSl hI h12 ht)
  obtain ⟨ha, hc, rfl, -⟩ := h.hd.now.shape
  obtain ⟨ua, uc, rfl, -⟩ := hu
  have HH := Lib.hid (heap2 w (.cells #[.pointer (some ⟨X, 0, none⟩)] 27) (.cells #[.int .i64 1, .slice none 0 0, .slice ua R.length uc, .slice none 0 0, .int .i64 0] 107))
  have hB : Below w.heap.size w ((w.alloc (.cells #[.pointer (some ⟨X, 0, none⟩)] 27)).alloc (.cells #[.int .i64 1, .slice none 0 0, .slice ua R.length uc, .slice none 0 0, .int .i64 0] 107)) := ((Below.refl _ _).alloc (Nat.le_refl _) _).alloc (by simp) _
  have HB := Lib.hid hB
  have HFz := Lib.hid hfz
  have HXc := Lib.hid h.x
  clear h hS hR hl hSl hI h12 ht hB hfz
  generalize H.length = hn at *
  generalize R.length = rn at *
  generalize putL H R = H' at *
  go_enter Tryz.func31, Tryz.ntmps31
  go_wp2_with fail
  generalize ((w.alloc (.cells #[.pointer (some ⟨X, 0, none⟩)] 27)).alloc (.cells #[.int .i64 1, .slice none 0 0, .slice ua rn uc, .slice none 0 0, .int .i64 0] 107)) = W at *
  have b0 : W.cell? ⟨w.heap.size, 0, none⟩ = some (.pointer (some ⟨X, 0, none⟩)) := by rw [cell_of_row W _ _ _ _ _ HH.out.1]; rfl
  have b1 : W.cell? ⟨w.heap.size + 1, 2, none⟩ = some (.slice ua rn uc) := by rw [cell_of_row W _ _ _ _ _ HH.out.2]; rfl
  have x10 : W.cell? ⟨X, 10, none⟩ = some (.slice ha hn hc) := (HB.out.cell (p := ⟨X, 10, none⟩) hXl).trans c10
  have HXW := Lib.hid ((HB.out.block X hXl).trans HXc.out)
  have HK := Lib.hid (fun (W1 : World) (hb : Below W.heap.size W W1) => show W1.cell? ⟨w.heap.size, 0, none⟩ = some (.pointer (some ⟨X, 0, none⟩)) ∧ W1.cell? ⟨X, 10, none⟩ = some (.slice ha hn hc) ∧ W1.frozen? ⟨X, 10, none⟩ = false from by
    have e0 := (hb.block _ (lt_of_heap HH.out.1)).trans HH.out.1
    have e1 := (hb.block _ (lt_of_heap HXW.out)).trans HXW.out
    exact ⟨by rw [cell_of_row W1 _ _ _ _ _ e0]; rfl, by rw [cell_of_row W1 _ _ _ _ _ e1]; rfl, Lib.frozen_of_heap e1 10⟩)
  clear c10
  go_region_law (go_simp; go_wp2_with (go_at_call 60; refine (HPt.out _ (by first | exact HB.out | exact HB.out.drew)).mono ?_; rintro e w2 ⟨r, rfl, hr, hb2⟩; have hb2' : Below W.heap.size W w2 := (by first | exact hb2 | exact (Below.refl _ _).drew.trans hb2); have hr2 : SerB W.heap.size w2 r H' := hr; obtain ⟨ra, rc, rfl, -⟩ := hr2.serV.shape; have q0 := (HK.out _ hb2').1; have q1 := (HK.out _ hb2').2.1; have q2 := (HK.out _ hb2').2.2))
  all_goals
    (have HEnd := Lib.hid (show ∃ hv' FH', Db base (w2.setCell ⟨X, 10, none⟩ (.slice ra H'.length rc)) X d S I p hv' FSb FI FP FH' f n H' ∧ (∀ k, FH' k → w.heap.size ≤ k) ∧ Out (fun k => k = X) w (w2.setCell ⟨X, 10, none⟩ (.slice ra H'.length rc)) from by
       have hb9 : Below w.heap.size w w2 := HB.out.trans (hb2'.mono HB.out.size)
       have ho := Out.setCell w2 ⟨X, 10, none⟩ (.slice ra H'.length rc)
       have hx9 := (hb2'.block X (lt_of_heap HXW.out)).trans HXW.out
       have hXW : X < W.heap.size := lt_of_heap HXW.out
       refine ⟨_, _, (HD.out.below HB.out).head ((Out.of_below hb2').same ho) (by rw [heap_setC hx9]; rfl) (Keeps.out (SerB.keeps hr2) ho (fun k hk e => by have := hk.1; simp only at e; omega)) (fun k hk => ?_), fun k hk => Nat.le_trans HB.out.size hk.1, (Out.of_below hb9).same ho⟩
       exact hk.1)
     clear hr hr2 hb2 hb2' q0 q1 q2
     go_wp2_with fail
     go_end0
     exact ⟨rfl, HEnd.out⟩)

end Go.Proofs.YtheenlomlmbjaaaGreatDoor

namespace Go.Proofs.YtheenlomlmbjaaaGreatDoor
open Go.RowKit Go.Maps

abbrev StR := Nat × List Ser
def OkR (s : StR) : Rc → Prop
  | .lab k => k = s.1 ∧ k < 5
  | .rows R => SOk s.2 ∧ PRise R ∧ R.length ≤ 10000 ∧ s.2.length ≤ 12 ∧ (idsOf R).length ≤ 12 ∧ (∀ id, (smpOf R id).length ≤ 12) ∧ tot s.2 ≤ 1000
def stepR (s : StR) : Rc → StR
  | .lab _ => (s.1 + 1, s.2)
  | .rows R => (s.1, putL s.2 R)
def runR (s : StR) (rs : List Rc) : StR := rs.foldl stepR s
theorem runR_succ (s : StR) (rs : List Rc) {k : Nat} (h : k < rs.length) : runR s (rs.take (k + 1)) = stepR (runR s (rs.take k)) (rs.getD k (.lab 0)) := by
  rw [snoc_take rs (.lab 0) h]
  unfold runR
  rw [List.foldl_append]; rfl

def OwnE {α : Type} (t k : Nat) (enc : α → List Value) (B E : Nat) (w : World) (v : Value) (l : List α) : Prop := OwnR t k enc w B v l ∧ ∀ b, v.ownBlock = some b → b < E
theorem OwnE.stay {α : Type} {t k B E : Nat} {enc : α → List Value} {w w' : World} {v : Value} {l : List α} (h : OwnE t k enc B E w v l) (hk : ∀ k, B ≤ k → k < E → w'.heap[k]? = w.heap[k]?) : OwnE t k enc B E w' v l :=
  ⟨h.1.stay fun b e => hk b (World.ownsRow.lt h.1 b e).1 (h.2 b e), h.2⟩
theorem OwnR.ownE {α : Type} {t k B : Nat} {enc : α → List Value} {w : World} {v : Value} {l : List α} (h : OwnR t k enc w B v l) : OwnE t k enc B w.heap.size w v l := ⟨h, fun b e => (World.ownsRow.lt h b e).2⟩
def RecB (B E : Nat) (w : World) (x : RecX) : Rc → Prop
  | .lab k => x.1 = 0 ∧ x.2.2 = (none, 0, 0) ∧ OwnE 53 2 encL2 B E w (slV x.2.1) (oneL k) ∧ k < 5
  | .rows R => x.1 = 1 ∧ x.2.1 = (none, 0, 0) ∧ OwnE 119 3 encRw B E w (slV x.2.2) R ∧ RowsOk R
def RecsB (B E : Nat) (w : World) (v : Value) (rs : List Rc) : Prop := ∃ X : List RecX, OwnE 107 5 encRec B E w v X ∧ X.length = rs.length ∧ ∀ i, i < rs.length → RecB B E w (X.getD i rec0) (rs.getD i (.lab 0))
theorem RecB.recV {B E : Nat} {w : World} {x : RecX} {r : Rc} (h : RecB B E w x r) : RecV w x r := by
  cases r with
  | lab k => exact ⟨h.1, h.2.1, h.2.2.1.1.rowG, h.2.2.2⟩
  | rows R => exact ⟨h.1, h.2.1, h.2.2.1.1.rowG, h.2.2.2⟩
theorem RecB.stay {B E : Nat} {w w' : World} {x : RecX} {r : Rc} (h : RecB B E w x r) (hk : ∀ k, B ≤ k → k < E → w'.heap[k]? = w.heap[k]?) : RecB B E w' x r := by
  cases r with
  | lab k => exact ⟨h.1, h.2.1, h.2.2.1.stay hk, h.2.2.2⟩
  | rows R => exact ⟨h.1, h.2.1, h.2.2.1.stay hk, h.2.2.2⟩
theorem RecsB.stay {B E : Nat} {w w' : World} {v : Value} {rs : List Rc} (h : RecsB B E w v rs) (hk : ∀ k, B ≤ k → k < E → w'.heap[k]? = w.heap[k]?) : RecsB B E w' v rs := by
  obtain ⟨X, h1, h2, h3⟩ := h
  exact ⟨X, h1.stay hk, h2, fun i hi => (h3 i hi).stay hk⟩
theorem RecsB.recsV {B E : Nat} {w : World} {v : Value} {rs : List Rc} (h : RecsB B E w v rs) : RecsV w v rs := by
  obtain ⟨X, h1, h2, h3⟩ := h
  exact ⟨X, h1.1.rowG, h2, fun i hi => (h3 i hi).recV⟩

def RedoA (base : Nat) (X d S I p : Nat) (FSb FI FP : Bl) (f : Fs) (s : StR) (w : World) (e : Ending) (w' : World) : Prop :=
  e = .returned (.tuple #[]) ∧ ∃ hv' FI' FH', Db base w' X d S I p hv' FSb FI' FP FH' f s.1 s.2 ∧ (∀ k, FI' k → FI k ∨ w.heap.size ≤ k) ∧ Out (fun k => k = X ∨ FI k) w w'
theorem redo_any (base X d S I p : Nat) (hv : Value) (FSb FI FP FH : Bl) (f : Fs) (s : StR) (x : RecX) (r : Rc) (B E : Nat) (w : World) (h : Db base w X d S I p hv FSb FI FP FH f s.1 s.2) (hx : RecB B E w x r) (hr : OkR s r) (hB : ∀ k, FI k → k < B ∨ E ≤ k) :
    Calls Tryz.prog 31 #[.pointer (some ⟨X, 0, none⟩), encAt x] w (RedoA base X d S I p FSb FI FP f (stepR s r) w) := by
  obtain ⟨x0, x1, x2⟩ := x
  cases r with
  | lab k =>
    obtain ⟨e1, e2, h3, h4⟩ := hx
    obtain ⟨e3, -⟩ := hr
    simp only at e1 e2 h3
    subst e1; subst e2; subst e3
    refine (redoL_any base X d S I p hv FSb FI FP FH f s.1 s.2 (slV x1) w h h4 h3.1.rowG (fun b o sl m c e hf => ?_)).mono ?_
    · have hob : (slV x1).ownBlock = some b := by
        rcases h3.1.2 with ⟨e5, _⟩ | ⟨g, cap, cur, e5, _⟩
        · rw [e5] at e; cases e
        · rw [e5] at e ⊢
          simp only [Value.slice.injEq, Option.some.injEq, Addr.mk.injEq] at e
          rw [← e.1.1]; rfl
      have h7 := (World.ownsRow.lt h3.1 b hob).1
      have h8 := h3.2 b hob
      rcases hB b hf with h6 | h6 <;> omega
    · rintro e w' ⟨he, FI', hd, hs⟩
      exact ⟨he, hv, FI', FH, hd, hs.sub, hs.out.mono fun k _ hk => .inr hk⟩
  | rows R =>
    obtain ⟨e1, e2, h3, -⟩ := hx
    obtain ⟨o1, o2, o3, o4, o5, o6, o7⟩ := hr
    simp only at e1 e2 h3
    subst e1; subst e2
    refine (redoR_any base X d S I p hv FSb FI FP FH f s.1 s.2 (slV x2) R w h o1 h3.1.rowG o2 o3 o4 o5 o6 o7).mono ?_
    rintro e w' ⟨he, hv', FH', hd, -, ho⟩
    exact ⟨he, hv', FI, FH', hd, fun k hk => .inl hk, ho.mono fun k _ hk => .inl hk⟩

structure LogI (base : Nat) (X d S I p : Nat) (FSb FI0 FP : Bl) (f : Fs) (B E : Nat) (v : Value) (rs : List Rc) (s : StR) (w0 : World) (k : Nat) (wr : World) : Prop where
  ex : ∃ hv FI FH, Db base wr X d S I p hv FSb FI FP FH f (runR s (rs.take k)).1 (runR s (rs.take k)).2 ∧ ∀ j, FI j → FI0 j ∨ w0.heap.size ≤ j
  recs : RecsB B E wr v rs
  out : Out (fun j => j = X ∨ FI0 j) w0 wr
def LogA (base : Nat) (X d S I p : Nat) (FP : Bl) (f : Fs) (was : Bytes) (m : Nat) (s : StR) (w : World) (e : Ending) (w' : World) : Prop :=
  e = .returned (.int .i64 0) ∧ ∃ hv FSb FI FH t, t.length ≤ m ∧ Db base w' X d S I p hv FSb FI FP FH (setFs f walNm (was ++ t)) s.1 s.2 ∧ Below base w w'
set_option maxRecDepth 100000 in
set_option maxHeartbeats 4000000 in
theorem log_any (base X d S I p : Nat) (hv : Value) (FSb FI FP FH : Bl) (f : Fs) (was : Bytes) (s : StR) (v : Value) (rs : List Rc) (B : Nat) (w : World) (h : Db base w X d S I p hv FSb FI FP FH f s.1 s.2) (hwas : f walNm = some was ∨ f walNm = none ∧ was = []) (hv' : RecsB B w.heap.size w v rs) (hok : ∀ k, k < rs.length → OkR (runR s (rs.take k)) (rs.getD k (.lab 0)))
    (hB : X < B ∧ ∀ k, (FSb k ∨ FI k ∨ FP k ∨ FH k) → k < B) (hlen : was.length + lenR rs ≤ 2880) (hst : StepsOk w 0) (h0 : 0 < base) (hne : 0 < rs.length) (hl : rs.length ≤ 1000) :
    Calls Tryz.prog 37 #[.pointer (some ⟨X, 0, none⟩), v] w (LogA base X d S I p FP f was (lenR rs) (runR s rs) w) := by
  have HD := Lib.hid h
  obtain ⟨-, c1, -⟩ := dbC_cells h.x
  have hXl := lt_of_heap h.x
  have HW := Lib.hid (walApp_any FSb S f was v rs w h.st h.fs hwas hv'.recsV hlen hst (by have := h.ge.1; omega) hne hl)
  have HR := Lib.hid hv'
  have HOk := Lib.hid hok
  have HBB := Lib.hid hB
  have HLim := Lib.hid hlen
  obtain ⟨X0, x1, x2, -⟩ := hv'
  obtain ⟨a, vn, c, rfl⟩ := x1.1.isSl
  have hvn : vn = rs.length := by rw [(x1.1.rowG.len).1, x2]
  subst hvn
  obtain ⟨n, hn⟩ : ∃ n, n = rs.length := ⟨_, rfl⟩
  have HN := Lib.hid hn
  rw [← hn] at HR HW hne hl ⊢
  clear h hwas hok hB hlen hst h0 x1 x2 hn
  go_enter Tryz.func37, Tryz.ntmps37
  go_wp2_with fail
  refine HW.out.mono ?_
  rintro e w1 ⟨t, ht, m', rfl, hm', hs1, ho1⟩
  have HTl := Lib.hid ht
  have hfs : FsOk (setFs f walNm (was ++ t)) := HD.out.fs.set wal_in (by unfold limF; rw [if_pos rfl, List.length_append]; have := HLim.out; omega)
  have hd1 := HD.out.store ho1 hs1 (fun k hk => hk.imp id (fun e => by rw [e]; exact hm')) hfs
  have hne2 : ∀ k, B ≤ k → k < w.heap.size → w1.heap[k]? = w.heap[k]? := fun k h1 h2 => ho1.block k h2 (fun e => by have := HBB.out.2 k (.inl (by rw [e]; exact HD.out.st.s)); omega)
  have HI0 := Lib.hid (show LogI base X d S I p (fun k => FSb k ∨ k = m') FI FP (setFs f walNm (was ++ t)) B w.heap.size (.slice a n c) rs s w1 0 w1 from
    ⟨⟨hv, FI, FH, hd1, fun j hj => .inl hj⟩, HR.out.stay hne2, Out.refl _ _⟩)
  have HB1 := Lib.hid (show Below base w w1 from ho1.below (fun k h1 h2 => by have := HD.out.ge.2 k (.inl (by rw [h2]; exact HD.out.st.s)); omega) (by have := HD.out.ge.1; omega))
  have HSz := Lib.hid ho1.size
  have HD1 := Lib.hid hd1
  clear ht hm' hs1 ho1 hd1 hne2 hfs HR c1
  go_wp2_with fail
  go_loopw [19] (fun x wr => ∃ k : Nat, x = .int .i64 k ∧ k ≤ n ∧ LogI base X d S I p (fun k => FSb k ∨ k = m') FI FP (setFs f walNm (was ++ t)) B w.heap.size (.slice a n c) rs s w1 k wr) (fun x _ => n - (intOf x).toNat)
  case atStart => exact ⟨0, rfl, Nat.zero_le _, HI0.out⟩
  case round =>
    clear HI0
    obtain ⟨k, rfl, hk, hI⟩ := hrel
    have HI := Lib.hid hI
    clear hI
    by_cases hlt : k < n
    · have hkr : k < rs.length := by rw [← HN.out]; exact hlt
      obtain ⟨X1, x1, x2, x3⟩ := HI.out.recs
      have hx := x3 k hkr
      obtain ⟨b, off, rfl, hbs, hc⟩ := x1.1.rowG.at_ (fun _ => rfl) rec0 (i := k) (by rw [x2]; exact hkr)
      have HOk1 := Lib.hid (HOk.out k hkr)
      have HSt := Lib.hid (runR_succ s rs hkr)
      generalize rs.getD k (.lab 0) = r at *
      generalize X1.getD k rec0 = x at *
      obtain ⟨y0, y1, y2⟩ := x
      have c0 := hc 0 (by omega)
      have c1 := hc 1 (by omega)
      have c2 := hc 2 (by omega)
      have c3 := hc 3 (by omega)
      have c4 := hc 4 (by omega)
      simp only [encRec, slV, Nat.add_zero, List.getElem?_cons_zero, List.getElem?_cons_succ] at c0 c1 c2 c3 c4
      obtain ⟨hvk, FIk, FHk, hdk, hsub⟩ := HI.out.ex
      have HDk := Lib.hid hdk
      have HSub := Lib.hid hsub
      have HBx := Lib.hid hx
      have HRd := Lib.hid (fun W (hW : Below wr.heap.size wr W) => redo_any base X d S I p hvk (fun k => FSb k ∨ k = m') FIk FP FHk (setFs f walNm (was ++ t)) (runR s (rs.take k)) (y0, y1, y2) r B w.heap.size W (hdk.below hW) (hx.stay (fun j _ h2 => hW.block j (by have := HSz.out; have := HI.out.out.size; omega))) HOk1.out (fun j hj => (hsub j hj).imp (fun h => HBB.out.2 j (.inr (.inl h))) (fun h => Nat.le_trans HSz.out h)))
      unfold encAt slV at HRd
      clear x1 x2 x3 hx hc hdk hsub hkr
      go_wp2_with fail
      refine (HRd.out _ ((Below.refl _ _).alloc (Nat.le_refl _) _)).mono ?_
      rintro e w2 ⟨rfl, hv2, FI2, FH2, hd2, hs2, ho2⟩
      have HI2 := Lib.hid (show LogI base X d S I p (fun k => FSb k ∨ k = m') FI FP (setFs f walNm (was ++ t)) B w.heap.size (.slice (some ⟨b, off, none⟩) n c) rs s w1 (k + 1) w2 from by
        have hA : Below wr.heap.size wr (wr.alloc (.cells #[.int .i64 y0, .slice y1.1 y1.2.1 y1.2.2, .slice y2.1 y2.2.1 y2.2.2, .slice none 0 0, .int .i64 0] 107)) := (Below.refl _ _).alloc (Nat.le_refl _) _
        have hw0 := HI.out.out.size
        have hsz := hA.size
        refine ⟨⟨hv2, FI2, FH2, ?_, fun j hj => ?_⟩, HI.out.recs.stay (fun j h1 h2 => ?_), (HI.out.out.thenB hA).trans ho2 (fun j hj hk => ?_)⟩
        · rw [HSt.out]; exact hd2
        · rcases hs2 j hj with h | h
          · exact HSub.out j h
          · exact .inr (by omega)
        · have h3 : j < wr.heap.size := by have := HSz.out; omega
          refine (ho2.block j (by omega) (fun e => ?_)).trans (hA.block j h3)
          rcases e with e | e
          · have := HBB.out.1; omega
          · rcases HSub.out j e with h4 | h4
            · have := HBB.out.2 j (.inr (.inl h4)); omega
            · have := HSz.out; omega
        · rcases hk with h | h
          · exact .inl h
          · rcases HSub.out j h with h4 | h4
            · exact .inr h4
            · omega)
      clear hd2 hs2 ho2 c0 c1 c2 c3 c4 hbs
      go_wp2_with fail
      go_roundw
      case rel => exact ⟨k + 1, by go_num, by omega, HI2.out⟩
      case measure => simp [intOf]; omega
    · have hke : n = k := by omega
      subst hke
      have hte : rs.take n = rs := by rw [HN.out, List.take_length]
      obtain ⟨hvk, FIk, FHk, hdk, hsub⟩ := HI.out.ex
      rw [hte] at hdk
      have HEnd := Lib.hid (show LogA base X d S I p FP f was (lenR rs) (runR s rs) w (.returned (.int .i64 0)) wr from
        ⟨rfl, hvk, _, FIk, FHk, t, HTl.out, hdk, HB1.out.trans (HI.out.out.below (fun j h1 h2 => by
          rcases h2 with h | h
          · have := HD.out.ge.1; omega
          · have := HD.out.ge.2 j (.inr (.inl h)); omega) (by have := HD.out.ge.1; have := HSz.out; omega))⟩)
      clear hdk hsub hte
      go_wp2_with fail
      go_ret
      exact HEnd.out

end Go.Proofs.YtheenlomlmbjaaaGreatDoor

namespace Go.Proofs.YtheenlomlmbjaaaGreatDoor
open Go.RowKit Go.Maps

set_option maxRecDepth 100000 in
set_option maxHeartbeats 2000000 in
theorem wrong_any (X d S I p : Nat) (hv u : Value) (k : Nat) (t v : Int) (w : World) (hx : w.heap[X]? = some (.cells (dbC d S I p (.slice none 0 0) 0 hv) 95 (0, 0))) (hu : RowG 2 encL2 w u (oneL k)) (hk : k < 8) (h0 : 0 ≤ t) (h1 : t ≤ 3072) :
    Calls Tryz.prog 34 #[.pointer (some ⟨X, 0, none⟩), .agg #[u, .int .i64 t, .int .i64 v]] w fun e w' => e = .returned .nilIface ∧ Below w.heap.size w w' := by
  obtain ⟨-, -, -, -, -, c5, -⟩ := dbC_cells hx
  obtain ⟨-, -, -, -, -, -, -, -, -, c12, -⟩ := dbC_cells hx
  have hXl := lt_of_heap hx
  have HC := Lib.hid (fun W (hb : Below w.heap.size w W) => L4.check_any u (oneL k) W (hu.labels.below hb))
  rw [one_chk hk] at HC
  unfold L4.errL at HC
  simp only [if_true] at HC
  have HU := Lib.hid hu
  obtain ⟨ua, uc, rfl, -⟩ := hu
  generalize (oneL k).length = m at *
  have HX := Lib.hid (heap_alloc_new w (.cells #[.slice ua m uc, .int .i64 t, .int .i64 v] 58))
  have HB := Lib.hid (show Below w.heap.size w (w.alloc (.cells #[.slice ua m uc, .int .i64 t, .int .i64 v] 58)) from (Below.refl _ _).alloc (Nat.le_refl _) _)
  have d0 : decide (t < 0) = false := by simp; omega
  have d1 : decide (1099511627776 ≤ t) = false := by simp; omega
  clear hx
  go_enter Tryz.func34, Tryz.ntmps34
  go_wp2_with fail
  generalize w.alloc (.cells #[.slice ua m uc, .int .i64 t, .int .i64 v] 58) = W at *
  refine (HC.out W HB.out).mono ?_
  rintro e w1 ⟨rfl, hb1⟩
  have e1 := (hb1.block _ (lt_of_heap HX.out)).trans HX.out
  have q1 : w1.cell? ⟨w.heap.size, 1, none⟩ = some (.int .i64 t) := by rw [cell_of_row w1 _ _ _ _ _ e1]; rfl
  have HB1 := Lib.hid (HB.out.trans (hb1.mono HB.out.size))
  have q12 : w1.cell? ⟨X, 12, none⟩ = some (.int .i64 0) := (HB1.out.cell (p := ⟨X, 12, none⟩) hXl).trans c12
  clear hb1 e1 c5 c12
  go_wp2_with fail
  go_quiet (fail)
  go_wp2_with fail
  go_ret
  exact ⟨rfl, belowN HB1.out _⟩

abbrev Po := SlV × Int × Int
def encPo (x : Po) : List Value := [slV x.1, .int .i64 x.2.1, .int .i64 x.2.2]
theorem infoPo : (Tryz.prog.info? 58).map (fun i => (i.zero, i.size, i.bytes)) = some (some (.agg #[.slice none 0 0, .int .i64 0, .int .i64 0]), 3, 40) := by kernel_rfl
theorem tyPo : ETy 56 58 3 40 encPo :=
  ⟨Tryz.underlying56, ⟨_, infoPo, rfl⟩, by decide, by decide, fun _ => rfl, fun x u hu => by simp [encPo] at hu; rcases hu with rfl | rfl | rfl <;> rfl⟩
def PtsV (w : World) (v : Value) (t : Int) (m : Nat) : Prop := ∃ P : List Po, RowG 3 encPo w v P ∧ P.length = m ∧ ∀ k, k < m → (P.getD k ((none, 0, 0), 0, 0)).2 = (t, 10 * t + (k : Int)) ∧ RowG 2 encL2 w (slV (P.getD k ((none, 0, 0), 0, 0)).1) (oneL k)
theorem PtsV.below {w w' : World} {v : Value} {t : Int} {m : Nat} (h : PtsV w v t m) (hb : Below w.heap.size w w') : PtsV w' v t m := by
  obtain ⟨P, h1, h2, h3⟩ := h
  exact ⟨P, h1.below hb, h2, fun k hk => ⟨(h3 k hk).1, (h3 k hk).2.below hb⟩⟩
theorem PtsV.shape {w : World} {v : Value} {t : Int} {m : Nat} (h : PtsV w v t m) : ∃ a c, v = .slice a m c ∧ m ≤ c ∧ c ≤ 9223372036854775807 := by
  obtain ⟨P, ⟨a, c, h1, h2, h3, _⟩, h4, _⟩ := h
  exact ⟨a, c, by rw [h1, h4], by omega, h3⟩
theorem PtsV.at_ {w : World} {a : Option Addr} {t : Int} {m k n c : Nat} (h : PtsV w (.slice a n c) t m) (hk : k < m) : ∃ b off sl, a = some ⟨b, off, none⟩ ∧ b < w.heap.size ∧ w.cell? ⟨b, off + k * 3, none⟩ = some (slV sl) ∧ w.cell? ⟨b, off + k * 3 + 1, none⟩ = some (.int .i64 t) ∧ w.cell? ⟨b, off + k * 3 + 2, none⟩ = some (.int .i64 (10 * t + (k : Int))) ∧ RowG 2 encL2 w (slV sl) (oneL k) := by
  obtain ⟨P, h1, h2, h3⟩ := h
  obtain ⟨b, off, ha, hb, hc⟩ := h1.at_ (fun _ => rfl) ((none, 0, 0), 0, 0) (i := k) (by omega)
  obtain ⟨e1, e2⟩ := h3 k hk
  have c0 := hc 0 (by omega)
  have c1 := hc 1 (by omega)
  have c2 := hc 2 (by omega)
  simp only [encPo, Nat.add_zero, List.getElem?_cons_zero, List.getElem?_cons_succ] at c0 c1 c2
  rw [e1] at c1 c2
  exact ⟨b, off, _, ha, hb, c0, c1, c2, e2⟩
theorem rowsAt_get {t : Int} {k : Nat} (h : k < 5) : (rowsAt t).getD k (0, 0, 0) = (t, (k : Int), 10 * t + (k : Int)) := by
  have : k = 0 ∨ k = 1 ∨ k = 2 ∨ k = 3 ∨ k = 4 := by omega
  rcases this with rfl | rfl | rfl | rfl | rfl <;> simp [rowsAt, List.getD]
theorem rowsAt_succ {t : Int} {k : Nat} (h : k < 5) : (rowsAt t).take (k + 1) = (rowsAt t).take k ++ [(t, (k : Int), 10 * t + (k : Int))] := by
  rw [snoc_take (rowsAt t) (0, 0, 0) (by simpa [rowsAt] using h), rowsAt_get h]

def Fw (was : Bytes) : Fs := setFs (fun _ => none) walNm was
theorem Fw_set (was x : Bytes) : setFs (Fw was) walNm x = Fw x := by
  funext nm
  unfold Fw setFs
  by_cases e : nm = walNm
  · rw [if_pos e, if_pos e]
  · rw [if_neg e, if_neg e, if_neg e]
def DbT (base X d S I p : Nat) (FP : Bl) (ts : List Int) (w : World) : Prop :=
  ∃ hv FSb FI FH H, (ts = [] ∧ Db base w X d S I p hv FSb FI FP FH (fun _ => none) 0 H ∧ H = [] ∨ ts ≠ [] ∧ ∃ was : Bytes, was.length ≤ 195 + 182 * ts.length ∧ Db base w X d S I p hv FSb FI FP FH (Fw was) 5 H) ∧ HOk ts H
def WriteA (base X d S I p : Nat) (FP : Bl) (ts : List Int) (w : World) (e : Ending) (w' : World) : Prop := e = .returned (.int .i64 0) ∧ DbT base X d S I p FP ts w' ∧ Below base w w'
theorem HOk.okR {ts : List Int} {H : List Ser} {t : Int} (h : HOk ts H) (hl : ts.length ≤ 12) (h0 : 0 ≤ t) (h1 : t ≤ 3072) (n : Nat) : OkR (n, H) (.rows (rowsAt t)) :=
  ⟨h.ok, rowsAt_prise h0 h1, by simp [rowsAt], by have := h.len; simp only; omega, by have := ids_le (R := rowsAt t) (fun r hr => ⟨(rowsAt_mem hr).2.1, (rowsAt_mem hr).2.2.1⟩); omega, fun id => by have := rowsAt_smp t id; omega, by have := h.tot hl; simp only; omega⟩
theorem rowsAt_rowsOk {t : Int} (h0 : 0 ≤ t) (h1 : t ≤ 3072) : RowsOk (rowsAt t) := ⟨(rowsAt_prise h0 h1).ok, by simp [rowsAt], by simp [rowsAt]⟩

end Go.Proofs.YtheenlomlmbjaaaGreatDoor

namespace Go.Proofs.YtheenlomlmbjaaaGreatDoor
open Go.RowKit Go.Maps

set_option maxRecDepth 100000 in
theorem getUint0 (w : World) : Calls Tryz.prog 69 #[.string (bs []), .int .i64 0] w fun e w' => e = .returned (.tuple #[.int .u64 0, .int .i64 0, .int .i64 10]) ∧ w = w' := by
  go_enter Tryz.func69, Tryz.ntmps69
  go_wp2_with fail
  refine wp_loop_rounds 1 ?_
  rw [rounds_succ]
  go_wp2_with fail
  go_ret3
  exact ⟨rfl, rfl⟩
set_option maxRecDepth 100000 in
theorem getText0 (w : World) : Calls Tryz.prog 72 #[.string (bs []), .int .i64 0] w fun e w' => e = .returned (.tuple #[.string (bs []), .int .i64 0, .int .i64 10]) ∧ w = w' := by
  go_enter Tryz.func72, Tryz.ntmps72
  go_wp2_with fail
  refine (getUint0 _).mono ?_
  rintro e w1 ⟨rfl, rfl⟩
  go_wp2_with fail
  go_ret3
  exact ⟨rfl, rfl⟩
set_option maxRecDepth 100000 in
set_option maxHeartbeats 2000000 in
theorem scan0 (w : World) : Calls Tryz.prog 74 #[.string (bs [])] w fun e w' => e = .returned (.tuple #[.slice none 0 0, .int .i64 0]) ∧ Below w.heap.size w w' := by
  go_enter Tryz.func74, Tryz.ntmps74
  go_wp2_with fail
  refine wp_loop_rounds 1 ?_
  rw [rounds_succ]
  go_wp2_with fail
  refine (getText0 _).mono ?_
  rintro e w1 ⟨rfl, rfl⟩
  go_wp2_with fail
  go_quiet (fail)
  go_wp2_with fail
  go_ret2
  exact ⟨rfl, belowN (Below.refl _ _) _⟩
set_option maxRecDepth 100000 in
set_option maxHeartbeats 2000000 in
theorem replay0 {N S : Nat} {f : Fs} (w : World) (h : StoreOk w S f N) (hf : f walNm = none) : Calls Tryz.prog 30 #[.pointer (some ⟨S, 0, none⟩)] w fun e w' => e = .returned (.tuple #[.slice none 0 0, .int .i64 0]) ∧ Below w.heap.size w w' := by
  have HR := Lib.hid (readF_no h (nm := walNm) (by decide) hf)
  unfold walNm at HR
  clear h hf
  go_enter Tryz.func30, Tryz.ntmps30
  go_wp2_with fail
  refine HR.out.mono ?_
  rintro e w1 ⟨rfl, rfl⟩
  go_wp2_with fail
  refine (scan0 _).mono ?_
  rintro e w2 ⟨rfl, hb2⟩
  have HB2 := Lib.hid hb2
  clear hb2
  go_wp2_with fail
  refine wp_loop_rounds 1 ?_
  rw [rounds_succ]
  go_wp2_with fail
  go_ret2
  exact ⟨rfl, HB2.out⟩

set_option maxRecDepth 100000 in
set_option maxHeartbeats 2000000 in
theorem number0 (B d m : Nat) (b : Bool) (w : World) (h : w.heap[B]? = some (.cells #[.pointer (some ⟨d, 0, none⟩), .string (bs []), .int .i64 0, .bool b, .map (some m)] 253 (0, 0))) :
    Calls Tryz.prog 129 #[.pointer (some ⟨B, 0, none⟩)] w fun e w' => e = .returned (.int .i64 0) ∧ w'.heap[B]? = some (.cells #[.pointer (some ⟨d, 0, none⟩), .string (bs []), .int .i64 0, .bool false, .map (some m)] 253 (0, 0)) ∧ Out (fun k => k = B) w w' := by
  have HH := Lib.hid h
  have c1 : w.cell? ⟨B, 1, none⟩ = some (.string (bs [])) := by rw [cell_of_row w _ _ _ _ _ h]; rfl
  have c2 : w.cell? ⟨B, 2, none⟩ = some (.int .i64 0) := by rw [cell_of_row w _ _ _ _ _ h]; rfl
  have c3 : w.cell? ⟨B, 3, none⟩ = some (.bool b) := by rw [cell_of_row w _ _ _ _ _ h]; rfl
  have f3 := Lib.frozen_of_heap h 3
  have hBl := lt_of_heap h
  clear h
  go_enter Tryz.func129, Tryz.ntmps129
  go_wp2_with fail
  go_quiet ((go_at_call 69; exact Calls.quiet_of_same (P := Tryz.prog) ((getUint0 _).mono (fun e w' h => ⟨h.1, h.2.symm⟩))))
  rename_i nq
  have HHq := Lib.hid (show (w.drewN nq).heap[B]? = _ from HH.out)
  have HB := Lib.hid (show Below w.heap.size w (w.drewN nq) from belowN (Below.refl _ _) nq)
  clear c1 c2 c3 f3
  generalize w.drewN nq = W at *
  have c3 : W.cell? ⟨B, 3, none⟩ = some (.bool b) := by rw [cell_of_row W _ _ _ _ _ HHq.out]; rfl
  have f3 := Lib.frozen_of_heap HHq.out 3
  go_wp2_with fail
  go_ret
  exact ⟨rfl, by rw [heap_setC HHq.out]; rfl, (Out.of_below HB.out).same (Out.setCell W ⟨B, 3, none⟩ _)⟩

set_option maxRecDepth 100000 in
set_option maxHeartbeats 4000000 in
theorem root0 (d : Nat) (i : Int) (w : World) (h : DiskOk w d) (hi : i = 0 ∨ i = 1) :
    Calls Tryz.prog 67 #[.pointer (some ⟨d, 0, none⟩), .int .i64 i] w fun e w' => e = .returned (.tuple #[.int .i64 0, .map none, .slice none 0 0]) ∧ Below w.heap.size w w' := by
  have HR := Lib.hid (readD_any d i w h hi)
  have hmm := @run_makeMap Tryz.prog
  clear h
  go_enter Tryz.func67, Tryz.ntmps67
  go_wp2_with fail
  refine HR.out.mono ?_
  rintro e w1 ⟨rfl, rfl⟩
  have h2 := heap2 w (.map #[] 0) (.cells #[.pointer (some ⟨d, 0, none⟩), .string (bs []), .int .i64 0, .bool true, .map (some w.heap.size)] 253)
  have HB := Lib.hid (show Below w.heap.size w ((w.alloc (.map #[] 0)).alloc (.cells #[.pointer (some ⟨d, 0, none⟩), .string (bs []), .int .i64 0, .bool true, .map (some w.heap.size)] 253)) from ((Below.refl _ _).alloc (Nat.le_refl _) _).alloc (by simp) _)
  have HX := Lib.hid h2.2
  clear h2
  go_wp2_with fail
  clear hmm
  generalize ((w.alloc (.map #[] 0)).alloc (.cells #[.pointer (some ⟨d, 0, none⟩), .string (bs []), .int .i64 0, .bool true, .map (some w.heap.size)] 253)) = W at *
  refine (number0 _ d _ true W HX.out).mono ?_
  rintro e w2 ⟨rfl, hx2, ho2⟩
  have HX2 := Lib.hid hx2
  have HB2 := Lib.hid (HB.out.trans (ho2.below (B := w.heap.size) (fun k hk e => by omega) HB.out.size))
  clear hx2 ho2
  go_wp2_with fail
  refine (number0 _ d _ false w2 HX2.out).mono ?_
  rintro e w3 ⟨rfl, hx3, ho3⟩
  have HX3 := Lib.hid hx3
  have HB3 := Lib.hid (HB2.out.trans (ho3.below (B := w.heap.size) (fun k hk e => by omega) HB2.out.size))
  have c3 : w3.cell? ⟨w.heap.size + 1, 3, none⟩ = some (.bool false) := by rw [cell_of_row w3 _ _ _ _ _ hx3]; rfl
  clear hx3 ho3
  go_wp2_with fail
  go_ret3
  exact ⟨rfl, HB3.out⟩

def FOpenA (d : Nat) (w : World) (e : Ending) (w' : World) : Prop := ∃ S F, e = .returned (.tuple #[.pointer (some ⟨S, 0, none⟩), .int .i64 0]) ∧ StoreL F w' S (fun _ => none) 15 ∧ (∀ k, F k → d ≤ k + 1) ∧ Below w.heap.size w w' ∧ w.heap.size ≤ S
set_option maxRecDepth 100000 in
set_option maxHeartbeats 4000000 in
theorem fopen_any (d : Nat) (w : World) (h : DiskOk w d) (hdm : ∀ mm, w.cell? ⟨d, 513, none⟩ = some (.map (some mm)) → d ≤ mm + 1) :
    Calls Tryz.prog 25 #[.pointer (some ⟨d, 0, none⟩)] w (FOpenA d w) := by
  have HD := Lib.hid h
  have HDM := Lib.hid hdm
  have HDd := Lib.hid (dead_any d w h)
  have hdl : d < w.heap.size := by obtain ⟨m, h0, _⟩ := h; exact World.block_lt_of_cell? w _ h0
  have hmm := @run_makeMap Tryz.prog
  clear h hdm
  go_enter Tryz.func25, Tryz.ntmps25
  go_wp2_with fail
  refine HDd.out.mono ?_
  rintro e w1 ⟨rfl, rfl⟩
  have h3 := heap3 w (.map #[] 0) (.map #[] 0) (.cells #[.pointer (some ⟨d, 0, none⟩), .map (some w.heap.size), .map (some (w.heap.size + 1)), .slice none 0 0, .int .i64 0, .bool false] 153)
  have HW := Lib.hid h3
  have HSL := Lib.hid (show StoreL (fun k => k = d ∨ w.heap.size ≤ k ∧ k < w.heap.size + 3 ∨ w.cell? ⟨d, 513, none⟩ = some (.map (some k))) (((w.alloc (.map #[] 0)).alloc (.map #[] 0)).alloc (.cells #[.pointer (some ⟨d, 0, none⟩), .map (some w.heap.size), .map (some (w.heap.size + 1)), .slice none 0 0, .int .i64 0, .bool false] 153)) (w.heap.size + 2) (fun _ => none) 15 from by
    obtain ⟨e1, e2, e3, e4, e5⟩ := h3
    refine ⟨fun k hk => ?_, .inr (.inl ⟨by omega, by omega⟩), d, w.heap.size, w.heap.size + 1, .map [], e3, HD.out.below e5, OMap.le (OMap.stay (World.ownsMap_made w _ _ _) (by rw [e1, heap_alloc_new])) (by omega), ⟨FsD.start.tidy, FsD.start.keys, FsD.start.at_, by have := FsD.start.size; omega⟩, OMap.stay (w := (w.alloc (.map #[] 0)).alloc (.map #[] 0)) (by have := World.ownsMap_made (w.alloc (.map #[] 0)) Tryz.prog 9 rawE; rwa [World.size_alloc] at this) (by rw [e2, (heap2 w _ _).2]), .inl rfl, .inr (.inl ⟨by omega, by omega⟩), .inr (.inl ⟨by omega, by omega⟩), fun mm hm => .inr (.inr ?_)⟩
    · rw [e4]
      rcases hk with rfl | hk | hk
      · omega
      · exact hk.2
      · obtain ⟨m, _, _, _, q3, _, es, clock, q5, _⟩ := HD.out
        rw [q3] at hk
        injection hk with hk; injection hk with hk; injection hk with hk
        subst hk
        have := lt_of_heap q5
        omega
    · rw [← hm]; exact ((e5.cell (p := ⟨d, 513, none⟩) hdl)).symm)
  clear h3
  go_wp2_with fail
  clear hmm
  generalize (((w.alloc (.map #[] 0)).alloc (.map #[] 0)).alloc (.cells #[.pointer (some ⟨d, 0, none⟩), .map (some w.heap.size), .map (some (w.heap.size + 1)), .slice none 0 0, .int .i64 0, .bool false] 153)) = W at *
  have HST := Lib.hid (show StoreAt W (w.heap.size + 2) d w.heap.size (w.heap.size + 1) from HW.out.2.2.1)
  have HB := Lib.hid HW.out.2.2.2.2
  have HM2 := Lib.hid (show OMap Tryz.prog 9 W (w.heap.size + 1) 0 (.map []) from OMap.stay (w := (w.alloc (.map #[] 0)).alloc (.map #[] 0)) (by have := World.ownsMap_made (w.alloc (.map #[] 0)) Tryz.prog 9 rawE; rwa [World.size_alloc] at this) (by rw [HW.out.2.1, (heap2 w _ _).2]))
  obtain ⟨S, hS⟩ : ∃ S, S = w.heap.size + 2 := ⟨_, rfl⟩
  rw [show w.heap.size + 1 + 1 = S from hS.symm]
  rw [← hS] at HSL HST
  have HSS := Lib.hid hS
  clear hS HW
  go_loopw [18] (fun i wr => ∃ k : Nat, i = .int .i64 k ∧ k ≤ 2 ∧ Below W.heap.size W wr) (fun i _ => 2 - (intOf i).toNat)
  case atStart => exact ⟨0, rfl, Nat.zero_le _, Below.refl _ _⟩
  case round =>
    obtain ⟨k, rfl, hk, hbl⟩ := hrel
    have HBl := Lib.hid hbl
    have hst := (hbl.block S (lt_of_heap HST.out)).trans HST.out
    have HStr := Lib.hid (show StoreAt wr S d w.heap.size (w.heap.size + 1) from hst)
    by_cases hlt : k < 2
    · have HRt := Lib.hid (root0 d (k : Int) wr (HD.out.below (HB.out.trans (hbl.mono HB.out.size))) (by omega))
      have hki : (k : Int) < 2 := by omega
      clear hbl hst
      go_wp2_with fail
      refine HRt.out.mono ?_
      rintro e w2 ⟨rfl, hb2⟩
      have hst2 : w2.heap[S]? = _ := (hb2.block S (lt_of_heap HStr.out)).trans HStr.out
      have c4 := (StoreAt.cells hst2).2.2.2.2.1
      have hSl2 := lt_of_heap hst2
      have HB2 := Lib.hid (HBl.out.trans (hb2.mono HBl.out.size))
      clear hb2 hst2
      go_wp2_with fail
      go_roundw
      case rel => exact ⟨k + 1, by go_num, by omega, HB2.out⟩
      case measure => simp [intOf]; omega
    · have hke : k = 2 := by omega
      subst hke
      have c2 := (StoreAt.cells hst).2.2.1
      have hSl2 := lt_of_heap hst
      have HM3 := Lib.hid (HM2.out.below hbl)
      have hx1 := World.ownsMap.lt HM3.out
      clear hbl hst hlt hk
      go_wp2_with (at_range; refine wpList_range_own _ rfl _ 151 rfl 9 157 keyedStr Tryz.underlying151 rawE (w.heap.size + 1) 0 (.map []) rfl HM3.out ?_; intro w2 hrg2 hg2 hs2)
      go_frame
      have HRG2 := Lib.hid hrg2
      have HB2 := Lib.hid (HBl.out.grown hg2 HBl.out.size (fun j hj => by cases hj))
      clear hrg2 hg2 hs2 c2
      refine wp_loop_rounds 1 ?_
      rw [rounds_succ]
      go_wp2_with (at_next; refine next_endS _ rfl (.tmp 51) rfl (.map []) (w.heap.size + 1) wr.heap.size 0 _ _ rfl HRG2.out (fun _ => rfl) ?_)
      go_ret2
      refine ⟨S, _, rfl, HSL.out.below HB2.out, fun k hk => ?_, HB.out.trans (HB2.out.mono HB.out.size), by rw [HSS.out]; omega⟩
      rcases hk with rfl | hk | hk
      · omega
      · omega
      · exact HDM.out k hk

end Go.Proofs.YtheenlomlmbjaaaGreatDoor
