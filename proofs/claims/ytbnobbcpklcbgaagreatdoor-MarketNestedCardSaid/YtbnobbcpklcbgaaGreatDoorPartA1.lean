/-
  Part 2 of the texts that lead to the theorem marketNested_card_holds: contracts of the functions that the law reaches.
-/
import Derived.Test.YtbnobbcpklcbgaaGreatDoorPartA0
import Derived.IntWalk
set_option linter.all false
set_option autoImplicit true
set_option relaxedAutoImplicit true
namespace Go.K
open Go.RowKit (Below)

/-! ### what is known of memory -/
def Blk (w : World) (b : Nat) (cs : List Value) (T : TypeId) : Prop := w.heap[b]? = some (.cells cs.toArray T (0, 0))
def Mp (w : World) (m : Nat) (es : List MapEntry) (clock : Nat) : Prop := w.heap[m]? = some (.map es.toArray clock)

structure Only (S : List Nat) (w w' : World) : Prop where
  os : w'.os = w.os
  tape : w'.tape = w.tape
  output : w'.output = w.output
  size : w.heap.size ≤ w'.heap.size
  keep : ∀ k, k < w.heap.size → k ∉ S → w'.heap[k]? = w.heap[k]?

theorem Only.refl (S : List Nat) (w : World) : Only S w w := ⟨rfl, rfl, rfl, Nat.le_refl _, fun _ _ _ => rfl⟩
theorem Only.trans {S S' : List Nat} {a b c : World} (h : Only S a b) (k : Only S' b c) : Only (S ++ S') a c :=
  ⟨k.os.trans h.os, k.tape.trans h.tape, k.output.trans h.output, Nat.le_trans h.size k.size, fun i hi hn =>
    (k.keep i (Nat.lt_of_lt_of_le hi h.size) (fun e => hn (List.mem_append_right _ e))).trans (h.keep i hi (fun e => hn (List.mem_append_left _ e)))⟩
theorem Only.sub {S S' : List Nat} {a b : World} (h : Only S a b) (hs : ∀ k ∈ S, k < a.heap.size → k ∈ S') : Only S' a b :=
  ⟨h.os, h.tape, h.output, h.size, fun k hk hn => h.keep k hk (fun e => hn (hs k e hk))⟩
theorem Only.alloc (w : World) (o : Obj) : Only [] w (w.alloc o) := ⟨rfl, rfl, rfl, by simp, fun k hk _ => heap_alloc_old w o k hk⟩
theorem Only.drew (w : World) : Only [] w w.drew := ⟨rfl, rfl, rfl, Nat.le_refl _, fun _ _ _ => rfl⟩
theorem Only.setCell (w : World) (b i : Nat) (v : Value) : Only [b] w (w.setCell ⟨b, i, none⟩ v) :=
  ⟨rfl, rfl, rfl, by simp, fun k _ hn => heap_setCell_other w _ k v (by simpa using hn)⟩
theorem Only.grown {w w' : World} {row : Option Nat} (h : w.grownBy w' row) : Only row.toList w w' :=
  ⟨h.os, h.tape, h.output, h.size, fun k hk hn => h.block k hk (fun e => hn (by simp [← e]))⟩
theorem Only.below {S : List Nat} {B : Nat} {w w' : World} (h : Only S w w') (hB : B ≤ w.heap.size) (hS : ∀ k ∈ S, B ≤ k) : Below B w w' :=
  ⟨h.os, h.tape, h.output, h.size, fun k hk => h.keep k (by omega) (fun e => by have := hS k e; omega)⟩

theorem Blk.lt {w : World} {b : Nat} {cs : List Value} {T : TypeId} (h : Blk w b cs T) : b < w.heap.size := (Array.getElem?_eq_some_iff.1 h).1
theorem Mp.lt {w : World} {b : Nat} {cs : List MapEntry} {T : Nat} (h : Mp w b cs T) : b < w.heap.size := (Array.getElem?_eq_some_iff.1 h).1
theorem Blk.keep {S : List Nat} {w w' : World} {b : Nat} {cs : List Value} {T : TypeId} (h : Blk w b cs T) (k : Only S w w') (hn : b ∉ S) : Blk w' b cs T := (k.keep b h.lt hn).trans h
theorem Mp.keep {S : List Nat} {w w' : World} {b : Nat} {cs : List MapEntry} {T : Nat} (h : Mp w b cs T) (k : Only S w w') (hn : b ∉ S) : Mp w' b cs T := (k.keep b h.lt hn).trans h
theorem Blk.ne {w : World} {b c : Nat} {cs ds : List Value} {T U : TypeId} (h : Blk w b cs T) (k : Blk w c ds U) (hT : Nat.beq T U = false) : b ≠ c := by
  intro e; subst e
  unfold Blk at h k
  rw [h] at k
  simp only [Option.some.injEq, Obj.cells.injEq] at k
  have := k.2.1
  subst this
  simp at hT
theorem Blk.neMp {w : World} {b c : Nat} {cs : List Value} {T : TypeId} {es : List MapEntry} {k : Nat} (h : Blk w b cs T) (hm : Mp w c es k) : b ≠ c := by
  intro e; subst e
  unfold Blk at h; unfold Mp at hm
  rw [h] at hm
  simp at hm
theorem Blk.cell {w : World} {b : Nat} {cs : List Value} {T : TypeId} (h : Blk w b cs T) (i : Nat) : w.cell? ⟨b, i, none⟩ = cs[i]? := by
  rw [cell_of_row w b i _ T (0, 0) h]; simp
theorem Blk.free {w : World} {b : Nat} {cs : List Value} {T : TypeId} (h : Blk w b cs T) (i : Nat) : w.frozen? ⟨b, i, none⟩ = false := frozen_of_row w b i _ T h
theorem Blk.setCell {w : World} {b : Nat} {cs : List Value} {T : TypeId} (h : Blk w b cs T) (i : Nat) (v : Value) : Blk (w.setCell ⟨b, i, none⟩ v) b (cs.set i v) T := by
  have := heap_setCell_same w b i _ T v h
  unfold Blk
  rw [this]
  congr 2
  apply Array.ext'
  simp
theorem Blk.new (w : World) (cs : List Value) (T : TypeId) : Blk (w.alloc (.cells cs.toArray T)) w.heap.size cs T := heap_alloc_new w _
theorem Mp.new (w : World) : Mp (w.alloc (.map #[] 0)) w.heap.size [] 0 := heap_alloc_new w _

theorem addr_add (b o k : Nat) : (⟨b, o, none⟩ : Addr).add k = ⟨b, o + k, none⟩ := by
  unfold Addr.add; split
  · rename_i h; subst h; rfl
  · rfl

/-! ### types -/
def aggB (P : Program) (t : TypeId) : Option Bool :=
  match P.underlying t with
  | some (.struct _) => some true
  | some (.array _ _) => some true
  | some _ => some false
  | none => none
def sizeB (P : Program) (t : TypeId) : Option Nat := (P.info? t).map (·.size)
def zeroB (P : Program) (t : TypeId) : Option Value := (P.info? t).bind (·.zero)

section
variable {P : Program} {w : World}
theorem run_isAgg {t : TypeId} {b : Bool} (h : aggB P t = some b) : (isAgg t).run P w = .ok b w := by
  unfold aggB at h
  unfold isAgg
  cases hu : P.underlying t with
  | none => rw [hu] at h; cases h
  | some d =>
    rw [hu] at h
    simp only [Sem.run_bind, underlying, run_program, Result.andThen_ok, hu, Sem.run_pure]
    cases d <;> simp_all
theorem run_sizeOf {t : TypeId} {n : Nat} (h : sizeB P t = some n) : (sizeOf t).run P w = .ok n w := by
  unfold sizeB at h
  cases hi : P.info? t with
  | none => rw [hi] at h; cases h
  | some i =>
    rw [hi] at h
    simp only [Option.map_some, Option.some.injEq] at h
    simp [sizeOf, typeInfo, hi, h]
theorem run_zeroValue {t : TypeId} {v : Value} (h : zeroB P t = some v) : (zeroValue t).run P w = .ok v w := by
  unfold zeroB at h
  cases hi : P.info? t with
  | none => rw [hi] at h; cases h
  | some i =>
    rw [hi] at h
    simp only [Option.bind_some] at h
    simp [zeroValue, typeInfo, hi, h]
theorem run_underlyingK {t : TypeId} {d : TypeDesc} (h : P.underlying t = some d) : (underlying t).run P w = .ok d w := by
  simp [underlying, h]

theorem run_loadVar1 {t : TypeId} {b o : Nat} {cs : List Value} {T : TypeId} {v : Value} (ht : aggB P t = some false) (h : Blk w b cs T) (hv : cs[o]? = some v) :
    (loadVar t ⟨b, o, none⟩).run P w = .ok v w := by
  simp only [loadVar, Sem.run_bind, run_isAgg ht, Result.andThen_ok, Bool.false_eq_true, if_false, run_load, h.cell, hv]
theorem run_loadVarN {t : TypeId} {b o n : Nat} {cs vs : List Value} {T : TypeId} (ht : aggB P t = some true) (hn : sizeB P t = some n) (h : Blk w b cs T) (hv : (cs.drop o).take n = vs) (hl : vs.length = n) :
    (loadVar t ⟨b, o, none⟩).run P w = .ok (.agg vs.toArray) w := by
  have hc := run_loadCells_list (P := P) w ⟨b, o, none⟩ vs (fun j v hj => by
    rw [addr_add, h.cell]
    rw [← hv] at hj
    have hjn : j < n := by
      rcases Nat.lt_or_ge j n with h' | h'
      · exact h'
      · rw [List.getElem?_eq_none (by simp; omega)] at hj; cases hj
    rw [List.getElem?_take_of_lt hjn, List.getElem?_drop] at hj
    exact hj)
  rw [hl] at hc
  simp only [loadVar, Sem.run_bind, run_isAgg ht, Result.andThen_ok, if_true, run_sizeOf hn, hc, Sem.run_pure]

theorem run_store1 {b o : Nat} {cs : List Value} {T : TypeId} {v : Value} (h : Blk w b cs T) (ho : o < cs.length) (hv : v.oneCell' = true) :
    (store ⟨b, o, none⟩ v).run P w = .ok () (w.setCell ⟨b, o, none⟩ v) := by
  rw [run_store P w _ v _ hv, h.cell, List.getElem?_eq_getElem ho]
  simp [h.free]

def setAll : List Value → Nat → List Value → List Value
  | cs, _, [] => cs
  | cs, o, v :: r => setAll (cs.set o v) (o + 1) r
theorem length_setAll : ∀ (vs cs : List Value) (o : Nat), (setAll cs o vs).length = cs.length
  | [], _, _ => rfl
  | v :: r, cs, o => by simp [setAll, length_setAll r]

theorem run_storeCellsK : ∀ (vs : List Value) (w : World) (b o i : Nat) (cs : List Value) (T : TypeId), Blk w b cs T → o + i + vs.length ≤ cs.length → (∀ v ∈ vs, v.oneCell' = true) →
    ∃ w', (storeCells ⟨b, o, none⟩ vs i).run P w = .ok () w' ∧ Blk w' b (setAll cs (o + i) vs) T ∧ Only [b] w w' ∧ w'.heap.size = w.heap.size
  | [], w, b, o, i, cs, T, h, _, _ => ⟨w, by simp [storeCells], h, Only.refl _ _, rfl⟩
  | v :: r, w, b, o, i, cs, T, h, hl, h1 => by
    have hs := run_store1 (P := P) (o := o + i) h (by simp at hl; omega) (h1 v (by simp))
    obtain ⟨w', hr, hb, ho, hz⟩ := run_storeCellsK r (w.setCell ⟨b, o + i, none⟩ v) b o (i + 1) (cs.set (o + i) v) T (h.setCell _ _) (by simp at hl ⊢; omega) (fun u hu => h1 u (by simp [hu]))
    refine ⟨w', ?_, hb, ?_, by simpa using hz⟩
    · simp only [storeCells, Sem.run_bind, addr_add, hs, Result.andThen_ok, hr]
    · exact ((Only.setCell w b (o + i) v).trans ho).sub (fun k hk _ => by simpa using hk)

theorem run_storeVarK {t : TypeId} {b o n : Nat} {cs : List Value} {T : TypeId} {v : Value} (hn : sizeB P t = some n) (hv : v.cells.size = n) (h : Blk w b cs T) (ho : o + n ≤ cs.length) (h1 : ∀ u ∈ v.cells.toList, u.oneCell' = true) :
    ∃ w', (storeVar t ⟨b, o, none⟩ v).run P w = .ok () w' ∧ Blk w' b (setAll cs o v.cells.toList) T ∧ Only [b] w w' ∧ w'.heap.size = w.heap.size := by
  obtain ⟨w', hr, hb, ho', hz⟩ := run_storeCellsK (P := P) v.cells.toList w b o 0 cs T h (by simp [hv]; omega) h1
  refine ⟨w', ?_, hb, ho', hz⟩
  simp only [storeVar, Sem.run_bind, run_sizeOf hn, Result.andThen_ok, hv, ne_eq, not_true, if_false, hr]
end
end Go.K

