/-
  Part 5 of the texts that lead to the theorem marketNested_card_holds: contracts of the functions that the law reaches.
-/
import Derived.Test.YtbnobbcpklcbgaaGreatDoorPartA3
import Derived.Maps.AppendAt
import Derived.Defers
set_option linter.all false
set_option autoImplicit true
set_option relaxedAutoImplicit true
namespace Go.K
section
variable {P : Program} {w w' : World} {v : Value} {e sz k : Nat} {xs : List Value}
/-! ### slices that own their array: opened and closed -/
theorem Own.open_ (h : Own w v e sz k xs) (hk : 0 < k) : ∃ g cap rest, v = .slice (some ⟨g, 0, none⟩) k cap ∧ Blk w g (xs ++ rest) e ∧ k ≤ cap ∧ cap ≤ maxLen ∧ (xs ++ rest).length = cap * sz ∧ xs.length = k * sz := by
  obtain ⟨hl, h⟩ := h
  rcases h with ⟨_, h0⟩ | ⟨g, cap, cur, rfl, _, hg, h1, h2, h3, h4⟩
  · omega
  · refine ⟨g, cap, cur.toList.drop (k * sz), rfl, ?_, h1, h2, ?_, hl⟩
    · unfold Blk; rw [hg, ← h4, List.take_append_drop]
    · rw [← h4, List.take_append_drop]; simpa using h3
theorem Own.close {g cap : Nat} {rest : List Value} (hb : Blk w g (xs ++ rest) e) (h1 : k ≤ cap) (h2 : cap ≤ maxLen) (h3 : (xs ++ rest).length = cap * sz) (h4 : xs.length = k * sz) :
    Own w (.slice (some ⟨g, 0, none⟩) k cap) e sz k xs :=
  ⟨h4, .inr ⟨g, cap, (xs ++ rest).toArray, rfl, Nat.zero_le _, hb, h1, h2, by simpa using h3, by rw [← h4]; simp⟩⟩
theorem Own.nil : Own w (.slice none 0 0) e sz 0 [] := ⟨by simp, .inl ⟨rfl, rfl⟩⟩
theorem Own.empty {g : Nat} (hb : Blk w g [] e) : Own w (.slice (some ⟨g, 0, none⟩) 0 0) e sz 0 [] := Own.close (rest := []) (by simpa using hb) (Nat.le_refl _) (by simp [maxLen]) (by simp) (by simp)
theorem Own.form (h : Own w v e sz k xs) : ∃ ao cap, v = .slice ao k cap := by
  obtain ⟨hl, h⟩ := h
  rcases h with ⟨rfl, rfl⟩ | ⟨g, cap, cur, rfl, _⟩
  · exact ⟨_, _, rfl⟩
  · exact ⟨_, _, rfl⟩
theorem Own.len (h : Own w v e sz k xs) : xs.length = k * sz := h.1
theorem Own.lt {b : Nat} (h : Own w v e sz k xs) (hb : v.ownBlock = some b) : b < w.heap.size := by
  rcases h.2 with ⟨rfl, _⟩ | ⟨g, cap, cur, rfl, _, hg, _⟩
  · cases hb
  · cases hb; exact (Array.getElem?_eq_some_iff.1 hg).1
theorem Own.blk {b : Nat} (h : Own w v e sz k xs) (hb : v.ownBlock = some b) : ∃ cs, Blk w b cs e := by
  rcases h.2 with ⟨rfl, _⟩ | ⟨g, cap, cur, rfl, _, hg, _⟩
  · cases hb
  · cases hb; exact ⟨cur.toList, by unfold Blk; simpa using hg⟩
theorem Own.ne {b T : Nat} {cs : List Value} (h : Own w v e sz k xs) (hb : Blk w b cs T) (hT : Nat.beq T e = false) : b ∉ v.ownBlock.toList := by
  intro hm
  cases hv : v.ownBlock with
  | none => rw [hv] at hm; simp at hm
  | some g =>
    rw [hv] at hm; simp at hm; subst hm
    obtain ⟨ds, hd⟩ := h.blk hv
    exact Blk.ne hb hd hT rfl
theorem Own.neM {α : Type} [DecidableEq α] {κ : α → Value} {m : Nat} {l : List (α × Value)} (h : Own w v e sz k xs) (hb : KMap κ w m l) : m ∉ v.ownBlock.toList := by
  intro hm
  cases hv : v.ownBlock with
  | none => rw [hv] at hm; simp at hm
  | some g =>
    rw [hv] at hm; simp at hm; subst hm
    obtain ⟨ds, hd⟩ := h.blk hv
    exact Blk.neK hd hb rfl
theorem Own.new {b : Nat} (h : Own w v e sz k xs) (hb : w.heap.size ≤ b) : b ∉ v.ownBlock.toList := by
  intro hm
  cases hv : v.ownBlock with
  | none => rw [hv] at hm; simp at hm
  | some g => rw [hv] at hm; simp at hm; subst hm; have := h.lt hv; omega
abbrev Dis (v : Value) (S : List Nat) : Prop := ∀ b ∈ v.ownBlock.toList, b ∉ S
theorem dis0 : Dis v [] := fun _ _ h => by simp at h
theorem disc {c : Nat} {S : List Nat} (h : c ∉ v.ownBlock.toList) (r : Dis v S) : Dis v (c :: S) := fun b hb hm => by
  rcases List.mem_cons.1 hm with rfl | hm
  · exact h hb
  · exact r b hb hm
theorem disa {S S' : List Nat} (h : Dis v S) (r : Dis v S') : Dis v (S ++ S') := fun b hb hm => by
  rcases List.mem_append.1 hm with hm | hm
  · exact h b hb hm
  · exact r b hb hm
theorem dis_symm {u : Value} (h : Dis v u.ownBlock.toList) : Dis u v.ownBlock.toList := fun b hb hm => h b hm hb
theorem Own.neO {u : Value} {e' sz' k' : Nat} {ys : List Value} (h : Own w v e sz k xs) (h' : Own w u e' sz' k' ys) (hT : Nat.beq e e' = false) : Dis v u.ownBlock.toList := fun b hb hm => by
  cases hv : v.ownBlock with
  | none => rw [hv] at hb; simp at hb
  | some g =>
    rw [hv] at hb; simp at hb; subst hb
    obtain ⟨ds, hd⟩ := h.blk hv
    exact h'.ne hd hT hm
theorem Own.keep' {S : List Nat} (h : Own w v e sz k xs) (u : Only S w w') (hn : Dis v S) : Own w' v e sz k xs := h.keep u fun b hb => hn b (by simp [hb])
theorem Own.keep0 (h : Own w v e sz k xs) (u : Only [] w w') : Own w' v e sz k xs := h.keep u fun _ _ => by simp
end
section
variable {P : Program} {ops : Array Oper} {Q : Exit → Act → World → Prop} {n : Nat} {D : List Deferred} {E : Env} {w : World} {l : List Oper}
variable {d : Nat} {ty : TypeId} {pos : String} {aft : Array Edge} {gg : Option (Nat × Bool)}
theorem WL.appT {s x : Operand} {t e sz by_ k g o m c : Nat} {z v : Value} {xs news cs : List Value} {T : Nat} (hg : gdB ops E gg = some true) (ht : P.underlying t = some (.slice e)) (hi : infoB P e = some (z, sz, by_))
    (hd : Nat.blt d n = true) (hzs : Nat.beq z.cells.size sz = true) (h0 : Nat.blt 0 sz = true)
    (hs : opv E s = some v) (hx : opv E x = some (.slice (some ⟨g, o, none⟩) m c)) (hown : Own w v e sz k xs) (hb : Blk w g cs T) (hnews : (cs.drop o).take (m * sz) = news) (hl : news.length = m * sz) (h1 : news.all Value.oneCell' = true)
    (h63 : (k + m) * by_ ≤ 140737488355328 ∧ k + m ≤ 140737488355328)
    (h : ∀ v' w', Own w' v' e sz (k + m) (xs ++ news) → Only v.ownBlock.toList w w' → (∀ b, v'.ownBlock = some b → v.ownBlock = some b ∨ w.heap.size ≤ b) → WL P ops Q l n D ((d, v') :: E) w') :
    WL P ops Q (⟨some d, .call ⟨.builtin .append, #[s, x], #[t, t]⟩, ty, pos, aft, gg⟩ :: l) n D E w := by
  obtain ⟨i, hi1, hi2, hi3, hi4⟩ := infoB_ok hi
  obtain ⟨v', w', hr, ho, hgr, _, hv⟩ := run_append_own_at (P := P) w 0 t ty e i z sz by_ ht hi1 hi2 hi3 hi4 (Nat.eq_of_beq_eq_true hzs) (by rw [← Nat.blt_eq]; exact h0) v k xs hown ⟨g, o, none⟩ m c news hl (fun j u hu => by
      rw [addr_add, hb.cell]
      rw [← hnews] at hu
      have hj : j < m * sz := by
        rcases Nat.lt_or_ge j (m * sz) with h' | h'
        · exact h'
        · rw [List.getElem?_eq_none (by simp; omega)] at hu; cases hu
      rw [List.getElem?_take_of_lt hj, List.getElem?_drop] at hu
      exact hu) (fun u hu => List.all_eq_true.1 h1 u hu) (by unfold maxLen; omega) h63.1 (Nat.zero_le _)
  refine WL.val (o := ⟨some d, .call ⟨.builtin .append, #[s, x], #[t, t]⟩, ty, pos, aft, gg⟩) (v := v') (w' := w') hg hd (fun a ha => ?_) (h v' w' ho (Only.grown hgr) ?_)
  · simp only [execOp, resolve, invoke, builtin, Sem.run_bind, Sem.run_pure, Result.andThen_ok, List.map_toArray, List.map_cons, List.map_nil, ha.ev hs, ha.ev hx, hr]
  · intro b hb
    rcases hv with h' | h' <;> rw [hb] at h'
    · exact .inl h'.symm
    · simp at h'; exact .inr (by omega)
theorem WL.inv {x : Operand} {nm : String} {args : Array Operand} {tys : Array TypeId} {f : FuncId} {t : TypeId} {rv rc : Value} {vs all : List Value} {R : Value → World → Prop} (hg : gdB ops E gg = some true) (hd : Nat.blt d n = true)
    (hx : opv E x = some (.iface t rv)) (hv : opvs E args.toList = some vs) (hm : ∀ w, (method (P.types.size + Made.depth) t rv nm).run P w = .ok (f, rc) w) (hent : enters P f = true) (hall : rc :: vs = all)
    (hc : Ret P f all.toArray w R) (h : ∀ v w', R v w' → WL P ops Q l n D ((d, v) :: E) w') : WL P ops Q (⟨some d, .call ⟨.invoke x nm, args, tys⟩, ty, pos, aft, gg⟩ :: l) n D E w :=
  WL.ent (f := f) (args := all.toArray) (w' := w) hg hd
    (fun a ha => by
      have e1 := ha.evs hv
      have e2 : Array.map a.eval args = vs.toArray := by apply Array.ext'; simpa using e1
      subst hall
      simp [execOp, resolve, ha.ev hx, e2, invoke, callMethod, hm, run_enters hent])
    hc (fun e w'' ⟨v, he, hR⟩ => ⟨v, he, h v w'' hR⟩)
theorem WL.ext {x : Operand} {args : Array Operand} {tys : Array TypeId} {f : FuncId} {caps vs all : List Value} {v : Value} (hg : gdB ops E gg = some true) (hd : Nat.blt d n = true)
    (hx : opv E x = some (.func (.func f) #[] caps.toArray)) (hv : opvs E args.toList = some vs) (hall : vs ++ caps = all) (hr : ∀ w, (callFunc f all.toArray).run P w = .ok (.value v) w)
    (h : WL P ops Q l n D ((d, v) :: E) w) : WL P ops Q (⟨some d, .call ⟨.value x, args, tys⟩, ty, pos, aft, gg⟩ :: l) n D E w :=
  WL.val hg hd (fun a ha => by
      have e1 := ha.evs hv
      have e2 : Array.map a.eval args = vs.toArray := by apply Array.ext'; simpa using e1
      subst hall
      simp [execOp, resolve, ha.ev hx, e2, Deferred.ofValue, invoke, hr]) h
theorem WL.defer_ {x : Operand} {tys : Array TypeId} {f : FuncId} {caps : List Value} (hg : gdB ops E gg = some true)
    (hx : opv E x = some (.func (.func f) #[] caps.toArray))
    (h : WL P ops Q l n ({ target := .fn (.func f) caps.toArray, args := #[] } :: D) E w) : WL P ops Q (⟨none, .defer ⟨.value x, #[], tys⟩, ty, pos, aft, gg⟩ :: l) n D E w :=
  WL.dfr hg rfl (fun a ha => by simp [execOp, resolve, ha.ev hx, Deferred.ofValue]) h
theorem WL.buildSlice0 {t e sz : Nat} (hg : gdB ops E gg = some true) (hd : Nat.blt d n = true) (ht : P.underlying t = some (.slice e)) (hs : sizeB P e = some sz)
    (h : ∀ w' b, Blk w' b [] e → Only [] w w' → w.heap.size ≤ b → WL P ops Q l n D ((d, .slice (some ⟨b, 0, none⟩) 0 0) :: E) w') : WL P ops Q (⟨some d, .buildSlice t 0 #[], ty, pos, aft, gg⟩ :: l) n D E w := by
  have hr : (Instr.buildSlice t 0 #[]).run P w = .ok (.slice (some ⟨w.heap.size, 0, none⟩) 0 0) (w.alloc (.cells #[] e)) := by
    simp [Instr.buildSlice, run_underlyingK ht, run_sizeOf hs, Instr.fill, newRow]
    have e0 : Array.map (fun _ : Nat => (default : Value)) (Array.range 0) = #[] := Array.eq_empty_of_size_eq_zero (by simp)
    rw [e0]
  exact WL.val (o := ⟨some d, .buildSlice t 0 #[], ty, pos, aft, gg⟩) (w' := w.alloc (.cells #[] e)) hg hd (fun a ha => by simp [execOp, hr]) (h _ _ (Blk.new w [] e) (Only.alloc w _) (Nat.le_refl _))
theorem WL.binC {op : BinOp} {t t2 : TypeId} {x y : Operand} {a b v : Value} (hg : gdB ops E gg = some true) (hd : Nat.blt d n = true) (hx : opv E x = some a) (hy : opv E y = some b)
    (hr : ∀ w, (do eqGuard op t x y a b; binOp op t a b : Sem Value).run P w = .ok v w) (h : WL P ops Q l n D ((d, v) :: E) w) : WL P ops Q (⟨some d, .binOp op t x y t2, ty, pos, aft, gg⟩ :: l) n D E w :=
  WL.val hg hd (fun a' ha => by
    have := hr w
    simp only [Sem.run_bind] at this
    simp only [execOp, ha.ev hx, ha.ev hy, Sem.run_bind, Sem.run_pure]
    generalize (eqGuard op t x y a b).run P w = r at this ⊢
    cases r with
    | ok u w' => simp only [Result.andThen_ok] at this ⊢; simp [this]
    | halt u w' => simp [Result.andThen] at this) h
end
section
variable {P : Program} {ops : Array Oper} {Qn : Act → World → Prop} {C : Cls} {f n : Nat} {listed L' : Array Bool} {D : List Deferred} {E : Env} {w w' : World}
variable {d : Nat} {ty : TypeId} {pos : String} {aft : Array Edge} {gg : Option (Nat × Bool)}
theorem MX.index {t e sz : Nat} {x y : Operand} {b o len cap : Nat} {j : Int} (i : Nat) (hB : mayFirst ops listed i = true) (hi' : ops.toList[i]? = some ⟨some d, .indexAddr t x y, ty, pos, aft, gg⟩) (hL : listed.setIfInBounds i true = L') (hg : gdB ops E gg = some true) (hd : Nat.blt d n = true) (ht : P.underlying t = some (.slice e)) (hs : sizeB P e = some sz)
    (hx : opv E x = some (.slice (some ⟨b, o, none⟩) len cap)) (hy : opv E y = some (.int .i64 j)) (h0 : 0 ≤ j) (h1 : j < len)
    (h : MX P ops Qn ((i, fun _ => True) :: C) f L' n D ((d, .pointer (some ⟨b, o + j.toNat * sz, none⟩)) :: E) w) : MX P ops Qn C (f + 1) listed n D E w := by
  subst hL
  exact MX.quiet (fun _ => True) i hB hi' hg hd trivial (fun w' _ a ha => by simp [execOp, ha.ev hx, ha.ev hy, run_indexSlice ht hs h0 h1]) h
theorem MX.lenMap {α : Type} [DecidableEq α] {t kt et m : Nat} {x : Operand} {L : List (α × Value)} (κ : α → Value) (i : Nat) (hB : mayFirst ops listed i = true) (hi' : ops.toList[i]? = some ⟨some d, .call ⟨.builtin .len, #[x], #[t]⟩, ty, pos, aft, gg⟩) (hL : listed.setIfInBounds i true = L') (hg : gdB ops E gg = some true) (hd : Nat.blt d n = true) (ht : P.underlying t = some (.map kt et))
    (hx : opv E x = some (.map (some m))) (hm : KMap κ w m L)
    (h : MX P ops Qn ((i, fun w => KMap κ w m L) :: C) f L' n D ((d, .int .i64 (L.length : Nat)) :: E) w) : MX P ops Qn C (f + 1) listed n D E w := by
  subst hL
  exact MX.quiet (fun w => KMap κ w m L) i hB hi' hg hd hm (fun w' hm' a ha => by simp [execOp, resolve, ha.ev hx, invoke, builtin, run_lenMap ht hm']) h
end
/-! ### bodies that put calls off -/
section
variable {P : Program} {n : Nat} {D : List Deferred} {E : Env} {w : World} {fn : Func} {a : Act}
theorem callD_of {f : FuncId} {fn : Func} {c : Code} {args : List Value} {u : FrameMode} {R : Value → World → Prop} (hf : P.funcs[f]? = some fn) (hb : fn.body = some c) (hn : fn.ntmps = n) (hle : Nat.ble args.length n = true)
    (h : CW P c (bodyPost P fn fun e w' => ∃ v, e = .returned v ∧ R v w') n [] (argsFrom 0 args) w) : CallsD P f args.toArray u w fun e u' w' => u' = u ∧ ∃ v, e = .returned v ∧ R v w' := by
  refine callsD_of_wp hf hb (h _ ⟨?_, rfl, ?_⟩)
  · simp only [Array.size_append, Array.size_replicate, List.size_toArray]; have := Nat.le_of_ble_eq_true hle; omega
  · intro t v hv; rw [hn]; exact args_ok args n t v hv
theorem fin1 {g : FuncId} {caps : List Value} {C R : Value → World → Prop} (ha : Fits n [{ target := .fn (.func g) caps.toArray, args := #[] }] E a) (hent : enters P g = true)
    (hc : CallsD P g caps.toArray .returning w fun e u' w' => u' = .returning ∧ ∃ v, e = .returned v ∧ R v w') (hr : ∀ v w', R v w' → ∃ v, (results fn a.tmps).run P w' = .ok v w' ∧ C v w') :
    bodyPostD P fn (fun e w' => ∃ v, e = .returned v ∧ C v w') .ret a w := by
  show Leaves P fn a.tmps _ a.defers .returning w
  rw [ha.defers]
  refine leaves_cons (by simp) (by simp [invoke, run_enters hent]) (CallsD.mono hc ?_)
  rintro e u' w' ⟨rfl, v, rfl, hR⟩
  obtain ⟨v', h1, h2⟩ := hr v w' hR
  exact ⟨v', h1, v', rfl, h2⟩
end
end Go.K

namespace Go.K
theorem i64_in (x : Int) (h : -9223372036854775808 ≤ x ∧ x ≤ 9223372036854775807) : IntKind.i64.wrap x = x := by
  have e : IntKind.i64.wrap x = if x % 18446744073709551616 ≥ 9223372036854775808 then x % 18446744073709551616 - 18446744073709551616 else x % 18446744073709551616 := by
    simp [IntKind.wrap, IntKind.bits, IntKind.signed]
  rw [e]
  split <;> omega
theorem Blk.inj {w : World} {b T U : Nat} {cs ds : List Value} (h : Blk w b cs T) (k : Blk w b ds U) : cs = ds := by
  have := h.symm.trans k
  simp only [Option.some.injEq, Obj.cells.injEq] at this
  exact List.toArray_inj this.1
theorem Own.open2 {w : World} {ao : Option Addr} {cp e sz k : Nat} {xs : List Value} (h : Own w (.slice ao k cp) e sz k xs) (hk : 0 < k) :
    ∃ g rest, ao = some ⟨g, 0, none⟩ ∧ Blk w g (xs ++ rest) e ∧ k ≤ cp ∧ cp ≤ maxLen ∧ (xs ++ rest).length = cp * sz ∧ xs.length = k * sz := by
  obtain ⟨g, cap, rest, he, h1, h2, h3, h4, h5⟩ := h.open_ hk
  cases he
  exact ⟨g, rest, rfl, h1, h2, h3, h4, h5⟩
theorem Own.lt' {w : World} {v : Value} {e sz k b : Nat} {xs : List Value} (h : Own w v e sz k xs) (hb : b ∈ v.ownBlock.toList) : b < w.heap.size := h.lt (by simpa using hb)
theorem setAll_append : ∀ (vs xs rest : List Value) (o : Nat), o + vs.length ≤ xs.length → setAll (xs ++ rest) o vs = setAll xs o vs ++ rest
  | [], xs, rest, o, _ => by simp [setAll]
  | v :: vs, xs, rest, o, h => by
    simp only [setAll, List.length_cons] at h ⊢
    rw [List.set_append_left _ _ (by omega), setAll_append vs (xs.set o v) rest (o + 1) (by simp; omega)]
theorem Own.write {w : World} {e sz k g cap o : Nat} {xs rest vs : List Value} (hb : Blk w g (setAll (xs ++ rest) o vs) e) (h1 : k ≤ cap) (h2 : cap ≤ maxLen) (h3 : (xs ++ rest).length = cap * sz) (h4 : xs.length = k * sz)
    (ho : o + vs.length ≤ xs.length) : Own w (.slice (some ⟨g, 0, none⟩) k cap) e sz k (setAll xs o vs) := by
  rw [setAll_append _ _ _ _ ho] at hb
  exact Own.close hb h1 h2 (by simpa [length_setAll] using h3) (by rw [length_setAll]; exact h4)
theorem Own.write1 {w : World} {e sz k g cap o : Nat} {xs rest : List Value} {v : Value} (hb : Blk w g ((xs ++ rest).set o v) e) (h1 : k ≤ cap) (h2 : cap ≤ maxLen) (h3 : (xs ++ rest).length = cap * sz) (h4 : xs.length = k * sz)
    (ho : o < xs.length) : Own w (.slice (some ⟨g, 0, none⟩) k cap) e sz k (xs.set o v) := by
  rw [List.set_append_left _ _ ho] at hb
  exact Own.close hb h1 h2 (by simpa using h3) (by simpa using h4)
theorem Own.shrink {w : World} {e sz k g cap j : Nat} {xs rest : List Value} (hb : Blk w g (xs ++ rest) e) (h1 : k ≤ cap) (h2 : cap ≤ maxLen) (h3 : (xs ++ rest).length = cap * sz) (h4 : xs.length = k * sz)
    (hj : j ≤ k) : Own w (.slice (some ⟨g, 0, none⟩) j cap) e sz j (xs.take (j * sz)) := by
  have hle : j * sz ≤ k * sz := Nat.mul_le_mul_right _ hj
  refine Own.close (rest := xs.drop (j * sz) ++ rest) (by rw [← List.append_assoc, List.take_append_drop]; exact hb) (by omega) h2 (by rw [← List.append_assoc, List.take_append_drop]; exact h3) (by rw [List.length_take]; omega)

def nums (l : List Int) : List Value := l.map (Value.int .i64)
theorem nums_len (l : List Int) : (nums l).length = l.length := by simp [nums]
theorem nums_get {l : List Int} {j : Nat} {x : Int} (rest : List Value) (h : l[j]? = some x) : (nums l ++ rest)[j]? = some (.int .i64 x) := by
  have : j < l.length := (List.getElem?_eq_some_iff.1 h).1
  rw [List.getElem?_append_left (by simpa [nums] using this)]
  simp [nums, h]
theorem nums_set (l : List Int) (j : Nat) (x : Int) : (nums l).set j (.int .i64 x) = nums (l.set j x) := by simp [nums, List.map_set]
theorem nums_append (l m : List Int) : nums (l ++ m) = nums l ++ nums m := by simp [nums]
end Go.K

namespace Go.K
section
variable {P : Program} {α : Type} [DecidableEq α] {κ : α → Value} {kd : TypeDesc} {w : World}
def At (κ : α → Value) (w : World) (it m : Nat) (a : α) (v : Value) : Prop :=
  ∃ es clock since seen e, Mp w m es clock ∧ w.heap[it]? = some (.mapIter (some m) since seen clock) ∧ seen.back? = some e.born ∧ es.find? (fun x => x.born == e.born) = some e ∧ e.key = κ a ∧ e.val = v
theorem At.keep {S : List Nat} {w' : World} {it m : Nat} {a : α} {v : Value} (h : At κ w it m a v) (u : Only S w w') (hi : it ∉ S) (hm : m ∉ S) : At κ w' it m a v := by
  obtain ⟨es, c, s, seen, e, h1, h2, h3⟩ := h
  exact ⟨es, c, s, seen, e, h1.keep u hm, (u.keep it (Array.getElem?_eq_some_iff.1 h2).1 hi).trans h2, h3⟩
theorem find_nodup : ∀ {l : List MapEntry} {e : MapEntry}, (l.map (·.born)).Nodup → e ∈ l → l.find? (fun x => x.born == e.born) = some e
  | x :: r, e, hn, h => by
    simp only [List.map_cons, List.nodup_cons] at hn
    rcases List.mem_cons.1 h with rfl | h
    · simp
    · have : x.born ≠ e.born := fun he => hn.1 (by rw [he]; exact List.mem_map_of_mem h)
      rw [List.find?_cons_of_neg (by simpa using this)]
      exact find_nodup hn.2 h
theorem run_next2 {it m : Nat} {b : Nat} {todo : List (α × Value)} (h : Iter κ w it m todo) :
    (todo = [] ∧ (Instr.next (.pointer (some ⟨it, 0, none⟩)) false b).run P w = .ok (.tuple #[.bool false]) w) ∨
    (∃ j a v w', todo[j]? = some (a, v) ∧ (Instr.next (.pointer (some ⟨it, 0, none⟩)) false b).run P w = .ok (.tuple #[.bool true, κ a, v]) w' ∧
      Iter κ w' it m (todo.eraseIdx j) ∧ At κ w' it m a v ∧ Only [it] w w' ∧ w'.heap.size = w.heap.size) := by
  have hlt := h.lt
  obtain ⟨es, c, seen, h1, h2, h3, h4, h5⟩ := h
  have hcond : (!seen.isEmpty && !es.toArray.isEmpty && es.toArray.all (fun e => decide (e.born ≥ c)) 0 es.length) = false := by
    cases es with
    | nil => simp
    | cons e r => have := h2 e (by simp); simp; intro _ hc; omega
  have hg : (getObj it).run P w = .ok (.mapIter (some m) c seen c) w := by simp [getObj, Sem.run, h4]
  generalize hL : es.filter (fun e => !seen.contains e.born) = left at h5
  have hleft : Array.filter (fun e => !seen.contains e.born) es.toArray 0 es.length = left.toArray := by simpa using hL
  have hin : ∀ e ∈ left, e ∈ es ∧ seen.contains e.born = false := by
    intro e he
    rw [← hL] at he
    simpa using he
  have hold : left.filter (fun e => decide (e.born < c)) = left := by
    rw [List.filter_eq_self]
    intro e he
    have := h2 e (hin e he).1
    simpa using this
  have hnew : left.filter (fun e => decide (e.born ≥ c)) = [] := by
    rw [List.filter_eq_nil_iff]
    intro e he
    have := h2 e (hin e he).1
    simp; omega
  have hlen : left.length = todo.length := by have := congrArg List.length h5; simpa using this
  by_cases he : todo = []
  · left
    refine ⟨he, ?_⟩
    subst he
    have hnil : left = [] := List.eq_nil_of_length_eq_zero (by simpa using hlen)
    subst hnil
    simp only [Instr.next, Sem.run_bind, hg, Result.andThen_ok, run_getMap h1, hcond, List.size_toArray, hleft]
    simp [Question.forced]
  · right
    have hne : left ≠ [] := by
      intro e; rw [e] at hlen; exact he (List.eq_nil_of_length_eq_zero (by simpa using hlen.symm))
    have hpos : 0 < left.length := List.length_pos_iff.2 hne
    -- the number that is drawn
    obtain ⟨j, wd, hj, hd, hheap, hos⟩ : ∃ j wd, j < left.length ∧ (choose (.mapNext left.length)).run P w = .ok j wd ∧ wd.heap = w.heap ∧ Only [] w wd := by
      rw [run_choose]
      by_cases hf : (Question.mapNext left.length).forced = true
      · rw [if_pos hf]; exact ⟨0, w, hpos, rfl, rfl, Only.refl _ _⟩
      · rw [if_neg hf]; exact ⟨_, _, Nat.mod_lt _ hpos, rfl, rfl, Only.drew w⟩
    obtain ⟨ej, hej⟩ : ∃ ej, left[j]? = some ej := ⟨_, List.getElem?_eq_getElem hj⟩
    have htj : ∃ a v, todo[j]? = some (a, v) ∧ ej.key = κ a ∧ ej.val = v := by
      have e1 : (left.map (fun e => (e.key, e.val)))[j]? = (todo.map (fun p => (κ p.1, p.2)))[j]? := by rw [h5]
      rw [List.getElem?_map, List.getElem?_map, hej] at e1
      cases ht : todo[j]? with
      | none => rw [ht] at e1; simp at e1
      | some p => rw [ht] at e1; simp at e1; exact ⟨p.1, p.2, rfl, e1.1, e1.2⟩
    obtain ⟨a, v, ht, hka, hva⟩ := htj
    have hlt' : it < wd.heap.size := by rw [hheap]; exact hlt
    refine ⟨j, a, v, { wd with heap := wd.heap.setIfInBounds it (.mapIter (some m) c (seen.push ej.born) c) }, ht, ?_, ?_, ?_, ?_, by simp [hheap]⟩
    · simp only [Instr.next, Sem.run_bind, hg, Result.andThen_ok, run_getMap h1, hcond, List.size_toArray, hleft]
      have hcand : ((if (Array.filter (fun x => decide (x.born < c)) left.toArray 0 left.length).isEmpty = true then #[none] else #[]) ++ Array.map some (Array.filter (fun x => decide (x.born < c)) left.toArray 0 left.length ++ Array.filter (fun x => decide (x.born ≥ c)) left.toArray 0 left.length)) = (left.map some).toArray := by
        have e1 : Array.filter (fun x => decide (x.born < c)) left.toArray 0 left.length = left.toArray := by
          have : (Array.filter (fun x => decide (x.born < c)) left.toArray 0 left.length) = (left.filter (fun x => decide (x.born < c))).toArray := by simp
          rw [this, hold]
        have e2 : Array.filter (fun x => decide (x.born ≥ c)) left.toArray 0 left.length = #[] := by
          have : (Array.filter (fun x => decide (x.born ≥ c)) left.toArray 0 left.length) = (left.filter (fun x => decide (x.born ≥ c))).toArray := by simp
          rw [this, hnew]
        rw [e1, e2]
        simp [hne]
      simp only [hcand, Bool.false_eq_true, if_false, List.size_toArray, List.length_map, hcond, Sem.run_bind, hd, Result.andThen_ok]
      have hget : (left.map some).toArray[j]? = some (some ej) := by simp [hej]
      simp only [hget]
      have hwd : wd.heap[it]? = some (.mapIter (some m) c seen c) := by rw [hheap]; exact h4
      simp [setObj, Sem.run, hwd, hka, hva]
    · have hne' : it ≠ m := by
        intro e; subst e
        unfold Mp at h1; rw [h4] at h1; simp at h1
      refine ⟨es, c, seen.push ej.born, ?_, h2, h3, by simp [hlt'], ?_⟩
      · unfold Mp
        simp only
        rw [Array.getElem?_setIfInBounds_ne hne', hheap]
        exact h1
      · have hfil : es.filter (fun e => !(seen.push ej.born).contains e.born) = left.eraseIdx j := by
          have e1 : es.filter (fun e => !(seen.push ej.born).contains e.born) = left.filter (fun e => decide (e.born ≠ ej.born)) := by
            rw [← hL, List.filter_filter]
            apply List.filter_congr
            intro e _
            by_cases e2 : e.born = ej.born
            · simp [e2]
            · simp [e2]
          rw [e1]
          have hnl : (left.map (·.born)).Nodup := by
            rw [← hL]
            exact h3.sublist (List.Sublist.map _ List.filter_sublist)
          exact erase_born hnl hej
        rw [hfil]
        unfold ents at h5 ⊢
        rw [map_erase, map_erase, h5]
    · have hne' : it ≠ m := by
        intro e; subst e
        unfold Mp at h1; rw [h4] at h1; simp at h1
      refine ⟨es, c, c, seen.push ej.born, ej, ?_, by simp [hlt'], by simp, find_nodup h3 (hin ej (List.mem_of_getElem? hej)).1, hka, hva⟩
      unfold Mp
      simp only
      rw [Array.getElem?_setIfInBounds_ne hne', hheap]
      exact h1
    · exact ⟨hos.os, hos.tape, hos.output, by simp [hheap], fun k hk hn => by
        have : k ≠ it := by simpa using hn
        simp only
        rw [Array.getElem?_setIfInBounds_ne (Ne.symm this), hheap]⟩

variable {ops : Array Oper} {Q : Exit → Act → World → Prop} {n : Nat} {D : List Deferred} {E : Env} {l : List Oper} {d : Nat} {ty : TypeId} {pos : String} {aft : Array Edge} {gg : Option (Nat × Bool)}
theorem WL.next2 {it m : Nat} {x : Operand} {todo : List (α × Value)} (hg : gdB ops E gg = some true) (hd : Nat.blt d n = true)
    (hx : opv E x = some (.pointer (some ⟨it, 0, none⟩))) (hi : Iter κ w it m todo)
    (h0 : todo = [] → WL P ops Q l n D ((d, .tuple #[.bool false]) :: E) w)
    (h1 : ∀ j a v w', todo[j]? = some (a, v) → Iter κ w' it m (todo.eraseIdx j) → At κ w' it m a v → Only [it] w w' → w'.heap.size = w.heap.size → WL P ops Q l n D ((d, .tuple #[.bool true, κ a, v]) :: E) w') :
    WL P ops Q (⟨some d, .next x false, ty, pos, aft, gg⟩ :: l) n D E w := by
  rcases run_next2 (P := P) (b := ty) hi with ⟨e, hr⟩ | ⟨j, a, v, w', hj, hr, h2, h2', h3, h4⟩
  · exact WL.val hg hd (fun a' ha => by simp [execOp, ha.ev hx, hr]) (h0 e)
  · exact WL.val (w' := w') hg hd (fun a' ha => by simp [execOp, ha.ev hx, hr]) (h1 j a v w' hj h2 h2' h3 h4)
theorem WL.entry {it m : Nat} {x : Operand} {a : α} {v : Value} (hg : gdB ops E gg = some true) (hd : Nat.blt d n = true)
    (hx : opv E x = some (.pointer (some ⟨it, 0, none⟩))) (hi : At κ w it m a v)
    (h : WL P ops Q l n D ((d, .tuple #[κ a, v]) :: E) w) : WL P ops Q (⟨some d, .entry x, ty, pos, aft, gg⟩ :: l) n D E w := by
  obtain ⟨es, c, s, seen, e, h1, h2, h3, h4, h5, h6⟩ := hi
  refine WL.val (v := .tuple #[κ a, v]) hg hd (fun a' ha => ?_) h
  have hg' : (getObj it).run P w = .ok (.mapIter (some m) s seen c) w := by simp [getObj, Sem.run, h2]
  have hm : (Instr.entry (.pointer (some ⟨it, 0, none⟩))).run P w = .ok (.tuple #[κ a, v]) w := by
    simp [Instr.entry, hg', h3, run_getMap h1, h4, h5, h6]
  simp [execOp, ha.ev hx, hm]
end
section
variable {P : Program} {ops : Array Oper} {Qn : Act → World → Prop} {C : Cls} {f n : Nat} {listed L' : Array Bool} {D : List Deferred} {E : Env} {w w' : World}
variable {d : Nat} {ty : TypeId} {pos : String} {aft : Array Edge} {gg : Option (Nat × Bool)}
theorem MX.build {t : TypeId} {parts : Array (Nat × Operand)} {vs : List (Nat × Value)} {v : Value} (i : Nat) (hB : mayFirst ops listed i = true) (hi' : ops.toList[i]? = some ⟨some d, .build t parts, ty, pos, aft, gg⟩) (hL : listed.setIfInBounds i true = L') (hg : gdB ops E gg = some true) (hd : Nat.blt d n = true)
    (hp : partsOf E parts.toList = some vs) (hc : buildB P t vs = some v)
    (h : MX P ops Qn ((i, fun _ => True) :: C) f L' n D ((d, v) :: E) w) : MX P ops Qn C (f + 1) listed n D E w := by
  subst hL
  exact MX.quiet (fun _ => True) i hB hi' hg hd trivial (fun w' _ a ha => by
      have e1 := ha.parts hp
      have e2 : parts.map (fun p => (p.1, a.eval p.2)) = vs.toArray := by apply Array.ext'; simpa using e1
      simp [execOp, e2, run_build hc]) h
end
end Go.K

namespace Go.K
section
variable {P : Program} {ops : Array Oper} {Q : Exit → Act → World → Prop} {n : Nat} {D : List Deferred} {E : Env} {w : World} {l : List Oper}
variable {d : Nat} {ty : TypeId} {pos : String} {aft : Array Edge} {gg : Option (Nat × Bool)}
theorem run_sliceLo0 {t e : TypeId} {ao : Option Addr} {len cap : Nat} {sz : Nat} (ht : P.underlying t = some (.slice e)) (hs : sizeB P e = some sz) (hl : len ≤ cap) (w : World) :
    (Instr.sliceAt t (.slice ao len cap) (some (.int .i64 0)) none none).run P w = .ok (.slice ao len cap) w := by
  have e1 : (if cap = 0 then ao else ao.map (·.add (0 * sz))) = ao := by
    split
    · rfl
    · cases ao <;> simp [Addr.add]
  have h2 : ((len : Nat) : Int) ≤ cap := by omega
  have := e1
  simp [Instr.sliceAt, Instr.slice, run_underlyingK ht, Instr.sliceBounds, Instr.sliceBound, asIntOf, run_sizeOf hs, h2]
  simpa using this
theorem WL.sliceLo0 {t e : TypeId} {x y : Operand} {ao : Option Addr} {len cap sz : Nat} (hg : gdB ops E gg = some true) (hd : Nat.blt d n = true) (ht : P.underlying t = some (.slice e)) (hs : sizeB P e = some sz)
    (hx : opv E x = some (.slice ao len cap)) (hy : opv E y = some (.int .i64 0)) (hl : len ≤ cap)
    (h : WL P ops Q l n D ((d, .slice ao len cap) :: E) w) : WL P ops Q (⟨some d, .slice t x (some y) none none, ty, pos, aft, gg⟩ :: l) n D E w :=
  WL.val hg hd (fun a ha => by simp [execOp, ha.ev hx, ha.ev hy, run_sliceLo0 ht hs hl]) h
theorem WL.cvt {src dst : TypeId} {x : Operand} {xv v : Value} (hg : gdB ops E gg = some true) (hd : Nat.blt d n = true) (hx : opv E x = some xv) (hr : ∀ w, (convert src dst xv).run P w = .ok v w)
    (h : WL P ops Q l n D ((d, v) :: E) w) : WL P ops Q (⟨some d, .convert src dst x, ty, pos, aft, gg⟩ :: l) n D E w :=
  WL.val hg hd (fun a ha => by simp [execOp, ha.ev hx, hr]) h
theorem WL.idxC {t : TypeId} {x y : Operand} {xv yv v : Value} (hg : gdB ops E gg = some true) (hd : Nat.blt d n = true) (hx : opv E x = some xv) (hy : opv E y = some yv) (hr : ∀ w, (Instr.index t xv yv).run P w = .ok v w)
    (h : WL P ops Q l n D ((d, v) :: E) w) : WL P ops Q (⟨some d, .index t x y, ty, pos, aft, gg⟩ :: l) n D E w :=
  WL.val hg hd (fun a ha => by simp [execOp, ha.ev hx, ha.ev hy, hr]) h
theorem Own.cap {e sz k cp : Nat} {ao : Option Addr} {xs : List Value} (h : Own w (.slice ao k cp) e sz k xs) : k ≤ cp := by
  rcases h.2 with ⟨h, rfl⟩ | ⟨g, cap, cur, h, _, _, h1, _⟩
  · omega
  · cases h; exact h1
theorem Own.zero {e sz k cp : Nat} {ao : Option Addr} {xs : List Value} (h : Own w (.slice ao k cp) e sz k xs) : Own w (.slice ao 0 cp) e sz 0 [] := by
  rcases Nat.eq_zero_or_pos k with rfl | hk
  · have : xs = [] := List.eq_nil_of_length_eq_zero (by simpa using h.1)
    subst this; exact h
  · obtain ⟨g, rest, rfl, hb, h1, h2, h3, h4⟩ := h.open2 hk
    have := Own.shrink hb h1 h2 h3 h4 (Nat.zero_le k)
    simpa using this
theorem WL.clearO {t e k cp : Nat} {x : Operand} {ao : Option Addr} {z : Value} {xs : List Value} (hg : gdB ops E gg = some true) (ht : P.underlying t = some (.slice e)) (hz : zeroB P e = some z) (hz1 : z.oneCell' = true)
    (hx : opv E x = some (.slice ao k cp)) (hown : Own w (.slice ao k cp) e 1 k xs)
    (h : ∀ w' ys, Own w' (.slice ao k cp) e 1 k ys → Only (Value.slice ao k cp).ownBlock.toList w w' → w'.heap.size = w.heap.size → WL P ops Q l n D E w') : WL P ops Q (⟨none, .call ⟨.builtin .clear, #[x], #[t]⟩, ty, pos, aft, gg⟩ :: l) n D E w := by
  have key : ∃ w' ys, (Builtin.clear_ #[t] ty #[.slice ao k cp]).run P w = .ok (.tuple #[]) w' ∧ Own w' (.slice ao k cp) e 1 k ys ∧ Only (Value.slice ao k cp).ownBlock.toList w w' ∧ w'.heap.size = w.heap.size := by
    rcases Nat.eq_zero_or_pos k with rfl | hk
    · refine ⟨w, xs, ?_, hown, Only.refl _ _, rfl⟩
      cases ao <;> simp [Builtin.clear_, run_underlyingK ht]
    · obtain ⟨g, rest, rfl, hb, h1, h2, h3, h4⟩ := hown.open2 hk
      have hlen : (Builtin.zeroCells z.cells k).toList.length = k := by
        rw [cells_oneCell hz1]; simp [Builtin.zeroCells]
      obtain ⟨w', hs, hb', ho, hzz⟩ := run_storeCellsK (P := P) (Builtin.zeroCells z.cells k).toList w g 0 0 (xs ++ rest) e hb (by rw [hlen, List.length_append]; omega) (by
        intro v hv
        rw [cells_oneCell hz1] at hv
        simp [Builtin.zeroCells] at hv
        obtain ⟨i, hi, rfl⟩ := hv
        first | exact hz1 | simpa [Nat.mod_one] using hz1)
      refine ⟨w', setAll xs 0 (Builtin.zeroCells z.cells k).toList, ?_, Own.write hb' h1 h2 h3 h4 (by rw [hlen]; omega), by simpa [Value.ownBlock] using ho, hzz⟩
      obtain ⟨k', rfl⟩ : ∃ i, k = i + 1 := ⟨k - 1, by omega⟩
      simp [Builtin.clear_, run_underlyingK ht, run_zeroValue hz]
      have hs' : (storeCells ⟨g, 0, none⟩ (Builtin.zeroCells z.cells (k' + 1)).toList).run P w = .ok () w' := hs
      simp [hs']
  obtain ⟨w', ys, hr, h1, h2, h3⟩ := key
  exact WL.val (o := ⟨none, .call ⟨.builtin .clear, #[x], #[t]⟩, ty, pos, aft, gg⟩) (v := .tuple #[]) (w' := w') hg rfl (fun a' ha => by simp [execOp, resolve, invoke, builtin, ha.ev hx, hr]) (h w' ys h1 h2 h3)
end
end Go.K

/-! What MarketNested's rows are: plain laws. -/
namespace Go.K
def idxOf (n : Nat) : List (Int × Value) := (List.range n).map fun i => (((i : Nat) : Int) + 1, Value.int .i64 ((i : Nat) : Int))
theorem idxOf_succ (n : Nat) : idxOf (n + 1) = idxOf n ++ [(((n : Nat) : Int) + 1, .int .i64 ((n : Nat) : Int))] := by simp [idxOf, List.range_succ]
theorem idxOf_len (n : Nat) : (idxOf n).length = n := by simp [idxOf]
theorem idxOf_mem {n : Nat} {p : Int × Value} (h : p ∈ idxOf n) : ∃ i, i < n ∧ p = (((i : Nat) : Int) + 1, .int .i64 ((i : Nat) : Int)) := by
  unfold idxOf at h
  simp only [List.mem_map, List.mem_range] at h
  obtain ⟨i, hi, e⟩ := h
  exact ⟨i, hi, e.symm⟩
theorem idxOf_nodup (n : Nat) : ((idxOf n).map (·.1)).Nodup := by
  unfold idxOf
  rw [List.map_map]
  refine List.Pairwise.map _ ?_ (List.nodup_range (n := n))
  intro a b hab h
  simp only [Function.comp] at h
  omega
theorem look_idxOf_none (n : Nat) (x : Int) (h : ((n : Nat) : Int) < x) : look (idxOf n) x = none := by
  refine look_none.2 ?_
  intro hm
  obtain ⟨p, hp, e⟩ := List.mem_map.1 hm
  obtain ⟨i, hi, rfl⟩ := idxOf_mem hp
  simp only at e
  omega
theorem look_idxOf {n a : Nat} (h : a < n) : look (idxOf n) (((a : Nat) : Int) + 1) = some (.int .i64 ((a : Nat) : Int)) := by
  refine look_of_mem (idxOf_nodup n) ?_
  unfold idxOf
  exact List.mem_map.2 ⟨a, List.mem_range.2 h, rfl⟩
theorem delv_idxOf (n : Nat) : delv (idxOf (n + 1)) (((n : Nat) : Int) + 1) = idxOf n := by
  rw [idxOf_succ]
  unfold delv
  rw [List.filter_append]
  have h1 : (idxOf n).filter (fun p => decide (p.1 ≠ ((n : Nat) : Int) + 1)) = idxOf n := by
    rw [List.filter_eq_self]
    intro p hp
    obtain ⟨i, hi, rfl⟩ := idxOf_mem hp
    simp only [decide_eq_true_eq]
    omega
  rw [h1]
  simp

def NoT (w : World) (Ts : List Nat) (S : List Nat) : Prop := ∀ b ∈ S, ∀ cs T, Blk w b cs T → T ∉ Ts
variable {w : World} {Ts S S' : List Nat}
theorem no0 : NoT w Ts [] := fun _ h => by cases h
theorem noc {c : Nat} (h : NoT w Ts [c]) (r : NoT w Ts S) : NoT w Ts (c :: S) := fun b hb => by
  rcases List.mem_cons.1 hb with rfl | hb
  · exact h _ (by simp)
  · exact r b hb
theorem noa (h : NoT w Ts S) (r : NoT w Ts S') : NoT w Ts (S ++ S') := fun b hb => by
  rcases List.mem_append.1 hb with hb | hb
  · exact h b hb
  · exact r b hb
theorem Blk.injT {b T U : Nat} {cs ds : List Value} (h : Blk w b cs T) (k : Blk w b ds U) : T = U := by
  unfold Blk at h k; rw [h] at k; simp at k; exact k.2
theorem noB {c T : Nat} {cs : List Value} (h : Blk w c cs T) (hT : T ∉ Ts) : NoT w Ts [c] := fun b hb ds U k => by
  have : b = c := by simpa using hb
  subst this
  rw [← h.injT k]; exact hT
theorem noK {α : Type} [DecidableEq α] {κ : α → Value} {c : Nat} {l : List (α × Value)} (h : KMap κ w c l) : NoT w Ts [c] := fun b hb ds U k => by
  have : b = c := by simpa using hb
  subst this
  exact absurd rfl (Blk.neK k h)
theorem noO {v : Value} {e sz k : Nat} {xs : List Value} (h : Own w v e sz k xs) (hT : e ∉ Ts) : NoT w Ts v.ownBlock.toList := fun b hb ds U kb => by
  by_cases hq : Nat.beq U e = false
  · exact absurd hb (h.ne kb hq)
  · have : U = e := by
      cases hh : Nat.beq U e with
      | true => exact Nat.eq_of_beq_eq_true hh
      | false => exact absurd hh hq
    rw [this]; exact hT

def StepOk (w : World) (S p : Nat) (fns : List Value) (j : Nat) : Prop :=
  ∃ br bi bp brw, fns[2 * j]? = some (.func (.func 79) #[] #[.pointer (some ⟨br, 0, none⟩), .pointer (some ⟨bi, 0, none⟩)]) ∧
    fns[2 * j + 1]? = some (.func (.func 43) #[] #[.pointer (some ⟨bp, 0, none⟩), .pointer (some ⟨brw, 0, none⟩)]) ∧
    Blk w br [.pointer (some ⟨S, 0, none⟩)] 63 ∧ Blk w bi [.int .i64 (((j : Nat) : Int) + 1)] 2 ∧ Blk w bp [.pointer (some ⟨p, 0, none⟩)] 77 ∧ Blk w brw [.int .i64 (((j : Nat) : Int) + 1)] 2
def LogOk (w : World) (S p n : Nat) (fns : List Value) : Prop := fns.length = 2 * n ∧ ∀ j, j < n → StepOk w S p fns j
theorem LogOk.keep {w' : World} {X : List Nat} {S p n : Nat} {fns : List Value} (h : LogOk w S p n fns) (u : Only X w w') (hX : NoT w [63, 2, 77] X) : LogOk w' S p n fns := by
  refine ⟨h.1, fun j hj => ?_⟩
  obtain ⟨br, bi, bp, brw, h1, h2, h3, h4, h5, h6⟩ := h.2 j hj
  exact ⟨br, bi, bp, brw, h1, h2, h3.keep u (fun hm => hX _ hm _ _ h3 (by simp)), h4.keep u (fun hm => hX _ hm _ _ h4 (by simp)), h5.keep u (fun hm => hX _ hm _ _ h5 (by simp)), h6.keep u (fun hm => hX _ hm _ _ h6 (by simp))⟩
theorem LogOk.nil {S p : Nat} : LogOk w S p 0 [] := ⟨rfl, fun _ h => by omega⟩
theorem LogOk.snoc {S p n br bi bp brw : Nat} {fns : List Value} {x : Int} (h : LogOk w S p n fns) (hx : x = ((n : Nat) : Int) + 1)
    (h1 : Blk w br [.pointer (some ⟨S, 0, none⟩)] 63) (h2 : Blk w bi [.int .i64 x] 2) (h3 : Blk w bp [.pointer (some ⟨p, 0, none⟩)] 77) (h4 : Blk w brw [.int .i64 x] 2) :
    LogOk w S p (n + 1) (fns ++ ([.func (.func 79) #[] #[.pointer (some ⟨br, 0, none⟩), .pointer (some ⟨bi, 0, none⟩)]] ++ [.func (.func 43) #[] #[.pointer (some ⟨bp, 0, none⟩), .pointer (some ⟨brw, 0, none⟩)]])) := by
  subst hx
  refine ⟨by simp [h.1]; omega, fun j hj => ?_⟩
  by_cases hjn : j < n
  · obtain ⟨b1, b2, b3, b4, q1, q2, q⟩ := h.2 j hjn
    have hl := h.1
    exact ⟨b1, b2, b3, b4, by rw [List.getElem?_append_left (by omega)]; exact q1, by rw [List.getElem?_append_left (by omega)]; exact q2, q⟩
  · have : j = n := by omega
    subst this
    have hl := h.1
    exact ⟨br, bi, bp, brw, by rw [List.getElem?_append_right (by omega)]; simp [hl], by rw [List.getElem?_append_right (by omega)]; simp [hl], h1, h2, h3, h4⟩
end Go.K

namespace Go.K
section
variable {P : Program} {ops : Array Oper} {Q : Exit → Act → World → Prop} {n : Nat} {D : List Deferred} {E : Env} {w : World} {l : List Oper}
variable {d : Nat} {ty : TypeId} {pos : String} {aft : Array Edge} {gg : Option (Nat × Bool)}
theorem WL.callB {x : Operand} {args : Array Operand} {tys : Array TypeId} {f : FuncId} {first vs all : List Value} {R : Value → World → Prop} (hg : gdB ops E gg = some true) (hd : Nat.blt d n = true)
    (hx : opv E x = some (.func (.func f) first.toArray #[])) (hv : opvs E args.toList = some vs) (hent : enters P f = true) (hall : first ++ vs = all)
    (hc : Ret P f all.toArray w R) (h : ∀ v w', R v w' → WL P ops Q l n D ((d, v) :: E) w') : WL P ops Q (⟨some d, .call ⟨.value x, args, tys⟩, ty, pos, aft, gg⟩ :: l) n D E w :=
  WL.ent (f := f) (args := all.toArray) (w' := w) hg hd
    (fun a ha => by
      have e1 := ha.evs hv
      have e2 : Array.map a.eval args = vs.toArray := by apply Array.ext'; simpa using e1
      subst hall
      simp [execOp, resolve, ha.ev hx, e2, Deferred.ofValue, invoke, run_enters hent])
    hc (fun e w'' ⟨v, he, hR⟩ => ⟨v, he, h v w'' hR⟩)
end
theorem ob_ao {ao : Option Addr} {k cp : Nat} : (Value.slice ao k cp).ownBlock = ao.map (·.block) := by cases ao <;> rfl
end Go.K

/-! For the law MarketNested: what came in; marks. -/
namespace Go.K
def Marks (svs wl : List Int) (D L n : Nat) : Prop :=
  svs.length = D ∧ wl.length = L ∧ L ≤ D ∧ ∀ j, j < D → ∃ c : Nat, svs[j]? = some ((2 * c : Nat) : Int) ∧ c ≤ n ∧ (j = 0 → c = 0) ∧ (j < L → wl[j]? = some ((c : Nat) : Int))
theorem Marks.nil {n : Nat} : Marks [] [] 0 0 n := ⟨rfl, rfl, Nat.le_refl _, fun _ h => by omega⟩
theorem Marks.mono {svs wl : List Int} {D L n n' : Nat} (h : Marks svs wl D L n) (hn : n ≤ n') : Marks svs wl D L n' := by
  obtain ⟨h1, h2, h3, h4⟩ := h
  refine ⟨h1, h2, h3, fun j hj => ?_⟩
  obtain ⟨c, a, b, d⟩ := h4 j hj
  exact ⟨c, a, by omega, d⟩
theorem Marks.two {svs wl : List Int} {D n : Nat} (h : Marks svs wl D D n) (h0 : D = 0 → n = 0) : Marks (svs ++ [((2 * n : Nat) : Int)]) (wl ++ [((n : Nat) : Int)]) (D + 1) (D + 1) n := by
  obtain ⟨h1, h2, h3, h4⟩ := h
  refine ⟨by simp [h1], by simp [h2], Nat.le_refl _, fun j hj => ?_⟩
  by_cases hd : j < D
  · obtain ⟨c, a, b, d, e⟩ := h4 j hd
    exact ⟨c, by rw [List.getElem?_append_left (by omega)]; exact a, b, d, fun _ => by rw [List.getElem?_append_left (by omega)]; exact e hd⟩
  · have : j = D := by omega
    subst this
    exact ⟨n, by rw [List.getElem?_append_right (by omega)]; simp [h1], Nat.le_refl _, h0, fun _ => by rw [List.getElem?_append_right (by omega)]; simp [h2]⟩
theorem Marks.one {svs wl : List Int} {D L n : Nat} (h : Marks svs wl D L n) (h0 : D = 0 → n = 0) : Marks (svs ++ [((2 * n : Nat) : Int)]) wl (D + 1) L n := by
  obtain ⟨h1, h2, h3, h4⟩ := h
  refine ⟨by simp [h1], h2, by omega, fun j hj => ?_⟩
  by_cases hd : j < D
  · obtain ⟨c, a, b, d, e⟩ := h4 j hd
    exact ⟨c, by rw [List.getElem?_append_left (by omega)]; exact a, b, d, e⟩
  · have : j = D := by omega
    subst this
    exact ⟨n, by rw [List.getElem?_append_right (by omega)]; simp [h1], Nat.le_refl _, h0, fun hl => by omega⟩
theorem dis_grow1 {w1 w2 : World} {a b b' : Value} {e s k : Nat} {xs : List Value} (h : Dis a b.ownBlock.toList) (ha : Own w1 a e s k xs) (s12 : w1.heap.size ≤ w2.heap.size)
    (fb : ∀ y, b'.ownBlock = some y → b.ownBlock = some y ∨ w2.heap.size ≤ y) : Dis a b'.ownBlock.toList := by
  intro y hy hm
  have l1 := ha.lt' hy
  rcases fb y (by simpa using hm) with h1 | h1
  · exact h y hy (by simpa using h1)
  · omega
theorem dis_grow2 {w1 w2 : World} {a a' b : Value} {e s k : Nat} {ys : List Value} (h : Dis a b.ownBlock.toList) (hb : Own w1 b e s k ys) (s12 : w1.heap.size ≤ w2.heap.size)
    (fa : ∀ y, a'.ownBlock = some y → a.ownBlock = some y ∨ w2.heap.size ≤ y) : Dis a' b.ownBlock.toList := by
  intro y hy hm
  have l1 := hb.lt' hm
  rcases fa y (by simpa using hy) with h1 | h1
  · exact h y (by simpa using h1) hm
  · omega
theorem disNil {k cp : Nat} {S : List Nat} : Dis (.slice none k cp) S := fun b h => by simp [Value.ownBlock] at h

theorem cell_keep {S : List Nat} {w w' : World} {a : Addr} {v : Value} (h : w.cell? a = some v) (u : Only S w w') (hn : a.block ∉ S) : w'.cell? a = some v := by
  unfold World.cell? at h ⊢
  cases hb : w.heap[a.block]? with
  | none => rw [hb] at h; simp at h
  | some o =>
    rw [u.keep a.block (Array.getElem?_eq_some_iff.1 hb).1 hn]
    rw [hb] at h ⊢
    exact h
theorem rem_ok {P : Program} {t : TypeId} {a b : Int} (h : b ≠ 0) (w : World) : (binOp .rem t (.int .i64 a) (.int .i64 b)).run P w = .ok (.int .i64 (a.tmod b)) w := by
  simp [binOp, Op.intDiv, h]
section
variable {P : Program} {ops : Array Oper} {Q : Exit → Act → World → Prop} {n : Nat} {D : List Deferred} {E : Env} {w : World} {l : List Oper}
variable {d : Nat} {ty : TypeId} {pos : String} {aft : Array Edge} {gg : Option (Nat × Bool)}
theorem WL.indexX {t e : TypeId} {x y : Operand} {ao : Option Addr} {a : Addr} {len cap : Nat} {i : Int} (hg : gdB ops E gg = some true) (hd : Nat.blt d n = true) (ht : P.underlying t = some (.slice e)) (hs : sizeB P e = some 1)
    (hx : opv E x = some (.slice ao len cap)) (ha0 : ao = some a) (hy : opv E y = some (.int .i64 i)) (h0 : 0 ≤ i) (h1 : i < len)
    (h : WL P ops Q l n D ((d, .pointer (some (a.add i.toNat))) :: E) w) : WL P ops Q (⟨some d, .indexAddr t x y, ty, pos, aft, gg⟩ :: l) n D E w :=
  WL.val hg hd (fun a' ha => by subst ha0; simp [execOp, ha.ev hx, ha.ev hy, Instr.indexAt, asIntOf, run_underlyingK ht, h0, h1, run_sizeOf hs]) h
theorem WL.loadAt {t : TypeId} {x : Operand} {a : Addr} {v : Value} (hg : gdB ops E gg = some true) (ht : aggB P t = some false) (hd : Nat.blt d n = true)
    (hx : opv E x = some (.pointer (some a))) (hc : w.cell? a = some v) (h : WL P ops Q l n D ((d, v) :: E) w) : WL P ops Q (⟨some d, .load t x, ty, pos, aft, gg⟩ :: l) n D E w :=
  WL.val hg hd (fun a' ha => by simp [execOp, ha.ev hx, Instr.loadAt, Instr.sureAddr, loadVar, run_isAgg ht, run_load, hc]) h
end
end Go.K

