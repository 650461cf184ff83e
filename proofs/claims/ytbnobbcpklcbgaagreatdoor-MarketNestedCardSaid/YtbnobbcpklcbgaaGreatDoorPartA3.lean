/-
  Part 4 of the texts that lead to the theorem marketNested_card_holds: contracts of the functions that the law reaches.
-/
import Derived.Test.YtbnobbcpklcbgaaGreatDoorPartA2
import Derived.StillTail
set_option linter.all false
set_option autoImplicit true
set_option relaxedAutoImplicit true
namespace Go.K
def ST (P : Program) (ops : Array Oper) (w : World) (Q : Act → Prop) (l : List Oper) (n : Nat) (D : List Deferred) (E : Env) : Prop :=
  ∀ a, Fits n D E a → wpStill P ops w Q l a

section
variable {P : Program} {ops : Array Oper} {Q : Exit → Act → World → Prop} {n : Nat} {D : List Deferred} {w : World} {E E' : Env} {q : Act → Prop} {l : List Oper} {o : Oper}

theorem CW.still {id : Nat} (hm : P.follows .mixedOrders = true) (hB : Region.lexB .any l.toArray = true)
    (h : ∀ w', w'.heap = w.heap → Only [] w w' → ST P l.toArray w' (fun a' => Q .normal a' w') l n D E) : CW P (.region id l.toArray true) Q n D E w :=
  fun a ha => wp_region_still_lit hm hB (h w.drew rfl (Only.drew w) a ha)

theorem CW.tail {id : Nat} (m : Nat) (hm : P.follows .mixedOrders = true) (hB : Region.lexTailB .any l.toArray m = true)
    (h : ∀ w', w'.heap = w.heap → Only [] w w' → ST P l.toArray w' (fun a' => wpList P l.toArray Q (l.drop m) a' w') (l.take m) n D E) : CW P (.region id l.toArray true) Q n D E w :=
  fun a ha => wp_region_still_tail m hm hB (h w.drew rfl (Only.drew w) a ha)

theorem Blk.heq {w w' : World} {b T : Nat} {cs : List Value} (h : Blk w b cs T) (e : w'.heap = w.heap) : Blk w' b cs T := by unfold Blk; rw [e]; exact h
theorem Mp.heq {w w' : World} {b T : Nat} {cs : List MapEntry} (h : Mp w b cs T) (e : w'.heap = w.heap) : Mp w' b cs T := by unfold Mp; rw [e]; exact h

theorem ST.nil (h : ∀ a, Fits n D E a → q a) : ST P ops w q [] n D E := fun a ha => wpStill_nil (h a ha)
theorem ST.sub (E' : Env) (hs : K.sub E' E) (h : ST P ops w q l n D E') : ST P ops w q l n D E := fun a ha => h a (ha.sub hs)
theorem ST.val {v : Value} (hg : gdB ops E o.guard = some true) (hd : dstOk o.dst n = true) (hrun : ∀ a, Fits n D E a → (execOp a.eval o).run P w = .ok (.value v) w)
    (h : ST P ops w q l n D (putE o.dst v E)) : ST P ops w q (o :: l) n D E := fun a ha =>
  wpStill_step fun K hK => by
    rw [if_pos (wanted_gdB hg ha)]
    simp only [Oper.still, hrun a ha, Oper.stillUpon_value]
    exact hK _ (h _ (ha.putE hd v))
theorem ST.ent {f : FuncId} {args : Array Value} {v : Value} (hg : gdB ops E o.guard = some true) (hd : dstOk o.dst n = true) (hrun : ∀ a, Fits n D E a → (execOp a.eval o).run P w = .ok (.enter f args) w)
    (hc : Ret P f args w fun u w' => u = v ∧ w' = w) (h : ST P ops w q l n D (putE o.dst v E)) : ST P ops w q (o :: l) n D E := fun a ha =>
  wpStill_step fun K hK => by
    rw [if_pos (wanted_gdB hg ha)]
    simp only [Oper.still, hrun a ha, Oper.stillUpon]
    exact ⟨trivial, v, Calls.mono hc fun e w'' ⟨u, he, hu, hw⟩ => ⟨by rw [he, hu], hw⟩, hK _ (h _ (ha.putE hd v))⟩
theorem ST.not (hg : gdB ops E o.guard = some false) (hd : dstOk o.dst n = true) (h : ST P ops w q l n D (putE o.dst undef E)) : ST P ops w q (o :: l) n D E := fun a ha =>
  wpStill_step fun K hK => by
    rw [if_neg (by rw [wanted_gdB hg ha]; simp)]
    exact hK _ (h _ (ha.putE hd undef))
theorem ST.pure : ∀ (k : Nat) {l : List Oper} {E E' : Env}, prun P ops n k l E = some E' → ST P ops w q (l.drop k) n D E' → ST P ops w q l n D E
  | 0, l, E, E', h, hw => by
    simp only [prun, Option.some.injEq] at h
    subst h
    simpa using hw
  | k + 1, [], E, E', h, _ => by simp [prun] at h
  | k + 1, o :: l, E, E', h, hw => by
    simp only [prun] at h
    split at h
    · rename_i hg hd
      split at h
      · rename_i v hp
        exact ST.val hg hd (fun a ha => pstep_ok hp ha w) (ST.pure k h hw)
      · cases h
    · rename_i hg hd
      exact ST.not hg hd (ST.pure k h hw)
    · cases h
theorem ST.to (k : Nat) (ts : List Nat) (h : (prun P ops n k l E).bind (sel ts) = some E') (hw : ST P ops w q (l.drop k) n D E') : ST P ops w q l n D E := by
  cases hp : prun P ops n k l E with
  | none => rw [hp] at h; cases h
  | some E1 =>
    rw [hp] at h
    exact ST.pure k hp (ST.sub E' (sel_sub h) hw)
theorem ST.chg {v : Value} (t : Nat) (v' : Value) (h : find E t = some v) (e : v = v') (hw : ST P ops w q l n D ((t, v') :: E)) : ST P ops w q l n D E := by
  subst e
  refine fun a ha => hw a ⟨ha.size, ha.defers, fun s u hs => ?_⟩
  simp only [find] at hs
  split at hs
  · rename_i hb
    have := Nat.eq_of_beq_eq_true hb
    subst this
    simp only [Option.some.injEq] at hs
    subst hs
    exact ha.get _ _ h
  · exact ha.get _ _ hs

variable {d : Nat} {ty : TypeId} {pos : String} {aft : Array Edge} {gg : Option (Nat × Bool)}
theorem ST.load1 {t : TypeId} {x : Operand} {b o : Nat} {cs : List Value} {T : TypeId} {v : Value} (hg : gdB ops E gg = some true) (ht : aggB P t = some false) (hd : Nat.blt d n = true)
    (hx : opv E x = some (.pointer (some ⟨b, o, none⟩))) (hb : Blk w b cs T) (hv : cs[o]? = some v)
    (h : ST P ops w q l n D ((d, v) :: E)) : ST P ops w q (⟨some d, .load t x, ty, pos, aft, gg⟩ :: l) n D E :=
  ST.val hg hd (fun a ha => by simp [execOp, ha.ev hx, Instr.loadAt, Instr.sureAddr, run_loadVar1 ht hb hv]) h
theorem ST.loadN {t : TypeId} {x : Operand} {b o m : Nat} {cs vs : List Value} {T : TypeId} (hg : gdB ops E gg = some true) (ht : aggB P t = some true) (hm : sizeB P t = some m) (hd : Nat.blt d n = true)
    (hx : opv E x = some (.pointer (some ⟨b, o, none⟩))) (hb : Blk w b cs T) (hv : (cs.drop o).take m = vs) (hl : vs.length = m)
    (h : ST P ops w q l n D ((d, .agg vs.toArray) :: E)) : ST P ops w q (⟨some d, .load t x, ty, pos, aft, gg⟩ :: l) n D E :=
  ST.val hg hd (fun a ha => by simp [execOp, ha.ev hx, Instr.loadAt, Instr.sureAddr, run_loadVarN ht hm hb hv hl]) h
theorem ST.call {x : Operand} {args : Array Operand} {tys : Array TypeId} {f : FuncId} {caps vs all : List Value} {v : Value} (hg : gdB ops E gg = some true) (hd : Nat.blt d n = true)
    (hx : opv E x = some (.func (.func f) #[] caps.toArray)) (hv : opvs E args.toList = some vs) (hent : enters P f = true) (hall : vs ++ caps = all)
    (hc : Ret P f all.toArray w fun u w' => u = v ∧ w' = w) (h : ST P ops w q l n D ((d, v) :: E)) : ST P ops w q (⟨some d, .call ⟨.value x, args, tys⟩, ty, pos, aft, gg⟩ :: l) n D E :=
  ST.ent (f := f) (args := all.toArray) hg hd
    (fun a ha => by
      have e1 := ha.evs hv
      have e2 : Array.map a.eval args = vs.toArray := by apply Array.ext'; simpa using e1
      subst hall
      simp [execOp, resolve, ha.ev hx, e2, Deferred.ofValue, invoke, run_enters hent])
    hc h

/-! ### places in slices; parts of slices -/
theorem run_indexSlice {t e sz : Nat} {b o len cap : Nat} {i : Int} (ht : P.underlying t = some (.slice e)) (hs : sizeB P e = some sz) (h0 : 0 ≤ i) (h1 : i < len) (w : World) :
    (Instr.indexAt t (.slice (some ⟨b, o, none⟩) len cap) (.int .i64 i)).run P w = .ok (.pointer (some ⟨b, o + i.toNat * sz, none⟩)) w := by
  simp [Instr.indexAt, asIntOf, run_underlyingK ht, h0, h1, run_sizeOf hs, addr_add]

theorem WL.index {t e sz : Nat} {x y : Operand} {b o len cap : Nat} {i : Int} (hg : gdB ops E gg = some true) (hd : Nat.blt d n = true) (ht : P.underlying t = some (.slice e)) (hs : sizeB P e = some sz)
    (hx : opv E x = some (.slice (some ⟨b, o, none⟩) len cap)) (hy : opv E y = some (.int .i64 i)) (h0 : 0 ≤ i) (h1 : i < len)
    (h : WL P ops Q l n D ((d, .pointer (some ⟨b, o + i.toNat * sz, none⟩)) :: E) w) : WL P ops Q (⟨some d, .indexAddr t x y, ty, pos, aft, gg⟩ :: l) n D E w :=
  WL.val hg hd (fun a ha => by simp [execOp, ha.ev hx, ha.ev hy, run_indexSlice ht hs h0 h1]) h
theorem ST.index {t e sz : Nat} {x y : Operand} {b o len cap : Nat} {i : Int} (hg : gdB ops E gg = some true) (hd : Nat.blt d n = true) (ht : P.underlying t = some (.slice e)) (hs : sizeB P e = some sz)
    (hx : opv E x = some (.slice (some ⟨b, o, none⟩) len cap)) (hy : opv E y = some (.int .i64 i)) (h0 : 0 ≤ i) (h1 : i < len)
    (h : ST P ops w q l n D ((d, .pointer (some ⟨b, o + i.toNat * sz, none⟩)) :: E)) : ST P ops w q (⟨some d, .indexAddr t x y, ty, pos, aft, gg⟩ :: l) n D E :=
  ST.val hg hd (fun a ha => by simp [execOp, ha.ev hx, ha.ev hy, run_indexSlice ht hs h0 h1]) h

/-! ### append -/
abbrev Own (w : World) (v : Value) (e sz k : Nat) (xs : List Value) : Prop := w.ownsRow 0 e sz v k xs

theorem Own.keep {S : List Nat} {w w' : World} {v : Value} {e sz k : Nat} {xs : List Value} (h : Own w v e sz k xs) (u : Only S w w') (hn : ∀ b, v.ownBlock = some b → b ∉ S) : Own w' v e sz k xs := by
  refine ⟨h.1, ?_⟩
  rcases h.2 with hh | ⟨g, cap, cur, rfl, hb, hg, rest⟩
  · exact .inl hh
  · refine .inr ⟨g, cap, cur, rfl, hb, ?_, rest⟩
    rw [u.keep g (Array.getElem?_eq_some_iff.1 hg).1 (hn g rfl)]
    exact hg

theorem WL.append {s x : Operand} {t e sz by_ k g o m c : Nat} {i : TypeInfo} {z v : Value} {xs news cs : List Value} {T : Nat} (hg : gdB ops E gg = some true) (hd : Nat.blt d n = true)
    (ht : P.underlying t = some (.slice e)) (hi : P.info? e = some i) (hz : i.zero = some z) (hsz : i.size = sz) (hby : i.bytes = by_) (hzs : z.cells.size = sz) (h0 : 0 < sz)
    (hs : opv E s = some v) (hx : opv E x = some (.slice (some ⟨g, o, none⟩) m c)) (hown : Own w v e sz k xs) (hb : Blk w g cs T) (hnews : (cs.drop o).take (m * sz) = news) (hl : news.length = m * sz) (h1 : news.all Value.oneCell' = true)
    (h63 : k + m ≤ maxLen) (hbytes : (k + m) * by_ ≤ 140737488355328)
    (h : ∀ v' w', Own w' v' e sz (k + m) (xs ++ news) → Only v.ownBlock.toList w w' → (v' = .slice none 0 0 ↔ v = .slice none 0 0 ∧ m = 0) → WL P ops Q l n D ((d, v') :: E) w') :
    WL P ops Q (⟨some d, .call ⟨.builtin .append, #[s, x], #[t, t]⟩, ty, pos, aft, gg⟩ :: l) n D E w := by
  obtain ⟨v', w', hr, ho, hgr, hv⟩ := run_append_own (P := P) w 0 t ty e i z sz by_ ht hi hz hsz hby hzs h0 v k xs hown ⟨g, o, none⟩ m c news hl (fun j u hu => by
      rw [addr_add, hb.cell]
      rw [← hnews] at hu
      have hj : j < m * sz := by
        rcases Nat.lt_or_ge j (m * sz) with h' | h'
        · exact h'
        · rw [List.getElem?_eq_none (by simp; omega)] at hu; cases hu
      rw [List.getElem?_take_of_lt hj, List.getElem?_drop] at hu
      exact hu) (fun u hu => List.all_eq_true.1 h1 u hu) h63 hbytes (Nat.zero_le _)
  refine WL.val (o := ⟨some d, .call ⟨.builtin .append, #[s, x], #[t, t]⟩, ty, pos, aft, gg⟩) (v := v') (w' := w') hg hd (fun a ha => ?_) (h v' w' ho (Only.grown hgr) hv)
  simp only [execOp, resolve, invoke, builtin, Sem.run_bind, Sem.run_pure, Result.andThen_ok, List.map_toArray, List.map_cons, List.map_nil, ha.ev hs, ha.ev hx, hr]
end
end Go.K
namespace Go.K
section
variable {P : Program} {ops : Array Oper} {Q : Exit → Act → World → Prop} {n : Nat} {D : List Deferred} {w : World} {E : Env} {l : List Oper} {d : Nat} {ty : TypeId} {pos : String} {aft : Array Edge} {gg : Option (Nat × Bool)}
theorem WL.callQ {x : Operand} {args : Array Operand} {tys : Array TypeId} {f : FuncId} {caps vs all : List Value} {v : Value} (hg : gdB ops E gg = some true) (hd : Nat.blt d n = true)
    (hx : opv E x = some (.func (.func f) #[] caps.toArray)) (hv : opvs E args.toList = some vs) (hent : enters P f = true) (hall : vs ++ caps = all)
    (hc : Ret P f all.toArray w fun u w' => u = v ∧ w' = w) (h : WL P ops Q l n D ((d, v) :: E) w) : WL P ops Q (⟨some d, .call ⟨.value x, args, tys⟩, ty, pos, aft, gg⟩ :: l) n D E w :=
  WL.call hg hd hx hv hent hall hc (fun u w' ⟨hu, hw⟩ => by rw [hu, hw]; exact h)

def infoB (P : Program) (t : TypeId) : Option (Value × Nat × Nat) :=
  match P.info? t with
  | some i => match i.zero with
    | some z => some (z, i.size, i.bytes)
    | none => none
  | none => none
theorem infoB_ok {t : TypeId} {z : Value} {s b : Nat} (h : infoB P t = some (z, s, b)) : ∃ i, P.info? t = some i ∧ i.zero = some z ∧ i.size = s ∧ i.bytes = b := by
  unfold infoB at h
  split at h
  · rename_i i hi
    split at h
    · rename_i z' hz
      simp only [Option.some.injEq, Prod.mk.injEq] at h
      exact ⟨i, hi, by rw [hz, h.1], h.2.1, h.2.2⟩
    · cases h
  · cases h
end
end Go.K

namespace Go.K
/-! ### maps -/
structure KeyLaw {α : Type} [DecidableEq α] (κ : α → Value) (kd : TypeDesc) : Prop where
  same : ∀ a b, Instr.sameNow kd (κ a) (κ b) = some (decide (a = b))
  bits : ∀ a, Instr.sameBits 10000 (κ a) (κ a) = true
  plain : (match kd with | .interface _ | .array _ _ | .struct _ => false | _ => true) = true

abbrev ki (n : Int) : Value := .int .i64 n
abbrev ks (s : ByteArray) : Value := .string s
theorem bytes_eq (a b : ByteArray) : (a == b) = decide (a = b) := by
  have h := MapKept.bytes_beq a b
  by_cases e : a = b
  · rw [decide_eq_true e]; first | exact h.2 e | (simp [h, e]; done) | simp_all
  · rw [decide_eq_false e]; first | (cases hq : (a == b); rfl; exact absurd (h.1 hq) e) | (simp [h, e]; done) | simp_all
theorem map_erase {β γ : Type} (f : β → γ) : ∀ (l : List β) (j : Nat), (l.eraseIdx j).map f = (l.map f).eraseIdx j
  | [], _ => by simp
  | _ :: r, 0 => by simp
  | _ :: r, j + 1 => by simp [map_erase f r j]
theorem law_i : KeyLaw ki (.int .i64) := ⟨fun a b => by simp [Instr.sameNow, BEq.beq], fun a => by simp [Instr.sameBits], rfl⟩
theorem law_s : KeyLaw ks .string := ⟨fun a b => by simp only [Instr.sameNow, bytes_eq], fun a => by simp [Instr.sameBits, bytes_eq], rfl⟩

section
variable {α : Type} [DecidableEq α]
def ents (κ : α → Value) (l : List (α × Value)) (es : List MapEntry) : Prop := es.map (fun e => (e.key, e.val)) = l.map (fun p => (κ p.1, p.2))

structure KMap (κ : α → Value) (w : World) (m : Nat) (l : List (α × Value)) : Prop where
  ex : ∃ es clock, Mp w m es clock ∧ ents κ l es ∧ (∀ e ∈ es, e.born < clock) ∧ (es.map (·.born)).Nodup
  nodup : (l.map (·.1)).Nodup

theorem KMap.lt {κ : α → Value} {w : World} {m : Nat} {l : List (α × Value)} (h : KMap κ w m l) : m < w.heap.size := by
  obtain ⟨es, c, h1, _⟩ := h.ex; exact h1.lt
theorem KMap.keep {κ : α → Value} {S : List Nat} {w w' : World} {m : Nat} {l : List (α × Value)} (h : KMap κ w m l) (u : Only S w w') (hn : m ∉ S) : KMap κ w' m l := by
  obtain ⟨es, c, h1, h2⟩ := h.ex
  exact ⟨⟨es, c, h1.keep u hn, h2⟩, h.nodup⟩
theorem KMap.heq {κ : α → Value} {w w' : World} {m : Nat} {l : List (α × Value)} (h : KMap κ w m l) (e : w'.heap = w.heap) : KMap κ w' m l := by
  obtain ⟨es, c, h1, h2⟩ := h.ex
  exact ⟨⟨es, c, h1.heq e, h2⟩, h.nodup⟩
theorem KMap.new {κ : α → Value} {w : World} {m : Nat} (h : Mp w m [] 0) : KMap κ w m [] := ⟨⟨[], 0, h, rfl, by simp, by simp⟩, by simp⟩
theorem Blk.neK {κ : α → Value} {w : World} {b m : Nat} {cs : List Value} {T : TypeId} {l : List (α × Value)} (h : Blk w b cs T) (k : KMap κ w m l) : b ≠ m := by
  obtain ⟨es, c, h1, _⟩ := k.ex; exact h.neMp h1

def fi : List (α × Value) → α → Nat → Option (Nat × Value)
  | [], _, _ => none
  | (x, v) :: r, a, i => if a = x then some (i, v) else fi r a (i + 1)
def look : List (α × Value) → α → Option Value
  | [], _ => none
  | (x, v) :: r, a => if a = x then some v else look r a

theorem fi_look : ∀ (l : List (α × Value)) (a : α) (i : Nat), (fi l a i).map (·.2) = look l a
  | [], _, _ => rfl
  | (x, v) :: r, a, i => by
    simp only [fi, look]
    split
    · rfl
    · exact fi_look r a (i + 1)
theorem look_none : ∀ {l : List (α × Value)} {a : α}, look l a = none ↔ a ∉ l.map (·.1)
  | [], _ => by simp [look]
  | (x, v) :: r, a => by
    simp only [look]
    split
    · rename_i h; simp [h]
    · rename_i h; rw [look_none]; simp [h]
theorem look_of_mem : ∀ {l : List (α × Value)} {a : α} {v : Value}, (l.map (·.1)).Nodup → (a, v) ∈ l → look l a = some v
  | (x, u) :: r, a, v, hn, h => by
    simp only [List.map_cons, List.nodup_cons] at hn
    simp only [look]
    by_cases e0 : (a, v) = (x, u)
    · cases e0; simp
    · replace h : (a, v) ∈ r := by simpa [e0] using h
      have : a ≠ x := by
        intro e; subst e
        exact hn.1 (List.mem_map.2 ⟨(a, v), h, rfl⟩)
      rw [if_neg this]
      exact look_of_mem hn.2 h
theorem fi_spec : ∀ (l : List (α × Value)) (a : α) (i j : Nat) (v : Value), fi l a i = some (j, v) → i ≤ j ∧ l[j - i]? = some (a, v)
  | [], _, _, _, _, h => by simp [fi] at h
  | (x, u) :: r, a, i, j, v, h => by
    simp only [fi] at h
    split at h
    · rename_i e; simp only [Option.some.injEq, Prod.mk.injEq] at h; obtain ⟨h1, h2⟩ := h; subst h1; subst h2; subst e; simp
    · obtain ⟨h1, h2⟩ := fi_spec r a (i + 1) j v h
      refine ⟨by omega, ?_⟩
      rw [show j - i = (j - (i + 1)) + 1 from by omega]
      simpa using h2

variable {κ : α → Value} {kd : TypeDesc}
theorem findNow_fi (hk : KeyLaw κ kd) : ∀ {l : List (α × Value)} {es : List MapEntry} (_ : ents κ l es) (a : α) (i : Nat), Instr.findNow kd (κ a) es i = some (fi l a i)
  | [], es, h, a, i => by
    have : es = [] := by simpa [ents] using h
    subst this; rfl
  | (x, v) :: r, es, h, a, i => by
    cases es with
    | nil => simp [ents] at h
    | cons e es =>
      simp only [ents, List.map_cons, List.cons.injEq, Prod.mk.injEq] at h
      obtain ⟨⟨h1, h2⟩, h3⟩ := h
      simp only [Instr.findNow, h1, hk.same, fi]
      by_cases e' : a = x
      · simp [e', h2]
      · simp only [e', decide_false, if_false]
        exact findNow_fi hk h3 a (i + 1)

variable {P : Program}
theorem run_checkKey (hk : KeyLaw κ kd) {kt : TypeId} (hu : P.underlying kt = some kd) (b : Bool) (v : Value) (w : World) : (Instr.checkKey b 10000 kt v).run P w = .ok () w := by
  have hp := hk.plain
  show (Instr.checkKey b (9999 + 1) kt v).run P w = _
  rw [Instr.checkKey]
  rw [Sem.run_bind, run_underlyingK hu]
  simp only [Result.andThen_ok]
  cases kd <;> first | rfl | (simp at hp)

theorem run_findKey (hk : KeyLaw κ kd) {kt : TypeId} (hu : P.underlying kt = some kd) {l : List (α × Value)} {es : List MapEntry} (h : ents κ l es) (a : α) (w : World) : (Instr.findKey kt (κ a) es).run P w = .ok (fi l a 0) w := by
  simp only [Instr.findKey, Sem.run_bind, run_underlyingK hu, Result.andThen_ok, findNow_fi hk h a 0, Sem.run_pure]

theorem run_getMap {w : World} {m : Nat} {es : List MapEntry} {c : Nat} (h : Mp w m es c) : (getObj m).run P w = .ok (.map es.toArray c) w := by
  unfold Mp at h
  simp [getObj, Sem.run, h]

theorem run_lookup (hk : KeyLaw κ kd) {t kt et : TypeId} {z : Value} (ht : P.underlying t = some (.map kt et)) (hu : P.underlying kt = some kd) (hz : zeroB P et = some z) {w : World} {m : Nat} {l : List (α × Value)} (h : KMap κ w m l) (a : α) (ok : Bool) :
    (Instr.lookup t (.map (some m)) (κ a) ok).run P w = .ok (if ok then .tuple #[(look l a).getD z, .bool (look l a).isSome] else (look l a).getD z) w := by
  obtain ⟨es, c, h1, h2, _⟩ := h.ex
  have hf := fi_look l a 0
  simp only [Instr.lookup, Sem.run_bind, run_underlyingK ht, Result.andThen_ok, run_getMap h1, Sem.run_pure, run_checkKey hk hu, run_findKey hk hu h2]
  cases hq : fi l a 0 with
  | none =>
    rw [hq] at hf
    simp only [Option.map_none] at hf
    simp only [run_zeroValue hz, Sem.run_bind, Result.andThen_ok, Sem.run_pure, ← hf]
    cases ok <;> rfl
  | some p =>
    rw [hq] at hf
    simp only [Option.map_some] at hf
    simp only [Sem.run_pure, Result.andThen_ok, ← hf]
    cases ok <;> rfl

theorem run_update_new (hk : KeyLaw κ kd) {t kt et : TypeId} (ht : P.underlying t = some (.map kt et)) (hu : P.underlying kt = some kd) {w : World} {m : Nat} {l : List (α × Value)} (h : KMap κ w m l) (a : α) (v : Value) (hn : look l a = none) :
    ∃ w', (Instr.mapUpdate t (.map (some m)) (κ a) v).run P w = .ok () w' ∧ KMap κ w' m (l ++ [(a, v)]) ∧ Only [m] w w' ∧ w'.heap.size = w.heap.size := by
  obtain ⟨es, c, h1, h2, h3, h4⟩ := h.ex
  have hf := fi_look l a 0
  have hq : fi l a 0 = none := by
    cases hq : fi l a 0 with
    | none => rfl
    | some p => rw [hq, hn] at hf; simp at hf
  have h1' := h1
  unfold Mp at h1'
  have hlt := h1.lt
  refine ⟨{ w with heap := w.heap.setIfInBounds m (.map (es ++ [({ key := κ a, val := v, born := c } : MapEntry)]).toArray (c + 1)) }, ?_, ?_, ?_, by simp⟩
  · simp only [Instr.mapUpdate, Sem.run_bind, run_underlyingK ht, Result.andThen_ok, run_getMap h1, run_checkKey hk hu, run_findKey hk hu h2, hq]
    simp [setObj, Sem.run, h1']
  · refine ⟨⟨es ++ [({ key := κ a, val := v, born := c } : MapEntry)], c + 1, ?_, ?_, ?_, ?_⟩, ?_⟩
    · simp [Mp, hlt]
    · simpa [ents] using h2
    · intro e he
      rcases List.mem_append.1 he with he | he
      · have := h3 e he; omega
      · simp at he; subst he; simp
    · rw [List.map_append, List.nodup_append]
      refine ⟨h4, by simp, ?_⟩
      intro x hx y hy
      simp at hy
      obtain ⟨e, he, rfl⟩ := List.mem_map.1 hx
      have := h3 e he
      omega
    · rw [List.map_append, List.nodup_append]
      refine ⟨h.nodup, by simp, ?_⟩
      intro x hx y hy
      simp at hy
      subst hy
      intro e; subst e
      exact (look_none.1 hn) hx
  · exact ⟨rfl, rfl, rfl, by simp, fun k hk hn => by
      have : k ≠ m := by simpa using hn
      simp [Ne.symm this]⟩

def setv (l : List (α × Value)) (a : α) (v : Value) : List (α × Value) := l.map fun p => if p.1 = a then (a, v) else p
def delv (l : List (α × Value)) (a : α) : List (α × Value) := l.filter fun p => decide (p.1 ≠ a)
theorem delv_erase : ∀ {l : List (α × Value)} {j : Nat} {a : α} {u : Value}, (l.map (·.1)).Nodup → l[j]? = some (a, u) → delv l a = l.eraseIdx j
  | [], _, _, _, _, h => by simp at h
  | q :: r, j, a, u, hn, h => by
    simp only [List.map_cons, List.nodup_cons] at hn
    cases j with
    | zero =>
      simp at h
      subst h
      have hall : r.filter (fun p => decide (p.1 ≠ a)) = r := by
        rw [List.filter_eq_self]
        intro p hp
        simp only [decide_eq_true_eq]
        intro e
        exact hn.1 (List.mem_map.2 ⟨p, hp, e⟩)
      simp only [delv, List.filter_cons, ne_eq, not_true, decide_false, Bool.false_eq_true, if_false, List.eraseIdx_zero, List.tail_cons]
      exact hall
    | succ j =>
      simp at h
      have hne : q.1 ≠ a := by
        intro e
        exact hn.1 (List.mem_map.2 ⟨(a, u), List.mem_of_getElem? h, e.symm⟩)
      have := delv_erase hn.2 h
      simp only [delv] at this
      simp only [delv, List.filter_cons, hne, ne_eq, not_false_iff, decide_true, if_true, List.eraseIdx_cons_succ]
      rw [← this]
theorem run_delete (hk : KeyLaw κ kd) {t kt et : TypeId} (ht : P.underlying t = some (.map kt et)) (hu : P.underlying kt = some kd) {w : World} {m : Nat} {l : List (α × Value)} (h : KMap κ w m l) (a : α) (ty : TypeId) :
    ∃ w', (Builtin.delete_ #[t] ty #[.map (some m), κ a]).run P w = .ok (.tuple #[]) w' ∧ KMap κ w' m (delv l a) ∧ Only [m] w w' ∧ w'.heap.size = w.heap.size := by
  obtain ⟨es, c, h1, h2, h3, h4⟩ := h.ex
  have h1' := h1
  unfold Mp at h1'
  have hlt := h1.lt
  have honly : ∀ o : Obj, Only [m] w { w with heap := w.heap.setIfInBounds m o } := fun o => ⟨rfl, rfl, rfl, by simp, fun k hk hn => by
      have : k ≠ m := by simpa using hn
      simp [Ne.symm this]⟩
  cases hq : fi l a 0 with
  | none =>
    have hn : look l a = none := by have hf := fi_look l a 0; rw [hq] at hf; simpa using hf.symm
    have hd : delv l a = l := by
      unfold delv
      rw [List.filter_eq_self]
      intro p hp
      have := look_none.1 hn
      simp only [decide_eq_true_eq]
      intro e
      exact this (List.mem_map.2 ⟨p, hp, e⟩)
    rw [hd]
    refine ⟨{ w with heap := w.heap.setIfInBounds m (.map es.toArray c) }, ?_, ⟨⟨es, c, by simp [Mp, hlt], h2, h3, h4⟩, h.nodup⟩, honly _, by simp⟩
    simp only [Builtin.delete_, List.getElem?_toArray, List.getElem?_cons_zero, List.getElem?_cons_succ, Sem.run_bind, run_underlyingK ht, Result.andThen_ok, run_getMap h1, run_checkKey hk hu, run_findKey hk hu h2, hq]
    simp [setObj, Sem.run, h1']
  | some p =>
    obtain ⟨j, u⟩ := p
    obtain ⟨_, hj⟩ := fi_spec l a 0 j u hq
    simp only [Nat.sub_zero] at hj
    have hjl : j < l.length := (List.getElem?_eq_some_iff.1 hj).1
    have hdel : delv l a = l.eraseIdx j := by
      exact delv_erase h.nodup hj
    rw [hdel]
    refine ⟨{ w with heap := w.heap.setIfInBounds m (.map (es.eraseIdx j).toArray c) }, ?_, ⟨⟨es.eraseIdx j, c, by simp [Mp, hlt], ?_, ?_, ?_⟩, ?_⟩, honly _, by simp⟩
    · simp only [Builtin.delete_, List.getElem?_toArray, List.getElem?_cons_zero, List.getElem?_cons_succ, Sem.run_bind, run_underlyingK ht, Result.andThen_ok, run_getMap h1, run_checkKey hk hu, run_findKey hk hu h2, hq]
      simp [setObj, Sem.run, h1']
    · unfold ents at h2 ⊢
      rw [map_erase, map_erase, h2]
    · intro e he; exact h3 e (List.mem_of_mem_eraseIdx he)
    · rw [map_erase]; exact h4.sublist (List.eraseIdx_sublist _ _)
    · rw [map_erase]; exact h.nodup.sublist (List.eraseIdx_sublist _ _)

/-! ### rules -/
variable {ops : Array Oper} {Q : Exit → Act → World → Prop} {n : Nat} {D : List Deferred} {w : World} {E : Env} {l : List Oper} {d : Nat} {ty : TypeId} {pos : String} {aft : Array Edge} {gg : Option (Nat × Bool)} {q : Act → Prop}

theorem WL.lookB {t kt et m : Nat} {x y : Operand} {z : Value} {L : List (α × Value)} {a : α} (b : Bool) (hg : gdB ops E gg = some true) (hd : Nat.blt d n = true) (hk : KeyLaw κ kd) (ht : P.underlying t = some (.map kt et)) (hu : P.underlying kt = some kd) (hz : zeroB P et = some z)
    (hx : opv E x = some (.map (some m))) (hy : opv E y = some (κ a)) (hm : KMap κ w m L)
    (h : WL P ops Q l n D ((d, if b then .tuple #[(look L a).getD z, .bool (look L a).isSome] else (look L a).getD z) :: E) w) : WL P ops Q (⟨some d, .lookup t x y b, ty, pos, aft, gg⟩ :: l) n D E w :=
  WL.val hg hd (fun a' ha => by simp only [execOp, ha.ev hx, ha.ev hy, Sem.run_bind, run_lookup hk ht hu hz hm a b, Result.andThen_ok, Sem.run_pure]) h
theorem ST.lookB {t kt et m : Nat} {x y : Operand} {z : Value} {L : List (α × Value)} {a : α} (b : Bool) (hg : gdB ops E gg = some true) (hd : Nat.blt d n = true) (hk : KeyLaw κ kd) (ht : P.underlying t = some (.map kt et)) (hu : P.underlying kt = some kd) (hz : zeroB P et = some z)
    (hx : opv E x = some (.map (some m))) (hy : opv E y = some (κ a)) (hm : KMap κ w m L)
    (h : ST P ops w q l n D ((d, if b then .tuple #[(look L a).getD z, .bool (look L a).isSome] else (look L a).getD z) :: E)) : ST P ops w q (⟨some d, .lookup t x y b, ty, pos, aft, gg⟩ :: l) n D E :=
  ST.val hg hd (fun a' ha => by simp only [execOp, ha.ev hx, ha.ev hy, Sem.run_bind, run_lookup hk ht hu hz hm a b, Result.andThen_ok, Sem.run_pure]) h
theorem run_lenMap {t kt et m : Nat} {L : List (α × Value)} (ht : P.underlying t = some (.map kt et)) (hm : KMap κ w m L) : (Builtin.len_ #[t] ty #[.map (some m)]).run P w = .ok (.int .i64 (L.length : Nat)) w := by
  obtain ⟨es, c, h1, h2, _⟩ := hm.ex
  have hlen : es.length = L.length := by have := congrArg List.length h2; simpa using this
  simp [Builtin.len_, run_underlyingK ht, run_getMap h1, goInt, hlen]
theorem WL.lenMap {t kt et m : Nat} {x : Operand} {L : List (α × Value)} (κ : α → Value) (hg : gdB ops E gg = some true) (hd : Nat.blt d n = true) (ht : P.underlying t = some (.map kt et))
    (hx : opv E x = some (.map (some m))) (hm : KMap κ w m L)
    (h : WL P ops Q l n D ((d, .int .i64 (L.length : Nat)) :: E) w) : WL P ops Q (⟨some d, .call ⟨.builtin .len, #[x], #[t]⟩, ty, pos, aft, gg⟩ :: l) n D E w :=
  WL.val hg hd (fun a' ha => by simp [execOp, resolve, invoke, builtin, ha.ev hx, run_lenMap ht hm]) h
theorem ST.lenMap {t kt et m : Nat} {x : Operand} {L : List (α × Value)} (κ : α → Value) (hg : gdB ops E gg = some true) (hd : Nat.blt d n = true) (ht : P.underlying t = some (.map kt et))
    (hx : opv E x = some (.map (some m))) (hm : KMap κ w m L)
    (h : ST P ops w q l n D ((d, .int .i64 (L.length : Nat)) :: E)) : ST P ops w q (⟨some d, .call ⟨.builtin .len, #[x], #[t]⟩, ty, pos, aft, gg⟩ :: l) n D E :=
  ST.val hg hd (fun a' ha => by simp [execOp, resolve, invoke, builtin, ha.ev hx, run_lenMap ht hm]) h

theorem WL.putNew {t kt et m : Nat} {x y v' : Operand} {v : Value} {L : List (α × Value)} {a : α} (hg : gdB ops E gg = some true) (hk : KeyLaw κ kd) (ht : P.underlying t = some (.map kt et)) (hu : P.underlying kt = some kd)
    (hx : opv E x = some (.map (some m))) (hy : opv E y = some (κ a)) (hv : opv E v' = some v) (hm : KMap κ w m L) (hl : look L a = none)
    (h : ∀ w', KMap κ w' m (L ++ [(a, v)]) → Only [m] w w' → w'.heap.size = w.heap.size → WL P ops Q l n D E w') : WL P ops Q (⟨none, .mapUpdate t x y v', ty, pos, aft, gg⟩ :: l) n D E w := by
  obtain ⟨w', hr, h1, h2, h3⟩ := run_update_new hk ht hu hm a v hl
  exact WL.skp (o := ⟨none, .mapUpdate t x y v', ty, pos, aft, gg⟩) (w' := w') hg rfl (fun a' ha => by simp only [execOp, ha.ev hx, ha.ev hy, ha.ev hv, Sem.run_bind, hr, Result.andThen_ok, Sem.run_pure]) (h w' h1 h2 h3)
theorem WL.del {t kt et m : Nat} {x y : Operand} {L : List (α × Value)} {a : α} (hg : gdB ops E gg = some true) (hk : KeyLaw κ kd) (ht : P.underlying t = some (.map kt et)) (hu : P.underlying kt = some kd)
    (hx : opv E x = some (.map (some m))) (hy : opv E y = some (κ a)) (hm : KMap κ w m L)
    (h : ∀ w', KMap κ w' m (delv L a) → Only [m] w w' → w'.heap.size = w.heap.size → WL P ops Q l n D E w') : WL P ops Q (⟨none, .call ⟨.builtin .delete, #[x, y], #[t, kt]⟩, ty, pos, aft, gg⟩ :: l) n D E w := by
  obtain ⟨w', hr, h1, h2, h3⟩ := run_delete (P := P) hk ht hu hm a ty
  have hr' : (Builtin.delete_ #[t, kt] ty #[.map (some m), κ a]).run P w = .ok (.tuple #[]) w' := hr
  exact WL.val (o := ⟨none, .call ⟨.builtin .delete, #[x, y], #[t, kt]⟩, ty, pos, aft, gg⟩) (v := .tuple #[]) (w' := w') hg rfl (fun a' ha => by simp [execOp, resolve, invoke, builtin, ha.ev hx, ha.ev hy, hr']) (h w' h1 h2 h3)

/-! ### ranging over a map that stands still -/
def Iter (κ : α → Value) (w : World) (it m : Nat) (todo : List (α × Value)) : Prop :=
  ∃ es clock seen, Mp w m es clock ∧ (∀ e ∈ es, e.born < clock) ∧ (es.map (·.born)).Nodup ∧
    w.heap[it]? = some (.mapIter (some m) clock seen clock) ∧ ents κ todo (es.filter fun e => !seen.contains e.born)

theorem Iter.lt {w : World} {it m : Nat} {todo : List (α × Value)} (h : Iter κ w it m todo) : it < w.heap.size := by
  obtain ⟨_, _, _, _, _, _, h4, _⟩ := h; exact (Array.getElem?_eq_some_iff.1 h4).1
theorem Iter.keep {S : List Nat} {w w' : World} {it m : Nat} {todo : List (α × Value)} (h : Iter κ w it m todo) (u : Only S w w') (hi : it ∉ S) (hm : m ∉ S) : Iter κ w' it m todo := by
  have hlt := h.lt
  obtain ⟨es, c, seen, h1, h2, h3, h4, h5⟩ := h
  exact ⟨es, c, seen, h1.keep u hm, h2, h3, (u.keep it hlt hi).trans h4, h5⟩

theorem run_range {t kt et m : Nat} {L : List (α × Value)} (ht : P.underlying t = some (.map kt et)) (hm : KMap κ w m L) :
    ∃ w', (Instr.range t (.map (some m))).run P w = .ok (.pointer (some ⟨w.heap.size, 0, none⟩)) w' ∧ Iter κ w' w.heap.size m L ∧ Only [] w w' := by
  obtain ⟨es, c, h1, h2, h3, h4⟩ := hm.ex
  have e : es.filter (fun e => !(#[] : Array Nat).contains e.born) = es := by simp
  refine ⟨w.alloc (.mapIter (some m) c #[] c), ?_, ⟨es, c, #[], h1.keep (Only.alloc _ _) nm0, h3, h4, heap_alloc_new w _, by rw [e]; exact h2⟩, Only.alloc _ _⟩
  simp [Instr.range, run_underlyingK ht, run_getMap h1]
theorem WL.range {t kt et m : Nat} {x : Operand} {L : List (α × Value)} (hg : gdB ops E gg = some true) (hd : Nat.blt d n = true) (ht : P.underlying t = some (.map kt et))
    (hx : opv E x = some (.map (some m))) (hm : KMap κ w m L)
    (h : ∀ w' b, Iter κ w' b m L → Only [] w w' → w.heap.size ≤ b → WL P ops Q l n D ((d, .pointer (some ⟨b, 0, none⟩)) :: E) w') : WL P ops Q (⟨some d, .range t x, ty, pos, aft, gg⟩ :: l) n D E w := by
  obtain ⟨w', hr, h1, h2⟩ := run_range ht hm
  exact WL.val (w' := w') hg hd (fun a' ha => by simp [execOp, ha.ev hx, hr]) (h w' _ h1 h2 (Nat.le_refl _))

theorem erase_born : ∀ {l : List MapEntry} {j : Nat} {e : MapEntry}, (l.map (·.born)).Nodup → l[j]? = some e → l.filter (fun x => decide (x.born ≠ e.born)) = l.eraseIdx j
  | [], _, _, _, h => by simp at h
  | q :: r, j, e, hn, h => by
    simp only [List.map_cons, List.nodup_cons] at hn
    cases j with
    | zero =>
      simp at h
      subst h
      have hall : r.filter (fun p => decide (p.born ≠ q.born)) = r := by
        rw [List.filter_eq_self]
        intro p hp
        simp only [decide_eq_true_eq]
        intro e
        exact hn.1 (List.mem_map.2 ⟨p, hp, e⟩)
      simp only [List.filter_cons, ne_eq, not_true, decide_false, Bool.false_eq_true, if_false, List.eraseIdx_zero, List.tail_cons]
      exact hall
    | succ j =>
      simp at h
      have hne : q.born ≠ e.born := by
        intro e'
        exact hn.1 (List.mem_map.2 ⟨e, List.mem_of_getElem? h, e'.symm⟩)
      have := erase_born hn.2 h
      simp only [List.filter_cons, hne, ne_eq, not_false_iff, decide_true, if_true, List.eraseIdx_cons_succ]
      rw [← this]
theorem run_next {it m : Nat} {b : Nat} {todo : List (α × Value)} (h : Iter κ w it m todo) :
    (todo = [] ∧ (Instr.next (.pointer (some ⟨it, 0, none⟩)) false b).run P w = .ok (.tuple #[.bool false]) w) ∨
    (∃ j a v w', todo[j]? = some (a, v) ∧ (Instr.next (.pointer (some ⟨it, 0, none⟩)) false b).run P w = .ok (.tuple #[.bool true, κ a, v]) w' ∧
      Iter κ w' it m (todo.eraseIdx j) ∧ Only [it] w w' ∧ w'.heap.size = w.heap.size) := by
  have hlt := h.lt
  obtain ⟨es, c, seen, h1, h2, h3, h4, h5⟩ := h
  have hcond : (!seen.isEmpty && !es.toArray.isEmpty && es.toArray.all (fun e => decide (e.born ≥ c)) 0 es.length) = false := by
    cases es with
    | nil => simp
    | cons e r => have := h2 e (by simp); simp; intro _ hc; omega
  have hg : (getObj it).run P w = .ok (.mapIter (some m) c seen c) w := by simp [getObj, Sem.run, h4]
  generalize hL : es.filter (fun e => !seen.contains e.born) = left at h5
  have hleft : Array.filter (fun e => !seen.contains e.born) es.toArray 0 es.length = left.toArray := by simpa using hL
  have hin : ∀ e ∈ left, e ∈ es ∧ seen.contains e.born = false := by
    intro e he
    rw [← hL] at he
    simpa using he
  have hold : left.filter (fun e => decide (e.born < c)) = left := by
    rw [List.filter_eq_self]
    intro e he
    have := h2 e (hin e he).1
    simpa using this
  have hnew : left.filter (fun e => decide (e.born ≥ c)) = [] := by
    rw [List.filter_eq_nil_iff]
    intro e he
    have := h2 e (hin e he).1
    simp; omega
  have hlen : left.length = todo.length := by have := congrArg List.length h5; simpa using this
  by_cases he : todo = []
  · left
    refine ⟨he, ?_⟩
    subst he
    have hnil : left = [] := List.eq_nil_of_length_eq_zero (by simpa using hlen)
    subst hnil
    simp only [Instr.next, Sem.run_bind, hg, Result.andThen_ok, run_getMap h1, hcond, List.size_toArray, hleft]
    simp [Question.forced]
  · right
    have hne : left ≠ [] := by
      intro e; rw [e] at hlen; exact he (List.eq_nil_of_length_eq_zero (by simpa using hlen.symm))
    have hpos : 0 < left.length := List.length_pos_iff.2 hne
    -- the number that is drawn
    obtain ⟨j, wd, hj, hd, hheap, hos⟩ : ∃ j wd, j < left.length ∧ (choose (.mapNext left.length)).run P w = .ok j wd ∧ wd.heap = w.heap ∧ Only [] w wd := by
      rw [run_choose]
      by_cases hf : (Question.mapNext left.length).forced = true
      · rw [if_pos hf]; exact ⟨0, w, hpos, rfl, rfl, Only.refl _ _⟩
      · rw [if_neg hf]; exact ⟨_, _, Nat.mod_lt _ hpos, rfl, rfl, Only.drew w⟩
    obtain ⟨ej, hej⟩ : ∃ ej, left[j]? = some ej := ⟨_, List.getElem?_eq_getElem hj⟩
    have htj : ∃ a v, todo[j]? = some (a, v) ∧ ej.key = κ a ∧ ej.val = v := by
      have e1 : (left.map (fun e => (e.key, e.val)))[j]? = (todo.map (fun p => (κ p.1, p.2)))[j]? := by rw [h5]
      rw [List.getElem?_map, List.getElem?_map, hej] at e1
      cases ht : todo[j]? with
      | none => rw [ht] at e1; simp at e1
      | some p => rw [ht] at e1; simp at e1; exact ⟨p.1, p.2, rfl, e1.1, e1.2⟩
    obtain ⟨a, v, ht, hka, hva⟩ := htj
    have hlt' : it < wd.heap.size := by rw [hheap]; exact hlt
    refine ⟨j, a, v, { wd with heap := wd.heap.setIfInBounds it (.mapIter (some m) c (seen.push ej.born) c) }, ht, ?_, ?_, ?_, by simp [hheap]⟩
    · simp only [Instr.next, Sem.run_bind, hg, Result.andThen_ok, run_getMap h1, hcond, List.size_toArray, hleft]
      have hcand : ((if (Array.filter (fun x => decide (x.born < c)) left.toArray 0 left.length).isEmpty = true then #[none] else #[]) ++ Array.map some (Array.filter (fun x => decide (x.born < c)) left.toArray 0 left.length ++ Array.filter (fun x => decide (x.born ≥ c)) left.toArray 0 left.length)) = (left.map some).toArray := by
        have e1 : Array.filter (fun x => decide (x.born < c)) left.toArray 0 left.length = left.toArray := by
          have : (Array.filter (fun x => decide (x.born < c)) left.toArray 0 left.length) = (left.filter (fun x => decide (x.born < c))).toArray := by simp
          rw [this, hold]
        have e2 : Array.filter (fun x => decide (x.born ≥ c)) left.toArray 0 left.length = #[] := by
          have : (Array.filter (fun x => decide (x.born ≥ c)) left.toArray 0 left.length) = (left.filter (fun x => decide (x.born ≥ c))).toArray := by simp
          rw [this, hnew]
        rw [e1, e2]
        simp [hne]
      simp only [hcand, Bool.false_eq_true, if_false, List.size_toArray, List.length_map, hcond, Sem.run_bind, hd, Result.andThen_ok]
      have hget : (left.map some).toArray[j]? = some (some ej) := by simp [hej]
      simp only [hget]
      have hwd : wd.heap[it]? = some (.mapIter (some m) c seen c) := by rw [hheap]; exact h4
      simp [setObj, Sem.run, hwd, hka, hva]
    · have hne' : it ≠ m := by
        intro e; subst e
        unfold Mp at h1; rw [h4] at h1; simp at h1
      refine ⟨es, c, seen.push ej.born, ?_, h2, h3, by simp [hlt'], ?_⟩
      · unfold Mp
        simp only
        rw [Array.getElem?_setIfInBounds_ne hne', hheap]
        exact h1
      · have hfil : es.filter (fun e => !(seen.push ej.born).contains e.born) = left.eraseIdx j := by
          have e1 : es.filter (fun e => !(seen.push ej.born).contains e.born) = left.filter (fun e => decide (e.born ≠ ej.born)) := by
            rw [← hL, List.filter_filter]
            apply List.filter_congr
            intro e _
            by_cases e2 : e.born = ej.born
            · simp [e2]
            · simp [e2]
          rw [e1]
          have hnl : (left.map (·.born)).Nodup := by
            rw [← hL]
            exact h3.sublist (List.Sublist.map _ List.filter_sublist)
          exact erase_born hnl hej
        rw [hfil]
        unfold ents at h5 ⊢
        rw [map_erase, map_erase, h5]
    · exact ⟨hos.os, hos.tape, hos.output, by simp [hheap], fun k hk hn => by
        have : k ≠ it := by simpa using hn
        simp only
        rw [Array.getElem?_setIfInBounds_ne (Ne.symm this), hheap]⟩

theorem WL.next {it m : Nat} {x : Operand} {todo : List (α × Value)} (hg : gdB ops E gg = some true) (hd : Nat.blt d n = true)
    (hx : opv E x = some (.pointer (some ⟨it, 0, none⟩))) (hi : Iter κ w it m todo)
    (h0 : todo = [] → WL P ops Q l n D ((d, .tuple #[.bool false]) :: E) w)
    (h1 : ∀ j a v w', todo[j]? = some (a, v) → Iter κ w' it m (todo.eraseIdx j) → Only [it] w w' → w'.heap.size = w.heap.size → WL P ops Q l n D ((d, .tuple #[.bool true, κ a, v]) :: E) w') :
    WL P ops Q (⟨some d, .next x false, ty, pos, aft, gg⟩ :: l) n D E w := by
  rcases run_next (P := P) (b := ty) hi with ⟨e, hr⟩ | ⟨j, a, v, w', hj, hr, h2, h3, h4⟩
  · exact WL.val hg hd (fun a' ha => by simp [execOp, ha.ev hx, hr]) (h0 e)
  · exact WL.val (w' := w') hg hd (fun a' ha => by simp [execOp, ha.ev hx, hr]) (h1 j a v w' hj h2 h3 h4)
end
end Go.K

namespace Go.K
/-! ### regions that draw their order, with operations that write or make memory: the plain ones may be taken first -/
abbrev Cls := List (Nat × (World → Prop))
def QF : Exit → Act → World → Prop := fun _ _ _ => False

def wpAnyC (P : Program) (ops : Array Oper) (Qn : Act → World → Prop) (C : Cls) : Nat → Array Bool → Act → World → Prop
  | 0, listed, a, w => Region.ready .any ops listed = [] ∧ Qn a w
  | f + 1, listed, a, w => (Region.ready .any ops listed = [] → Qn a w) ∧
    ∀ i ∈ Region.ready .any ops listed, wpOp P ops QF i (fun a' w' => (∀ p ∈ C, Region.waitsFor .any ops i p.1 = false → p.2 w → p.2 w') ∧ wpAnyC P ops Qn C f (listed.setIfInBounds i true) a' w') a w

def YieldsC (P : Program) (ops : Array Oper) (Ci : World → Prop) (o : Oper) (v : Value) (a : Act) : Prop :=
  (Region.wanted o (yielded ops a.tmps) = true ∧ ∀ w, Ci w → ((execOp a.eval o).run P w = .ok (.value v) w ∨ ((execOp a.eval o).run P w = .ok .skip w ∧ v = undef) ∨
    ∃ f args, (execOp a.eval o).run P w = .ok (.enter f args) w ∧ Calls P f args w (fun e w'' => e = .returned v ∧ w'' = w))) ∨
  (Region.wanted o (yielded ops a.tmps) = false ∧ v = undef)

section
variable {P : Program} {ops : Array Oper} {Qn : Act → World → Prop}

theorem letsOut_QF : ¬ LetsOut QF := fun ⟨_, _, h⟩ => h

theorem YieldsC.wpOp {i : Nat} {o : Oper} {v : Value} {a : Act} {w : World} {Ci : World → Prop} (hi : ops[i]? = some o) (hy : YieldsC P ops Ci o v a) (hw : Ci w) {K : Act → World → Prop} (h : K (a.put o.dst v) w) : wpOp P ops QF i K a w := by
  unfold Go.wpOp
  simp only [hi]
  rcases hy with ⟨hg, hv⟩ | ⟨hg, rfl⟩
  · simp only [hg, if_true]
    left
    rcases hv w hw with h5 | ⟨h5, h6⟩ | ⟨f, args, h5, hc⟩
    · simp only [Oper.wp, h5, Oper.upon_value]; exact h
    · simp only [Oper.wp, h5, Oper.upon_skip]; rw [← h6]; exact h
    · simp only [Oper.wp, h5, Oper.upon_enter]
      exact hc.mono fun e w'' ⟨he, hw''⟩ => by subst he; subst hw''; exact h
  · simp only [hg, Bool.false_eq_true, if_false]; exact h

theorem YieldsC.of_same {Ci : World → Prop} {o : Oper} {v : Value} {a a' : Act} (hy : YieldsC P ops Ci o v a) (he : execOp a'.eval o = execOp a.eval o)
    (hw : Region.wanted o (yielded ops a'.tmps) = Region.wanted o (yielded ops a.tmps)) : YieldsC P ops Ci o v a' := by
  unfold YieldsC at *
  rw [he, hw]
  exact hy

theorem wpOp_putC {j : Nat} {oi oj : Oper} {v : Value} {Ci : World → Prop} (hj : ops[j]? = some oj) (hap : oi.apart ops oj = true)
    (hsi : ∀ cs b, oi.op ≠ .select cs b) (hsj : ∀ cs b, oj.op ≠ .select cs b) {K : Act → World → Prop} {a : Act} {w : World}
    (hy : YieldsC P ops Ci oi v a) (h : wpOp P ops QF j K (a.put oi.dst v) w) :
    wpOp P ops QF j (fun a' w' => YieldsC P ops Ci oi v a' ∧ K (a'.put oi.dst v) w') a w := by
  obtain ⟨h1, h2, h3⟩ := Oper.apart_spec hap
  have keep : ∀ (a : Act), YieldsC P ops Ci oi v a → ∀ u, YieldsC P ops Ci oi v (a.put oj.dst u) := fun a hy u =>
    hy.of_same (execOp_put oi hsi a oj.dst u h3) (wanted_put oi a oj.dst u h3)
  have keepD : ∀ (a : Act) (D : List Deferred), YieldsC P ops Ci oi v a → YieldsC P ops Ci oi v { a with defers := D } := fun a D hy =>
    hy.of_same (by have : ({ a with defers := D } : Act).eval = a.eval := by funext x; cases x <;> rfl
                   rw [this]) rfl
  unfold wpOp at *
  simp only [hj] at *
  rw [wanted_put oj a oi.dst v h1] at h
  split
  · rename_i hw
    simp only [hw, if_true] at h
    rcases h with h | h
    · left
      unfold Oper.wp at *
      rw [execOp_put oj hsj a oi.dst v h1] at h
      generalize (execOp a.eval oj).run P w = r at *
      cases r with
      | ok n w' =>
        cases n <;> simp only [Oper.upon] at h ⊢
        case value u => exact ⟨keep a hy u, by rw [← Act.put_comm a v u h2]; exact h⟩
        case skip => exact ⟨keep a hy _, by rw [← Act.put_comm a v undef h2]; exact h⟩
        case defer dd =>
          refine ⟨keep _ (keepD a _ hy) _, ?_⟩
          have e : ({ a.put oi.dst v with defers := dd :: (a.put oi.dst v).defers } : Act) = ({ a with defers := dd :: a.defers } : Act).put oi.dst v := by
            cases oi.dst <;> simp [Act.put]
          rw [e, Act.put_comm _ v undef h2] at h
          exact h
        case enter f args =>
          refine h.mono fun e w'' he => ?_
          cases e with
          | returned u => exact ⟨keep a hy u, by rw [← Act.put_comm a v u h2]; exact he⟩
          | panicked ch => exact he
          | outgrown => exact he
        case row row args =>
          exact Rows.mono h fun u w'' he => ⟨keep a hy u, by rw [← Act.put_comm a v u h2]; exact he⟩
      | halt x w' => cases x <;> simp only [Oper.upon] at h ⊢ <;> exact h
    · exact absurd h.2 letsOut_QF
  · rename_i hw
    simp only [hw] at h
    exact ⟨keep a hy _, by rw [← Act.put_comm a v undef h2]; exact h⟩

theorem wpAnyC_weak {C C' : Cls} (hs : ∀ p ∈ C', p ∈ C) : ∀ (f : Nat) (listed : Array Bool) (a : Act) (w : World), wpAnyC P ops Qn C f listed a w → wpAnyC P ops Qn C' f listed a w
  | 0, _, _, _, h => h
  | f + 1, _, _, _, h => ⟨h.1, fun i hi => wpOp_mono (fun _ _ h' => ⟨fun p hp => h'.1 p (hs p hp), wpAnyC_weak hs f _ _ _ h'.2⟩) (h.2 i hi)⟩
theorem wpAnyC_triv {C : Cls} {i : Nat} : ∀ (f : Nat) (listed : Array Bool) (a : Act) (w : World), wpAnyC P ops Qn C f listed a w → wpAnyC P ops Qn ((i, fun _ => True) :: C) f listed a w
  | 0, _, _, _, h => h
  | f + 1, _, _, _, h => ⟨h.1, fun j hj => wpOp_mono (fun _ _ h' => ⟨fun p hp => by
      rcases List.mem_cons.1 hp with e | hp
      · subst e; intro _ _; trivial
      · exact h'.1 p hp, wpAnyC_triv f _ _ _ h'.2⟩) (h.2 j hj)⟩

theorem wpAnyC_first {i : Nat} {oi : Oper} {v : Value} {Ci : World → Prop} {C : Cls} (hi : ops[i]? = some oi) (hsel : ∀ (j : Nat) (o : Oper) cs b, ops[j]? = some o → o.op ≠ .select cs b) :
    ∀ (f : Nat) (listed : Array Bool) (a : Act) (w : World),
      (∀ j oj, ops[j]? = some oj → j ≠ i → listed.getD j true = false → (∀ e ∈ oj.after, Region.binds .any e = true → e.on ≠ i) → oi.apart ops oj = true) →
      i ∈ Region.ready .any ops listed → YieldsC P ops Ci oi v a → Ci w →
      wpAnyC P ops Qn ((i, Ci) :: C) f (listed.setIfInBounds i true) (a.put oi.dst v) w → wpAnyC P ops Qn C (f + 1) listed a w := by
  intro f
  induction f with
  | zero =>
    intro listed a w _ hr hy hw H
    refine ⟨fun h => (by rw [h] at hr; cases hr), fun j hj => ?_⟩
    by_cases hji : j = i
    · subst hji; exact hy.wpOp hi hw ⟨fun _ _ _ h => h, H⟩
    · have := ready_mono hj hji
      rw [H.1] at this
      cases this
  | succ f ih =>
    intro listed a w hfree hr hy hw H
    refine ⟨fun h => (by rw [h] at hr; cases hr), fun j hj => ?_⟩
    by_cases hji : j = i
    · subst hji
      exact hy.wpOp hi hw ⟨fun _ _ _ h => h, wpAnyC_weak (fun p hp => List.mem_cons_of_mem _ hp) _ _ _ _ H⟩
    · have h1 := H.2 j (ready_mono hj hji)
      obtain ⟨hjun, oj, hoj, hall⟩ := mem_ready.1 hj
      have hnot : ∀ e ∈ oj.after, Region.binds .any e = true → e.on ≠ i := fun e he hb heq => by
        have h1 := hall e he hb
        have h0 := (mem_ready.1 hr).1
        rw [heq] at h1
        rcases Nat.lt_or_ge i listed.size with h' | h'
        · simp [h'] at h0 h1; rw [h0] at h1; cases h1
        · simp [Array.getElem?_eq_none h'] at h1
      have hwf : Region.waitsFor .any ops j i = false := by
        cases hq : Region.waitsFor .any ops j i with
        | false => rfl
        | true =>
          obtain ⟨oj', hoj', e, he, hb, hon⟩ := Region.waitsFor_spec hq
          have : oj' = oj := Option.some.inj (hoj'.symm.trans hoj)
          subst this
          exact absurd hon (hnot e he hb)
      have h2 := wpOp_putC hoj (hfree j oj hoj hji hjun hnot) (fun cs b => hsel i oi cs b hi) (fun cs b => hsel j oj cs b hoj) hy h1
      have hfree' : ∀ k ok, ops[k]? = some ok → k ≠ i → (listed.setIfInBounds j true).getD k true = false →
          (∀ e ∈ ok.after, Region.binds .any e = true → e.on ≠ i) → oi.apart ops ok = true := fun k ok hk hki hun hno => by
        refine hfree k ok hk hki ?_ hno
        by_cases hjk : j = k
        · subst hjk; exact hjun
        · rw [getD_set_ne true hjk] at hun; exact hun
      refine wpOp_mono (fun a' w' h3 => ?_) h2
      obtain ⟨hy', hpres, hnext⟩ := h3
      refine ⟨fun p hp => hpres p (List.mem_cons_of_mem _ hp), ?_⟩
      refine ih (listed.setIfInBounds j true) a' w' hfree' (ready_mono hr (Ne.symm hji)) hy' (hpres (i, Ci) (List.mem_cons_self) hwf hw) ?_
      rw [Array.setIfInBounds_comm _ _ hji]
      exact hnext

theorem wpOp_ofQF {Q : Exit → Act → World → Prop} {i : Nat} {K : Act → World → Prop} {a : Act} {w : World} (h1 : wpOp P ops QF i K a w) : wpOp P ops Q i K a w := by
  unfold wpOp at h1 ⊢
  split
  · rename_i hn; simpa only [hn] using h1
  · rename_i o ho
    simp only [ho] at h1
    split
    · rename_i hw
      simp only [hw, if_true] at h1
      rcases h1 with h1 | h1
      · left
        unfold Oper.wp at *
        generalize (execOp a.eval o).run P w = r at *
        cases r with
        | ok n w' =>
          cases n <;> simp only [Oper.upon] at h1 ⊢ <;> first | exact h1 | skip
          exact Calls.mono h1 fun e w'' he => by
            cases e with
            | returned u => exact he
            | panicked ch => exact he.elim
            | outgrown => exact absurd he letsOut_QF
        | halt x w' => cases x <;> simp only [Oper.upon] at h1 ⊢ <;> exact h1.elim
      · exact absurd h1.2 letsOut_QF
    · rename_i hw
      simp only [hw] at h1
      exact h1
theorem wpAny_of_C {Q : Exit → Act → World → Prop} (hQ : ∀ a w, Qn a w → Q .normal a w) : ∀ (f : Nat) (listed : Array Bool) (a : Act) (w : World), wpAnyC P ops Qn [] f listed a w → wpAny P .any ops Q f listed a w
  | 0, _, _, _, h => ⟨h.1, hQ _ _ h.2⟩
  | f + 1, _, _, _, h => ⟨fun h0 => hQ _ _ (h.1 h0), fun i hi => wpOp_ofQF (wpOp_mono (fun a' w' h' => wpAny_of_C hQ f _ a' w' h'.2) (h.2 i hi))⟩

theorem wp_region_C {id : Nat} {Q : Exit → Act → World → Prop} {a : Act} {w : World} (hm : P.follows .mixedOrders = true)
    (h : wpAnyC P ops (fun a' w' => Q .normal a' w') [] ops.size (Array.replicate ops.size false) a w.drew) : (Code.region id ops true).wp P Q a w :=
  wp_region_any hm (wpAny_of_C (fun _ _ h => h) _ _ _ _ h)
end

/-! ### in terms of known temporaries -/
def MX (P : Program) (ops : Array Oper) (Qn : Act → World → Prop) (C : Cls) (f : Nat) (listed : Array Bool) (n : Nat) (D : List Deferred) (E : Env) (w : World) : Prop :=
  ∀ a, Fits n D E a → wpAnyC P ops Qn C f listed a w

def mayFirst (ops : Array Oper) (listed : Array Bool) (i : Nat) : Bool :=
  Region.noSelect ops && (Region.ready .any ops listed).contains i && Region.free .any ops listed i

section
variable {P : Program} {ops : Array Oper} {Qn : Act → World → Prop} {C : Cls} {f n m : Nat} {listed : Array Bool} {D : List Deferred} {E : Env} {w : World} {i : Nat} {o : Oper} {l : List Oper}
theorem CW.mixed {id : Nat} {Q : Exit → Act → World → Prop} (hm : P.follows .mixedOrders = true)
    (h : ∀ w', w'.heap = w.heap → Only [] w w' → MX P l.toArray (fun a' w' => Q .normal a' w') [] l.length (Array.replicate l.length false) n D E w') : CW P (.region id l.toArray true) Q n D E w :=
  fun a ha => wp_region_C hm (by simpa using h w.drew rfl (Only.drew w) a ha)

theorem MX.done (h0 : Region.ready .any ops listed = []) (h : ∀ a, Fits n D E a → Qn a w) : MX P ops Qn C 0 listed n D E w := fun a ha => ⟨h0, h a ha⟩
theorem MX.sub (E' : Env) (hs : K.sub E' E) (h : MX P ops Qn C f listed n D E' w) : MX P ops Qn C f listed n D E w := fun a ha => h a (ha.sub hs)

theorem MX.quiet {v : Value} (Ci : World → Prop) (i : Nat) (hB : mayFirst ops listed i = true) (hi : ops.toList[i]? = some o) (hg : gdB ops E o.guard = some true) (hd : dstOk o.dst n = true) (hw : Ci w)
    (hrun : ∀ w', Ci w' → ∀ a, Fits n D E a → (execOp a.eval o).run P w' = .ok (.value v) w')
    (h : MX P ops Qn ((i, Ci) :: C) f (listed.setIfInBounds i true) n D (putE o.dst v E) w) : MX P ops Qn C (f + 1) listed n D E w := by
  simp only [mayFirst, Bool.and_eq_true] at hB
  intro a ha
  have hi' : ops[i]? = some o := by simpa using hi
  exact wpAnyC_first hi' (Region.noSelect_spec hB.1.1) f listed a w (Region.free_spec hi' hB.2) (by simpa using hB.1.2)
    (.inl ⟨wanted_gdB hg ha, fun w' hw' => .inl (hrun w' hw' a ha)⟩) hw (h _ (ha.putE hd v))
theorem MX.quietCall {v : Value} {g : FuncId} {args : Array Value} (Ci : World → Prop) (i : Nat) (hB : mayFirst ops listed i = true) (hi : ops.toList[i]? = some o) (hg : gdB ops E o.guard = some true) (hd : dstOk o.dst n = true) (hw : Ci w)
    (hrun : ∀ w', Ci w' → ∀ a, Fits n D E a → (execOp a.eval o).run P w' = .ok (.enter g args) w')
    (hc : ∀ w', Ci w' → Ret P g args w' fun u w'' => u = v ∧ w'' = w')
    (h : MX P ops Qn ((i, Ci) :: C) f (listed.setIfInBounds i true) n D (putE o.dst v E) w) : MX P ops Qn C (f + 1) listed n D E w := by
  simp only [mayFirst, Bool.and_eq_true] at hB
  intro a ha
  have hi' : ops[i]? = some o := by simpa using hi
  exact wpAnyC_first hi' (Region.noSelect_spec hB.1.1) f listed a w (Region.free_spec hi' hB.2) (by simpa using hB.1.2)
    (.inl ⟨wanted_gdB hg ha, fun w' hw' => .inr (.inr ⟨g, args, hrun w' hw' a ha, Calls.mono (hc w' hw') fun e w'' ⟨u, he, hu, hw⟩ => ⟨by rw [he, hu], hw⟩⟩)⟩) hw (h _ (ha.putE hd v))

def pix (P : Program) (ops : Array Oper) (n : Nat) : List Nat → Array Bool → Env → Option (Array Bool × Env)
  | [], L, E => some (L, E)
  | i :: r, L, E =>
    match mayFirst ops L i, ops.toList[i]? with
    | true, some o =>
      match gdB ops E o.guard, dstOk o.dst n with
      | some true, true =>
        match pstep P E o.op with
        | some v => pix P ops n r (L.setIfInBounds i true) (putE o.dst v E)
        | none => none
      | some false, true => pix P ops n r (L.setIfInBounds i true) (putE o.dst undef E)
      | _, _ => none
    | _, _ => none
theorem MX.pix : ∀ (is : List Nat) {f : Nat} {L L' : Array Bool} {E E' : Env}, pix P ops n is L E = some (L', E') → MX P ops Qn C f L' n D E' w → MX P ops Qn C (is.length + f) L n D E w
  | [], f, L, L', E, E', h, hw => by
    simp only [K.pix, Option.some.injEq, Prod.mk.injEq] at h
    obtain ⟨rfl, rfl⟩ := h
    simpa using hw
  | i :: r, f, L, L', E, E', h, hw => by
    simp only [K.pix] at h
    rw [List.length_cons, show r.length + 1 + f = (r.length + f) + 1 from by omega]
    split at h
    · rename_i o hB ho
      split at h
      · rename_i hg hd
        split at h
        · rename_i v hp
          refine MX.quiet (fun _ => True) i hB ho hg hd trivial (fun w' _ a ha => pstep_ok hp ha w') ?_
          exact fun a ha => wpAnyC_triv _ _ _ _ (MX.pix r h hw a ha)
        · cases h
      · rename_i hg hd
        intro a ha
        simp only [mayFirst, Bool.and_eq_true] at hB
        have hi' : ops[i]? = some o := by simpa using ho
        exact wpAnyC_first hi' (Region.noSelect_spec hB.1.1) _ L a w (Region.free_spec hi' hB.2) (by simpa using hB.1.2)
          (.inr ⟨wanted_gdB hg ha, rfl⟩) trivial (wpAnyC_triv (i := i) _ _ _ _ (MX.pix r h hw _ (ha.putE hd undef)))
      · cases h
    · cases h
theorem MX.to (is ts : List Nat) {L' : Array Bool} {E' : Env} (hf : is.length + f = m) (h : ((K.pix P ops n is listed E).bind fun p => (sel ts p.2).map fun e => (p.1, e)) = some (L', E')) (hw : MX P ops Qn C f L' n D E' w) : MX P ops Qn C m listed n D E w := by
  subst hf
  cases hp : K.pix P ops n is listed E with
  | none => rw [hp] at h; cases h
  | some p =>
    rw [hp] at h
    simp only [Option.bind_some] at h
    cases hs : sel ts p.2 with
    | none => rw [hs] at h; cases h
    | some e =>
      rw [hs] at h
      simp only [Option.map_some, Option.some.injEq, Prod.mk.injEq] at h
      obtain ⟨h1, h2⟩ := h
      subst h1; subst h2
      exact MX.pix is hp (MX.sub _ (sel_sub hs) hw)

theorem MX.loud (i : Nat) (hr : Region.ready .any ops listed = [i]) (hi : ops.toList[i]? = some o)
    (h : ∀ K : Act → World → Prop, (∀ w' E', (∀ p ∈ C, Region.waitsFor .any ops i p.1 = false → p.2 w → p.2 w') → MX P ops Qn C f (listed.setIfInBounds i true) n D E' w' → ∀ a, Fits n D E' a → K a w') →
      WL P #[] (fun e a w => e = .normal ∧ K a w) [⟨o.dst, o.op, o.type, o.pos, o.after, none⟩] n D E w) (hg : gdB ops E o.guard = some true) : MX P ops Qn C (f + 1) listed n D E w := by
  intro a ha
  have hi' : ops[i]? = some o := by simpa using hi
  refine ⟨fun h0 => (by rw [h0] at hr; cases hr), fun j hj => ?_⟩
  rw [hr] at hj
  have : j = i := by simpa using hj
  subst this
  have h1 := h (fun a' w' => (∀ p ∈ C, Region.waitsFor .any ops j p.1 = false → p.2 w → p.2 w') ∧ wpAnyC P ops Qn C f (listed.setIfInBounds j true) a' w')
    (fun w' E' hp hm a' ha' => ⟨hp, hm a' ha'⟩) a ha
  unfold wpOp
  simp only [hi', wanted_gdB hg ha, if_true]
  unfold wpList at h1
  rw [if_pos (by simp [Region.wanted])] at h1
  rcases h1 with h1 | h1
  · left
    unfold Oper.wp at *
    have he : execOp a.eval ⟨o.dst, o.op, o.type, o.pos, o.after, none⟩ = execOp a.eval o := rfl
    rw [he] at h1
    generalize (execOp a.eval o).run P w = r at *
    have hK : ∀ a' w', wpList P #[] (fun e a w' => e = .normal ∧ (∀ p ∈ C, Region.waitsFor .any ops j p.1 = false → p.2 w → p.2 w') ∧ wpAnyC P ops Qn C f (listed.setIfInBounds j true) a w') [] a' w' →
        (∀ p ∈ C, Region.waitsFor .any ops j p.1 = false → p.2 w → p.2 w') ∧ wpAnyC P ops Qn C f (listed.setIfInBounds j true) a' w' := fun a' w' h => by unfold wpList at h; exact h.2
    cases r with
    | ok nx w' =>
      cases nx <;> simp only [Oper.upon] at h1 ⊢ <;> first | exact hK _ _ h1 | skip
      · exact Calls.mono h1 fun e w'' he => by
          cases e with
          | returned u => exact hK _ _ he
          | panicked ch => exact absurd he.1 (by simp)
          | outgrown => obtain ⟨_, _, hx, _⟩ := he; cases hx
      · exact Rows.mono h1 fun _ _ he => hK _ _ he
    | halt x w' => cases x <;> simp only [Oper.upon] at h1 ⊢ <;> first | exact h1.elim | exact absurd h1.1 (by simp)
  · obtain ⟨_, _, _, hx, _⟩ := h1; cases hx
end
end Go.K

namespace Go.K
section
variable {P : Program} {ops : Array Oper} {Qn : Act → World → Prop} {C : Cls} {f n m : Nat} {listed L' : Array Bool} {D : List Deferred} {E : Env} {w w' : World} {i : Nat} {o : Oper} {l : List Oper}
variable {d : Nat} {ty : TypeId} {pos : String} {aft : Array Edge} {gg : Option (Nat × Bool)}

def stab (ops : Array Oper) (j : Nat) (C : Cls) (w w' : World) : Prop := ∀ p ∈ C, Region.waitsFor .any ops j p.1 = false → p.2 w → p.2 w'
theorem st0 {j : Nat} : stab ops j [] w w' := fun _ h => by cases h
theorem stY {j k : Nat} {Ci : World → Prop} (h : Region.waitsFor .any ops j k = true) (r : stab ops j C w w') : stab ops j ((k, Ci) :: C) w w' := fun p hp hn => by
  rcases List.mem_cons.1 hp with e | hp
  · subst e; simp only [h] at hn; cases hn
  · exact r p hp hn
theorem stN {j k : Nat} {Ci : World → Prop} (h : Ci w → Ci w') (r : stab ops j C w w') : stab ops j ((k, Ci) :: C) w w' := fun p hp hn => by
  rcases List.mem_cons.1 hp with e | hp
  · subst e; exact h
  · exact r p hp hn

theorem WL.fin {K : Act → World → Prop} {E₀ : Env} {w₀ : World} (hK : ∀ w' E', (∀ p ∈ C, Region.waitsFor .any ops i p.1 = false → p.2 w₀ → p.2 w') → MX P ops Qn C f L' n D E' w' → ∀ a, Fits n D E' a → K a w')
    (hs : stab ops i C w₀ w) (hm : MX P ops Qn C f L' n D E₀ w) : WL P #[] (fun e a w => e = .normal ∧ K a w) [] n D E₀ w :=
  WL.nil fun a ha => ⟨rfl, hK _ _ hs hm a ha⟩

theorem MX.load1 {t : TypeId} {x : Operand} {b o : Nat} {cs : List Value} {T : TypeId} {v : Value} (i : Nat) (hB : mayFirst ops listed i = true) (hi : ops.toList[i]? = some ⟨some d, .load t x, ty, pos, aft, gg⟩) (hL : listed.setIfInBounds i true = L') (hg : gdB ops E gg = some true)
    (ht : aggB P t = some false) (hd : Nat.blt d n = true) (hx : opv E x = some (.pointer (some ⟨b, o, none⟩))) (hb : Blk w b cs T) (hv : cs[o]? = some v)
    (h : MX P ops Qn ((i, fun w => Blk w b cs T) :: C) f L' n D ((d, v) :: E) w) : MX P ops Qn C (f + 1) listed n D E w := by
  subst hL
  exact MX.quiet (fun w => Blk w b cs T) i hB hi hg hd hb (fun w' hb' a ha => by simp [execOp, ha.ev hx, Instr.loadAt, Instr.sureAddr, run_loadVar1 ht hb' hv]) h
theorem MX.loadN {t : TypeId} {x : Operand} {b o k : Nat} {cs vs : List Value} {T : TypeId} (i : Nat) (hB : mayFirst ops listed i = true) (hi : ops.toList[i]? = some ⟨some d, .load t x, ty, pos, aft, gg⟩) (hL : listed.setIfInBounds i true = L') (hg : gdB ops E gg = some true)
    (ht : aggB P t = some true) (hm : sizeB P t = some k) (hd : Nat.blt d n = true) (hx : opv E x = some (.pointer (some ⟨b, o, none⟩))) (hb : Blk w b cs T) (hv : (cs.drop o).take k = vs) (hl : vs.length = k)
    (h : MX P ops Qn ((i, fun w => Blk w b cs T) :: C) f L' n D ((d, .agg vs.toArray) :: E) w) : MX P ops Qn C (f + 1) listed n D E w := by
  subst hL
  exact MX.quiet (fun w => Blk w b cs T) i hB hi hg hd hb (fun w' hb' a ha => by simp [execOp, ha.ev hx, Instr.loadAt, Instr.sureAddr, run_loadVarN ht hm hb' hv hl]) h
theorem MX.call {x : Operand} {args : Array Operand} {tys : Array TypeId} {g : FuncId} {caps vs all : List Value} {v : Value} (Ci : World → Prop) (i : Nat) (hB : mayFirst ops listed i = true) (hi : ops.toList[i]? = some ⟨some d, .call ⟨.value x, args, tys⟩, ty, pos, aft, gg⟩) (hL : listed.setIfInBounds i true = L') (hg : gdB ops E gg = some true)
    (hd : Nat.blt d n = true) (hx : opv E x = some (.func (.func g) #[] caps.toArray)) (hv : opvs E args.toList = some vs) (hent : enters P g = true) (hall : vs ++ caps = all)
    (hw : Ci w) (hc : ∀ w', Ci w' → Ret P g all.toArray w' fun u w'' => u = v ∧ w'' = w')
    (h : MX P ops Qn ((i, Ci) :: C) f L' n D ((d, v) :: E) w) : MX P ops Qn C (f + 1) listed n D E w := by
  subst hL
  exact MX.quietCall (g := g) (args := all.toArray) Ci i hB hi hg hd hw (fun w' _ a ha => by
      have e1 := ha.evs hv
      have e2 : Array.map a.eval args = vs.toArray := by apply Array.ext'; simpa using e1
      subst hall
      simp [execOp, resolve, ha.ev hx, e2, Deferred.ofValue, invoke, run_enters hent]) hc h
theorem MX.chg {v : Value} (t : Nat) (v' : Value) (h : find E t = some v) (e : v = v') (hw : MX P ops Qn C f listed n D ((t, v') :: E) w) : MX P ops Qn C f listed n D E w := by
  subst e
  refine fun a ha => hw a ⟨ha.size, ha.defers, fun s u hs => ?_⟩
  simp only [find] at hs
  split at hs
  · rename_i hb
    have := Nat.eq_of_beq_eq_true hb
    subst this
    simp only [Option.some.injEq] at hs
    subst hs
    exact ha.get _ _ h
  · exact ha.get _ _ hs
theorem MX.lookB {α : Type} [DecidableEq α] {κ : α → Value} {kd : TypeDesc} {t kt et mm : Nat} {x y : Operand} {z : Value} {L : List (α × Value)} {a : α} (b : Bool) (i : Nat) (hB : mayFirst ops listed i = true) (hi : ops.toList[i]? = some ⟨some d, .lookup t x y b, ty, pos, aft, gg⟩) (hL : listed.setIfInBounds i true = L') (hg : gdB ops E gg = some true)
    (hd : Nat.blt d n = true) (hk : KeyLaw κ kd) (ht : P.underlying t = some (.map kt et)) (hu : P.underlying kt = some kd) (hz : zeroB P et = some z)
    (hx : opv E x = some (.map (some mm))) (hy : opv E y = some (κ a)) (hm : KMap κ w mm L)
    (h : MX P ops Qn ((i, fun w => KMap κ w mm L) :: C) f L' n D ((d, if b then .tuple #[(look L a).getD z, .bool (look L a).isSome] else (look L a).getD z) :: E) w) : MX P ops Qn C (f + 1) listed n D E w := by
  subst hL
  exact MX.quiet (fun w => KMap κ w mm L) i hB hi hg hd hm (fun w' hm' a' ha => by simp only [execOp, ha.ev hx, ha.ev hy, Sem.run_bind, run_lookup hk ht hu hz hm' a b, Result.andThen_ok, Sem.run_pure]) h

theorem MX.loud2 {o' : Oper} (i j : Nat) (hr : Region.ready .any ops listed = [i, j]) (hi : ops.toList[i]? = some o) (hj : ops.toList[j]? = some o')
    (hgi : gdB ops E o.guard = some true) (hgj : gdB ops E o'.guard = some true)
    (h1 : ∀ K : Act → World → Prop, (∀ w' E', (∀ p ∈ C, Region.waitsFor .any ops i p.1 = false → p.2 w → p.2 w') → MX P ops Qn C f (listed.setIfInBounds i true) n D E' w' → ∀ a, Fits n D E' a → K a w') →
      WL P #[] (fun e a w => e = .normal ∧ K a w) [⟨o.dst, o.op, o.type, o.pos, o.after, none⟩] n D E w)
    (h2 : ∀ K : Act → World → Prop, (∀ w' E', (∀ p ∈ C, Region.waitsFor .any ops j p.1 = false → p.2 w → p.2 w') → MX P ops Qn C f (listed.setIfInBounds j true) n D E' w' → ∀ a, Fits n D E' a → K a w') →
      WL P #[] (fun e a w => e = .normal ∧ K a w) [⟨o'.dst, o'.op, o'.type, o'.pos, o'.after, none⟩] n D E w) : MX P ops Qn C (f + 1) listed n D E w := by
  intro a ha
  refine ⟨fun h0 => (by rw [h0] at hr; cases hr), fun k hk => ?_⟩
  rw [hr] at hk
  have key : ∀ (i : Nat) (o : Oper), ops.toList[i]? = some o → gdB ops E o.guard = some true → (∀ K : Act → World → Prop, (∀ w' E', (∀ p ∈ C, Region.waitsFor .any ops i p.1 = false → p.2 w → p.2 w') → MX P ops Qn C f (listed.setIfInBounds i true) n D E' w' → ∀ a, Fits n D E' a → K a w') →
      WL P #[] (fun e a w => e = .normal ∧ K a w) [⟨o.dst, o.op, o.type, o.pos, o.after, none⟩] n D E w) →
      wpOp P ops QF i (fun a' w' => (∀ p ∈ C, Region.waitsFor .any ops i p.1 = false → p.2 w → p.2 w') ∧ wpAnyC P ops Qn C f (listed.setIfInBounds i true) a' w') a w := by
    intro j o hi hg h
    have hi' : ops[j]? = some o := by simpa using hi
    have h1 := h (fun a' w' => (∀ p ∈ C, Region.waitsFor .any ops j p.1 = false → p.2 w → p.2 w') ∧ wpAnyC P ops Qn C f (listed.setIfInBounds j true) a' w')
      (fun w' E' hp hm a' ha' => ⟨hp, hm a' ha'⟩) a ha
    unfold wpOp
    simp only [hi', wanted_gdB hg ha, if_true]
    unfold wpList at h1
    rw [if_pos (by simp [Region.wanted])] at h1
    rcases h1 with h1 | h1
    · left
      unfold Oper.wp at *
      have he : execOp a.eval ⟨o.dst, o.op, o.type, o.pos, o.after, none⟩ = execOp a.eval o := rfl
      rw [he] at h1
      generalize (execOp a.eval o).run P w = r at *
      have hK : ∀ a' w', wpList P #[] (fun e a w' => e = .normal ∧ (∀ p ∈ C, Region.waitsFor .any ops j p.1 = false → p.2 w → p.2 w') ∧ wpAnyC P ops Qn C f (listed.setIfInBounds j true) a w') [] a' w' →
          (∀ p ∈ C, Region.waitsFor .any ops j p.1 = false → p.2 w → p.2 w') ∧ wpAnyC P ops Qn C f (listed.setIfInBounds j true) a' w' := fun a' w' h => by unfold wpList at h; exact h.2
      cases r with
      | ok nx w' =>
        cases nx <;> simp only [Oper.upon] at h1 ⊢ <;> first | exact hK _ _ h1 | skip
        · exact Calls.mono h1 fun e w'' he => by
            cases e with
            | returned u => exact hK _ _ he
            | panicked ch => exact absurd he.1 (by simp)
            | outgrown => obtain ⟨_, _, hx, _⟩ := he; cases hx
        · exact Rows.mono h1 fun _ _ he => hK _ _ he
      | halt x w' => cases x <;> simp only [Oper.upon] at h1 ⊢ <;> first | exact h1.elim | exact absurd h1.1 (by simp)
    · obtain ⟨_, _, _, hx, _⟩ := h1; cases hx
  rcases List.mem_cons.1 hk with e | hk
  · subst e; exact key _ _ hi hgi h1
  · have e : k = j := by simpa using hk
    subst e; exact key _ _ hj hgj h2

/-! ### strings, numbers, parts of slices -/
theorem WL.index1 {t : TypeId} {x y : Operand} {s : ByteArray} {i : Int} {c : UInt8} (hg : gdB ops E gg = some true) (hd : Nat.blt d n = true) (ht : P.underlying t = some .string)
    (hx : opv E x = some (.string s)) (hy : opv E y = some (.int .i64 i)) (h0 : 0 ≤ i) (hc : s[i.toNat]? = some c) {Q : Exit → Act → World → Prop}
    (h : WL P ops Q l n D ((d, .int .u8 c.toNat) :: E) w) : WL P ops Q (⟨some d, .index t x y, ty, pos, aft, gg⟩ :: l) n D E w :=
  WL.val hg hd (fun a ha => by simp [execOp, ha.ev hx, ha.ev hy, Instr.index, asIntOf, run_underlyingK ht, h0, hc]) h

theorem run_sliceHi {t e : TypeId} {ao : Option Addr} {len cap : Nat} {hi : Int} {sz : Nat} (ht : P.underlying t = some (.slice e)) (hs : sizeB P e = some sz) (h0 : 0 ≤ hi) (h1 : hi ≤ cap) (w : World) :
    (Instr.sliceAt t (.slice ao len cap) none (some (.int .i64 hi)) none).run P w = .ok (.slice (if cap = 0 then ao else ao.map (·.add (0 * sz))) hi.toNat cap) w := by
  simp [Instr.sliceAt, Instr.slice, run_underlyingK ht, Instr.sliceBounds, Instr.sliceBound, asIntOf, h0, h1, run_sizeOf hs]
theorem WL.sliceHi {t e : TypeId} {x y : Operand} {ao : Option Addr} {len cap sz : Nat} {hi : Int} (hg : gdB ops E gg = some true) (hd : Nat.blt d n = true) (ht : P.underlying t = some (.slice e)) (hs : sizeB P e = some sz)
    (hx : opv E x = some (.slice ao len cap)) (hy : opv E y = some (.int .i64 hi)) (h0 : 0 ≤ hi) (h1 : hi ≤ cap) {Q : Exit → Act → World → Prop}
    (h : WL P ops Q l n D ((d, .slice ao hi.toNat cap) :: E) w) : WL P ops Q (⟨some d, .slice t x none (some y) none, ty, pos, aft, gg⟩ :: l) n D E w :=
  WL.val hg hd (fun a ha => by
    have := run_sliceHi (P := P) (ao := ao) (len := len) ht hs h0 h1 w
    have e : (if cap = 0 then ao else ao.map (·.add (0 * sz))) = ao := by
      split
      · rfl
      · cases ao <;> simp [Addr.add]
    rw [e] at this
    simp [execOp, ha.ev hx, ha.ev hy, this]) h
theorem ST.sliceHi {t e : TypeId} {x y : Operand} {ao : Option Addr} {len cap sz : Nat} {hi : Int} (hg : gdB ops E gg = some true) (hd : Nat.blt d n = true) (ht : P.underlying t = some (.slice e)) (hs : sizeB P e = some sz)
    (hx : opv E x = some (.slice ao len cap)) (hy : opv E y = some (.int .i64 hi)) (h0 : 0 ≤ hi) (h1 : hi ≤ cap) {q : Act → Prop}
    (h : ST P ops w q l n D ((d, .slice ao hi.toNat cap) :: E)) : ST P ops w q (⟨some d, .slice t x none (some y) none, ty, pos, aft, gg⟩ :: l) n D E :=
  ST.val hg hd (fun a ha => by
    have := run_sliceHi (P := P) (ao := ao) (len := len) ht hs h0 h1 w
    have e : (if cap = 0 then ao else ao.map (·.add (0 * sz))) = ao := by
      split
      · rfl
      · cases ao <;> simp [Addr.add]
    rw [e] at this
    simp [execOp, ha.ev hx, ha.ev hy, this]) h
theorem MX.sliceHi {t e : TypeId} {x y : Operand} {ao : Option Addr} {len cap sz : Nat} {hi : Int} (i : Nat) (hB : mayFirst ops listed i = true) (hi' : ops.toList[i]? = some ⟨some d, .slice t x none (some y) none, ty, pos, aft, gg⟩) (hL : listed.setIfInBounds i true = L') (hg : gdB ops E gg = some true) (hd : Nat.blt d n = true) (ht : P.underlying t = some (.slice e)) (hs : sizeB P e = some sz)
    (hx : opv E x = some (.slice ao len cap)) (hy : opv E y = some (.int .i64 hi)) (h0 : 0 ≤ hi) (h1 : hi ≤ cap)
    (h : MX P ops Qn ((i, fun _ => True) :: C) f L' n D ((d, .slice ao hi.toNat cap) :: E) w) : MX P ops Qn C (f + 1) listed n D E w := by
  subst hL
  exact MX.quiet (fun _ => True) i hB hi' hg hd trivial (fun w' _ a ha => by
    have := run_sliceHi (P := P) (ao := ao) (len := len) ht hs h0 h1 w'
    have e : (if cap = 0 then ao else ao.map (·.add (0 * sz))) = ao := by
      split
      · rfl
      · cases ao <;> simp [Addr.add]
    rw [e] at this
    simp [execOp, ha.ev hx, ha.ev hy, this]) h

def CL (P : Program) (c : Code) (Q : Exit → Act → World → Prop) (n : Nat) (D : List Deferred) (E : Env) (w : World) : Prop :=
  ∀ a, Fits n D E a → ∀ (b : Frame) (k : List Item) (cs : List Frame), ∃ e a' w', Q e a' w' ∧ Arrives P (lone (b.at a (.inLoop c :: k)) cs w) b k cs e a' w'

theorem loop_round {c : Code} {Q : Exit → Act → World → Prop} (h : ∀ K : Act → World → Prop, (∀ E' w', CL P c Q n D E' w' → ∀ a, Fits n D E' a → K a w') → CW P c (Exit.then K Q) n D E w)
    (a : Act) (ha : Fits n D E a) (b : Frame) (k : List Item) (cs : List Frame) : ∃ e a' w', Q e a' w' ∧ Arrives P (lone (b.at a (.code c :: .inLoop c :: k)) cs w) b k cs e a' w' := by
  have h1 := h (fun a w => ∀ (b : Frame) (k : List Item) (cs : List Frame), ∃ e a' w', Q e a' w' ∧ Arrives P (lone (b.at a (.inLoop c :: k)) cs w) b k cs e a' w') (fun _ _ hy a' ha' => hy a' ha') a ha b (.inLoop c :: k) cs
  obtain ⟨e, a₁, w₁, hq, harr⟩ := h1
  cases e with
  | normal =>
    obtain ⟨e₂, a₂, w₂, hq₂, harr₂⟩ := hq b k cs
    exact ⟨e₂, a₂, w₂, hq₂, .of_steps harr harr₂⟩
  | exit id => exact ⟨_, a₁, w₁, hq, .pass (x := .inLoop c) rfl (fun _ _ => .inl (by simp)) harr⟩
  | goto l => exact ⟨_, a₁, w₁, hq, .pass (x := .inLoop c) rfl (fun _ _ => .inl (by simp)) harr⟩
  | ret => exact ⟨_, a₁, w₁, hq, .pass (x := .inLoop c) rfl (fun _ _ => .inl (by simp)) harr⟩
  | panic ch => exact ⟨_, a₁, w₁, hq, .pass (x := .inLoop c) rfl (fun _ _ => .inl (by simp)) harr⟩
  | outgrown => exact ⟨_, a₁, w₁, hq, .pass (x := .inLoop c) rfl (fun _ _ => .inl (by simp)) harr⟩
theorem CW.round1 {c : Code} {Q : Exit → Act → World → Prop} (h : ∀ K : Act → World → Prop, (∀ E' w', CL P c Q n D E' w' → ∀ a, Fits n D E' a → K a w') → CW P c (Exit.then K Q) n D E w) : CW P (.loop c) Q n D E w := fun a ha b k cs =>
  let ⟨e, a', w', hq, harr⟩ := loop_round h a ha b k cs
  ⟨e, a', w', hq, .of_steps (.one step_loop) harr⟩
theorem CL.round {c : Code} {Q : Exit → Act → World → Prop} (h : ∀ K : Act → World → Prop, (∀ E' w', CL P c Q n D E' w' → ∀ a, Fits n D E' a → K a w') → CW P c (Exit.then K Q) n D E w) : CL P c Q n D E w := fun a ha b k cs =>
  let ⟨e, a', w', hq, harr⟩ := loop_round h a ha b k cs
  ⟨e, a', w', hq, .of_steps (.one step_inLoop) harr⟩
end
end Go.K

