/-
  Rules for walking an elaborated function with a list of known temporaries in place of the whole frame, and block facts in place of cells.
-/
import Derived.Tactics
import Derived.Deep.Quiet
import Derived.Below
import Derived.Laws.AppendOwn
set_option linter.all false
set_option autoImplicit true
set_option relaxedAutoImplicit true
namespace Go.K

abbrev Env := List (Nat × Value)

def find : Env → Nat → Option Value
  | [], _ => none
  | (s, v) :: r, t => match Nat.beq s t with | true => some v | false => find r t

def opv (E : Env) : Operand → Option Value
  | .tmp t => find E t
  | .const v => some v
  | .global g => some (.pointer (some ⟨g, 0, none⟩))
  | .func f => some (.func (.func f) #[] #[])

structure Fits (n : Nat) (D : List Deferred) (E : Env) (a : Act) : Prop where
  size : a.tmps.size = n
  defers : a.defers = D
  get : ∀ t v, find E t = some v → a.tmps.getD t undef = v

section
variable {n : Nat} {D : List Deferred} {E : Env} {a : Act}

theorem Fits.ev (h : Fits n D E a) {x : Operand} {v : Value} (hx : opv E x = some v) : a.eval x = v := by
  cases x with
  | tmp t => exact h.get t v hx
  | const c => simpa [opv, Act.eval] using hx
  | global g => simpa [opv, Act.eval] using hx
  | func f => simpa [opv, Act.eval] using hx

theorem Fits.put (h : Fits n D E a) {d : Nat} (hd : d < n) (v : Value) : Fits n D ((d, v) :: E) (a.put (some d) v) := by
  refine ⟨by simp [Act.put, h.size], by simp [Act.put, h.defers], fun t u ht => ?_⟩
  simp only [find] at ht
  by_cases e : d = t
  · subst e
    rw [show Nat.beq d d = true from Nat.beq_eq.symm ▸ rfl] at ht
    simp only [Option.some.injEq] at ht
    subst ht
    simp [Act.put, Array.getD, h.size, hd]
  · have hb : Nat.beq d t = false := by
      cases hq : Nat.beq d t with
      | false => rfl
      | true => exact absurd (Nat.eq_of_beq_eq_true hq) e
    rw [hb] at ht
    have := h.get t u ht
    simp only [Act.put]
    rw [Array.getD_eq_getD_getElem?] at this ⊢
    rw [Array.getElem?_setIfInBounds_ne e]
    exact this

def sub : Env → Env → Prop
  | [], _ => True
  | (t, v) :: r, E => find E t = some v ∧ sub r E

theorem sub.find {E' E : Env} (h : sub E' E) : ∀ t v, K.find E' t = some v → K.find E t = some v := by
  induction E' with
  | nil => intro t v hv; simp [K.find] at hv
  | cons p r ih =>
    obtain ⟨s, u⟩ := p
    intro t v hv
    simp only [K.find] at hv
    split at hv
    · rename_i hb
      have := Nat.eq_of_beq_eq_true hb
      subst this
      simp only [Option.some.injEq] at hv
      subst hv
      exact h.1
    · exact ih h.2 t v hv

theorem Fits.sub {E' : Env} (h : Fits n D E a) (hs : K.sub E' E) : Fits n D E' a :=
  ⟨h.size, h.defers, fun t v hv => h.get t v (hs.find t v hv)⟩
end

def CW (P : Program) (c : Code) (Q : Exit → Act → World → Prop) (n : Nat) (D : List Deferred) (E : Env) (w : World) : Prop :=
  ∀ a, Fits n D E a → c.wp P Q a w

def WL (P : Program) (ops : Array Oper) (Q : Exit → Act → World → Prop) (l : List Oper) (n : Nat) (D : List Deferred) (E : Env) (w : World) : Prop :=
  ∀ a, Fits n D E a → wpList P ops Q l a w

def putE (d : Option Tmp) (v : Value) (E : Env) : Env :=
  match d with | some t => (t, v) :: E | none => E

def dstOk (d : Option Tmp) (n : Nat) : Bool :=
  match d with | some t => Nat.blt t n | none => true

theorem Fits.putE {n D E a} (h : Fits n D E a) {d : Option Tmp} (hd : dstOk d n = true) (v : Value) : Fits n D (K.putE d v E) (a.put d v) := by
  cases d with
  | none => exact h
  | some t => exact h.put (by rw [← Nat.blt_eq]; exact hd) v

def gdB (ops : Array Oper) (E : Env) : Option (Nat × Bool) → Option Bool
  | none => some true
  | some (j, want) =>
    match ops.toList[j]? with
    | none => none
    | some oj =>
      match oj.dst with
      | none => none
      | some d =>
        match find E d with
        | some (.bool b) => some (b == want)
        | some (.tuple _) => some false
        | _ => none

theorem wanted_gdB {ops : Array Oper} {n : Nat} {D : List Deferred} {E : Env} {a : Act} {o : Oper} {b : Bool} (h : gdB ops E o.guard = some b) (ha : Fits n D E a) : Region.wanted o (yielded ops a.tmps) = b := by
  unfold gdB at h
  unfold Region.wanted
  split at h
  · rename_i hg; rw [hg]; simpa using h
  · rename_i j want hg
    rw [hg]
    split at h
    · cases h
    · rename_i oj hj
      have hj' : ops[j]? = some oj := by simpa using hj
      split at h
      · cases h
      · rename_i d hd
        split at h
        · rename_i c hf
          have hv := ha.get d _ hf
          have hs : a.tmps[d]? = some (.bool c) := by
            rw [Array.getD_eq_getD_getElem?] at hv
            cases hq : a.tmps[d]? with
            | none => rw [hq] at hv; simp [undef] at hv
            | some x => rw [hq] at hv; simp at hv; rw [hv]
          simp only [Option.some.injEq] at h
          simp only [yielded, hj', Option.bind_some, hd, hs]
          rw [← h]
          cases c <;> cases want <;> rfl
        · rename_i vs hf
          have hv := ha.get d _ hf
          simp only [Option.some.injEq] at h
          subst h
          rw [Array.getD_eq_getD_getElem?] at hv
          simp only [yielded, hj', Option.bind_some, hd]
          cases hq : a.tmps[d]? with
          | none => simp
          | some x => rw [hq] at hv; simp at hv; subst hv; simp
        · cases h

theorem wpList_go {P : Program} {ops : Array Oper} {Q : Exit → Act → World → Prop} {a : Act} {w : World} {rest : List Oper} {o : Oper} {n : Nat} {D : List Deferred} {E : Env} (hg : gdB ops E o.guard = some true) (ha : Fits n D E a)
    (h : ∀ K : Act → World → Prop, (∀ a w, wpList P ops Q rest a w → K a w) → o.wp P a w K Q) : wpList P ops Q (o :: rest) a w :=
  wpList_step fun K hK => by rw [if_pos (wanted_gdB hg ha)]; exact h K hK

section
variable {P : Program} {ops : Array Oper} {Q : Exit → Act → World → Prop} {n : Nat} {D : List Deferred} {E : Env} {w w' : World} {l : List Oper} {o : Oper} {fn : Func} {R : Ending → World → Prop}

theorem enter {f : FuncId} {c : Code} {args : Array Value} (hf : P.funcs[f]? = some fn) (hb : fn.body = some c)
    (hn : fn.ntmps = n) (E : Env) (hE : ∀ t v, find E t = some v → (args ++ Array.replicate (n - args.size) undef).getD t undef = v) (hle : args.size ≤ n)
    (h : CW P c (bodyPost P fn R) n [] E w) : Calls P f args w R := by
  refine calls_of_wp hf hb (h _ ⟨?_, rfl, ?_⟩)
  · simp only [Array.size_append, Array.size_replicate]; omega
  · intro t v hv; rw [hn]; exact hE t v hv

theorem enterD {f : FuncId} {c : Code} {args : Array Value} (hf : P.funcs[f]? = some fn) (hb : fn.body = some c)
    (hn : fn.ntmps = n) (E : Env) (hE : ∀ t v, find E t = some v → (args ++ Array.replicate (n - args.size) undef).getD t undef = v) (hle : args.size ≤ n)
    (h : CW P c (bodyPostD P fn R) n [] E w) : Calls P f args w R := by
  refine calls_of_wp_defers hf hb (h _ ⟨?_, rfl, ?_⟩)
  · simp only [Array.size_append, Array.size_replicate]; omega
  · intro t v hv; rw [hn]; exact hE t v hv

def argsFrom : Nat → List Value → Env
  | _, [] => []
  | k, v :: r => (k, v) :: argsFrom (k + 1) r

theorem find_argsFrom : ∀ (l : List Value) (k t : Nat) (v : Value), find (argsFrom k l) t = some v → k ≤ t ∧ l[t - k]? = some v
  | [], _, _, _, h => by simp [argsFrom, find] at h
  | u :: r, k, t, v, h => by
    simp only [argsFrom, find] at h
    split at h
    · rename_i hb
      have := Nat.eq_of_beq_eq_true hb
      subst this
      simp only [Option.some.injEq] at h
      subst h
      simp
    · obtain ⟨h1, h2⟩ := find_argsFrom r (k + 1) t v h
      refine ⟨by omega, ?_⟩
      rw [show t - k = (t - (k + 1)) + 1 from by omega]
      simpa using h2

theorem args_ok (l : List Value) (n : Nat) : ∀ t v, find (argsFrom 0 l) t = some v → (l.toArray ++ Array.replicate (n - l.toArray.size) undef).getD t undef = v := by
  intro t v h
  obtain ⟨_, h2⟩ := find_argsFrom l 0 t v h
  simp only [Nat.sub_zero] at h2
  have hlt : t < l.length := (List.getElem?_eq_some_iff.1 h2).1
  simp only [Array.getD_eq_getD_getElem?]
  rw [Array.getElem?_append_left (by simpa using hlt)]
  simp [h2]

theorem enterL {f : FuncId} {c : Code} {args : List Value} (hf : P.funcs[f]? = some fn) (hb : fn.body = some c)
    (hn : fn.ntmps = n) (hle : Nat.ble args.length n = true) (h : CW P c (bodyPost P fn R) n [] (argsFrom 0 args) w) : Calls P f args.toArray w R :=
  enter hf hb hn _ (args_ok args n) (by simpa using Nat.le_of_ble_eq_true hle) h

theorem enterLD {f : FuncId} {c : Code} {args : List Value} (hf : P.funcs[f]? = some fn) (hb : fn.body = some c)
    (hn : fn.ntmps = n) (hle : Nat.ble args.length n = true) (h : CW P c (bodyPostD P fn R) n [] (argsFrom 0 args) w) : Calls P f args.toArray w R :=
  enterD hf hb hn _ (args_ok args n) (by simpa using Nat.le_of_ble_eq_true hle) h

/-! ### code -/
theorem CW.seq {x y : Code} (h : ∀ K : Act → World → Prop, (∀ D' E' w', CW P y Q n D' E' w' → ∀ a, Fits n D' E' a → K a w') → CW P x (Exit.then K Q) n D E w) : CW P (.seq x y) Q n D E w :=
  fun a ha => wp_seq (h (fun a w => y.wp P Q a w) (fun _ _ _ hy a' ha' => hy a' ha') a ha)

theorem CW.ret (h : ∀ a, Fits n D E a → Q .ret a w) : CW P .ret Q n D E w := fun a ha => wp_ret (h a ha)
theorem CW.skip (h : ∀ a, Fits n D E a → Q .normal a w) : CW P .skip Q n D E w := fun a ha => wp_skip (h a ha)
theorem CW.exit {id : Nat} (h : ∀ a, Fits n D E a → Q (.exit id) a w) : CW P (.exit id) Q n D E w := fun a ha => wp_exit (h a ha)
theorem CW.block {id : Nat} {c : Code} (h : CW P c (Exit.inBlock id Q) n D E w) : CW P (.block id c) Q n D E w := fun a ha => wp_block (h a ha)
theorem CW.cond {c : Operand} {x y : Code} {b : Bool} (hc : opv E c = some (.bool b)) (ht : b = true → CW P x Q n D E w) (hf : b = false → CW P y Q n D E w) : CW P (.cond c x y) Q n D E w :=
  fun a ha => wp_cond_split (ha.ev hc) (fun e => ht e a ha) (fun e => hf e a ha)
theorem CW.condT {c : Operand} {x y : Code} (hc : opv E c = some (.bool true)) (ht : CW P x Q n D E w) : CW P (.cond c x y) Q n D E w :=
  fun a ha => wp_cond_true (ha.ev hc) (ht a ha)
theorem CW.condF {c : Operand} {x y : Code} (hc : opv E c = some (.bool false)) (ht : CW P y Q n D E w) : CW P (.cond c x y) Q n D E w :=
  fun a ha => wp_cond_false (ha.ev hc) (ht a ha)

theorem CW.sub {c : Code} (E' : Env) (hs : K.sub E' E) (h : CW P c Q n D E' w) : CW P c Q n D E w := fun a ha => h a (ha.sub hs)

theorem CW.region {id : Nat} {l : List Oper} (h : WL P l.toArray Q l n D E w) : CW P (.region id l.toArray false) Q n D E w :=
  fun a ha => wp_region_lit (h a ha)

theorem WL.nil (h : ∀ a, Fits n D E a → Q .normal a w) : WL P ops Q [] n D E w := fun a ha => wpList_nil (h a ha)
theorem WL.sub (E' : Env) (hs : K.sub E' E) (h : WL P ops Q l n D E' w) : WL P ops Q l n D E w := fun a ha => h a (ha.sub hs)

theorem WL.val {v : Value} (hg : gdB ops E o.guard = some true) (hd : dstOk o.dst n = true) (hrun : ∀ a, Fits n D E a → (execOp a.eval o).run P w = .ok (.value v) w')
    (h : WL P ops Q l n D (putE o.dst v E) w') : WL P ops Q (o :: l) n D E w := fun a ha =>
  wpList_go hg ha fun K hK => by
    simp only [Oper.wp, hrun a ha, Oper.upon_value]
    exact hK _ _ (h _ (ha.putE hd v))
theorem WL.skp (hg : gdB ops E o.guard = some true) (hd : dstOk o.dst n = true) (hrun : ∀ a, Fits n D E a → (execOp a.eval o).run P w = .ok .skip w')
    (h : WL P ops Q l n D (putE o.dst undef E) w') : WL P ops Q (o :: l) n D E w := fun a ha =>
  wpList_go hg ha fun K hK => by
    simp only [Oper.wp, hrun a ha, Oper.upon_skip]
    exact hK _ _ (h _ (ha.putE hd undef))
theorem WL.dfr {d : Deferred} (hg : gdB ops E o.guard = some true) (hd : o.dst = none) (hrun : ∀ a, Fits n D E a → (execOp a.eval o).run P w = .ok (.defer d) w')
    (h : WL P ops Q l n (d :: D) E w') : WL P ops Q (o :: l) n D E w := fun a ha =>
  wpList_go hg ha fun K hK => by
    simp only [Oper.wp, hrun a ha, Oper.upon_defer, hd]
    refine hK _ _ (h _ ⟨ha.size, ?_, ha.get⟩)
    simp [Act.put, ha.defers]
theorem WL.ent {f : FuncId} {args : Array Value} {C : Ending → World → Prop} (hg : gdB ops E o.guard = some true) (hd : dstOk o.dst n = true) (hrun : ∀ a, Fits n D E a → (execOp a.eval o).run P w = .ok (.enter f args) w')
    (hc : Calls P f args w' C) (h : ∀ e w'', C e w'' → ∃ v, e = .returned v ∧ WL P ops Q l n D (putE o.dst v E) w'') : WL P ops Q (o :: l) n D E w := fun a ha =>
  wpList_go hg ha fun K hK => by
    simp only [Oper.wp, hrun a ha, Oper.upon_enter]
    refine hc.mono fun e w'' he => ?_
    obtain ⟨v, rfl, hv⟩ := h e w'' he
    exact hK _ _ (hv _ (ha.putE hd v))
theorem WL.not (hg : gdB ops E o.guard = some false) (hd : dstOk o.dst n = true) (h : WL P ops Q l n D (putE o.dst undef E) w) : WL P ops Q (o :: l) n D E w := fun a ha =>
  wpList_step fun K hK => by
    rw [if_neg (by rw [wanted_gdB hg ha]; simp)]
    exact hK _ _ (h _ (ha.putE hd undef))
end
end Go.K

