/-
  Part 3 of the texts that lead to the theorem marketNested_card_holds: contracts of the functions that the law reaches.
-/
import Derived.Test.YtbnobbcpklcbgaaGreatDoorPartA1
import Derived.Laws.Strings
set_option linter.all false
set_option autoImplicit true
set_option relaxedAutoImplicit true
namespace Go.K

def fieldOff (P : Program) (s f : Nat) : Option Nat :=
  match P.underlying s with
  | some (.struct fs) =>
    match fs.toList[f]? with
    | some fd =>
      match sizeB P fd.type with
      | some (_ + 1) => some fd.offset
      | _ => none
    | none => none
  | _ => none

def opvs (E : Env) : List Operand → Option (List Value)
  | [] => some []
  | x :: r => match opv E x, opvs E r with
    | some v, some vs => some (v :: vs)
    | _, _ => none

def isIface (P : Program) (t : TypeId) : Option Bool :=
  match P.underlying t with
  | some (.interface _) => some true
  | some _ => some false
  | none => none

def isConstB : Operand → Bool
  | .const _ => true
  | _ => false

def intOp (op : BinOp) (k : IntKind) (a b : Int) : Option Value :=
  match op with
  | .add => some (.int k (k.wrap (a + b)))
  | .sub => some (.int k (k.wrap (a - b)))
  | .mul => some (.int k (k.wrap (a * b)))
  | .eql => some (.bool (a == b))
  | .neq => some (.bool (a != b))
  | .lss => some (.bool (decide (a < b)))
  | .leq => some (.bool (decide (a ≤ b)))
  | .gtr => some (.bool (decide (a > b)))
  | .geq => some (.bool (decide (a ≥ b)))
  | .quo => if b = 0 then none else some (.int k (k.wrap (a.tdiv b)))
  | .rem => if b = 0 then none else some (.int k (a.tmod b))
  | _ => none

def nilEq (P : Program) (t : TypeId) (c : Bool) (x y : Value) : Option Bool :=
  match P.underlying t, x, y with
  | some (.interface _), .nilIface, .nilIface => match c with | true => some true | false => none
  | some (.interface _), .nilIface, .iface _ _ => some false
  | some (.interface _), .iface _ _, .nilIface => some false
  | some (.pointer _), .pointer none, .pointer none => some true
  | some (.pointer _), .pointer none, .pointer (some _) => some false
  | some (.pointer _), .pointer (some _), .pointer none => some false
  | some (.func _ _ _), .nilFunc, .nilFunc => some true
  | some (.func _ _ _), .nilFunc, .func _ _ _ => some false
  | some (.func _ _ _), .func _ _ _, .nilFunc => some false
  | some .bool, .bool a, .bool b => some (a == b)
  | _, _, _ => none

def pbin (P : Program) (op : BinOp) (t : TypeId) (c : Bool) (x y : Value) : Option Value :=
  match x, y with
  | .int k a, .int k' b => if k = k' then intOp op k a b else none
  | .string a, .string b =>
    match op with
    | .eql => some (.bool (a.data.toList == b.data.toList))
    | .neq => some (.bool (!(a.data.toList == b.data.toList)))
    | _ => none
  | x, y =>
    match op, nilEq P t c x y with
    | .eql, some b => some (.bool b)
    | .neq, some b => some (.bool (!b))
    | _, _ => none

def lenOfV (P : Program) (t : TypeId) (v : Value) : Option Value :=
  match v, P.underlying t with
  | .slice _ n _, some (.slice _) => some (.int .i64 n)
  | .string s, some .string => some (.int .i64 s.size)
  | .map none, some (.map _ _) => some (.int .i64 0)
  | _, _ => none

def pstep (P : Program) (E : Env) (op : Op) : Option Value :=
  match op with
  | .pick c x y =>
    match opv E c with
    | some (.bool true) => opv E x
    | some (.bool false) => opv E y
    | _ => none
  | .move x => opv E x
  | .assign x => opv E x
  | .nilCheck x =>
    match opv E x with
    | some (.pointer (some a)) => some (.pointer (some a))
    | some (.func (.func f) a b) => some (.func (.func f) a b)
    | some (.iface t v) => some (.iface t v)
    | _ => none
  | .fieldAddr s x f =>
    match opv E x, fieldOff P s f with
    | some (.pointer (some ⟨b, o, none⟩)), some k => some (.pointer (some ⟨b, o + k, none⟩))
    | _, _ => none
  | .extract x i =>
    match opv E x with
    | some (.tuple vs) => vs.toList[i]?
    | _ => none
  | .makeFunc fn first cap =>
    match opvs E first.toList, opvs E cap.toList with
    | some a, some b => some (.func fn a.toArray b.toArray)
    | _, _ => none
  | .makeInterface t x =>
    match isIface P t, opv E x with
    | some false, some v => some (.iface t v)
    | _, _ => none
  | .unOp .not _ x =>
    match opv E x with
    | some (.bool b) => some (.bool (!b))
    | _ => none
  | .binOp op t x y _ =>
    match opv E x, opv E y with
    | some a, some b => pbin P op t (isConstB x || isConstB y) a b
    | _, _ => none
  | .typeAssert x _ t ok =>
    match opv E x, isIface P t, zeroB P t with
    | some (.iface u v), some false, some z =>
      if u = t then some (if ok then .tuple #[v, .bool true] else v)
      else match ok with
        | true => some (.tuple #[z, .bool false])
        | false => none
    | some .nilIface, some false, some z => match ok with
        | true => some (.tuple #[z, .bool false])
        | false => none
    | _, _, _ => none
  | .index t x i =>
    match opv E x, opv E i, P.underlying t with
    | some (.string s), some (.int _ k), some .string =>
      match (if 0 ≤ k then s.data.toList[k.toNat]? else none) with
      | some b => some (.int .u8 b.toNat)
      | none => none
    | _, _, _ => none
  | .call ⟨.builtin .max, args, _⟩ =>
    match opvs E args.toList with
    | some [.int .i64 a, .int .i64 b] => some (.int .i64 (if b > a then b else a))
    | _ => none
  | .call ⟨.builtin .min, args, _⟩ =>
    match opvs E args.toList with
    | some [.int .i64 a, .int .i64 b] => some (.int .i64 (if b < a then b else a))
    | _ => none
  | .call ⟨.builtin .len, args, tys⟩ =>
    match opvs E args.toList, tys.toList with
    | some [v], [t] => lenOfV P t v
    | _, _ => none
  | _ => none

section
variable {P : Program} {n : Nat} {D : List Deferred} {E : Env} {a : Act}

theorem Fits.evs (h : Fits n D E a) : ∀ {l : List Operand} {vs : List Value}, opvs E l = some vs → l.map a.eval = vs
  | [], vs, hl => by simp only [opvs, Option.some.injEq] at hl; subst hl; rfl
  | x :: r, vs, hl => by
    simp only [opvs] at hl
    split at hl
    · rename_i v us hx hr
      simp only [Option.some.injEq] at hl
      subst hl
      simp [h.ev hx, h.evs hr]
    · cases hl

theorem toList_data (b : ByteArray) : b.toList = b.data.toList := by
  exact ByteArray.toList_eq b
theorem run_intOp {op : BinOp} {t : TypeId} {k : IntKind} {x y : Int} {v : Value} (h : intOp op k x y = some v) (w : World) :
    (binOp op t (.int k x) (.int k y)).run P w = .ok v w := by
  by_cases hq : op = .quo
  · subst hq
    simp only [intOp] at h
    split at h
    · cases h
    · rename_i h0; simp only [Option.some.injEq] at h; subst h; simp [binOp, Op.intDiv, h0]
  by_cases hr : op = .rem
  · subst hr
    simp only [intOp] at h
    split at h
    · cases h
    · rename_i h0; simp only [Option.some.injEq] at h; subst h; simp [binOp, Op.intDiv, h0]
  cases op <;> simp only [intOp, Option.some.injEq, reduceCtorEq] at h hq hr <;> first | exact absurd rfl hq | exact absurd rfl hr | exact absurd trivial hq | exact absurd trivial hr | (subst h; simp [binOp, Op.intArith, Op.intCmp])

theorem run_equalIn_nil {t : TypeId} {c : Bool} {x y : Value} {b : Bool} (h : nilEq P t c x y = some b) (d : Nat) (w : World) :
    (Op.equalIn (d + 1) t x y).run P w = .ok b w := by
  unfold nilEq at h
  split at h
  case h_1 =>
    rename_i hu
    cases c <;> simp at h
    subst h
    simp [Op.equalIn, run_underlyingK hu]
  case h_11 => cases h
  all_goals
    rename_i hu
    simp only [Option.some.injEq] at h
    subst h
    simp [Op.equalIn, run_underlyingK hu]

theorem run_nilEq {t : TypeId} {c : Bool} {x y : Value} {b : Bool} (h : nilEq P t c x y = some b) (w : World) :
    (Op.equal t x y).run P w = .ok b w := run_equalIn_nil h 9999 w

theorem binOp_nil {t : TypeId} {c : Bool} {x y : Value} {b : Bool} (h : nilEq P t c x y = some b) :
    (∀ w, (binOp .eql t x y).run P w = .ok (.bool b) w) ∧ (∀ w, (binOp .neq t x y).run P w = .ok (.bool (!b)) w) := by
  have hr := run_nilEq h
  unfold nilEq at h
  split at h
  case h_11 => cases h
  all_goals exact ⟨fun w => by simp [binOp, hr w], fun w => by simp [binOp, hr w]⟩

theorem run_eqGuard {op : BinOp} {t : TypeId} {x y : Operand} {v u : Value} {r : Value} (h : pbin P op t (isConstB x || isConstB y) v u = some r) (w : World) :
    (eqGuard op t x y v u).run P w = .ok () w := by
  have key : ∀ b, nilEq P t (isConstB x || isConstB y) v u = some b → (eqGuard op t x y v u).run P w = .ok () w := by
    intro b hb
    unfold nilEq at hb
    split at hb
    case h_11 => cases hb
    case h_1 =>
      cases hx : isConstB x <;> cases hy : isConstB y <;> simp [hx, hy] at hb
      all_goals
        cases x <;> simp [isConstB] at hx <;> cases y <;> simp [isConstB] at hy <;> cases op <;> simp [eqGuard]
    all_goals (cases op <;> simp [eqGuard])
  unfold pbin at h
  split at h
  · cases op <;> simp [eqGuard]
  · cases op <;> simp [eqGuard]
  · split at h
    · rename_i hb; exact key _ hb
    · rename_i hb; exact key _ hb
    · cases h

theorem run_pbin {op : BinOp} {t : TypeId} {c : Bool} {v u : Value} {r : Value} (h : pbin P op t c v u = some r) (w : World) :
    (binOp op t v u).run P w = .ok r w := by
  unfold pbin at h
  split at h
  · split at h
    · rename_i hk; subst hk; exact run_intOp h w
    · cases h
  · split at h
    · simp only [Option.some.injEq] at h; subst h; simp only [binOp, Op.stringOp, toList_data, Sem.run_pure]
    · simp only [Option.some.injEq] at h; subst h; simp only [binOp, Op.stringOp, toList_data, Sem.run_pure]
    · cases h
  · split at h
    · rename_i hb; simp only [Option.some.injEq] at h; subst h; exact (binOp_nil hb).1 w
    · rename_i hb; simp only [Option.some.injEq] at h; subst h; exact (binOp_nil hb).2 w
    · cases h

theorem pstep_ok {o : Oper} {v : Value} (h : pstep P E o.op = some v) (ha : Fits n D E a) (w : World) : (execOp a.eval o).run P w = .ok (.value v) w := by
  obtain ⟨dst, op, ty, pos, aft, gd⟩ := o
  simp only at h
  unfold pstep at h
  split at h
  · split at h
    · rename_i hc; simp [execOp, ha.ev hc, ha.ev h, asBool]
    · rename_i hc; simp [execOp, ha.ev hc, ha.ev h, asBool]
    · cases h
  · simp [execOp, ha.ev h]
  · simp [execOp, ha.ev h]
  · split at h <;> (try cases h) <;> rename_i hx <;> simp [execOp, ha.ev hx]
  · rename_i st x fi
    split at h
    · rename_i b o hx hk
      simp only [Option.some.injEq] at h
      subst h
      unfold fieldOff at hk
      split at hk
      · rename_i fs hu
        split at hk
        · rename_i fd hfd
          split at hk
          · rename_i m hs
            simp only [Option.some.injEq] at hk
            subst hk
            have hf : fs[fi]? = some fd := by simpa using hfd
            simp [execOp, ha.ev hx, Instr.fieldAt, run_underlyingK hu, hf, Instr.sureAddr, fieldPlace, run_sizeOf hs, addr_add]
          · cases hk
        · cases hk
      · cases hk
    · cases h
  · split at h
    · rename_i vs hx
      simp at h
      simp [execOp, ha.ev hx, Instr.extract, h]
    · cases h
  · split at h
    · rename_i f1 f2 h1 h2
      simp only [Option.some.injEq] at h
      subst h
      have e1 := ha.evs h1
      have e2 := ha.evs h2
      simp only [execOp, Instr.makeFunc, Sem.run_bind, Sem.run_pure, Result.andThen_ok]
      rw [← e1, ← e2]
      congr 2
      congr 1 <;> (apply Array.ext'; simp)
    · cases h
  · split at h
    · rename_i v' hi hx
      simp only [Option.some.injEq] at h
      subst h
      unfold isIface at hi
      split at hi
      · simp at hi
      · rename_i d hne hu
        simp only [execOp, ha.ev hx, Instr.makeInterface, Sem.run_bind, run_underlyingK hu, Result.andThen_ok]
        cases d <;> simp_all
      · cases hi
    · cases h
  · split at h
    · rename_i b hx
      simp only [Option.some.injEq] at h
      subst h
      simp [execOp, ha.ev hx, Op.unary]
    · cases h
  · split at h
    · rename_i v1 v2 hx hy
      simp [execOp, ha.ev hx, ha.ev hy, run_eqGuard h w, run_pbin h w]
    · cases h
  · rename_i x xt t ok
    split at h
    · rename_i u v' z hx hi hz
      unfold isIface at hi
      split at hi
      · simp at hi
      · rename_i d hne hu
        split at h
        · rename_i hut
          subst hut
          simp only [Option.some.injEq] at h
          subst h
          simp only [execOp, Sem.run_bind, Instr.typeAssert, run_underlyingK hu, Result.andThen_ok, ha.ev hx]
          cases ok <;> cases d <;> simp_all
        · rename_i hut
          split at h
          · simp only [Option.some.injEq] at h
            subst h
            simp only [execOp, Sem.run_bind, Instr.typeAssert, run_underlyingK hu, Result.andThen_ok, ha.ev hx]
            cases d <;> simp_all [run_zeroValue hz]
          · cases h
      · cases hi
    · rename_i z hx hi hz
      unfold isIface at hi
      split at hi
      · simp at hi
      · rename_i d hne hu
        split at h
        · simp only [Option.some.injEq] at h
          subst h
          simp only [execOp, Sem.run_bind, Instr.typeAssert, run_underlyingK hu, Result.andThen_ok, ha.ev hx]
          cases d <;> simp_all [run_zeroValue hz]
        · cases h
      · cases hi
    · cases h
  · rename_i t x i
    split at h
    · rename_i s kk k hx hi hu
      split at h
      · rename_i b hb
        simp only [Option.some.injEq] at h
        subst h
        split at hb
        · rename_i h0
          have hb' : s[k.toNat]? = some b := by
            have hlt : k.toNat < s.data.toList.length := (List.getElem?_eq_some_iff.1 hb).1
            have hlt' : k.toNat < s.size := by simpa using hlt
            rw [getElem?_pos s k.toNat hlt']
            rw [List.getElem?_eq_getElem hlt] at hb
            have e : s[k.toNat] = s.data[k.toNat] := rfl
            rw [e]
            simpa using hb
          simp [execOp, ha.ev hx, ha.ev hi, Instr.index, asIntOf, run_underlyingK hu, h0, hb']
        · cases hb
      · cases h
    · cases h
  · rename_i args tys
    split at h
    · rename_i m1 m2 ht
      have e1 := ha.evs ht
      have e2 : Array.map a.eval args = #[.int .i64 m1, .int .i64 m2] := by apply Array.ext'; simpa using e1
      simp only [Option.some.injEq] at h
      subst h
      simp [execOp, resolve, invoke, builtin, Builtin.max_, Builtin.max2, e2]
    · cases h
  · rename_i args tys
    split at h
    · rename_i m1 m2 ht
      have e1 := ha.evs ht
      have e2 : Array.map a.eval args = #[.int .i64 m1, .int .i64 m2] := by apply Array.ext'; simpa using e1
      simp only [Option.some.injEq] at h
      subst h
      simp [execOp, resolve, invoke, builtin, Builtin.min_, Builtin.min2, e2]
    · cases h
  · rename_i args tys
    split at h
    · rename_i v' t ht hty
      have e1 := ha.evs ht
      have e2 : Array.map a.eval args = #[v'] := by apply Array.ext'; simpa using e1
      have e3 : tys = #[t] := by apply Array.ext'; simpa using hty
      subst e3
      unfold lenOfV at h
      split at h
      · rename_i hu
        simp only [Option.some.injEq] at h
        subst h
        simp [execOp, resolve, invoke, builtin, Builtin.len_, e2, run_underlyingK hu, goInt]
      · rename_i hu
        simp only [Option.some.injEq] at h
        subst h
        simp [execOp, resolve, invoke, builtin, Builtin.len_, e2, run_underlyingK hu, goInt]
      · rename_i hu
        simp only [Option.some.injEq] at h
        subst h
        simp [execOp, resolve, invoke, builtin, Builtin.len_, e2, run_underlyingK hu, goInt]
      · cases h
    · cases h
  · cases h
end

def prun (P : Program) (ops : Array Oper) (n : Nat) : Nat → List Oper → Env → Option Env
  | 0, _, E => some E
  | _ + 1, [], _ => none
  | k + 1, o :: l, E =>
    match gdB ops E o.guard, dstOk o.dst n with
    | some true, true =>
      match pstep P E o.op with
      | some v => prun P ops n k l (putE o.dst v E)
      | none => none
    | some false, true => prun P ops n k l (putE o.dst undef E)
    | _, _ => none

section
variable {P : Program} {ops : Array Oper} {Q : Exit → Act → World → Prop} {n : Nat} {D : List Deferred} {w : World}
theorem WL.pure : ∀ (k : Nat) {l : List Oper} {E E' : Env}, prun P ops n k l E = some E' → WL P ops Q (l.drop k) n D E' w → WL P ops Q l n D E w
  | 0, l, E, E', h, hw => by
    simp only [prun, Option.some.injEq] at h
    subst h
    simpa using hw
  | k + 1, [], E, E', h, _ => by simp [prun] at h
  | k + 1, o :: l, E, E', h, hw => by
    simp only [prun] at h
    split at h
    · rename_i hg hd
      split at h
      · rename_i v hp
        exact WL.val hg hd (fun a ha => pstep_ok hp ha w) (WL.pure k h hw)
      · cases h
    · rename_i hg hd
      exact WL.not hg hd (WL.pure k h hw)
    · cases h
end
end Go.K

namespace Go.K
open Go.RowKit (Below)

abbrev Ret (P : Program) (f : FuncId) (args : Array Value) (w : World) (R : Value → World → Prop) : Prop :=
  Calls P f args w fun e w' => ∃ v, e = .returned v ∧ R v w'

theorem Ret.mono {P : Program} {f : FuncId} {args : Array Value} {w : World} {R R' : Value → World → Prop} (h : Ret P f args w R) (hr : ∀ v w', R v w' → R' v w') : Ret P f args w R' :=
  Calls.mono h fun _ w' ⟨v, he, hv⟩ => ⟨v, he, hr v w' hv⟩

def enters (P : Program) (f : FuncId) : Bool :=
  match P.funcs[f]? with
  | some fn => fn.body.isSome && !(fn.name == "runtime.NumGoroutine")
  | none => false

theorem run_enters {P : Program} {f : FuncId} (h : enters P f = true) (args : Array Value) (w : World) : (callFunc f args).run P w = .ok (.enter f args) w := by
  unfold enters at h
  split at h
  · rename_i fn hf
    simp only [Bool.and_eq_true, Bool.not_eq_true'] at h
    have hb : ¬ fn.body = none := by intro e; rw [e] at h; simp at h
    have hn : ¬ fn.name = "runtime.NumGoroutine" := by intro e; rw [e] at h; simp at h
    simp [callFunc, hf, hn, hb]
  · cases h

section
variable {P : Program} {ops : Array Oper} {Q : Exit → Act → World → Prop} {n : Nat} {D : List Deferred} {E : Env} {w : World} {l : List Oper}
variable {d : Nat} {ty : TypeId} {pos : String} {aft : Array Edge} {gg : Option (Nat × Bool)}

theorem WL.load1 {t : TypeId} {x : Operand} {b o : Nat} {cs : List Value} {T : TypeId} {v : Value} (hg : gdB ops E gg = some true) (ht : aggB P t = some false) (hd : Nat.blt d n = true)
    (hx : opv E x = some (.pointer (some ⟨b, o, none⟩))) (hb : Blk w b cs T) (hv : cs[o]? = some v)
    (h : WL P ops Q l n D ((d, v) :: E) w) : WL P ops Q (⟨some d, .load t x, ty, pos, aft, gg⟩ :: l) n D E w :=
  WL.val hg hd (fun a ha => by simp [execOp, ha.ev hx, Instr.loadAt, Instr.sureAddr, run_loadVar1 ht hb hv]) h

theorem WL.loadN {t : TypeId} {x : Operand} {b o m : Nat} {cs vs : List Value} {T : TypeId} (hg : gdB ops E gg = some true) (ht : aggB P t = some true) (hm : sizeB P t = some m) (hd : Nat.blt d n = true)
    (hx : opv E x = some (.pointer (some ⟨b, o, none⟩))) (hb : Blk w b cs T) (hv : (cs.drop o).take m = vs) (hl : vs.length = m)
    (h : WL P ops Q l n D ((d, .agg vs.toArray) :: E) w) : WL P ops Q (⟨some d, .load t x, ty, pos, aft, gg⟩ :: l) n D E w :=
  WL.val hg hd (fun a ha => by simp [execOp, ha.ev hx, Instr.loadAt, Instr.sureAddr, run_loadVarN ht hm hb hv hl]) h

theorem cells_oneCell {v : Value} (h : v.oneCell' = true) : v.cells = #[v] := by cases v <;> simp_all [Value.oneCell', Value.cells]

theorem WL.store1 {t : TypeId} {x y : Operand} {b o : Nat} {cs : List Value} {T : TypeId} {v : Value} (hg : gdB ops E gg = some true) (ht : sizeB P t = some 1)
    (hx : opv E x = some (.pointer (some ⟨b, o, none⟩))) (hy : opv E y = some v) (hv : v.oneCell' = true) (hb : Blk w b cs T) (ho : Nat.blt o cs.length = true)
    (h : ∀ w', Blk w' b (cs.set o v) T → Only [b] w w' → w'.heap.size = w.heap.size → WL P ops Q l n D E w') : WL P ops Q (⟨none, .store t x y, ty, pos, aft, gg⟩ :: l) n D E w :=
  WL.skp (o := ⟨none, .store t x y, ty, pos, aft, gg⟩) (w' := w.setCell ⟨b, o, none⟩ v) hg rfl
    (fun a ha => by
      have hs := run_store1 (P := P) hb (by rw [← Nat.blt_eq]; exact ho) hv
      simp [execOp, ha.ev hx, ha.ev hy, Instr.storeAt, Instr.sureAddr, storeVar, cells_oneCell hv, run_sizeOf ht, storeCells, addr_add, hs])
    (h _ (hb.setCell o v) (Only.setCell w b o v) (by simp))

theorem WL.storeN {t : TypeId} {x y : Operand} {b o m : Nat} {cs vs : List Value} {T : TypeId} (hg : gdB ops E gg = some true) (ht : sizeB P t = some m)
    (hx : opv E x = some (.pointer (some ⟨b, o, none⟩))) (hy : opv E y = some (.agg vs.toArray)) (hl : vs.length = m) (h1 : vs.all Value.oneCell' = true) (hb : Blk w b cs T) (ho : o + m ≤ cs.length)
    (h : ∀ w', Blk w' b (setAll cs o vs) T → Only [b] w w' → w'.heap.size = w.heap.size → WL P ops Q l n D E w') : WL P ops Q (⟨none, .store t x y, ty, pos, aft, gg⟩ :: l) n D E w := by
  obtain ⟨w', hr, hb', ho', hz⟩ := run_storeVarK (P := P) (t := t) (v := .agg vs.toArray) ht (by simpa [Value.cells] using hl) hb ho (by
    intro u hu
    simp only [Value.cells] at hu
    exact List.all_eq_true.1 h1 u (by simpa using hu))
  exact WL.skp (o := ⟨none, .store t x y, ty, pos, aft, gg⟩) (w' := w') hg rfl
    (fun a ha => by simp [execOp, ha.ev hx, ha.ev hy, Instr.storeAt, Instr.sureAddr, hr])
    (h _ (by simpa [Value.cells] using hb') ho' hz)

theorem WL.box {t : TypeId} {x : Operand} {v : Value} {cs : List Value} (hg : gdB ops E gg = some true) (hd : Nat.blt d n = true) (hx : opv E x = some v) (hc : v.cells.toList = cs)
    (h : ∀ w' b, Blk w' b cs t → Only [] w w' → w.heap.size ≤ b → WL P ops Q l n D ((d, .pointer (some ⟨b, 0, none⟩)) :: E) w') : WL P ops Q (⟨some d, .box t x, ty, pos, aft, gg⟩ :: l) n D E w :=
  WL.val (w' := w.alloc (.cells v.cells t)) hg hd (fun a ha => by simp [execOp, ha.ev hx, Instr.box, newVar, newRow])
    (h _ _ (by subst hc; simpa using Blk.new w v.cells.toList t) (Only.alloc _ _) (Nat.le_refl _))

theorem WL.alloc {t : TypeId} {z : Value} {cs : List Value} (hg : gdB ops E gg = some true) (hd : Nat.blt d n = true) (hz : zeroB P t = some z) (hc : z.cells.toList = cs)
    (h : ∀ w' b, Blk w' b cs t → Only [] w w' → w.heap.size ≤ b → WL P ops Q l n D ((d, .pointer (some ⟨b, 0, none⟩)) :: E) w') : WL P ops Q (⟨some d, .alloc t, ty, pos, aft, gg⟩ :: l) n D E w :=
  WL.val (w' := w.alloc (.cells z.cells t)) hg hd (fun a ha => by simp [execOp, Instr.alloc, newVar, newRow, run_zeroValue hz])
    (h _ _ (by subst hc; simpa using Blk.new w z.cells.toList t) (Only.alloc _ _) (Nat.le_refl _))

theorem WL.makeMap {t : TypeId} (hg : gdB ops E gg = some true) (hd : Nat.blt d n = true)
    (h : ∀ w' b, Mp w' b [] 0 → Only [] w w' → w.heap.size ≤ b → WL P ops Q l n D ((d, .map (some b)) :: E) w') : WL P ops Q (⟨some d, .makeMap t none, ty, pos, aft, gg⟩ :: l) n D E w :=
  WL.val (w' := w.alloc (.map #[] 0)) hg hd (fun a ha => by simp [execOp, Instr.makeMap])
    (h _ _ (Mp.new w) (Only.alloc _ _) (Nat.le_refl _))

theorem WL.call {x : Operand} {args : Array Operand} {tys : Array TypeId} {f : FuncId} {caps vs all : List Value} {R : Value → World → Prop} (hg : gdB ops E gg = some true) (hd : Nat.blt d n = true)
    (hx : opv E x = some (.func (.func f) #[] caps.toArray)) (hv : opvs E args.toList = some vs) (hent : enters P f = true) (hall : vs ++ caps = all)
    (hc : Ret P f all.toArray w R) (h : ∀ v w', R v w' → WL P ops Q l n D ((d, v) :: E) w') : WL P ops Q (⟨some d, .call ⟨.value x, args, tys⟩, ty, pos, aft, gg⟩ :: l) n D E w :=
  WL.ent (f := f) (args := all.toArray) (w' := w) hg hd
    (fun a ha => by
      have e1 := ha.evs hv
      have e2 : Array.map a.eval args = vs.toArray := by apply Array.ext'; simpa using e1
      subst hall
      simp [execOp, resolve, ha.ev hx, e2, Deferred.ofValue, invoke, run_enters hent])
    hc (fun e w'' ⟨v, he, hR⟩ => ⟨v, he, h v w'' hR⟩)
def litCells (P : Program) (e len : Nat) (parts : List (Nat × Value)) : Option (Array Value) :=
  match sizeB P e, zeroB P e with
  | some sz, some z => match Nat.ble (len * sz) 16777216, len * sz with
    | true, _ + 1 => Instr.fill (fun i => some (i * sz, sz)) ((Array.range (len * sz)).map (z.cells[· % z.cells.size]!)) parts
    | _, _ => none
  | _, _ => none

theorem run_buildSlice {t e len : Nat} {parts : List (Nat × Value)} {cs : Array Value} (ht : P.underlying t = some (.slice e)) (h : litCells P e len parts = some cs) (w : World) :
    (Instr.buildSlice t len parts.toArray).run P w = .ok (.slice (some ⟨w.heap.size, 0, none⟩) len len) (w.alloc (.cells cs e)) := by
  unfold litCells at h
  split at h
  · rename_i sz z hs hz
    split at h
    · rename_i k hb hk
      have hle := Nat.le_of_ble_eq_true hb
      have h1 : ¬ (16777216 < len * sz) := by omega
      have h2 : ¬ (len * sz = 0) := by omega
      simp only [Instr.buildSlice, Sem.run_bind, run_underlyingK ht, Result.andThen_ok, run_sizeOf hs, Nat.reducePow, gt_iff_lt, h1, if_false, h2, run_zeroValue hz, Sem.run_pure, h]
      simp [newRow]
    · cases h
  · cases h

def partsOf (E : Env) : List (Nat × Operand) → Option (List (Nat × Value))
  | [] => some []
  | (i, x) :: r => match opv E x, partsOf E r with
    | some v, some vs => some ((i, v) :: vs)
    | _, _ => none

theorem Fits.parts {a : Act} (h : Fits n D E a) : ∀ {l : List (Nat × Operand)} {vs : List (Nat × Value)}, partsOf E l = some vs → l.map (fun p => (p.1, a.eval p.2)) = vs
  | [], vs, hl => by simp only [partsOf, Option.some.injEq] at hl; subst hl; rfl
  | (i, x) :: r, vs, hl => by
    simp only [partsOf] at hl
    split at hl
    · rename_i v us hx hr
      simp only [Option.some.injEq] at hl
      subst hl
      simp [h.ev hx, h.parts hr]
    · cases hl

theorem WL.buildSlice {t e len : Nat} {parts : Array (Nat × Operand)} {vs : List (Nat × Value)} {cs : List Value} (hg : gdB ops E gg = some true) (hd : Nat.blt d n = true) (ht : P.underlying t = some (.slice e))
    (hp : partsOf E parts.toList = some vs) (hc : litCells P e len vs = some cs.toArray)
    (h : ∀ w' b, Blk w' b cs e → Only [] w w' → w.heap.size ≤ b → WL P ops Q l n D ((d, .slice (some ⟨b, 0, none⟩) len len) :: E) w') :
    WL P ops Q (⟨some d, .buildSlice t len parts, ty, pos, aft, gg⟩ :: l) n D E w :=
  WL.val (w' := w.alloc (.cells cs.toArray e)) hg hd (fun a ha => by
      have e1 := ha.parts hp
      have e2 : parts.map (fun p => (p.1, a.eval p.2)) = vs.toArray := by apply Array.ext'; simpa using e1
      simp [execOp, e2, run_buildSlice ht hc])
    (h _ _ (Blk.new w cs e) (Only.alloc _ _) (Nat.le_refl _))

theorem litCells_one {e : Nat} {z v : Value} (hs : sizeB P e = some 1) (hz : zeroB P e = some z) (hv : v.oneCell' = true) : litCells P e 1 [(0, v)] = some #[v] := by
  simp only [litCells, hs, hz, Instr.fill, cells_oneCell hv]
  rw [if_neg (by simp)]
  refine congrArg some ?_
  apply Array.ext
  · simp
  · intro i h1 h2
    have hi : i = 0 := by simp at h2; omega
    subst hi
    simp

def buildB (P : Program) (t : TypeId) (parts : List (Nat × Value)) : Option Value :=
  match P.underlying t, zeroB P t with
  | some (.struct fs), some z =>
    match (fs.toList.mapM fun f => (sizeB P f.type).map fun s => (f.offset, s)) with
    | some places => (Instr.fill (places[·]?) z.cells parts).map .agg
    | none => none
  | _, _ => none

theorem run_places : ∀ (l : List Field) (places : List (Nat × Nat)) (w : World), (l.mapM fun f => (sizeB P f.type).map fun s => (f.offset, s)) = some places →
    (l.mapM fun f => do let s ← sizeOf f.type; Pure.pure (f.offset, s) : Sem (List (Nat × Nat))).run P w = .ok places w
  | [], places, w, h => by simp at h; subst h; simp
  | f :: r, places, w, h => by
    cases hs : sizeB P f.type with
    | none => simp [hs] at h
    | some s =>
      cases hr : (r.mapM fun f => (sizeB P f.type).map fun s => (f.offset, s)) with
      | none => simp [hs, hr] at h
      | some ps =>
        simp [hs, hr] at h
        subst h
        have ih := run_places r ps w hr
        simp only [List.mapM_cons, Sem.run_bind, run_sizeOf hs, Result.andThen_ok, Sem.run_pure, ih]

theorem run_build {t : TypeId} {parts : List (Nat × Value)} {v : Value} (h : buildB P t parts = some v) (w : World) : (Instr.build t parts.toArray).run P w = .ok v w := by
  unfold buildB at h
  split at h
  · rename_i fs z hu hz
    split at h
    · rename_i places hp
      cases hf : Instr.fill (places[·]?) z.cells parts with
      | none => simp [hf] at h
      | some cs =>
        simp [hf] at h
        subst h
        have hm : (fs.mapM fun f => do let s ← sizeOf f.type; Pure.pure (f.offset, s) : Sem (Array (Nat × Nat))).run P w = .ok places.toArray w := by
          have := run_places fs.toList places w hp
          rw [show fs = fs.toList.toArray from by simp]
          rw [List.mapM_toArray, Sem.run_map]
          rw [this]
          rfl
        simp only [Instr.build, Sem.run_bind, run_zeroValue hz, Result.andThen_ok, run_underlyingK hu, hm]
        simp [hf]
    · cases h
  · cases h

theorem WL.build {t : TypeId} {parts : Array (Nat × Operand)} {vs : List (Nat × Value)} {v : Value} (hg : gdB ops E gg = some true) (hd : Nat.blt d n = true)
    (hp : partsOf E parts.toList = some vs) (hc : buildB P t vs = some v)
    (h : WL P ops Q l n D ((d, v) :: E) w) :
    WL P ops Q (⟨some d, .build t parts, ty, pos, aft, gg⟩ :: l) n D E w :=
  WL.val hg hd (fun a ha => by
      have e1 := ha.parts hp
      have e2 : parts.map (fun p => (p.1, a.eval p.2)) = vs.toArray := by apply Array.ext'; simpa using e1
      simp [execOp, e2, run_build hc]) h
end
end Go.K

namespace Go.K
section
variable {P : Program} {n : Nat} {D : List Deferred} {E : Env} {w : World} {fn : Func} {R : Ending → World → Prop} {a : Act}

theorem res_tmp {t : Nat} {v : Value} (hr : fn.results = #[.tmp t]) (ha : Fits n D E a) (h : find E t = some v) (w : World) : (results fn a.tmps).run P w = .ok v w := by
  rw [results_tmp hr]; rw [ha.get t v h]
theorem res_tmp2 {t u : Nat} {v x : Value} (hr : fn.results = #[.tmp t, .tmp u]) (ha : Fits n D E a) (h : find E t = some v) (h2 : find E u = some x) (w : World) :
    (results fn a.tmps).run P w = .ok (.tuple #[v, x]) w := by
  rw [results_tmp2 hr]; rw [ha.get t v h, ha.get u x h2]
theorem res_none (hr : fn.results = #[]) (w : World) : (results fn a.tmps).run P w = .ok (.tuple #[]) w := results_none hr _ _ _
theorem res_cellTmp {t u ty m b T : Nat} {cs vs : List Value} {x : Value} (hr : fn.results = #[.cell t ty, .tmp u]) (ha : Fits n D E a) (h : find E t = some (.pointer (some ⟨b, 0, none⟩)))
    (hag : aggB P ty = some true) (hm : sizeB P ty = some m) (hb : Blk w b cs T) (hv : cs.take m = vs) (hl : vs.length = m) (h2 : find E u = some x) :
    (results fn a.tmps).run P w = .ok (.tuple #[.agg vs.toArray, x]) w := by
  have e1 := ha.get t _ h
  have e2 := ha.get u _ h2
  have hl := run_loadVarN (P := P) (o := 0) hag hm hb (by simpa using hv) hl
  simp only [Array.getD_eq_getD_getElem?] at e1 e2
  simp [results, hr, e1, e2, asAddr, hl]
theorem res_cell {t ty m b T : Nat} {cs vs : List Value} (hr : fn.results = #[.cell t ty]) (ha : Fits n D E a) (h : find E t = some (.pointer (some ⟨b, 0, none⟩)))
    (hag : aggB P ty = some true) (hm : sizeB P ty = some m) (hb : Blk w b cs T) (hv : cs.take m = vs) (hl : vs.length = m) :
    (results fn a.tmps).run P w = .ok (.agg vs.toArray) w := by
  have e1 := ha.get t _ h
  have hl := run_loadVarN (P := P) (o := 0) hag hm hb (by simpa using hv) hl
  simp only [Array.getD_eq_getD_getElem?] at e1
  simp [results, hr, e1, asAddr, hl]
theorem fin {C : Value → World → Prop} {v : Value} (hd : a.defers = []) (hr : (results fn a.tmps).run P w = .ok v w) (h : C v w) :
    bodyPost P fn (fun e w' => ∃ v, e = .returned v ∧ C v w') .ret a w := ⟨hd, v, hr, v, rfl, h⟩
theorem finN {C : Value → World → Prop} {v : Value} (hd : a.defers = []) (hr : (results fn a.tmps).run P w = .ok v w) (h : C v w) :
    bodyPost P fn (fun e w' => ∃ v, e = .returned v ∧ C v w') .normal a w := ⟨hd, v, hr, v, rfl, h⟩
end
end Go.K

namespace Go.K
def sel : List Nat → Env → Option Env
  | [], _ => some []
  | t :: r, E => match find E t, sel r E with
    | some v, some E' => some ((t, v) :: E')
    | _, _ => none
theorem sel_sub : ∀ {l : List Nat} {E E' : Env}, sel l E = some E' → sub E' E
  | [], E, E', h => by simp only [sel, Option.some.injEq] at h; subst h; trivial
  | t :: r, E, E', h => by
    simp only [sel] at h
    split at h
    · rename_i v E1 hv hr
      simp only [Option.some.injEq] at h
      subst h
      exact ⟨hv, sel_sub hr⟩
    · cases h
section
variable {P : Program} {ops : Array Oper} {Q : Exit → Act → World → Prop} {n : Nat} {D : List Deferred} {w : World} {E E' : Env}
theorem WL.to (k : Nat) (ts : List Nat) {l : List Oper} (h : (prun P ops n k l E).bind (sel ts) = some E') (hw : WL P ops Q (l.drop k) n D E' w) : WL P ops Q l n D E w := by
  cases hp : prun P ops n k l E with
  | none => rw [hp] at h; cases h
  | some E1 =>
    rw [hp] at h
    exact WL.pure k hp (WL.sub E' (sel_sub h) hw)
theorem WL.chg {l : List Oper} {v : Value} (t : Nat) (v' : Value) (h : find E t = some v) (e : v = v') (hw : WL P ops Q l n D ((t, v') :: E) w) : WL P ops Q l n D E w := by
  subst e
  refine fun a ha => hw a ⟨ha.size, ha.defers, fun s u hs => ?_⟩
  simp only [find] at hs
  split at hs
  · rename_i hb
    have := Nat.eq_of_beq_eq_true hb
    subst this
    simp only [Option.some.injEq] at hs
    subst hs
    exact ha.get _ _ h
  · exact ha.get _ _ hs
theorem CW.chg {c : Code} {v : Value} (t : Nat) (v' : Value) (h : find E t = some v) (e : v = v') (hw : CW P c Q n D ((t, v') :: E) w) : CW P c Q n D E w := by
  subst e
  refine fun a ha => hw a ⟨ha.size, ha.defers, fun s u hs => ?_⟩
  simp only [find] at hs
  split at hs
  · rename_i hb
    have := Nat.eq_of_beq_eq_true hb
    subst this
    simp only [Option.some.injEq] at hs
    subst hs
    exact ha.get _ _ h
  · exact ha.get _ _ hs
theorem CW.yes {c : Operand} {x y : Code} {b : Bool} (hc : opv E c = some (.bool b)) (hb : b = true) (ht : CW P x Q n D E w) : CW P (.cond c x y) Q n D E w := by subst hb; exact CW.condT hc ht
theorem CW.no {c : Operand} {x y : Code} {b : Bool} (hc : opv E c = some (.bool b)) (hb : b = false) (ht : CW P y Q n D E w) : CW P (.cond c x y) Q n D E w := by subst hb; exact CW.condF hc ht

theorem CW.loop {G : Type} {c : Code} (F : G → Env) (I : G → World → Prop) (μ : G → Nat) (g₀ : G) (h₀ : I g₀ w)
    (round : ∀ g w, I g w → CW P c (Exit.then (fun a' w' => ∃ g', μ g' < μ g ∧ I g' w' ∧ Fits n D (F g') a') Q) n D (F g) w) : CW P (.loop c) Q n D (F g₀) w := by
  intro a ha b k cs
  have key : ∀ m g a w, μ g = m → I g w → Fits n D (F g) a →
      ∃ e a' w', Q e a' w' ∧ Arrives P (lone (b.at a (.code c :: .inLoop c :: k)) cs w) b k cs e a' w' := by
    intro m
    induction m using Nat.strongRecOn with
    | _ m ih =>
      intro g a w hm hI ha
      obtain ⟨e, a₁, w₁, hq, harr⟩ := round g w hI a ha b (.inLoop c :: k) cs
      cases e with
      | normal =>
        obtain ⟨g', hlt, hI₁, ha₁⟩ := hq
        obtain ⟨e₂, a₂, w₂, hq₂, harr₂⟩ := ih (μ g') (hm ▸ hlt) g' a₁ w₁ rfl hI₁ ha₁
        exact ⟨e₂, a₂, w₂, hq₂, .of_steps (Steps.trans harr (.one step_inLoop)) harr₂⟩
      | exit id => exact ⟨_, a₁, w₁, hq, .pass (x := .inLoop c) rfl (fun _ _ => .inl (by simp)) harr⟩
      | goto l => exact ⟨_, a₁, w₁, hq, .pass (x := .inLoop c) rfl (fun _ _ => .inl (by simp)) harr⟩
      | ret => exact ⟨_, a₁, w₁, hq, .pass (x := .inLoop c) rfl (fun _ _ => .inl (by simp)) harr⟩
      | panic ch => exact ⟨_, a₁, w₁, hq, .pass (x := .inLoop c) rfl (fun _ _ => .inl (by simp)) harr⟩
      | outgrown => exact ⟨_, a₁, w₁, hq, .pass (x := .inLoop c) rfl (fun _ _ => .inl (by simp)) harr⟩
  obtain ⟨e, a', w', hq, harr⟩ := key _ g₀ a w rfl h₀ ha
  exact ⟨e, a', w', hq, .of_steps (.one step_loop) harr⟩

theorem nm0 {b : Nat} : b ∉ ([] : List Nat) := by simp
theorem nmc {b c : Nat} {S : List Nat} (h : b ≠ c) (r : b ∉ S) : b ∉ c :: S := by simp [h, r]
theorem nma {b : Nat} {S S' : List Nat} (h : b ∉ S) (r : b ∉ S') : b ∉ S ++ S' := by simp [h, r]
end
end Go.K

