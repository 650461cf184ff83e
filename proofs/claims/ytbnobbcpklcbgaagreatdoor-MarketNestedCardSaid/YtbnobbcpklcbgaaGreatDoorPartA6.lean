/-
  Part 7 of the texts that lead to the theorem marketNested_card_holds: contracts of the functions that the law reaches.
-/
import Derived.Test.YtbnobbcpklcbgaaGreatDoorPartA5
import Derived.Test.YtbnobbcpklcbgaaGreatDoorProg
import Derived.Laws.Externs
import Derived.Stop.Asserts
set_option linter.all false
set_option autoImplicit true
set_option relaxedAutoImplicit true
namespace Go.K
open Go Go.Proofs Go.Extern
section
variable {P : Program} {ops : Array Oper} {Q : Exit → Act → World → Prop} {n : Nat} {D : List Deferred} {E : Env} {w : World} {l : List Oper}
variable {d : Nat} {ty : TypeId} {pos : String} {aft : Array Edge} {gg : Option (Nat × Bool)}
theorem WL.extG {x : Operand} {args : Array Operand} {tys : Array TypeId} {f : FuncId} {caps vs all : List Value} {v : Value} {w' : World} (hg : gdB ops E gg = some true) (hd : Nat.blt d n = true)
    (hx : opv E x = some (.func (.func f) #[] caps.toArray)) (hv : opvs E args.toList = some vs) (hall : vs ++ caps = all) (hr : (callFunc f all.toArray).run P w = .ok (.value v) w')
    (h : WL P ops Q l n D ((d, v) :: E) w') : WL P ops Q (⟨some d, .call ⟨.value x, args, tys⟩, ty, pos, aft, gg⟩ :: l) n D E w :=
  WL.val (w' := w') hg hd (fun a ha => by
      have e1 := ha.evs hv
      have e2 : Array.map a.eval args = vs.toArray := by apply Array.ext'; simpa using e1
      subst hall
      simp [execOp, resolve, ha.ev hx, e2, Deferred.ofValue, invoke, hr]) h
theorem WL.extA {x : Operand} {args : Array Operand} {tys : Array TypeId} {f : FuncId} {caps vs all cs : List Value} {T : TypeId} {vf : Nat → Value} (hg : gdB ops E gg = some true) (hd : Nat.blt d n = true)
    (hx : opv E x = some (.func (.func f) #[] caps.toArray)) (hv : opvs E args.toList = some vs) (hall : vs ++ caps = all) (hr : ∀ w, (callFunc f all.toArray).run P w = .ok (.value (vf w.heap.size)) (w.alloc (.cells cs.toArray T)))
    (h : ∀ w' b, Blk w' b cs T → Only [] w w' → w.heap.size ≤ b → WL P ops Q l n D ((d, vf b) :: E) w') : WL P ops Q (⟨some d, .call ⟨.value x, args, tys⟩, ty, pos, aft, gg⟩ :: l) n D E w :=
  WL.extG hg hd hx hv hall (hr w) (h _ _ (Blk.new w cs T) (Only.alloc w _) (Nat.le_refl _))
theorem WL.invX {x : Operand} {nm : String} {args : Array Operand} {tys : Array TypeId} {f : FuncId} {t : TypeId} {rv rc : Value} {vs all : List Value} {v : Value} (hg : gdB ops E gg = some true) (hd : Nat.blt d n = true)
    (hx : opv E x = some (.iface t rv)) (hv : opvs E args.toList = some vs) (hm : ∀ w, (method (P.types.size + Made.depth) t rv nm).run P w = .ok (f, rc) w) (hall : rc :: vs = all)
    (hr : ∀ w, (callFunc f all.toArray).run P w = .ok (.value v) w) (h : WL P ops Q l n D ((d, v) :: E) w) : WL P ops Q (⟨some d, .call ⟨.invoke x nm, args, tys⟩, ty, pos, aft, gg⟩ :: l) n D E w :=
  WL.val hg hd (fun a ha => by
      have e1 := ha.evs hv
      have e2 : Array.map a.eval args = vs.toArray := by apply Array.ext'; simpa using e1
      subst hall
      simp [execOp, resolve, ha.ev hx, e2, invoke, callMethod, hm, hr]) h
theorem WL.assertC {x : Operand} {s t : TypeId} {c : Bool} {xv v : Value} (hg : gdB ops E gg = some true) (hd : Nat.blt d n = true) (hx : opv E x = some xv)
    (hr : ∀ w, (Instr.typeAssert xv s t c).run P w = .ok v w) (h : WL P ops Q l n D ((d, v) :: E) w) : WL P ops Q (⟨some d, .typeAssert x s t c, ty, pos, aft, gg⟩ :: l) n D E w :=
  WL.val hg hd (fun a ha => by simp [execOp, ha.ev hx, hr]) h
theorem WL.loadC {t : TypeId} {x : Operand} {b o : Nat} {v : Value} (hg : gdB ops E gg = some true) (ht : aggB P t = some false) (hd : Nat.blt d n = true)
    (hx : opv E x = some (.pointer (some ⟨b, o, none⟩))) (hv : w.cell? ⟨b, o, none⟩ = some v)
    (h : WL P ops Q l n D ((d, v) :: E) w) : WL P ops Q (⟨some d, .load t x, ty, pos, aft, gg⟩ :: l) n D E w :=
  WL.val hg hd (fun a ha => by
    have : (loadVar t ⟨b, o, none⟩).run P w = .ok v w := by simp [loadVar, run_isAgg ht, load, Sem.run, hv]
    simp [execOp, ha.ev hx, Instr.loadAt, Instr.sureAddr, this]) h
end
def ErrT (w : World) : Prop := w.cell? ⟨0, 0, none⟩ = some (.iface 180 (.agg #[.pointer (some ⟨3, 27, none⟩)]))
theorem ErrT.pos {w : World} (h : ErrT w) : 0 < w.heap.size := by
  rcases Nat.eq_zero_or_pos w.heap.size with h0 | h1
  · simp [ErrT, World.cell?, h0] at h
  · exact h1
theorem ErrT.keep {S : List Nat} {w w' : World} (h : ErrT w) (u : Only S w w') (hn : 0 ∉ S) : ErrT w' := by
  have hp := h.pos
  unfold ErrT at h ⊢
  rw [World.cell?_of_block (u.keep 0 hp hn)]; exact h
abbrev hdl (t : Nat) : Value := .pointer (some ⟨3, t, none⟩)
abbrev rty (t : Nat) : Value := .iface 180 (.agg #[hdl t])
abbrev rval (t : Nat) (b f : Nat) : Value := .agg #[hdl t, .pointer (some ⟨b, 0, none⟩), .int .u64 f]
theorem x60_91 (t : Nat) (w : World) : (callFunc 60 #[.iface 91 (.pointer (some ⟨t, 0, none⟩))]).run Tryz.prog w = .ok (.value (rval 91 w.heap.size 150)) (w.alloc (.cells #[.pointer (some ⟨t, 0, none⟩)] 91)) := by kernel_rfl
theorem x60_93 (t : Nat) (w : World) : (callFunc 60 #[.iface 93 (.pointer (some ⟨t, 0, none⟩))]).run Tryz.prog w = .ok (.value (rval 93 w.heap.size 150)) (w.alloc (.cells #[.pointer (some ⟨t, 0, none⟩)] 93)) := by kernel_rfl
theorem x60_94 (t : Nat) (w : World) : (callFunc 60 #[.iface 94 (.pointer (some ⟨t, 0, none⟩))]).run Tryz.prog w = .ok (.value (rval 94 w.heap.size 150)) (w.alloc (.cells #[.pointer (some ⟨t, 0, none⟩)] 94)) := by kernel_rfl
theorem x60_79 (x : Int) (w : World) : (callFunc 60 #[.iface 79 (.int .i64 x)]).run Tryz.prog w = .ok (.value (rval 79 w.heap.size 130)) (w.alloc (.cells #[.int .i64 x] 79)) := by kernel_rfl
theorem x61_91 (b : Nat) (w : World) : (callFunc 61 #[rval 91 b 150]).run Tryz.prog w = .ok (.value (rty 91)) w := by kernel_rfl
theorem x61_93 (b : Nat) (w : World) : (callFunc 61 #[rval 93 b 150]).run Tryz.prog w = .ok (.value (rty 93)) w := by kernel_rfl
theorem x61_94 (b : Nat) (w : World) : (callFunc 61 #[rval 94 b 150]).run Tryz.prog w = .ok (.value (rty 94)) w := by kernel_rfl
theorem mKind (h : Value) (w : World) : (method (Tryz.prog.types.size + Made.depth) 180 (.agg #[h]) "Kind").run Tryz.prog w = .ok (404, h) w := by kernel_rfl
theorem mElem (h : Value) (w : World) : (method (Tryz.prog.types.size + Made.depth) 180 (.agg #[h]) "Elem").run Tryz.prog w = .ok (425, .agg #[h]) w := by kernel_rfl
theorem mImpl (h : Value) (w : World) : (method (Tryz.prog.types.size + Made.depth) 180 (.agg #[h]) "Implements").run Tryz.prog w = .ok (426, .agg #[h]) w := by kernel_rfl
theorem mAssign (h : Value) (w : World) : (method (Tryz.prog.types.size + Made.depth) 180 (.agg #[h]) "AssignableTo").run Tryz.prog w = .ok (423, .agg #[h]) w := by kernel_rfl
theorem xK_91 (w : World) : (callFunc 404 #[hdl 91]).run Tryz.prog w = .ok (.value (.int .u8 22)) w := by kernel_rfl
theorem xK_93 (w : World) : (callFunc 404 #[hdl 93]).run Tryz.prog w = .ok (.value (.int .u8 22)) w := by kernel_rfl
theorem xK_94 (w : World) : (callFunc 404 #[hdl 94]).run Tryz.prog w = .ok (.value (.int .u8 22)) w := by kernel_rfl
theorem xK_89 (w : World) : (callFunc 404 #[hdl 89]).run Tryz.prog w = .ok (.value (.int .u8 22)) w := by kernel_rfl
theorem xK_92 (w : World) : (callFunc 404 #[hdl 92]).run Tryz.prog w = .ok (.value (.int .u8 22)) w := by kernel_rfl
theorem xK_79 (w : World) : (callFunc 404 #[hdl 79]).run Tryz.prog w = .ok (.value (.int .u8 2)) w := by kernel_rfl
theorem xE_91 (w : World) : (callFunc 425 #[.agg #[hdl 91]]).run Tryz.prog w = .ok (.value (rty 89)) w := by kernel_rfl
theorem xE_93 (w : World) : (callFunc 425 #[.agg #[hdl 93]]).run Tryz.prog w = .ok (.value (rty 92)) w := by kernel_rfl
theorem xE_94 (w : World) : (callFunc 425 #[.agg #[hdl 94]]).run Tryz.prog w = .ok (.value (rty 79)) w := by kernel_rfl
theorem xI_89 (w : World) : (callFunc 426 #[.agg #[hdl 89], rty 27]).run Tryz.prog w = .ok (.value (.bool true)) w := by kernel_rfl
theorem xI_92 (w : World) : (callFunc 426 #[.agg #[hdl 92], rty 27]).run Tryz.prog w = .ok (.value (.bool true)) w := by kernel_rfl
theorem xI_79 (w : World) : (callFunc 426 #[.agg #[hdl 79], rty 27]).run Tryz.prog w = .ok (.value (.bool true)) w := by kernel_rfl
theorem xT_79 (x : Int) (w : World) : (callFunc 100 #[.iface 79 (.int .i64 x)]).run Tryz.prog w = .ok (.value (rty 79)) w := by kernel_rfl
theorem xA_79_89 (w : World) : (callFunc 423 #[.agg #[hdl 79], rty 89]).run Tryz.prog w = .ok (.value (.bool false)) w := by kernel_rfl
theorem xA_79_92 (w : World) : (callFunc 423 #[.agg #[hdl 79], rty 92]).run Tryz.prog w = .ok (.value (.bool false)) w := by kernel_rfl
theorem xA_79_79 (w : World) : (callFunc 423 #[.agg #[hdl 79], rty 79]).run Tryz.prog w = .ok (.value (.bool true)) w := by kernel_rfl
theorem tA_As (x : Int) (w : World) : (Instr.typeAssert (.iface 79 (.int .i64 x)) 27 185 true).run Tryz.prog w = .ok (.tuple #[.nilIface, .bool false]) w := run_typeAssert_lacksB Tryz.underlying185 (by kernel_rfl) (by kernel_rfl) _ _ _
theorem tA_Un (x : Int) (w : World) : (Instr.typeAssert (.iface 79 (.int .i64 x)) 27 188 true).run Tryz.prog w = .ok (.tuple #[.nilIface, .bool false]) w := run_typeAssert_lacksB Tryz.underlying188 (by kernel_rfl) (by kernel_rfl) _ _ _
theorem tA_Uns (x : Int) (w : World) : (Instr.typeAssert (.iface 79 (.int .i64 x)) 27 189 true).run Tryz.prog w = .ok (.tuple #[.nilIface, .bool false]) w := run_typeAssert_lacksB Tryz.underlying189 (by kernel_rfl) (by kernel_rfl) _ _ _
/-! what reads or writes memory -/
theorem rlm (z : Sem Value) (f : TypeId → Addr → Nat → Nat → Sem Value) (v : Value) :
    ReflectliteValue.method z f #[v] = (do match ← ReflectliteValue.parts v with | none => z | some (t, a, fl) => f t a fl (fl % 32)) := rfl
theorem pt91 (a : Nat) (w : World) : (ReflectliteValue.parts (rval 91 a 150)).run Tryz.prog w = .ok (some (91, ⟨a, 0, none⟩, 150)) w := by kernel_rfl
theorem pt93 (a : Nat) (w : World) : (ReflectliteValue.parts (rval 93 a 150)).run Tryz.prog w = .ok (some (93, ⟨a, 0, none⟩, 150)) w := by kernel_rfl
theorem pt94 (a : Nat) (w : World) : (ReflectliteValue.parts (rval 94 a 150)).run Tryz.prog w = .ok (some (94, ⟨a, 0, none⟩, 150)) w := by kernel_rfl
theorem pt79a (a : Nat) (w : World) : (ReflectliteValue.parts (rval 79 a 386)).run Tryz.prog w = .ok (some (79, ⟨a, 0, none⟩, 386)) w := by kernel_rfl
theorem pt79 (a : Nat) (w : World) : (ReflectliteValue.parts (rval 79 a 130)).run Tryz.prog w = .ok (some (79, ⟨a, 0, none⟩, 130)) w := by kernel_rfl
theorem hF62 (args : Array Value) (w : World) : (callFunc 62 args).run Tryz.prog w = ((ReflectliteValue.method (ReflectliteValue.valueError "reflectlite.Value.IsNil" 0) ReflectliteValue.isNil args).run Tryz.prog w).andThen fun v w' => .ok (.value v) w' :=
  run_callFunc_extern (e := ReflectliteValue.method (ReflectliteValue.valueError "reflectlite.Value.IsNil" 0) ReflectliteValue.isNil) Tryz.func62 (by kernel_rfl) (by kernel_rfl) (by kernel_rfl) (by kernel_rfl) args w
theorem hF101 (args : Array Value) (w : World) : (callFunc 101 args).run Tryz.prog w = ((ReflectliteValue.method (ReflectliteValue.valueError "reflectlite.Value.Elem" 0) ReflectliteValue.elem args).run Tryz.prog w).andThen fun v w' => .ok (.value v) w' :=
  run_callFunc_extern (e := ReflectliteValue.method (ReflectliteValue.valueError "reflectlite.Value.Elem" 0) ReflectliteValue.elem) Tryz.func101 (by kernel_rfl) (by kernel_rfl) (by kernel_rfl) (by kernel_rfl) args w
theorem hF102 (args : Array Value) (w : World) : (callFunc 102 args).run Tryz.prog w = ((ReflectliteValue.set args).run Tryz.prog w).andThen fun v w' => .ok (.value v) w' :=
  run_callFunc_extern (e := ReflectliteValue.set) Tryz.func102 (by kernel_rfl) (by kernel_rfl) (by kernel_rfl) (by kernel_rfl) args w
section
variable {w : World} {a p : Nat}
theorem xN_91 (h : Blk w a [.pointer (some ⟨p, 0, none⟩)] 91) : (callFunc 62 #[rval 91 a 150]).run Tryz.prog w = .ok (.value (.bool false)) w := by
  have hl := run_loadVar1 (P := Tryz.prog) (o := 0) agg91 h rfl
  rw [hF62, rlm]; simp only [Sem.run_bind, pt91, Result.andThen_ok]; simp [ReflectliteValue.isNil, hl]
theorem xN_93 (h : Blk w a [.pointer (some ⟨p, 0, none⟩)] 93) : (callFunc 62 #[rval 93 a 150]).run Tryz.prog w = .ok (.value (.bool false)) w := by
  have hl := run_loadVar1 (P := Tryz.prog) (o := 0) agg93 h rfl
  rw [hF62, rlm]; simp only [Sem.run_bind, pt93, Result.andThen_ok]; simp [ReflectliteValue.isNil, hl]
theorem xN_94 (h : Blk w a [.pointer (some ⟨p, 0, none⟩)] 94) : (callFunc 62 #[rval 94 a 150]).run Tryz.prog w = .ok (.value (.bool false)) w := by
  have hl := run_loadVar1 (P := Tryz.prog) (o := 0) agg94 h rfl
  rw [hF62, rlm]; simp only [Sem.run_bind, pt94, Result.andThen_ok]; simp [ReflectliteValue.isNil, hl]
theorem eo94 (w : World) : (Rtype.elem? 94).run Tryz.prog w = .ok (some 79) w := by kernel_rfl
theorem mk79 (p : Nat) (w : World) : (ReflectliteValue.mk 79 ⟨p, 0, none⟩ ReflectliteValue.flagAddr).run Tryz.prog w = .ok (rval 79 p 386) w := by kernel_rfl
theorem xV_94 (h : Blk w a [.pointer (some ⟨p, 0, none⟩)] 94) : (callFunc 101 #[rval 94 a 150]).run Tryz.prog w = .ok (.value (rval 79 p 386)) w := by
  have hl := run_loadVar1 (P := Tryz.prog) (o := 0) agg94 h rfl
  rw [hF101, rlm]; simp only [Sem.run_bind, pt94, Result.andThen_ok]; simp [ReflectliteValue.elem, hl, eo94, mk79]
theorem rls (v x : Value) : ReflectliteValue.set #[v, x] = (do
    let (some (dst, a, fl), some (src, b, _)) := (← ReflectliteValue.parts v, ← ReflectliteValue.parts x)
      | unsupported (.noEntry "extern/(internal/reflectlite.Value).Set.zeroValue")
    if fl / ReflectliteValue.flagAddr % 2 == 0 then unsupported (.noEntry "extern/(internal/reflectlite.Value).Set.unaddressable")
    let val ← loadVar src b
    if ← Rtype.directlyAssignable dst src then storeVar dst a val
    else if ← Rtype.implements dst src then
      if (← Rtype.kind src) == 20 then
        match val with
        | .nilIface => unsupported (.noEntry "extern/reflectlite: a nil value of one interface type handed on as a value of another")
        | _ => storeVar dst a val
      else storeVar dst a (.iface src val)
    else panicString ("reflectlite.Set: value of type " ++ (← Rtype.spelt src) ++ " is not assignable to type " ++ (← Rtype.spelt dst))
    pure (.tuple #[])) := rfl
theorem dir79 (w : World) : (Rtype.directlyAssignable 79 79).run Tryz.prog w = .ok true w := by kernel_rfl
theorem xS_79 {b t : Nat} {x y : Int} (hb : Blk w b [.int .i64 x] 79) (ht : Blk w t [.int .i64 y] 79) :
    ∃ w', (callFunc 102 #[rval 79 t 386, rval 79 b 130]).run Tryz.prog w = .ok (.value (.tuple #[])) w' ∧ Blk w' t [.int .i64 x] 79 ∧ Only [t] w w' := by
  have hl := run_loadVar1 (P := Tryz.prog) (o := 0) agg79 hb rfl
  obtain ⟨w', hs, h1, h2, _⟩ := run_storeVarK (P := Tryz.prog) (t := 79) (v := .int .i64 x) (o := 0) siz79 (by simp [Value.cells]) ht (by simp) (by intro u hu; simp [Value.cells] at hu; subst hu; rfl)
  refine ⟨w', ?_, ?_, h2⟩
  · rw [hF102, rls]
    simp only [Sem.run_bind, pt79a, pt79, Result.andThen_ok]
    simp [ReflectliteValue.flagAddr, hl, dir79, hs]
  · simpa [Value.cells, setAll] using h1
end
end Go.K

