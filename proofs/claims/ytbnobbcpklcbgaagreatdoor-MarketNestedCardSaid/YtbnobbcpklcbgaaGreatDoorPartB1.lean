/- Range over a function: a law for walks with known temporaries. -/
import Derived.Test.YtbnobbcpklcbgaaGreatDoorPartB0
import Derived.RangeFuncRecord
import Derived.RangeFuncCalls
import Derived.RangeFuncSeq
import Derived.TacticsIn
set_option linter.all false
set_option autoImplicit true
set_option relaxedAutoImplicit true
namespace Go.K
open Go.RowKit (Below)
section
variable {P : Program} {ops : Array Oper} {Q : Exit → Act → World → Prop} {n : Nat} {D : List Deferred} {w : World} {E : Env} {l : List Oper} {d : Nat} {ty : TypeId} {pos : String} {aft : Array Edge} {gg : Option (Nat × Bool)}

theorem Only.putObj (w : World) (r : Nat) (o : Obj) : Only [r] w (w.putObj r o) :=
  ⟨rfl, rfl, rfl, by simp, fun k _ hn => World.putObj_heap_other (by simpa using hn)⟩

def noDefer (o : Oper) : Bool := match o.op with | .defer _ => false | _ => true
theorem noDefer_ok {o : Oper} (h : noDefer o = true) (c : Call) : o.op ≠ .defer c := by
  intro e; unfold noDefer at h; rw [e] at h; cases h

theorem round_list (r m : Nat) (hQ : ∀ a w, ¬ Q .outgrown a w) : ∀ (l : List Oper), l.all noDefer = true → ∀ a w, wpList P ops Q l a w → wpListIn (Fence.wide.inRound r) m P ops Q l a w
  | [], _, a, w, h => h
  | o :: rest, hn, a, w, h => by
    simp only [List.all_cons, Bool.and_eq_true] at hn
    have ih := round_list r m hQ rest hn.2
    unfold wpList at h
    unfold wpListIn
    split
    · rename_i hw
      rw [if_pos hw] at h
      rcases h with h | ⟨_, a0, w0, h0⟩
      · refine ⟨fun _ _ => trivial, ?_⟩
        rw [Oper.semAt_eq _ _ _ (noDefer_ok hn.1)]
        unfold Oper.wp at h
        generalize (execOp a.eval o).run P w = rr at h ⊢
        cases rr with
        | ok nx w' =>
          cases nx with
          | value v => exact ih _ _ h
          | skip => exact ih _ _ h
          | defer d => exact ih _ _ h
          | enter f args =>
            refine ⟨(fun e => by cases e), CallsIn.inRound r (callsIn_wide.2 (Calls.mono h ?_))⟩
            intro e w'' he
            cases e with
            | returned v => exact ih _ _ he
            | panicked ch => exact he
            | outgrown => exact he
          | row row args =>
            refine ⟨(fun e => by cases e), fun c cs _ => ?_⟩
            obtain ⟨v, w2, hR, hs⟩ := h c cs
            exact ⟨v, w2, ih _ _ hR, stepsIn_wide.2 hs⟩
          | _ => exact h.elim
        | halt x w' =>
          cases x with
          | panic v => exact h
          | _ => exact h.elim
      · exact absurd h0 (hQ a0 w0)
    · rename_i hw
      rw [if_neg hw] at h
      exact ⟨fun _ _ => trivial, ih _ _ h⟩

/-! ### code in a round -/
def CR (P : Program) (r : Nat) (c : Code) (Q : Exit → Act → World → Prop) (n : Nat) (E : Env) (w : World) : Prop :=
  ∀ a, Fits n [] E a → c.wpIn (Fence.wide.inRound r) 0 P Q a w
variable {r : Nat}
theorem CR.skip (h : ∀ a, Fits n [] E a → Q .normal a w) : CR P r .skip Q n E w := fun a ha => wpIn_skip (h a ha)
theorem CR.seq {x y : Code} (h : ∀ K : Act → World → Prop, (∀ E' w', CR P r y Q n E' w' → ∀ a, Fits n [] E' a → K a w') → CR P r x (Exit.then K Q) n E w) : CR P r (.seq x y) Q n E w :=
  fun a ha => wpIn_seq (h (fun a w => y.wpIn _ _ P Q a w) (fun _ _ hy a' ha' => hy a' ha') a ha)
theorem CR.block {id : Nat} {c : Code} (h : CR P r c (Exit.inBlock id Q) n E w) : CR P r (.block id c) Q n E w := fun a ha => wpIn_block (h a ha)
theorem CR.region {id : Nat} {l : List Oper} (hn : l.all noDefer = true) (hQ : ∀ a w, ¬ Q .outgrown a w) (h : WL P l.toArray Q l n [] E w) : CR P r (.region id l.toArray false) Q n E w :=
  fun a ha => wpIn_region_lit (round_list r 0 hQ l hn a w (h a ha))

def Recd (w : World) (r : Nat) (f : FuncId) (tmps : Array Value) (ps : Array Tmp) (assign body : Code) (D0 : Nat) (st : LoopState) : Prop :=
  w.heap[r]? = some (.loop { state := st, pending := none, fn := f, tmps := tmps, params := ps, assign := assign, body := body, defers := D0 })

theorem Recd.keep {S : List Nat} {w w' : World} {r f D0 : Nat} {tmps : Array Value} {ps : Array Tmp} {assign body : Code} {st : LoopState} (h : Recd w r f tmps ps assign body D0 st) (u : Only S w w') (hn : r ∉ S) : Recd w' r f tmps ps assign body D0 st :=
  (u.keep r (Array.getElem?_eq_some_iff.1 h).1 hn).trans h
theorem Recd.neB {w : World} {r f D0 b T : Nat} {tmps : Array Value} {ps : Array Tmp} {assign body : Code} {st : LoopState} {cs : List Value} (h : Recd w r f tmps ps assign body D0 st) (hb : Blk w b cs T) : r ≠ b := by
  rintro rfl; unfold Recd at h; unfold Blk at hb; rw [h] at hb; cases hb

def roundQ (r f D0 : Nat) (tmps : Array Value) (ps : Array Tmp) (assign body : Code) (R : World → Prop) : Exit → Act → World → Prop
  | .normal, _, w => Recd w r f tmps ps assign body D0 .busy ∧ ∀ w', Only [r] w w' → w'.heap.size = w.heap.size → Recd w' r f tmps ps assign body D0 .ready → R w'
  | _, _, _ => False

theorem yieldK {f D0 : Nat} {tmps : Array Value} {ps : Array Tmp} {assign body : Code} {args : Array Value} {R : World → Prop}
    (hr : Recd w r f tmps ps assign body D0 .ready) (hs : args.size = ps.size) (hE : Fits n [] E { tmps := (ps.zip args).foldl (fun t (p, v) => t.setIfInBounds p v) tmps, defers := [] })
    (h : CR P r assign (Exit.then (fun a1 w1 => Recd w1 r f tmps ps assign body D0 .ready ∧ ∀ w2, Only [r] w1 w2 → w2.heap.size = w1.heap.size → Recd w2 r f tmps ps assign body D0 .busy → body.wpIn (Fence.wide.inRound r) 0 P (roundQ r f D0 tmps ps assign body R) a1 w2) (fun _ _ _ => False)) n E w) :
    YieldAt Fence.wide 0 P r args w (fun e w' => e = .returned (.bool true) ∧ R w') := by
  refine ⟨f, _, assign, body, run_yield hr hs, roundIn_of_wpIn trivial (wpIn_mono (h _ hE) ?_)⟩
  intro e a1 w1 he
  cases e with
  | normal =>
    obtain ⟨h1, h2⟩ := he
    have hlt : r < w1.heap.size := (Array.getElem?_eq_some_iff.1 h1).1
    refine ⟨_, run_beginRound h1 rfl, wpIn_mono (h2 _ (Only.putObj _ _ _) (by simp) (World.putObj_heap_same hlt)) ?_⟩
    intro e a2 w3 he
    cases e with
    | normal =>
      obtain ⟨h3, h4⟩ := he
      have hlt3 : r < w3.heap.size := (Array.getElem?_eq_some_iff.1 h3).1
      exact ⟨_, _, run_endRound none h3, rfl, h4 _ (Only.putObj _ _ _) (by simp) (World.putObj_heap_same hlt3)⟩
    | _ => exact he.elim
  | _ => exact he.elim

/-! ### the iterator's walk: a region that calls yield -/
def WI (P : Program) (ops : Array Oper) (Q : Exit → Act → World → Prop) (l : List Oper) (n : Nat) (D : List Deferred) (E : Env) (w : World) : Prop :=
  ∀ a, Fits n D E a → wpListIn Fence.wide 0 P ops Q l a w
theorem CW.regionI {id : Nat} {l : List Oper} (h : WI P l.toArray Q l n D E w) : CW P (.region id l.toArray false) Q n D E w :=
  fun a ha => wpIn_wide.1 (wpIn_region_lit (n := 0) (h a ha))
theorem WI.nil (h : ∀ a, Fits n D E a → Q .normal a w) : WI P ops Q [] n D E w := fun a ha => wpListIn_nil (h a ha)
theorem WI.sub (E' : Env) (hs : K.sub E' E) (h : WI P ops Q l n D E' w) : WI P ops Q l n D E w := fun a ha => h a (ha.sub hs)
theorem wpListI_go {a : Act} {rest : List Oper} {o : Oper} (hg : gdB ops E o.guard = some true) (ha : Fits n D E a)
    (h : ∀ K : Act → World → Prop, (∀ a w, wpListIn Fence.wide 0 P ops Q rest a w → K a w) → o.wpIn Fence.wide 0 P a w K Q) : wpListIn Fence.wide 0 P ops Q (o :: rest) a w :=
  wpListIn_step fun K hK => by rw [if_pos (wanted_gdB hg ha)]; exact h K hK
theorem WI.val {o : Oper} {v : Value} {w' : World} (hg : gdB ops E o.guard = some true) (hd : dstOk o.dst n = true) (hrun : ∀ a, Fits n D E a → (execOp a.eval o).run P w = .ok (.value v) w')
    (h : WI P ops Q l n D (putE o.dst v E) w') : WI P ops Q (o :: l) n D E w := fun a ha =>
  wpListI_go hg ha fun K hK => by
    refine ⟨fun _ _ => trivial, ?_⟩
    show o.uponIn _ _ P a K Q ((Oper.semAt none a.eval o).run P w)
    rw [Oper.semAt_none, hrun a ha, Oper.uponIn_value]
    exact hK _ _ (h _ (ha.putE hd v))
theorem WI.pure : ∀ (k : Nat) {l : List Oper} {E E' : Env}, prun P ops n k l E = some E' → WI P ops Q (l.drop k) n D E' w → WI P ops Q l n D E w
  | 0, l, E, E', h, hw => by
    simp only [prun, Option.some.injEq] at h
    subst h
    simpa using hw
  | k + 1, [], E, E', h, _ => by simp [prun] at h
  | k + 1, o :: l, E, E', h, hw => by
    simp only [prun] at h
    split at h
    · rename_i hg hd
      split at h
      · rename_i v hp
        exact WI.val hg hd (fun a ha => pstep_ok hp ha w) (WI.pure k h hw)
      · cases h
    · rename_i hg hd
      refine fun a ha => wpListIn_step fun K hK => ?_
      rw [if_neg (by rw [wanted_gdB hg ha]; simp)]
      exact ⟨fun _ _ => trivial, hK _ _ (WI.pure k h hw _ (ha.putE hd undef))⟩
    · cases h
theorem WI.to (k : Nat) (ts : List Nat) {E' : Env} (h : (prun P ops n k l E).bind (sel ts) = some E') (hw : WI P ops Q (l.drop k) n D E' w) : WI P ops Q l n D E w := by
  cases hp : prun P ops n k l E with
  | none => rw [hp] at h; cases h
  | some E1 =>
    rw [hp] at h
    exact WI.pure k hp (WI.sub E' (sel_sub h) hw)
theorem WI.load1 {t : TypeId} {x : Operand} {b o : Nat} {cs : List Value} {T : TypeId} {v : Value} (hg : gdB ops E gg = some true) (ht : aggB P t = some false) (hd : Nat.blt d n = true)
    (hx : opv E x = some (.pointer (some ⟨b, o, none⟩))) (hb : Blk w b cs T) (hv : cs[o]? = some v)
    (h : WI P ops Q l n D ((d, v) :: E) w) : WI P ops Q (⟨some d, .load t x, ty, pos, aft, gg⟩ :: l) n D E w :=
  WI.val hg hd (fun a ha => by simp [execOp, ha.ev hx, Instr.loadAt, Instr.sureAddr, run_loadVar1 ht hb hv]) h

theorem WI.yield {x : Operand} {args : Array Operand} {tys : Array TypeId} {vs : List Value} {R : World → Prop} (hg : gdB ops E gg = some true) (hd : Nat.blt d n = true)
    (hx : opv E x = some (.func (.yield r) #[] #[])) (hv : opvs E args.toList = some vs) (hy : YieldAt Fence.wide 0 P r vs.toArray w fun e w' => e = .returned (.bool true) ∧ R w')
    (h : ∀ w', R w' → WI P ops Q l n D ((d, .bool true) :: E) w') : WI P ops Q (⟨some d, .call ⟨.value x, args, tys⟩, ty, pos, aft, gg⟩ :: l) n D E w := fun a ha =>
  wpListI_go hg ha fun K hK => by
    obtain ⟨f, tmps, assign, body, hrun, hR⟩ := hy
    refine ⟨fun _ _ => trivial, ?_⟩
    have e1 := ha.evs hv
    have e2 : Array.map a.eval args = vs.toArray := by apply Array.ext'; simpa using e1
    have e3 : (execOp a.eval ⟨some d, .call ⟨.value x, args, tys⟩, ty, pos, aft, gg⟩).run P w = .ok (.round r f tmps assign body) w := by
      simp [execOp, resolve, ha.ev hx, e2, Deferred.ofValue, invoke, hrun]
    show Oper.uponIn _ _ P _ a K Q ((Oper.semAt none a.eval _).run P w)
    rw [Oper.semAt_none, e3, Oper.uponIn_round]
    refine ⟨(fun e => by cases e), hR.mono ?_⟩
    rintro e w' ⟨rfl, hr⟩
    exact hK _ _ (h w' hr _ (ha.put (by rw [← Nat.blt_eq]; exact hd) (.bool true)))

/-! ### the statement -/
theorem CW.rangeFunc {g : Operand} {ps : Array Tmp} {assign body : Code} {gf : Nat} {caps : List Value} {R : Nat → Nat → World → Prop} (hg : opv E g = some (.func (.func gf) #[] caps.toArray)) (hent : enters P gf = true)
    (hc : ∀ (a : Act) (f D0 r : Nat) (w1 : World), Fits n D E a → Only [] w w1 → w.heap.size ≤ D0 → D0 < r → r < w1.heap.size → Recd w1 r f a.tmps ps assign body D0 .ready → w1.heap[D0]? = some (.deferred (some [])) →
      Ret P gf (#[.func (.yield r) #[] #[]] ++ caps.toArray) w1 fun _ w2 => Recd w2 r f a.tmps ps assign body D0 .ready ∧ w2.heap[D0]? = some (.deferred (some [])) ∧ R D0 r w2)
    (h : ∀ (D0 r : Nat) (w2 w3 : World), w.heap.size ≤ D0 → D0 < r → R D0 r w2 → Only [r] w2 w3 → w3.heap[D0]? = some (.deferred (some [])) → ∀ a, Fits n ({ target := .collected D0, args := #[] } :: D) E a → Q .normal a w3) :
    CW P (.rangeFunc g ps assign body) Q n D E w := by
  intro a ha
  refine (wpIn_wide (n := 0)).1 ?_
  refine wpIn_rangeFunc fun fn _ => ?_
  obtain ⟨W1, hW1⟩ : ∃ W1, (w.alloc (.deferred (some []))).alloc (.loop { state := .ready, pending := none, fn, tmps := a.tmps, params := ps, assign, body, defers := w.heap.size }) = W1 := ⟨_, rfl⟩
  have hsz : W1.heap.size = w.heap.size + 2 := by rw [← hW1]; simp
  have hL1 : Recd W1 (w.heap.size + 1) fn a.tmps ps assign body w.heap.size .ready := by
    rw [← hW1]; have := World.alloc_heap_new (w.alloc (.deferred (some []))) (.loop { state := .ready, pending := none, fn, tmps := a.tmps, params := ps, assign, body, defers := w.heap.size })
    rw [World.size_alloc] at this; exact this
  have hK1 : W1.heap[w.heap.size]? = some (.deferred (some [])) := by
    rw [← hW1]; exact (heap_alloc_old _ _ (by simp)).trans (World.alloc_heap_new w _)
  have hO : Only [] w W1 := by rw [← hW1]; exact (((Only.alloc w _).trans (Only.alloc _ _)).sub (by simp))
  refine ⟨w.heap.size + 1, [{ target := .collected w.heap.size, args := #[] }], W1, { target := .fn (.func gf) caps.toArray, args := #[.func (.yield (w.heap.size + 1)) #[] #[]] }, W1, gf,
    #[.func (.yield (w.heap.size + 1)) #[] #[]] ++ caps.toArray, W1, ?_, ?_, (fun _ _ => trivial), ?_, (fun e => by cases e), ?_⟩
  · rw [← hW1]; exact run_enterLoop_outer _ _ _ _ _
  · simp only [resolve, ha.ev hg]
    simp [go_sem]
  · simp [invoke, go_sem, run_enters hent]
  · refine callsIn_wide.2 (Calls.mono (hc a fn w.heap.size (w.heap.size + 1) W1 ha hO (Nat.le_refl _) (Nat.lt_succ_self _) (by omega) hL1 hK1) ?_)
    rintro e w2 ⟨v, rfl, h1, h2, h3⟩
    have hlt : w.heap.size + 1 < w2.heap.size := (Array.getElem?_eq_some_iff.1 h1).1
    refine ⟨none, _, run_endLoop h1 (by simp), ?_⟩
    refine h w.heap.size (w.heap.size + 1) w2 _ (Nat.le_refl _) (Nat.lt_succ_self _) h3 (Only.putObj _ _ _) ((World.putObj_heap_other (by omega)).trans h2) _ ⟨ha.size, ?_, ha.get⟩
    simp [ha.defers]

/-! ### a function that holds such a statement -/
theorem enterM {f : FuncId} {fn : Func} {c : Code} {args : List Value} {R : Value → World → Prop} (hf : P.funcs[f]? = some fn) (hb : fn.body = some c)
    (hn : fn.ntmps = n) (hle : Nat.ble args.length n = true) (h : CW P c (bodyPostM Fence.wide 0 P fn (fun e w' => ∃ v, e = .returned v ∧ R v w')) n [] (argsFrom 0 args) w) : Ret P f args.toArray w R := by
  refine (callsIn_wide (n := 0)).1 (callsIn_of_wp_marks hf hb trivial (wpIn_wide.2 (h _ ⟨?_, rfl, ?_⟩)))
  · have := Nat.le_of_ble_eq_true hle
    simp only [Array.size_append, Array.size_replicate, List.size_toArray]; omega
  · intro t v hv; rw [hn]; exact args_ok args n t v hv
theorem finM {fn : Func} {a : Act} {C : Value → World → Prop} {D0 : Nat} (hd : a.defers = [{ target := .collected D0, args := #[] }]) (hD : w.heap[D0]? = some (.deferred (some [])))
    (h : ∀ w', Only [D0] w w' → ∃ v, (results fn a.tmps).run P w' = .ok v w' ∧ C v w') : bodyPostM Fence.wide 0 P fn (fun e w' => ∃ v, e = .returned v ∧ C v w') .ret a w := by
  show LeavesInM _ _ P fn a.tmps _ a.defers .returning w
  rw [hd]
  obtain ⟨v, hr, hC⟩ := h _ (Only.putObj w D0 (.deferred none))
  exact ⟨by simp, .inl ⟨D0, _, rfl, run_takeDeferred hD, v, hr, v, rfl, hC⟩⟩
end
end Go.K

/-! Collecting what an iterator over a map gives. -/
namespace Go.K
open Go.RowKit (Below)
section
variable {P : Program} {n : Nat} {D : List Deferred} {E : Env} {w : World}
theorem Iter.keepW {α : Type} {κ : α → Value} {w w' : World} {it m : Nat} {todo : List (α × Value)} (h : Iter κ w it m todo) (k : KeepsWalks w w') : Iter κ w' it m todo := by
  obtain ⟨es, c, seen, h1, h2, h3, h4, h5⟩ := h
  exact ⟨es, c, seen, k.same _ _ h1 rfl, h2, h3, k.same _ _ h4 rfl, h5⟩
theorem KMap.keepW {α : Type} [DecidableEq α] {κ : α → Value} {w w' : World} {m : Nat} {l : List (α × Value)} (h : KMap κ w m l) (k : KeepsWalks w w') : KMap κ w' m l := by
  obtain ⟨⟨es, c, h1, h2⟩, h3⟩ := h
  exact ⟨⟨es, c, k.same _ _ h1 rfl, h2⟩, h3⟩
theorem KeepsWalks.of_only {S : List Nat} {w w' : World} (u : Only S w w') (h : ∀ b ∈ S, ∀ o, w.heap[b]? = some o → o.isWalk = false) : KeepsWalks w w' :=
  ⟨u.size, fun k o hk ho => (u.keep k (Array.getElem?_eq_some_iff.1 hk).1 (fun hm => by rw [h k hm o hk] at ho; cases ho)).trans hk⟩
theorem perm_erase {β γ : Type} : ∀ {l : List (β × γ)} {j : Nat} {a : β} {v : γ}, l[j]? = some (a, v) → (a :: (l.eraseIdx j).map (·.1)).Perm (l.map (·.1))
  | [], _, _, _, h => by simp at h
  | q :: r, 0, a, v, h => by
    simp at h; subst h; simp
  | q :: r, j + 1, a, v, h => by
    have ih := perm_erase (l := r) (j := j) (a := a) (v := v) (by simpa using h)
    simp only [List.eraseIdx_cons_succ, List.map_cons]
    exact (List.Perm.swap _ _ _).trans (ih.cons q.1)
theorem Fits.ps1 {a : Act} {p : Nat} (ha : Fits n D E a) (hp : p < n) (v : Value) : Fits n [] ((p, v) :: E) { tmps := ((#[p] : Array Tmp).zip #[v]).foldl (fun t (p, v) => t.setIfInBounds p v) a.tmps, defers := [] } := by
  have h := (show Fits n [] E { tmps := a.tmps, defers := [] } from ⟨ha.size, rfl, ha.get⟩).put hp v
  simpa [Act.put] using h

theorem seq_collect {α : Type} [DecidableEq α] {κ : α → Value} {r f D0 b m T e gf : Nat} {tmps : Array Value} {ps : Array Tmp} {asg body : Code} {caps : List Value} {w1 : World} {L : List (α × Value)}
    (hit : ∀ J : List α → World → Prop, J [] w1 → (∀ done w2 w3, J done w2 → Only [] w2 w3 → J done w3) →
      (∀ done w2 w3 it todo, J done w2 → w1.heap.size ≤ it → Iter κ w2 it m todo → Only [it] w2 w3 → w3.heap.size = w2.heap.size → J done w3) →
      (∀ (done : List α) a w2, J done w2 → done.length < L.length → YieldAt Fence.wide 0 P r #[κ a] w2 fun e w3 => e = .returned (.bool true) ∧ J (done ++ [a]) w3 ∧ KeepsWalks w2 w3) →
      Ret P gf (#[.func (.yield r) #[] #[]] ++ caps.toArray) w1 fun _ w' => ∃ done : List α, done.Perm (L.map (·.1)) ∧ J done w')
    (hr : Recd w1 r f tmps ps asg body D0 .ready) (hD : w1.heap[D0]? = some (.deferred (some []))) (hb : Blk w1 b [.slice none 0 0] T)
    (hround : ∀ (done : List α) (x : α) (sv : Value) (w2 : World), Blk w2 b [sv] T → Own w2 sv e 1 done.length (done.map κ) → done.length < L.length → Recd w2 r f tmps ps asg body D0 .ready →
      ∀ R : World → Prop, (∀ w4 sv', Blk w4 b [sv'] T → Own w4 sv' e 1 (done.length + 1) (done.map κ ++ [κ x]) → Only (r :: b :: sv.ownBlock.toList) w2 w4 →
        (∀ y, sv'.ownBlock = some y → sv.ownBlock = some y ∨ w2.heap.size ≤ y) → Recd w4 r f tmps ps asg body D0 .ready → R w4) →
      YieldAt Fence.wide 0 P r #[κ x] w2 fun e w' => e = .returned (.bool true) ∧ R w') :
    Ret P gf (#[.func (.yield r) #[] #[]] ++ caps.toArray) w1 fun _ w2 => Recd w2 r f tmps ps asg body D0 .ready ∧ w2.heap[D0]? = some (.deferred (some [])) ∧
      ∃ done : List α, done.Perm (L.map (·.1)) ∧ ∃ sv, Blk w2 b [sv] T ∧ Own w2 sv e 1 done.length (done.map κ) ∧ Only [r, b] w1 w2 ∧ (∀ y, sv.ownBlock = some y → w1.heap.size ≤ y) := by
  have hrl : r < w1.heap.size := (Array.getElem?_eq_some_iff.1 hr).1
  have hDl : D0 < w1.heap.size := (Array.getElem?_eq_some_iff.1 hD).1
  have hbl := hb.lt
  refine Ret.mono (hit (fun (done : List α) w2 => Recd w2 r f tmps ps asg body D0 .ready ∧ w2.heap[D0]? = some (.deferred (some [])) ∧
    ∃ sv, Blk w2 b [sv] T ∧ Own w2 sv e 1 done.length (done.map κ) ∧ Only [r, b] w1 w2 ∧ (∀ y, sv.ownBlock = some y → w1.heap.size ≤ y)) ?_ ?_ ?_ ?_) ?_
  · exact ⟨hr, hD, _, hb, Own.nil, Only.refl _ _, fun y h => by simp [Value.ownBlock] at h⟩
  · rintro done w2 w3 ⟨q1, q2, sv, q3, q4, q5, q6⟩ u
    exact ⟨q1.keep u nm0, (u.keep D0 (Array.getElem?_eq_some_iff.1 q2).1 nm0).trans q2, sv, q3.keep u nm0, q4.keep0 u, (q5.trans u).sub (by simp), q6⟩
  · rintro done w2 w3 it todo ⟨q1, q2, sv, q3, q4, q5, q6⟩ hge hi u hz
    have n1 : ∀ k : Nat, k < w1.heap.size → k ∉ [it] := fun k hk hm => by
      have : k = it := by simpa using hm
      omega
    refine ⟨q1.keep u (n1 _ hrl), (u.keep D0 (Array.getElem?_eq_some_iff.1 q2).1 (n1 _ hDl)).trans q2, sv, q3.keep u (n1 _ hbl), q4.keep u ?_, (q5.trans u).sub ?_, q6⟩
    · intro y hy hm
      have : y = it := by simpa using hm
      subst this
      obtain ⟨cs, hcs⟩ := q4.blk hy
      obtain ⟨_, _, _, _, _, _, h4, _⟩ := hi
      unfold Blk at hcs; rw [h4] at hcs; cases hcs
    · intro k hk hl
      simp only [List.mem_append, List.mem_cons, List.not_mem_nil, or_false] at hk ⊢
      omega
  · rintro done x w2 ⟨q1, q2, sv, q3, q4, q5, q6⟩ hlt
    refine hround done x sv w2 q3 q4 hlt q1 (fun w3 => ((Recd w3 r f tmps ps asg body D0 .ready ∧ w3.heap[D0]? = some (.deferred (some [])) ∧
      ∃ sv, Blk w3 b [sv] T ∧ Own w3 sv e 1 (done ++ [x]).length ((done ++ [x]).map κ) ∧ Only [r, b] w1 w3 ∧ (∀ y, sv.ownBlock = some y → w1.heap.size ≤ y)) ∧ KeepsWalks w2 w3)) ?_
    intro w4 sv' h1 h2 u h4 h5
    have hobj : ∀ y ∈ r :: b :: sv.ownBlock.toList, ∀ o, w2.heap[y]? = some o → o.isWalk = false ∧ ∀ ds, o ≠ .deferred ds := by
      intro y hy o ho
      simp only [List.mem_cons] at hy
      rcases hy with rfl | rfl | hy
      · unfold Recd at q1; rw [q1] at ho; cases ho; exact ⟨rfl, fun _ h => by cases h⟩
      · unfold Blk at q3; rw [q3] at ho; cases ho; exact ⟨rfl, fun _ h => by cases h⟩
      · obtain ⟨cs, hcs⟩ := q4.blk (by simpa using hy)
        unfold Blk at hcs; rw [hcs] at ho; cases ho; exact ⟨rfl, fun _ h => by cases h⟩
    refine ⟨⟨h5, (u.keep D0 (Array.getElem?_eq_some_iff.1 q2).1 (fun hm => (hobj _ hm _ q2).2 _ rfl)).trans q2, sv', h1, by simpa using h2, ?_, ?_⟩, KeepsWalks.of_only u (fun y hy o ho => (hobj y hy o ho).1)⟩
    · refine (q5.trans u).sub ?_
      intro k hk hl
      simp only [List.mem_append, List.mem_cons, List.not_mem_nil, or_false, Option.mem_toList] at hk ⊢
      rcases hk with hk | hk | hk | hk
      · exact hk
      · exact .inl hk
      · exact .inr hk
      · have := q6 _ hk; omega
    · intro y hy
      have := q5.size
      rcases h4 y hy with h | h
      · exact q6 y h
      · omega
  · rintro v w2 ⟨done, hp, q1, q2, sv, q3, q4, q5, q6⟩
    exact ⟨q1, q2, done, hp, sv, q3, q4, q5, q6⟩
end
end Go.K

namespace Go.K
open Go.Proofs
set_option maxRecDepth 8000
set_option maxHeartbeats 1000000
set_option linter.unusedSimpArgs false
set_option linter.unusedVariables false
theorem iter120 {w : World} {r bm m : Nat} {L : List (ByteArray × Value)} {J : List ByteArray → World → Prop} (hb : Blk w bm [.map (some m)] 69) (hm : KMap ks w m L) (h0 : J [] w) (hJ0 : ∀ dn w1 w2, J dn w1 → Only [] w1 w2 → J dn w2)
    (hJ : ∀ dn w1 w2 it todo, J dn w1 → w.heap.size ≤ it → Iter ks w1 it m todo → Only [it] w1 w2 → w2.heap.size = w1.heap.size → J dn w2)
    (hy : ∀ (dn : List ByteArray) a w1, J dn w1 → dn.length < L.length → YieldAt Fence.wide 0 Tryz.prog r #[ks a] w1 fun e w2 => e = .returned (.bool true) ∧ J (dn ++ [a]) w2 ∧ KeepsWalks w1 w2) :
    Ret Tryz.prog 120 #[.func (.yield r) #[] #[], .pointer (some ⟨bm, 0, none⟩)] w fun _ w' => ∃ dn : List ByteArray, dn.Perm (L.map (·.1)) ∧ J dn w' := by
  refine enterL (args := [.func (.yield r) #[] #[], .pointer (some ⟨bm, 0, none⟩)]) Tryz.func120 rfl rfl rfl ?_
  refine CW.seq fun K1 hK1 => ?_
  refine CW.region ?_
  refine WL.load1 rfl agg69 rfl rfl hb rfl ?_
  refine WL.range (κ := ks) rfl rfl Tryz.underlying69 rfl hm ?_
  intro w2 it3 h4 u5 g6
  refine WL.sub [(0, .func (.yield r) #[] #[]), (5, .pointer (some ⟨it3, 0, none⟩))] ⟨rfl, rfl, trivial⟩ ?_
  refine WL.nil ?_
  refine hK1 _ _ _ ?_
  refine CW.block ?_
  refine CW.sub [(0, .func (.yield r) #[] #[]), (5, .pointer (some ⟨it3, 0, none⟩))] ⟨rfl, rfl, trivial⟩ ?_
  refine CW.loop (F := fun _ : List (ByteArray × Value) × List ByteArray => [(0, .func (.yield r) #[] #[]), (5, .pointer (some ⟨it3, 0, none⟩))]) (I := fun q w' => Iter ks w' it3 m q.1 ∧ J q.2 w' ∧ (q.2 ++ q.1.map (·.1)).Perm (L.map (·.1))) (μ := fun q => q.1.length) (L, []) ⟨h4, hJ0 _ _ _ h0 ((u5).sub (by simp)), by simp⟩ ?_
  rintro ⟨todo, dn⟩ w1 ⟨hi, hj, hp⟩
  dsimp only at hi hj hp
  refine CW.seq fun K7 hK7 => ?_
  refine CW.region ?_
  refine WL.next2 (κ := ks) rfl rfl rfl hi (fun ht => ?_) (fun j x v w2 hjx hi2 hat un zn => ?_)
  · skip
    refine WL.to (E' := [(0, .func (.yield r) #[] #[]), (5, .pointer (some ⟨it3, 0, none⟩)), (6, .tuple #[.bool false]), (7, .bool false)]) 1 [0, 5, 6, 7] (by kernel_rfl) ?_
    refine WL.nil ?_
    refine hK7 _ _ _ ?_
    refine CW.seq fun K8 hK8 => ?_
    refine CW.condF rfl ?_
    refine CW.exit ?_
    intro a ha
    try simp (decide := true) only [Exit.inBlock, Exit.then, ↓reduceIte]
    exact finN ha.defers (res_none rfl _) ⟨dn, (by subst ht; simpa using hp), hj⟩
  · skip
    refine WL.to (E' := [(0, .func (.yield r) #[] #[]), (5, .pointer (some ⟨it3, 0, none⟩)), (6, .tuple #[.bool true, .string x, v]), (7, .bool true)]) 1 [0, 5, 6, 7] (by kernel_rfl) ?_
    refine WL.nil ?_
    refine hK7 _ _ _ ?_
    refine CW.seq fun K9 hK9 => ?_
    refine CW.condT rfl ?_
    refine CW.skip ?_
    refine hK9 _ _ _ ?_
    refine CW.block ?_
    refine CW.seq fun K10 hK10 => ?_
    refine CW.region ?_
    refine WL.entry (κ := ks) rfl rfl rfl hat ?_
    refine WL.to (E' := [(0, .func (.yield r) #[] #[]), (5, .pointer (some ⟨it3, 0, none⟩)), (6, .tuple #[.bool true, .string x, v]), (7, .bool true), (8, .tuple #[.string x, v]), (9, .string x), (3, .string x)]) 2 [0, 5, 6, 7, 8, 9, 3] (by kernel_rfl) ?_
    refine WL.nil ?_
    refine hK10 _ _ _ ?_
    refine CW.seq fun K11 hK11 => ?_
    refine CW.regionI ?_
    refine WI.to (E' := [(0, .func (.yield r) #[] #[]), (5, .pointer (some ⟨it3, 0, none⟩)), (6, .tuple #[.bool true, .string x, v]), (7, .bool true), (8, .tuple #[.string x, v]), (9, .string x), (3, .string x), (10, .func (.yield r) #[] #[]), (11, .string x)]) 2 [0, 5, 6, 7, 8, 9, 3, 10, 11] (by kernel_rfl) ?_
    have hlen : dn.length < L.length := by have h1 := hp.length_eq; have h2 := (List.getElem?_eq_some_iff.1 hjx).1; simp at h1; omega
    have hge : w.heap.size ≤ it3 := by have := g6; have := u5.size; omega
    refine WI.yield (vs := [.string x]) rfl rfl rfl rfl (hy dn x _ (hJ _ _ _ _ _ hj hge hi un zn) hlen) ?_
    rintro w3 ⟨hj3, kw⟩
    have hi3 := hi2.keepW kw
    refine WI.to (E' := [(0, .func (.yield r) #[] #[]), (5, .pointer (some ⟨it3, 0, none⟩)), (6, .tuple #[.bool true, .string x, v]), (7, .bool true), (8, .tuple #[.string x, v]), (9, .string x), (3, .string x), (10, .func (.yield r) #[] #[]), (11, .string x), (12, .bool true), (13, .bool false)]) 1 [0, 5, 6, 7, 8, 9, 3, 10, 11, 12, 13] (by kernel_rfl) ?_
    refine WI.nil ?_
    refine hK11 _ _ _ ?_
    refine CW.condF rfl ?_
    refine CW.skip ?_
    intro a ha
    have ha := ha.sub (E' := [(0, .func (.yield r) #[] #[]), (5, .pointer (some ⟨it3, 0, none⟩))]) ⟨rfl, rfl, trivial⟩
    exact ⟨(todo.eraseIdx j, dn ++ [x]), (by show (todo.eraseIdx j).length < todo.length; rw [List.length_eraseIdx]; have := (List.getElem?_eq_some_iff.1 hjx).1; split <;> omega), ⟨hi3, hj3, (by show (dn ++ [x] ++ (todo.eraseIdx j).map (·.1)).Perm _; rw [List.append_assoc]; exact ((perm_erase hjx).append_left dn).trans hp)⟩, ha⟩

theorem iter167 {w : World} {r bm m : Nat} {L : List (Int × Value)} {J : List Int → World → Prop} (hb : Blk w bm [.map (some m)] 222) (hm : KMap ki w m L) (h0 : J [] w) (hJ0 : ∀ dn w1 w2, J dn w1 → Only [] w1 w2 → J dn w2)
    (hJ : ∀ dn w1 w2 it todo, J dn w1 → w.heap.size ≤ it → Iter ki w1 it m todo → Only [it] w1 w2 → w2.heap.size = w1.heap.size → J dn w2)
    (hy : ∀ (dn : List Int) a w1, J dn w1 → dn.length < L.length → YieldAt Fence.wide 0 Tryz.prog r #[ki a] w1 fun e w2 => e = .returned (.bool true) ∧ J (dn ++ [a]) w2 ∧ KeepsWalks w1 w2) :
    Ret Tryz.prog 167 #[.func (.yield r) #[] #[], .pointer (some ⟨bm, 0, none⟩)] w fun _ w' => ∃ dn : List Int, dn.Perm (L.map (·.1)) ∧ J dn w' := by
  refine enterL (args := [.func (.yield r) #[] #[], .pointer (some ⟨bm, 0, none⟩)]) Tryz.func167 rfl rfl rfl ?_
  refine CW.seq fun K1 hK1 => ?_
  refine CW.region ?_
  refine WL.load1 rfl agg222 rfl rfl hb rfl ?_
  refine WL.range (κ := ki) rfl rfl Tryz.underlying222 rfl hm ?_
  intro w2 it3 h4 u5 g6
  refine WL.sub [(0, .func (.yield r) #[] #[]), (5, .pointer (some ⟨it3, 0, none⟩))] ⟨rfl, rfl, trivial⟩ ?_
  refine WL.nil ?_
  refine hK1 _ _ _ ?_
  refine CW.block ?_
  refine CW.sub [(0, .func (.yield r) #[] #[]), (5, .pointer (some ⟨it3, 0, none⟩))] ⟨rfl, rfl, trivial⟩ ?_
  refine CW.loop (F := fun _ : List (Int × Value) × List Int => [(0, .func (.yield r) #[] #[]), (5, .pointer (some ⟨it3, 0, none⟩))]) (I := fun q w' => Iter ki w' it3 m q.1 ∧ J q.2 w' ∧ (q.2 ++ q.1.map (·.1)).Perm (L.map (·.1))) (μ := fun q => q.1.length) (L, []) ⟨h4, hJ0 _ _ _ h0 ((u5).sub (by simp)), by simp⟩ ?_
  rintro ⟨todo, dn⟩ w1 ⟨hi, hj, hp⟩
  dsimp only at hi hj hp
  refine CW.seq fun K7 hK7 => ?_
  refine CW.region ?_
  refine WL.next2 (κ := ki) rfl rfl rfl hi (fun ht => ?_) (fun j x v w2 hjx hi2 hat un zn => ?_)
  · skip
    refine WL.to (E' := [(0, .func (.yield r) #[] #[]), (5, .pointer (some ⟨it3, 0, none⟩)), (6, .tuple #[.bool false]), (7, .bool false)]) 1 [0, 5, 6, 7] (by kernel_rfl) ?_
    refine WL.nil ?_
    refine hK7 _ _ _ ?_
    refine CW.seq fun K8 hK8 => ?_
    refine CW.condF rfl ?_
    refine CW.exit ?_
    intro a ha
    try simp (decide := true) only [Exit.inBlock, Exit.then, ↓reduceIte]
    exact finN ha.defers (res_none rfl _) ⟨dn, (by subst ht; simpa using hp), hj⟩
  · skip
    refine WL.to (E' := [(0, .func (.yield r) #[] #[]), (5, .pointer (some ⟨it3, 0, none⟩)), (6, .tuple #[.bool true, .int .i64 x, v]), (7, .bool true)]) 1 [0, 5, 6, 7] (by kernel_rfl) ?_
    refine WL.nil ?_
    refine hK7 _ _ _ ?_
    refine CW.seq fun K9 hK9 => ?_
    refine CW.condT rfl ?_
    refine CW.skip ?_
    refine hK9 _ _ _ ?_
    refine CW.block ?_
    refine CW.seq fun K10 hK10 => ?_
    refine CW.region ?_
    refine WL.entry (κ := ki) rfl rfl rfl hat ?_
    refine WL.to (E' := [(0, .func (.yield r) #[] #[]), (5, .pointer (some ⟨it3, 0, none⟩)), (6, .tuple #[.bool true, .int .i64 x, v]), (7, .bool true), (8, .tuple #[.int .i64 x, v]), (9, .int .i64 x), (3, .int .i64 x)]) 2 [0, 5, 6, 7, 8, 9, 3] (by kernel_rfl) ?_
    refine WL.nil ?_
    refine hK10 _ _ _ ?_
    refine CW.seq fun K11 hK11 => ?_
    refine CW.regionI ?_
    refine WI.to (E' := [(0, .func (.yield r) #[] #[]), (5, .pointer (some ⟨it3, 0, none⟩)), (6, .tuple #[.bool true, .int .i64 x, v]), (7, .bool true), (8, .tuple #[.int .i64 x, v]), (9, .int .i64 x), (3, .int .i64 x), (10, .func (.yield r) #[] #[]), (11, .int .i64 x)]) 2 [0, 5, 6, 7, 8, 9, 3, 10, 11] (by kernel_rfl) ?_
    have hlen : dn.length < L.length := by have h1 := hp.length_eq; have h2 := (List.getElem?_eq_some_iff.1 hjx).1; simp at h1; omega
    have hge : w.heap.size ≤ it3 := by have := g6; have := u5.size; omega
    refine WI.yield (vs := [.int .i64 x]) rfl rfl rfl rfl (hy dn x _ (hJ _ _ _ _ _ hj hge hi un zn) hlen) ?_
    rintro w3 ⟨hj3, kw⟩
    have hi3 := hi2.keepW kw
    refine WI.to (E' := [(0, .func (.yield r) #[] #[]), (5, .pointer (some ⟨it3, 0, none⟩)), (6, .tuple #[.bool true, .int .i64 x, v]), (7, .bool true), (8, .tuple #[.int .i64 x, v]), (9, .int .i64 x), (3, .int .i64 x), (10, .func (.yield r) #[] #[]), (11, .int .i64 x), (12, .bool true), (13, .bool false)]) 1 [0, 5, 6, 7, 8, 9, 3, 10, 11, 12, 13] (by kernel_rfl) ?_
    refine WI.nil ?_
    refine hK11 _ _ _ ?_
    refine CW.condF rfl ?_
    refine CW.skip ?_
    intro a ha
    have ha := ha.sub (E' := [(0, .func (.yield r) #[] #[]), (5, .pointer (some ⟨it3, 0, none⟩))]) ⟨rfl, rfl, trivial⟩
    exact ⟨(todo.eraseIdx j, dn ++ [x]), (by show (todo.eraseIdx j).length < todo.length; rw [List.length_eraseIdx]; have := (List.getElem?_eq_some_iff.1 hjx).1; split <;> omega), ⟨hi3, hj3, (by show (dn ++ [x] ++ (todo.eraseIdx j).map (·.1)).Perm _; rw [List.append_assoc]; exact ((perm_erase hjx).append_left dn).trans hp)⟩, ha⟩

theorem iter230 {w : World} {r bm m : Nat} {L : List (Int × Value)} {J : List Int → World → Prop} (hb : Blk w bm [.map (some m)] 118) (hm : KMap ki w m L) (h0 : J [] w) (hJ0 : ∀ dn w1 w2, J dn w1 → Only [] w1 w2 → J dn w2)
    (hJ : ∀ dn w1 w2 it todo, J dn w1 → w.heap.size ≤ it → Iter ki w1 it m todo → Only [it] w1 w2 → w2.heap.size = w1.heap.size → J dn w2)
    (hy : ∀ (dn : List Int) a w1, J dn w1 → dn.length < L.length → YieldAt Fence.wide 0 Tryz.prog r #[ki a] w1 fun e w2 => e = .returned (.bool true) ∧ J (dn ++ [a]) w2 ∧ KeepsWalks w1 w2) :
    Ret Tryz.prog 230 #[.func (.yield r) #[] #[], .pointer (some ⟨bm, 0, none⟩)] w fun _ w' => ∃ dn : List Int, dn.Perm (L.map (·.1)) ∧ J dn w' := by
  refine enterL (args := [.func (.yield r) #[] #[], .pointer (some ⟨bm, 0, none⟩)]) Tryz.func230 rfl rfl rfl ?_
  refine CW.seq fun K1 hK1 => ?_
  refine CW.region ?_
  refine WL.load1 rfl agg118 rfl rfl hb rfl ?_
  refine WL.range (κ := ki) rfl rfl Tryz.underlying118 rfl hm ?_
  intro w2 it3 h4 u5 g6
  refine WL.sub [(0, .func (.yield r) #[] #[]), (5, .pointer (some ⟨it3, 0, none⟩))] ⟨rfl, rfl, trivial⟩ ?_
  refine WL.nil ?_
  refine hK1 _ _ _ ?_
  refine CW.block ?_
  refine CW.sub [(0, .func (.yield r) #[] #[]), (5, .pointer (some ⟨it3, 0, none⟩))] ⟨rfl, rfl, trivial⟩ ?_
  refine CW.loop (F := fun _ : List (Int × Value) × List Int => [(0, .func (.yield r) #[] #[]), (5, .pointer (some ⟨it3, 0, none⟩))]) (I := fun q w' => Iter ki w' it3 m q.1 ∧ J q.2 w' ∧ (q.2 ++ q.1.map (·.1)).Perm (L.map (·.1))) (μ := fun q => q.1.length) (L, []) ⟨h4, hJ0 _ _ _ h0 ((u5).sub (by simp)), by simp⟩ ?_
  rintro ⟨todo, dn⟩ w1 ⟨hi, hj, hp⟩
  dsimp only at hi hj hp
  refine CW.seq fun K7 hK7 => ?_
  refine CW.region ?_
  refine WL.next2 (κ := ki) rfl rfl rfl hi (fun ht => ?_) (fun j x v w2 hjx hi2 hat un zn => ?_)
  · skip
    refine WL.to (E' := [(0, .func (.yield r) #[] #[]), (5, .pointer (some ⟨it3, 0, none⟩)), (6, .tuple #[.bool false]), (7, .bool false)]) 1 [0, 5, 6, 7] (by kernel_rfl) ?_
    refine WL.nil ?_
    refine hK7 _ _ _ ?_
    refine CW.seq fun K8 hK8 => ?_
    refine CW.condF rfl ?_
    refine CW.exit ?_
    intro a ha
    try simp (decide := true) only [Exit.inBlock, Exit.then, ↓reduceIte]
    exact finN ha.defers (res_none rfl _) ⟨dn, (by subst ht; simpa using hp), hj⟩
  · skip
    refine WL.to (E' := [(0, .func (.yield r) #[] #[]), (5, .pointer (some ⟨it3, 0, none⟩)), (6, .tuple #[.bool true, .int .i64 x, v]), (7, .bool true)]) 1 [0, 5, 6, 7] (by kernel_rfl) ?_
    refine WL.nil ?_
    refine hK7 _ _ _ ?_
    refine CW.seq fun K9 hK9 => ?_
    refine CW.condT rfl ?_
    refine CW.skip ?_
    refine hK9 _ _ _ ?_
    refine CW.block ?_
    refine CW.seq fun K10 hK10 => ?_
    refine CW.region ?_
    refine WL.entry (κ := ki) rfl rfl rfl hat ?_
    refine WL.to (E' := [(0, .func (.yield r) #[] #[]), (5, .pointer (some ⟨it3, 0, none⟩)), (6, .tuple #[.bool true, .int .i64 x, v]), (7, .bool true), (8, .tuple #[.int .i64 x, v]), (9, .int .i64 x), (3, .int .i64 x)]) 2 [0, 5, 6, 7, 8, 9, 3] (by kernel_rfl) ?_
    refine WL.nil ?_
    refine hK10 _ _ _ ?_
    refine CW.seq fun K11 hK11 => ?_
    refine CW.regionI ?_
    refine WI.to (E' := [(0, .func (.yield r) #[] #[]), (5, .pointer (some ⟨it3, 0, none⟩)), (6, .tuple #[.bool true, .int .i64 x, v]), (7, .bool true), (8, .tuple #[.int .i64 x, v]), (9, .int .i64 x), (3, .int .i64 x), (10, .func (.yield r) #[] #[]), (11, .int .i64 x)]) 2 [0, 5, 6, 7, 8, 9, 3, 10, 11] (by kernel_rfl) ?_
    have hlen : dn.length < L.length := by have h1 := hp.length_eq; have h2 := (List.getElem?_eq_some_iff.1 hjx).1; simp at h1; omega
    have hge : w.heap.size ≤ it3 := by have := g6; have := u5.size; omega
    refine WI.yield (vs := [.int .i64 x]) rfl rfl rfl rfl (hy dn x _ (hJ _ _ _ _ _ hj hge hi un zn) hlen) ?_
    rintro w3 ⟨hj3, kw⟩
    have hi3 := hi2.keepW kw
    refine WI.to (E' := [(0, .func (.yield r) #[] #[]), (5, .pointer (some ⟨it3, 0, none⟩)), (6, .tuple #[.bool true, .int .i64 x, v]), (7, .bool true), (8, .tuple #[.int .i64 x, v]), (9, .int .i64 x), (3, .int .i64 x), (10, .func (.yield r) #[] #[]), (11, .int .i64 x), (12, .bool true), (13, .bool false)]) 1 [0, 5, 6, 7, 8, 9, 3, 10, 11, 12, 13] (by kernel_rfl) ?_
    refine WI.nil ?_
    refine hK11 _ _ _ ?_
    refine CW.condF rfl ?_
    refine CW.skip ?_
    intro a ha
    have ha := ha.sub (E' := [(0, .func (.yield r) #[] #[]), (5, .pointer (some ⟨it3, 0, none⟩))]) ⟨rfl, rfl, trivial⟩
    exact ⟨(todo.eraseIdx j, dn ++ [x]), (by show (todo.eraseIdx j).length < todo.length; rw [List.length_eraseIdx]; have := (List.getElem?_eq_some_iff.1 hjx).1; split <;> omega), ⟨hi3, hj3, (by show (dn ++ [x] ++ (todo.eraseIdx j).map (·.1)).Perm _; rw [List.append_assoc]; exact ((perm_erase hjx).append_left dn).trans hp)⟩, ha⟩

theorem appendSeq160_120 {w : World} {bm m : Nat} {L : List (ByteArray × Value)} (hbm : Blk w bm [.map (some m)] 69) (hm : KMap ks w m L) (hL : L.length ≤ 1000) :
    Ret Tryz.prog 160 #[.slice none 0 0, .func (.func 120) #[] #[.pointer (some ⟨bm, 0, none⟩)]] w fun v w' => ∃ dn : List ByteArray, dn.Perm (L.map (·.1)) ∧ ∃ ao cp, v = .slice ao dn.length cp ∧ Own w' (.slice ao dn.length cp) 9 1 dn.length (dn.map ks) ∧ (∀ b, (Value.slice ao dn.length cp).ownBlock = some b → w.heap.size ≤ b) ∧ Only [] w w' := by
  refine enterM (args := [.slice none 0 0, .func (.func 120) #[] #[.pointer (some ⟨bm, 0, none⟩)]]) Tryz.func160 rfl rfl rfl ?_
  refine CW.seq fun K1 hK1 => ?_
  refine CW.region ?_
  refine WL.box (cs := [.slice none 0 0]) rfl rfl rfl rfl ?_
  intro w1 b hb u1 g1
  refine WL.to (E' := [(1, .func (.func 120) #[] #[.pointer (some ⟨bm, 0, none⟩)]), (2, .pointer (some ⟨b, 0, none⟩))]) 1 [1, 2] (by kernel_rfl) ?_
  refine WL.nil ?_
  refine hK1 _ _ _ ?_
  refine CW.seq fun K2 hK2 => ?_
  refine CW.seq fun K3 hK3 => ?_
  refine CW.region ?_
  refine WL.to (E' := [(6, .func (.func 120) #[] #[.pointer (some ⟨bm, 0, none⟩)]), (2, .pointer (some ⟨b, 0, none⟩))]) 1 [6, 2] (by kernel_rfl) ?_
  refine WL.nil ?_
  refine hK3 _ _ _ ?_
  refine CW.block ?_
  refine CW.rangeFunc (caps := [.pointer (some ⟨bm, 0, none⟩)]) (R := fun D0 r w2 => ∃ dn : List ByteArray, dn.Perm (L.map (·.1)) ∧ ∃ sv, Blk w2 b [sv] 168 ∧ Own w2 sv 9 1 dn.length (dn.map ks) ∧ Only [] w w2 ∧ (∀ y, sv.ownBlock = some y → w.heap.size ≤ y) ∧ (∀ y, sv.ownBlock = some y → y ≠ r ∧ y ≠ D0)) rfl ent120 ?_ ?_
  · intro a f D0 r w2 ha u2 g2 g3 g4 hr hD
    refine Ret.mono (seq_collect (κ := ks) (e := 9) (T := 168) (b := b) (L := L) (caps := [.pointer (some ⟨bm, 0, none⟩)]) (fun J j0 jJ0 jJ jy => iter120 ((hbm.keep u1 nm0).keep u2 nm0) ((hm.keep u1 nm0).keep u2 nm0) j0 jJ0 jJ jy) hr hD (hb.keep u2 nm0) ?_) ?_
    · intro dn x sv w3 hb3 ho3 hlt hr3 R hR
      refine yieldK hr3 rfl (ha.ps1 (by decide) _) ?_
      refine CR.region rfl (fun _ _ h => h) ?_
      refine WL.to (E' := [(5, ks x), (2, .pointer (some ⟨b, 0, none⟩))]) 1 [5, 2] (by kernel_rfl) ?_
      refine WL.nil fun a1 ha1 => ⟨hr3, fun w4 u4 z4 hr4 => ?_⟩
      refine (CR.block (CR.region rfl (fun _ _ h => by simp [Exit.inBlock, roundQ] at h) ?_) : CR _ _ _ _ _ [(5, ks x), (2, .pointer (some ⟨b, 0, none⟩))] w4) a1 ha1
      have hb4 := hb3.keep u4 (nmc (Ne.symm (hr3.neB hb3)) nm0)
      have ho4 := ho3.keep u4 (fun y hy hm => by
        have : y = r := by simpa using hm
        subst this
        obtain ⟨cs, hcs⟩ := ho3.blk hy
        exact hr3.neB hcs rfl)
      refine WL.load1 rfl agg168 rfl rfl hb4 rfl ?_
      refine WL.to (E' := [(9, ks x), (8, sv), (2, .pointer (some ⟨b, 0, none⟩))]) 1 [9, 8, 2] (by kernel_rfl) ?_
      refine WL.buildSlice (vs := [(0, ks x)]) (cs := [ks x]) rfl rfl Tryz.underlying168 rfl (litCells_one siz9 zer9 rfl) ?_
      intro w5 c5 h5 u5 g5
      refine WL.appT (k := dn.length) (xs := dn.map ks) rfl Tryz.underlying168 inf9 rfl rfl rfl rfl rfl (ho4.keep0 u5) h5 rfl rfl rfl ⟨by omega, by omega⟩ ?_
      intro sv' w6 ho6 u6 hf6
      have hb5 := hb4.keep u5 nm0
      have hb6 := hb5.keep u6 (Own.ne (ho4.keep0 u5) hb5 rfl)
      have hone : sv'.oneCell' = true := by obtain ⟨ao, cp, rfl⟩ := ho6.form; rfl
      refine WL.store1 rfl siz168 rfl rfl hone hb6 rfl ?_
      intro w7 h7 u7 z7
      refine WL.nil fun a2 ha2 => ?_
      have ho7 := ho6.keep u7 (fun y hy => (nmc (fun e => by subst e; exact absurd (by simpa using hy) (Own.ne ho6 hb6 rfl)) nm0))
      have hrb : r ≠ b := hr3.neB hb3
      have hra : ∀ y, sv.ownBlock = some y → r ≠ y := fun y hy e => by
        subst e
        obtain ⟨cs, hcs⟩ := ho3.blk hy
        exact hr3.neB hcs rfl
      refine ⟨((hr4.keep u5 nm0).keep u6 (fun hm => hra r (by simpa using hm) rfl)).keep u7 (nmc hrb nm0), fun w8 u8 z8 hr8 => ?_⟩
      refine hR w8 sv' (h7.keep u8 (nmc (Ne.symm hrb) nm0)) ?_ ?_ ?_ hr8
      · refine ho7.keep u8 (fun y hy hm => ?_)
        have hy' : y = r := by simpa using hm
        subst hy'
        rcases hf6 y hy with h | h
        · exact hra y h rfl
        · have := (Array.getElem?_eq_some_iff.1 hr4).1; have := u5.size; omega
      · refine ((((u4.trans u5).trans u6).trans u7).trans u8).sub ?_
        intro k hk hl
        simp only [List.mem_append, List.mem_cons, List.not_mem_nil, or_false] at hk ⊢
        grind
      · intro y hy
        have := u4.size; have := u5.size
        exact (hf6 y hy).imp_right (fun h => by omega)
    · rintro v w3 ⟨q1, q2, dn, hp, sv, q3, q4, q5, q6⟩
      refine ⟨q1, q2, dn, hp, sv, q3, q4, ((u1.trans u2).trans q5).sub ?_, (fun y hy => by have := q6 y hy; have := u1.size; have := u2.size; omega), fun y hy => ?_⟩
      rotate_left
      · obtain ⟨cs, hcs⟩ := q4.blk hy
        exact ⟨fun e => by subst e; exact q1.neB hcs rfl, fun e => by subst e; unfold Blk at hcs; rw [q2] at hcs; cases hcs⟩
      intro k hk hl
      simp only [List.mem_append, List.mem_cons, List.not_mem_nil, or_false, false_or] at hk ⊢
      have := u1.size; omega
  · rintro D0 r w2 w3 g2 g3 ⟨dn, hp, sv, q3, q4, q5, q6, q7⟩ u3 hD a ha
    refine hK2 _ _ _ ?_ a (ha.sub (E' := [(2, .pointer (some ⟨b, 0, none⟩))]) ⟨rfl, trivial⟩)
    have hb3 := q3.keep u3 (nmc (fun e => by subst e; have := hb.lt; have := u1.size; omega) nm0)
    have hnr : ∀ y, sv.ownBlock = some y → y ∉ [r] := fun y hy hm => (q7 y hy).1 (by simpa using hm)
    refine CW.seq fun K4 hK4 => ?_
    refine CW.region ?_
    refine WL.load1 rfl agg168 rfl rfl hb3 rfl ?_
    refine WL.to (E' := [(4, sv)]) 1 [4] (by kernel_rfl) ?_
    refine WL.nil ?_
    refine hK4 _ _ _ ?_
    obtain ⟨ao, cp, rfl⟩ := q4.form
    refine CW.ret fun a ha => ?_
    refine finM ha.defers hD (fun w4 u4 => ⟨_, res_tmp rfl ha rfl _, dn, hp, ao, cp, rfl, ?_, q6, ?_⟩)
    · exact (q4.keep u3 hnr).keep u4 (fun y hy hm => (q7 y hy).2 (by simpa using hm))
    · exact ((q5.trans u3).trans u4).sub (fun k hk hl => by simp only [List.mem_append, List.mem_cons, List.not_mem_nil, or_false, false_or] at hk ⊢; have := u1.size; omega)

theorem appendSeq231_167 {w : World} {bm m : Nat} {L : List (Int × Value)} (hbm : Blk w bm [.map (some m)] 222) (hm : KMap ki w m L) (hL : L.length ≤ 1000) :
    Ret Tryz.prog 231 #[.slice none 0 0, .func (.func 167) #[] #[.pointer (some ⟨bm, 0, none⟩)]] w fun v w' => ∃ dn : List Int, dn.Perm (L.map (·.1)) ∧ ∃ ao cp, v = .slice ao dn.length cp ∧ Own w' (.slice ao dn.length cp) 2 1 dn.length (dn.map ki) ∧ (∀ b, (Value.slice ao dn.length cp).ownBlock = some b → w.heap.size ≤ b) ∧ Only [] w w' := by
  refine enterM (args := [.slice none 0 0, .func (.func 167) #[] #[.pointer (some ⟨bm, 0, none⟩)]]) Tryz.func231 rfl rfl rfl ?_
  refine CW.seq fun K1 hK1 => ?_
  refine CW.region ?_
  refine WL.box (cs := [.slice none 0 0]) rfl rfl rfl rfl ?_
  intro w1 b hb u1 g1
  refine WL.to (E' := [(1, .func (.func 167) #[] #[.pointer (some ⟨bm, 0, none⟩)]), (2, .pointer (some ⟨b, 0, none⟩))]) 1 [1, 2] (by kernel_rfl) ?_
  refine WL.nil ?_
  refine hK1 _ _ _ ?_
  refine CW.seq fun K2 hK2 => ?_
  refine CW.seq fun K3 hK3 => ?_
  refine CW.region ?_
  refine WL.to (E' := [(6, .func (.func 167) #[] #[.pointer (some ⟨bm, 0, none⟩)]), (2, .pointer (some ⟨b, 0, none⟩))]) 1 [6, 2] (by kernel_rfl) ?_
  refine WL.nil ?_
  refine hK3 _ _ _ ?_
  refine CW.block ?_
  refine CW.rangeFunc (caps := [.pointer (some ⟨bm, 0, none⟩)]) (R := fun D0 r w2 => ∃ dn : List Int, dn.Perm (L.map (·.1)) ∧ ∃ sv, Blk w2 b [sv] 225 ∧ Own w2 sv 2 1 dn.length (dn.map ki) ∧ Only [] w w2 ∧ (∀ y, sv.ownBlock = some y → w.heap.size ≤ y) ∧ (∀ y, sv.ownBlock = some y → y ≠ r ∧ y ≠ D0)) rfl ent167 ?_ ?_
  · intro a f D0 r w2 ha u2 g2 g3 g4 hr hD
    refine Ret.mono (seq_collect (κ := ki) (e := 2) (T := 225) (b := b) (L := L) (caps := [.pointer (some ⟨bm, 0, none⟩)]) (fun J j0 jJ0 jJ jy => iter167 ((hbm.keep u1 nm0).keep u2 nm0) ((hm.keep u1 nm0).keep u2 nm0) j0 jJ0 jJ jy) hr hD (hb.keep u2 nm0) ?_) ?_
    · intro dn x sv w3 hb3 ho3 hlt hr3 R hR
      refine yieldK hr3 rfl (ha.ps1 (by decide) _) ?_
      refine CR.region rfl (fun _ _ h => h) ?_
      refine WL.to (E' := [(5, ki x), (2, .pointer (some ⟨b, 0, none⟩))]) 1 [5, 2] (by kernel_rfl) ?_
      refine WL.nil fun a1 ha1 => ⟨hr3, fun w4 u4 z4 hr4 => ?_⟩
      refine (CR.block (CR.region rfl (fun _ _ h => by simp [Exit.inBlock, roundQ] at h) ?_) : CR _ _ _ _ _ [(5, ki x), (2, .pointer (some ⟨b, 0, none⟩))] w4) a1 ha1
      have hb4 := hb3.keep u4 (nmc (Ne.symm (hr3.neB hb3)) nm0)
      have ho4 := ho3.keep u4 (fun y hy hm => by
        have : y = r := by simpa using hm
        subst this
        obtain ⟨cs, hcs⟩ := ho3.blk hy
        exact hr3.neB hcs rfl)
      refine WL.load1 rfl agg225 rfl rfl hb4 rfl ?_
      refine WL.to (E' := [(9, ki x), (8, sv), (2, .pointer (some ⟨b, 0, none⟩))]) 1 [9, 8, 2] (by kernel_rfl) ?_
      refine WL.buildSlice (vs := [(0, ki x)]) (cs := [ki x]) rfl rfl Tryz.underlying225 rfl (litCells_one siz2 zer2 rfl) ?_
      intro w5 c5 h5 u5 g5
      refine WL.appT (k := dn.length) (xs := dn.map ki) rfl Tryz.underlying225 inf2 rfl rfl rfl rfl rfl (ho4.keep0 u5) h5 rfl rfl rfl ⟨by omega, by omega⟩ ?_
      intro sv' w6 ho6 u6 hf6
      have hb5 := hb4.keep u5 nm0
      have hb6 := hb5.keep u6 (Own.ne (ho4.keep0 u5) hb5 rfl)
      have hone : sv'.oneCell' = true := by obtain ⟨ao, cp, rfl⟩ := ho6.form; rfl
      refine WL.store1 rfl siz225 rfl rfl hone hb6 rfl ?_
      intro w7 h7 u7 z7
      refine WL.nil fun a2 ha2 => ?_
      have ho7 := ho6.keep u7 (fun y hy => (nmc (fun e => by subst e; exact absurd (by simpa using hy) (Own.ne ho6 hb6 rfl)) nm0))
      have hrb : r ≠ b := hr3.neB hb3
      have hra : ∀ y, sv.ownBlock = some y → r ≠ y := fun y hy e => by
        subst e
        obtain ⟨cs, hcs⟩ := ho3.blk hy
        exact hr3.neB hcs rfl
      refine ⟨((hr4.keep u5 nm0).keep u6 (fun hm => hra r (by simpa using hm) rfl)).keep u7 (nmc hrb nm0), fun w8 u8 z8 hr8 => ?_⟩
      refine hR w8 sv' (h7.keep u8 (nmc (Ne.symm hrb) nm0)) ?_ ?_ ?_ hr8
      · refine ho7.keep u8 (fun y hy hm => ?_)
        have hy' : y = r := by simpa using hm
        subst hy'
        rcases hf6 y hy with h | h
        · exact hra y h rfl
        · have := (Array.getElem?_eq_some_iff.1 hr4).1; have := u5.size; omega
      · refine ((((u4.trans u5).trans u6).trans u7).trans u8).sub ?_
        intro k hk hl
        simp only [List.mem_append, List.mem_cons, List.not_mem_nil, or_false] at hk ⊢
        grind
      · intro y hy
        have := u4.size; have := u5.size
        exact (hf6 y hy).imp_right (fun h => by omega)
    · rintro v w3 ⟨q1, q2, dn, hp, sv, q3, q4, q5, q6⟩
      refine ⟨q1, q2, dn, hp, sv, q3, q4, ((u1.trans u2).trans q5).sub ?_, (fun y hy => by have := q6 y hy; have := u1.size; have := u2.size; omega), fun y hy => ?_⟩
      rotate_left
      · obtain ⟨cs, hcs⟩ := q4.blk hy
        exact ⟨fun e => by subst e; exact q1.neB hcs rfl, fun e => by subst e; unfold Blk at hcs; rw [q2] at hcs; cases hcs⟩
      intro k hk hl
      simp only [List.mem_append, List.mem_cons, List.not_mem_nil, or_false, false_or] at hk ⊢
      have := u1.size; omega
  · rintro D0 r w2 w3 g2 g3 ⟨dn, hp, sv, q3, q4, q5, q6, q7⟩ u3 hD a ha
    refine hK2 _ _ _ ?_ a (ha.sub (E' := [(2, .pointer (some ⟨b, 0, none⟩))]) ⟨rfl, trivial⟩)
    have hb3 := q3.keep u3 (nmc (fun e => by subst e; have := hb.lt; have := u1.size; omega) nm0)
    have hnr : ∀ y, sv.ownBlock = some y → y ∉ [r] := fun y hy hm => (q7 y hy).1 (by simpa using hm)
    refine CW.seq fun K4 hK4 => ?_
    refine CW.region ?_
    refine WL.load1 rfl agg225 rfl rfl hb3 rfl ?_
    refine WL.to (E' := [(4, sv)]) 1 [4] (by kernel_rfl) ?_
    refine WL.nil ?_
    refine hK4 _ _ _ ?_
    obtain ⟨ao, cp, rfl⟩ := q4.form
    refine CW.ret fun a ha => ?_
    refine finM ha.defers hD (fun w4 u4 => ⟨_, res_tmp rfl ha rfl _, dn, hp, ao, cp, rfl, ?_, q6, ?_⟩)
    · exact (q4.keep u3 hnr).keep u4 (fun y hy hm => (q7 y hy).2 (by simpa using hm))
    · exact ((q5.trans u3).trans u4).sub (fun k hk hl => by simp only [List.mem_append, List.mem_cons, List.not_mem_nil, or_false, false_or] at hk ⊢; have := u1.size; omega)

theorem appendSeq231_230 {w : World} {bm m : Nat} {L : List (Int × Value)} (hbm : Blk w bm [.map (some m)] 118) (hm : KMap ki w m L) (hL : L.length ≤ 1000) :
    Ret Tryz.prog 231 #[.slice none 0 0, .func (.func 230) #[] #[.pointer (some ⟨bm, 0, none⟩)]] w fun v w' => ∃ dn : List Int, dn.Perm (L.map (·.1)) ∧ ∃ ao cp, v = .slice ao dn.length cp ∧ Own w' (.slice ao dn.length cp) 2 1 dn.length (dn.map ki) ∧ (∀ b, (Value.slice ao dn.length cp).ownBlock = some b → w.heap.size ≤ b) ∧ Only [] w w' := by
  refine enterM (args := [.slice none 0 0, .func (.func 230) #[] #[.pointer (some ⟨bm, 0, none⟩)]]) Tryz.func231 rfl rfl rfl ?_
  refine CW.seq fun K1 hK1 => ?_
  refine CW.region ?_
  refine WL.box (cs := [.slice none 0 0]) rfl rfl rfl rfl ?_
  intro w1 b hb u1 g1
  refine WL.to (E' := [(1, .func (.func 230) #[] #[.pointer (some ⟨bm, 0, none⟩)]), (2, .pointer (some ⟨b, 0, none⟩))]) 1 [1, 2] (by kernel_rfl) ?_
  refine WL.nil ?_
  refine hK1 _ _ _ ?_
  refine CW.seq fun K2 hK2 => ?_
  refine CW.seq fun K3 hK3 => ?_
  refine CW.region ?_
  refine WL.to (E' := [(6, .func (.func 230) #[] #[.pointer (some ⟨bm, 0, none⟩)]), (2, .pointer (some ⟨b, 0, none⟩))]) 1 [6, 2] (by kernel_rfl) ?_
  refine WL.nil ?_
  refine hK3 _ _ _ ?_
  refine CW.block ?_
  refine CW.rangeFunc (caps := [.pointer (some ⟨bm, 0, none⟩)]) (R := fun D0 r w2 => ∃ dn : List Int, dn.Perm (L.map (·.1)) ∧ ∃ sv, Blk w2 b [sv] 225 ∧ Own w2 sv 2 1 dn.length (dn.map ki) ∧ Only [] w w2 ∧ (∀ y, sv.ownBlock = some y → w.heap.size ≤ y) ∧ (∀ y, sv.ownBlock = some y → y ≠ r ∧ y ≠ D0)) rfl ent230 ?_ ?_
  · intro a f D0 r w2 ha u2 g2 g3 g4 hr hD
    refine Ret.mono (seq_collect (κ := ki) (e := 2) (T := 225) (b := b) (L := L) (caps := [.pointer (some ⟨bm, 0, none⟩)]) (fun J j0 jJ0 jJ jy => iter230 ((hbm.keep u1 nm0).keep u2 nm0) ((hm.keep u1 nm0).keep u2 nm0) j0 jJ0 jJ jy) hr hD (hb.keep u2 nm0) ?_) ?_
    · intro dn x sv w3 hb3 ho3 hlt hr3 R hR
      refine yieldK hr3 rfl (ha.ps1 (by decide) _) ?_
      refine CR.region rfl (fun _ _ h => h) ?_
      refine WL.to (E' := [(5, ki x), (2, .pointer (some ⟨b, 0, none⟩))]) 1 [5, 2] (by kernel_rfl) ?_
      refine WL.nil fun a1 ha1 => ⟨hr3, fun w4 u4 z4 hr4 => ?_⟩
      refine (CR.block (CR.region rfl (fun _ _ h => by simp [Exit.inBlock, roundQ] at h) ?_) : CR _ _ _ _ _ [(5, ki x), (2, .pointer (some ⟨b, 0, none⟩))] w4) a1 ha1
      have hb4 := hb3.keep u4 (nmc (Ne.symm (hr3.neB hb3)) nm0)
      have ho4 := ho3.keep u4 (fun y hy hm => by
        have : y = r := by simpa using hm
        subst this
        obtain ⟨cs, hcs⟩ := ho3.blk hy
        exact hr3.neB hcs rfl)
      refine WL.load1 rfl agg225 rfl rfl hb4 rfl ?_
      refine WL.to (E' := [(9, ki x), (8, sv), (2, .pointer (some ⟨b, 0, none⟩))]) 1 [9, 8, 2] (by kernel_rfl) ?_
      refine WL.buildSlice (vs := [(0, ki x)]) (cs := [ki x]) rfl rfl Tryz.underlying225 rfl (litCells_one siz2 zer2 rfl) ?_
      intro w5 c5 h5 u5 g5
      refine WL.appT (k := dn.length) (xs := dn.map ki) rfl Tryz.underlying225 inf2 rfl rfl rfl rfl rfl (ho4.keep0 u5) h5 rfl rfl rfl ⟨by omega, by omega⟩ ?_
      intro sv' w6 ho6 u6 hf6
      have hb5 := hb4.keep u5 nm0
      have hb6 := hb5.keep u6 (Own.ne (ho4.keep0 u5) hb5 rfl)
      have hone : sv'.oneCell' = true := by obtain ⟨ao, cp, rfl⟩ := ho6.form; rfl
      refine WL.store1 rfl siz225 rfl rfl hone hb6 rfl ?_
      intro w7 h7 u7 z7
      refine WL.nil fun a2 ha2 => ?_
      have ho7 := ho6.keep u7 (fun y hy => (nmc (fun e => by subst e; exact absurd (by simpa using hy) (Own.ne ho6 hb6 rfl)) nm0))
      have hrb : r ≠ b := hr3.neB hb3
      have hra : ∀ y, sv.ownBlock = some y → r ≠ y := fun y hy e => by
        subst e
        obtain ⟨cs, hcs⟩ := ho3.blk hy
        exact hr3.neB hcs rfl
      refine ⟨((hr4.keep u5 nm0).keep u6 (fun hm => hra r (by simpa using hm) rfl)).keep u7 (nmc hrb nm0), fun w8 u8 z8 hr8 => ?_⟩
      refine hR w8 sv' (h7.keep u8 (nmc (Ne.symm hrb) nm0)) ?_ ?_ ?_ hr8
      · refine ho7.keep u8 (fun y hy hm => ?_)
        have hy' : y = r := by simpa using hm
        subst hy'
        rcases hf6 y hy with h | h
        · exact hra y h rfl
        · have := (Array.getElem?_eq_some_iff.1 hr4).1; have := u5.size; omega
      · refine ((((u4.trans u5).trans u6).trans u7).trans u8).sub ?_
        intro k hk hl
        simp only [List.mem_append, List.mem_cons, List.not_mem_nil, or_false] at hk ⊢
        grind
      · intro y hy
        have := u4.size; have := u5.size
        exact (hf6 y hy).imp_right (fun h => by omega)
    · rintro v w3 ⟨q1, q2, dn, hp, sv, q3, q4, q5, q6⟩
      refine ⟨q1, q2, dn, hp, sv, q3, q4, ((u1.trans u2).trans q5).sub ?_, (fun y hy => by have := q6 y hy; have := u1.size; have := u2.size; omega), fun y hy => ?_⟩
      rotate_left
      · obtain ⟨cs, hcs⟩ := q4.blk hy
        exact ⟨fun e => by subst e; exact q1.neB hcs rfl, fun e => by subst e; unfold Blk at hcs; rw [q2] at hcs; cases hcs⟩
      intro k hk hl
      simp only [List.mem_append, List.mem_cons, List.not_mem_nil, or_false, false_or] at hk ⊢
      have := u1.size; omega
  · rintro D0 r w2 w3 g2 g3 ⟨dn, hp, sv, q3, q4, q5, q6, q7⟩ u3 hD a ha
    refine hK2 _ _ _ ?_ a (ha.sub (E' := [(2, .pointer (some ⟨b, 0, none⟩))]) ⟨rfl, trivial⟩)
    have hb3 := q3.keep u3 (nmc (fun e => by subst e; have := hb.lt; have := u1.size; omega) nm0)
    have hnr : ∀ y, sv.ownBlock = some y → y ∉ [r] := fun y hy hm => (q7 y hy).1 (by simpa using hm)
    refine CW.seq fun K4 hK4 => ?_
    refine CW.region ?_
    refine WL.load1 rfl agg225 rfl rfl hb3 rfl ?_
    refine WL.to (E' := [(4, sv)]) 1 [4] (by kernel_rfl) ?_
    refine WL.nil ?_
    refine hK4 _ _ _ ?_
    obtain ⟨ao, cp, rfl⟩ := q4.form
    refine CW.ret fun a ha => ?_
    refine finM ha.defers hD (fun w4 u4 => ⟨_, res_tmp rfl ha rfl _, dn, hp, ao, cp, rfl, ?_, q6, ?_⟩)
    · exact (q4.keep u3 hnr).keep u4 (fun y hy hm => (q7 y hy).2 (by simpa using hm))
    · exact ((q5.trans u3).trans u4).sub (fun k hk hl => by simp only [List.mem_append, List.mem_cons, List.not_mem_nil, or_false, false_or] at hk ⊢; have := u1.size; omega)
end Go.K

namespace Go.K
open Go.Proofs
set_option maxRecDepth 8000
set_option maxHeartbeats 1000000
set_option linter.unusedSimpArgs false
set_option linter.unusedVariables false
theorem coll160_120 {w : World} {bm m : Nat} {x : ByteArray} {v0 : Value} (hbm : Blk w bm [.map (some m)] 69) (hm : KMap ks w m [(x, v0)]) :
    Ret Tryz.prog 160 #[.slice none 0 0, .func (.func 120) #[] #[.pointer (some ⟨bm, 0, none⟩)]] w fun v w' => ∃ ao cp, v = .slice ao 1 cp ∧ Own w' (.slice ao 1 cp) 9 1 1 [ks x] ∧ (∀ b, (Value.slice ao 1 cp).ownBlock = some b → w.heap.size ≤ b) ∧ Only [] w w' := by
  refine Ret.mono (appendSeq160_120 hbm hm (by simp)) ?_
  rintro v w' ⟨dn, hp, ao, cp, rfl, ho, hf, u⟩
  have e : dn = [x] := by simpa using hp
  subst e
  exact ⟨ao, cp, rfl, ho, hf, u⟩

theorem collect_120 {w : World} {bm m : Nat} {x : ByteArray} {v0 : Value} (h_bm : Blk w bm [.map (some m)] 69) (h_m : KMap ks w m ([(x, v0)])) :
    Ret Tryz.prog 118 #[.func (.func 120) #[] #[.pointer (some ⟨bm, 0, none⟩)]] w fun v w' => ∃ ao cp, v = .slice ao 1 cp ∧ Own w' (.slice ao 1 cp) 9 1 1 ([.string x]) ∧ (∀ b, (.slice ao 1 cp : Value).ownBlock = some b → w.heap.size ≤ b) ∧ Only ([]) w w' := by
  refine enterL (args := [.func (.func 120) #[] #[.pointer (some ⟨bm, 0, none⟩)]]) Tryz.func118 rfl rfl rfl ?_
  refine CW.seq fun K1 hK1 => ?_
  refine CW.region ?_
  refine WL.to (E' := [(0, .func (.func 120) #[] #[.pointer (some ⟨bm, 0, none⟩)]), (2, .slice none 0 0)]) 1 [0, 2] (by kernel_rfl) ?_
  refine WL.nil ?_
  refine hK1 _ _ _ ?_
  refine CW.seq fun K2 hK2 => ?_
  refine CW.region ?_
  refine WL.to (E' := [(2, .slice none 0 0), (3, .func (.func 120) #[] #[.pointer (some ⟨bm, 0, none⟩)])]) 1 [2, 3] (by kernel_rfl) ?_
  refine WL.call rfl rfl rfl rfl ent160 rfl (coll160_120 h_bm h_m) ?_
  rintro _ w8 ⟨ao3, cp4, rfl, h5, f6, u7⟩
  refine WL.to (E' := [(2, .slice ao3 1 cp4)]) 1 [2] (by kernel_rfl) ?_
  refine WL.nil ?_
  refine hK2 _ _ _ ?_
  refine CW.ret fun a ha => ?_
  try simp (decide := true) only [Exit.inBlock, Exit.then, ↓reduceIte]
  exact fin ha.defers (res_tmp rfl ha rfl _) ⟨ao3, cp4, rfl, h5, (fun b hb => (by have := f6 b hb; omega)), (u7.sub (by simp))⟩

theorem sorted_120 {w : World} {bm m : Nat} {x : ByteArray} {v0 : Value} (h_bm : Blk w bm [.map (some m)] 69) (h_m : KMap ks w m ([(x, v0)])) :
    Ret Tryz.prog 86 #[.func (.func 120) #[] #[.pointer (some ⟨bm, 0, none⟩)]] w fun v w' => ∃ ao cp, v = .slice ao 1 cp ∧ Own w' (.slice ao 1 cp) 9 1 1 ([.string x]) ∧ (∀ b, (.slice ao 1 cp : Value).ownBlock = some b → w.heap.size ≤ b) ∧ Only ([]) w w' := by
  refine enterL (args := [.func (.func 120) #[] #[.pointer (some ⟨bm, 0, none⟩)]]) Tryz.func86 rfl rfl rfl ?_
  refine CW.seq fun K1 hK1 => ?_
  refine CW.region ?_
  refine WL.to (E' := [(0, .func (.func 120) #[] #[.pointer (some ⟨bm, 0, none⟩)]), (2, .slice none 0 0)]) 1 [0, 2] (by kernel_rfl) ?_
  refine WL.nil ?_
  refine hK1 _ _ _ ?_
  refine CW.seq fun K2 hK2 => ?_
  refine CW.region ?_
  refine WL.to (E' := [(2, .slice none 0 0), (4, .func (.func 120) #[] #[.pointer (some ⟨bm, 0, none⟩)])]) 1 [2, 4] (by kernel_rfl) ?_
  refine WL.call rfl rfl rfl rfl ent118 rfl (collect_120 h_bm h_m) ?_
  rintro _ w8 ⟨ao3, cp4, rfl, h5, f6, u7⟩
  refine WL.to (E' := [(2, .slice none 0 0), (3, .slice ao3 1 cp4)]) 1 [2, 3] (by kernel_rfl) ?_
  refine WL.nil ?_
  refine hK2 _ _ _ ?_
  refine CW.seq fun K9 hK9 => ?_
  refine CW.region ?_
  refine WL.to (E' := [(2, .slice none 0 0), (3, .slice ao3 1 cp4), (6, .slice ao3 1 cp4)]) 1 [2, 3, 6] (by kernel_rfl) ?_
  refine WL.callQ (v := .tuple #[]) rfl rfl rfl rfl ent119 rfl (sort1s) ?_
  refine WL.sub [(2, .slice none 0 0), (3, .slice ao3 1 cp4)] ⟨rfl, rfl, trivial⟩ ?_
  refine WL.nil ?_
  refine hK9 _ _ _ ?_
  refine CW.seq fun K10 hK10 => ?_
  refine CW.region ?_
  refine WL.to (E' := [(2, .slice ao3 1 cp4)]) 2 [2] (by kernel_rfl) ?_
  refine WL.nil ?_
  refine hK10 _ _ _ ?_
  refine CW.ret fun a ha => ?_
  try simp (decide := true) only [Exit.inBlock, Exit.then, ↓reduceIte]
  exact fin ha.defers (res_tmp rfl ha rfl _) ⟨ao3, cp4, rfl, h5, (fun b hb => (by have := f6 b hb; omega)), (u7.sub (by simp))⟩

theorem coll231_167 {w : World} {bm m : Nat} {x : Int} {v0 : Value} (hbm : Blk w bm [.map (some m)] 222) (hm : KMap ki w m [(x, v0)]) :
    Ret Tryz.prog 231 #[.slice none 0 0, .func (.func 167) #[] #[.pointer (some ⟨bm, 0, none⟩)]] w fun v w' => ∃ ao cp, v = .slice ao 1 cp ∧ Own w' (.slice ao 1 cp) 2 1 1 [ki x] ∧ (∀ b, (Value.slice ao 1 cp).ownBlock = some b → w.heap.size ≤ b) ∧ Only [] w w' := by
  refine Ret.mono (appendSeq231_167 hbm hm (by simp)) ?_
  rintro v w' ⟨dn, hp, ao, cp, rfl, ho, hf, u⟩
  have e : dn = [x] := by simpa using hp
  subst e
  exact ⟨ao, cp, rfl, ho, hf, u⟩

theorem collect_167 {w : World} {bm m : Nat} {x : Int} {v0 : Value} (h_bm : Blk w bm [.map (some m)] 222) (h_m : KMap ki w m ([(x, v0)])) :
    Ret Tryz.prog 165 #[.func (.func 167) #[] #[.pointer (some ⟨bm, 0, none⟩)]] w fun v w' => ∃ ao cp, v = .slice ao 1 cp ∧ Own w' (.slice ao 1 cp) 2 1 1 ([.int .i64 x]) ∧ (∀ b, (.slice ao 1 cp : Value).ownBlock = some b → w.heap.size ≤ b) ∧ Only ([]) w w' := by
  refine enterL (args := [.func (.func 167) #[] #[.pointer (some ⟨bm, 0, none⟩)]]) Tryz.func165 rfl rfl rfl ?_
  refine CW.seq fun K1 hK1 => ?_
  refine CW.region ?_
  refine WL.to (E' := [(0, .func (.func 167) #[] #[.pointer (some ⟨bm, 0, none⟩)]), (2, .slice none 0 0)]) 1 [0, 2] (by kernel_rfl) ?_
  refine WL.nil ?_
  refine hK1 _ _ _ ?_
  refine CW.seq fun K2 hK2 => ?_
  refine CW.region ?_
  refine WL.to (E' := [(2, .slice none 0 0), (3, .func (.func 167) #[] #[.pointer (some ⟨bm, 0, none⟩)])]) 1 [2, 3] (by kernel_rfl) ?_
  refine WL.call rfl rfl rfl rfl ent231 rfl (coll231_167 h_bm h_m) ?_
  rintro _ w8 ⟨ao3, cp4, rfl, h5, f6, u7⟩
  refine WL.to (E' := [(2, .slice ao3 1 cp4)]) 1 [2] (by kernel_rfl) ?_
  refine WL.nil ?_
  refine hK2 _ _ _ ?_
  refine CW.ret fun a ha => ?_
  try simp (decide := true) only [Exit.inBlock, Exit.then, ↓reduceIte]
  exact fin ha.defers (res_tmp rfl ha rfl _) ⟨ao3, cp4, rfl, h5, (fun b hb => (by have := f6 b hb; omega)), (u7.sub (by simp))⟩

theorem sorted_167 {w : World} {bm m : Nat} {x : Int} {v0 : Value} (h_bm : Blk w bm [.map (some m)] 222) (h_m : KMap ki w m ([(x, v0)])) :
    Ret Tryz.prog 122 #[.func (.func 167) #[] #[.pointer (some ⟨bm, 0, none⟩)]] w fun v w' => ∃ ao cp, v = .slice ao 1 cp ∧ Own w' (.slice ao 1 cp) 2 1 1 ([.int .i64 x]) ∧ (∀ b, (.slice ao 1 cp : Value).ownBlock = some b → w.heap.size ≤ b) ∧ Only ([]) w w' := by
  refine enterL (args := [.func (.func 167) #[] #[.pointer (some ⟨bm, 0, none⟩)]]) Tryz.func122 rfl rfl rfl ?_
  refine CW.seq fun K1 hK1 => ?_
  refine CW.region ?_
  refine WL.to (E' := [(0, .func (.func 167) #[] #[.pointer (some ⟨bm, 0, none⟩)]), (2, .slice none 0 0)]) 1 [0, 2] (by kernel_rfl) ?_
  refine WL.nil ?_
  refine hK1 _ _ _ ?_
  refine CW.seq fun K2 hK2 => ?_
  refine CW.region ?_
  refine WL.to (E' := [(2, .slice none 0 0), (4, .func (.func 167) #[] #[.pointer (some ⟨bm, 0, none⟩)])]) 1 [2, 4] (by kernel_rfl) ?_
  refine WL.call rfl rfl rfl rfl ent165 rfl (collect_167 h_bm h_m) ?_
  rintro _ w8 ⟨ao3, cp4, rfl, h5, f6, u7⟩
  refine WL.to (E' := [(2, .slice none 0 0), (3, .slice ao3 1 cp4)]) 1 [2, 3] (by kernel_rfl) ?_
  refine WL.nil ?_
  refine hK2 _ _ _ ?_
  refine CW.seq fun K9 hK9 => ?_
  refine CW.region ?_
  refine WL.to (E' := [(2, .slice none 0 0), (3, .slice ao3 1 cp4), (6, .slice ao3 1 cp4)]) 1 [2, 3, 6] (by kernel_rfl) ?_
  refine WL.callQ (v := .tuple #[]) rfl rfl rfl rfl ent166 rfl (sort1i) ?_
  refine WL.sub [(2, .slice none 0 0), (3, .slice ao3 1 cp4)] ⟨rfl, rfl, trivial⟩ ?_
  refine WL.nil ?_
  refine hK9 _ _ _ ?_
  refine CW.seq fun K10 hK10 => ?_
  refine CW.region ?_
  refine WL.to (E' := [(2, .slice ao3 1 cp4)]) 2 [2] (by kernel_rfl) ?_
  refine WL.nil ?_
  refine hK10 _ _ _ ?_
  refine CW.ret fun a ha => ?_
  try simp (decide := true) only [Exit.inBlock, Exit.then, ↓reduceIte]
  exact fin ha.defers (res_tmp rfl ha rfl _) ⟨ao3, cp4, rfl, h5, (fun b hb => (by have := f6 b hb; omega)), (u7.sub (by simp))⟩

theorem coll231_230 {w : World} {bm m : Nat} {x : Int} {v0 : Value} (hbm : Blk w bm [.map (some m)] 118) (hm : KMap ki w m [(x, v0)]) :
    Ret Tryz.prog 231 #[.slice none 0 0, .func (.func 230) #[] #[.pointer (some ⟨bm, 0, none⟩)]] w fun v w' => ∃ ao cp, v = .slice ao 1 cp ∧ Own w' (.slice ao 1 cp) 2 1 1 [ki x] ∧ (∀ b, (Value.slice ao 1 cp).ownBlock = some b → w.heap.size ≤ b) ∧ Only [] w w' := by
  refine Ret.mono (appendSeq231_230 hbm hm (by simp)) ?_
  rintro v w' ⟨dn, hp, ao, cp, rfl, ho, hf, u⟩
  have e : dn = [x] := by simpa using hp
  subst e
  exact ⟨ao, cp, rfl, ho, hf, u⟩

theorem collect_230 {w : World} {bm m : Nat} {x : Int} {v0 : Value} (h_bm : Blk w bm [.map (some m)] 118) (h_m : KMap ki w m ([(x, v0)])) :
    Ret Tryz.prog 165 #[.func (.func 230) #[] #[.pointer (some ⟨bm, 0, none⟩)]] w fun v w' => ∃ ao cp, v = .slice ao 1 cp ∧ Own w' (.slice ao 1 cp) 2 1 1 ([.int .i64 x]) ∧ (∀ b, (.slice ao 1 cp : Value).ownBlock = some b → w.heap.size ≤ b) ∧ Only ([]) w w' := by
  refine enterL (args := [.func (.func 230) #[] #[.pointer (some ⟨bm, 0, none⟩)]]) Tryz.func165 rfl rfl rfl ?_
  refine CW.seq fun K1 hK1 => ?_
  refine CW.region ?_
  refine WL.to (E' := [(0, .func (.func 230) #[] #[.pointer (some ⟨bm, 0, none⟩)]), (2, .slice none 0 0)]) 1 [0, 2] (by kernel_rfl) ?_
  refine WL.nil ?_
  refine hK1 _ _ _ ?_
  refine CW.seq fun K2 hK2 => ?_
  refine CW.region ?_
  refine WL.to (E' := [(2, .slice none 0 0), (3, .func (.func 230) #[] #[.pointer (some ⟨bm, 0, none⟩)])]) 1 [2, 3] (by kernel_rfl) ?_
  refine WL.call rfl rfl rfl rfl ent231 rfl (coll231_230 h_bm h_m) ?_
  rintro _ w8 ⟨ao3, cp4, rfl, h5, f6, u7⟩
  refine WL.to (E' := [(2, .slice ao3 1 cp4)]) 1 [2] (by kernel_rfl) ?_
  refine WL.nil ?_
  refine hK2 _ _ _ ?_
  refine CW.ret fun a ha => ?_
  try simp (decide := true) only [Exit.inBlock, Exit.then, ↓reduceIte]
  exact fin ha.defers (res_tmp rfl ha rfl _) ⟨ao3, cp4, rfl, h5, (fun b hb => (by have := f6 b hb; omega)), (u7.sub (by simp))⟩

theorem sorted_230 {w : World} {bm m : Nat} {x : Int} {v0 : Value} (h_bm : Blk w bm [.map (some m)] 118) (h_m : KMap ki w m ([(x, v0)])) :
    Ret Tryz.prog 122 #[.func (.func 230) #[] #[.pointer (some ⟨bm, 0, none⟩)]] w fun v w' => ∃ ao cp, v = .slice ao 1 cp ∧ Own w' (.slice ao 1 cp) 2 1 1 ([.int .i64 x]) ∧ (∀ b, (.slice ao 1 cp : Value).ownBlock = some b → w.heap.size ≤ b) ∧ Only ([]) w w' := by
  refine enterL (args := [.func (.func 230) #[] #[.pointer (some ⟨bm, 0, none⟩)]]) Tryz.func122 rfl rfl rfl ?_
  refine CW.seq fun K1 hK1 => ?_
  refine CW.region ?_
  refine WL.to (E' := [(0, .func (.func 230) #[] #[.pointer (some ⟨bm, 0, none⟩)]), (2, .slice none 0 0)]) 1 [0, 2] (by kernel_rfl) ?_
  refine WL.nil ?_
  refine hK1 _ _ _ ?_
  refine CW.seq fun K2 hK2 => ?_
  refine CW.region ?_
  refine WL.to (E' := [(2, .slice none 0 0), (4, .func (.func 230) #[] #[.pointer (some ⟨bm, 0, none⟩)])]) 1 [2, 4] (by kernel_rfl) ?_
  refine WL.call rfl rfl rfl rfl ent165 rfl (collect_230 h_bm h_m) ?_
  rintro _ w8 ⟨ao3, cp4, rfl, h5, f6, u7⟩
  refine WL.to (E' := [(2, .slice none 0 0), (3, .slice ao3 1 cp4)]) 1 [2, 3] (by kernel_rfl) ?_
  refine WL.nil ?_
  refine hK2 _ _ _ ?_
  refine CW.seq fun K9 hK9 => ?_
  refine CW.region ?_
  refine WL.to (E' := [(2, .slice none 0 0), (3, .slice ao3 1 cp4), (6, .slice ao3 1 cp4)]) 1 [2, 3, 6] (by kernel_rfl) ?_
  refine WL.callQ (v := .tuple #[]) rfl rfl rfl rfl ent166 rfl (sort1i) ?_
  refine WL.sub [(2, .slice none 0 0), (3, .slice ao3 1 cp4)] ⟨rfl, rfl, trivial⟩ ?_
  refine WL.nil ?_
  refine hK9 _ _ _ ?_
  refine CW.seq fun K10 hK10 => ?_
  refine CW.region ?_
  refine WL.to (E' := [(2, .slice ao3 1 cp4)]) 2 [2] (by kernel_rfl) ?_
  refine WL.nil ?_
  refine hK10 _ _ _ ?_
  refine CW.ret fun a ha => ?_
  try simp (decide := true) only [Exit.inBlock, Exit.then, ↓reduceIte]
  exact fin ha.defers (res_tmp rfl ha rfl _) ⟨ao3, cp4, rfl, h5, (fun b hb => (by have := f6 b hb; omega)), (u7.sub (by simp))⟩

theorem get1 {w : World} {S scp sat F k vcp : Nat} {id smx nx wr ri rv : Int} {sao vao : Option Addr} {fs : List Value} (h_S : Blk w S [.slice sao 1 scp, .map (some sat), .pointer (some ⟨F, 0, none⟩), .int .i64 smx, .int .i64 nx, .int .i64 wr] 121) (h_sat : KMap ki w sat ([(id, .int .i64 0)])) (h_sao : Own w (.slice sao 1 scp) 214 3 1 ([.int .i64 ri, .int .i64 rv, .slice vao k vcp])) (h_vao : Own w (.slice vao k vcp) 58 4 k fs) (h1 : fs.all Value.oneCell' = true) (hk : k ≤ 1000) :
    Ret Tryz.prog 163 #[.pointer (some ⟨S, 0, none⟩), .int .i64 id] w fun v w' => ∃ ao cp, v = .tuple #[.agg #[.int .i64 ri, .int .i64 rv, .slice ao k cp], .bool true] ∧ Own w' (.slice ao k cp) 58 4 k fs ∧ (∀ b, (.slice ao k cp : Value).ownBlock = some b → w.heap.size ≤ b) ∧ Only ([]) w w' := by
  refine enterL (args := [.pointer (some ⟨S, 0, none⟩), .int .i64 id]) Tryz.func163 rfl rfl rfl ?_
  refine CW.seq fun K1 hK1 => ?_
  refine CW.region ?_
  refine WL.alloc (cs := [.int .i64 0, .int .i64 0, .slice none 0 0]) rfl rfl zer214 rfl ?_
  intro w2 b3 h4 u5 g6
  refine WL.to (E' := [(0, .pointer (some ⟨S, 0, none⟩)), (1, .int .i64 id), (4, .pointer (some ⟨b3, 0, none⟩)), (5, .bool false)]) 1 [0, 1, 4, 5] (by kernel_rfl) ?_
  refine WL.nil ?_
  refine hK1 _ _ _ ?_
  refine CW.seq fun K7 hK7 => ?_
  refine CW.region ?_
  refine WL.to (E' := [(0, .pointer (some ⟨S, 0, none⟩)), (1, .int .i64 id), (4, .pointer (some ⟨b3, 0, none⟩)), (5, .bool false), (12, .pointer (some ⟨S, 1, none⟩))]) 3 [0, 1, 4, 5, 12] (by kernel_rfl) ?_
  have h8 := (h_S.keep u5 nm0)
  refine WL.load1 rfl agg118 rfl rfl h8 rfl ?_
  refine WL.to (E' := [(0, .pointer (some ⟨S, 0, none⟩)), (4, .pointer (some ⟨b3, 0, none⟩)), (5, .bool false), (13, .map (some sat)), (14, .int .i64 id)]) 1 [0, 4, 5, 13, 14] (by kernel_rfl) ?_
  have h9 := (h_sat.keep u5 nm0)
  refine WL.lookB (κ := ki) (a := id) true rfl rfl law_i Tryz.underlying118 Tryz.underlying2 zer3 rfl rfl h9 ?_
  refine WL.chg 15 (.tuple #[.int .i64 0, .bool true]) rfl (by rw [(by simp [look] : look ([(id, .int .i64 0)]) id = some (.int .i64 0))]; rfl) ?_
  refine WL.to (E' := [(0, .pointer (some ⟨S, 0, none⟩)), (4, .pointer (some ⟨b3, 0, none⟩)), (5, .bool false), (6, .int .i64 0), (7, .bool true)]) 5 [0, 4, 5, 6, 7] (by kernel_rfl) ?_
  refine WL.nil ?_
  refine hK7 _ _ _ ?_
  refine CW.seq fun K10 hK10 => ?_
  refine CW.seq fun K11 hK11 => ?_
  refine CW.region ?_
  refine WL.to (E' := [(0, .pointer (some ⟨S, 0, none⟩)), (4, .pointer (some ⟨b3, 0, none⟩)), (5, .bool false), (6, .int .i64 0), (19, .bool false)]) 2 [0, 4, 5, 6, 19] (by kernel_rfl) ?_
  refine WL.nil ?_
  refine hK11 _ _ _ ?_
  refine CW.condF rfl ?_
  refine CW.skip ?_
  refine hK10 _ _ _ ?_
  refine CW.seq fun K12 hK12 => ?_
  refine CW.region ?_
  refine WL.to (E' := [(4, .pointer (some ⟨b3, 0, none⟩)), (5, .bool false), (6, .int .i64 0), (23, .pointer (some ⟨S, 0, none⟩))]) 3 [4, 5, 6, 23] (by kernel_rfl) ?_
  refine WL.load1 rfl agg117 rfl rfl h8 rfl ?_
  refine WL.to (E' := [(4, .pointer (some ⟨b3, 0, none⟩)), (5, .bool false), (24, .slice sao 1 scp), (25, .int .i64 0)]) 1 [4, 5, 24, 25] (by kernel_rfl) ?_
  have h13 := (h_sao.keep' u5 dis0)
  obtain ⟨g21, rest14, e15, h16, q17, q18, q19, q20⟩ := h13.open2 (by omega)
  subst e15
  refine WL.index rfl rfl Tryz.underlying117 siz214 rfl rfl (by decide) (by decide) ?_
  refine WL.loadN rfl agg214 siz214 rfl rfl h16 rfl rfl ?_
  refine WL.alloc (cs := [.int .i64 0, .int .i64 0, .slice none 0 0]) rfl rfl zer214 rfl ?_
  intro w22 b23 h24 u25 g26
  refine WL.storeN rfl siz214 rfl rfl rfl rfl h24 (Nat.le_of_ble_eq_true rfl) ?_
  intro w27 h28 u29 z30
  refine WL.sub [(4, .pointer (some ⟨b3, 0, none⟩)), (5, .bool false), (8, .pointer (some ⟨b23, 0, none⟩))] ⟨rfl, rfl, rfl, trivial⟩ ?_
  refine WL.nil ?_
  refine hK12 _ _ _ ?_
  refine CW.seq fun K31 hK31 => ?_
  refine CW.region ?_
  refine WL.to (E' := [(4, .pointer (some ⟨b3, 0, none⟩)), (5, .bool false), (8, .pointer (some ⟨b23, 0, none⟩)), (28, .pointer (some ⟨b23, 2, none⟩))]) 1 [4, 5, 8, 28] (by kernel_rfl) ?_
  refine WL.load1 rfl agg38 rfl rfl h28 rfl ?_
  have h32 := ((h_vao.keep' u5 dis0).keep' u25 dis0)
  have h33 := (h32.keep' u29 (disc (Own.ne h32 h24 rfl) dis0))
  refine WL.call rfl rfl rfl rfl ent125 rfl (copy_own h33 h1 hk) ?_
  rintro _ w39 ⟨ao34, cp35, rfl, h36, u37, f38⟩
  refine WL.to (E' := [(4, .pointer (some ⟨b3, 0, none⟩)), (5, .bool false), (8, .pointer (some ⟨b23, 0, none⟩)), (30, .slice ao34 k cp35), (31, .pointer (some ⟨b23, 2, none⟩))]) 1 [4, 5, 8, 30, 31] (by kernel_rfl) ?_
  have h40 := (h28.keep u37 nm0)
  refine WL.store1 rfl siz38 rfl rfl rfl h40 rfl ?_
  intro w41 h42 u43 z44
  refine WL.sub [(4, .pointer (some ⟨b3, 0, none⟩)), (5, .bool false), (8, .pointer (some ⟨b23, 0, none⟩))] ⟨rfl, rfl, rfl, trivial⟩ ?_
  refine WL.nil ?_
  refine hK31 _ _ _ ?_
  refine CW.seq fun K45 hK45 => ?_
  refine CW.region ?_
  refine WL.loadN rfl agg214 siz214 rfl rfl h42 rfl rfl ?_
  have h46 := (h4.keep u25 nm0)
  have h47 := ((h46.keep u29 (nmc (by have := h4.lt; have := g26; omega) nm0)).keep u37 nm0)
  have h48 := (h47.keep u43 (nmc (by have := h4.lt; have := g26; omega) nm0))
  refine WL.storeN rfl siz214 rfl rfl rfl rfl h48 (Nat.le_of_ble_eq_true rfl) ?_
  intro w49 h50 u51 z52
  refine WL.to (E' := [(4, .pointer (some ⟨b3, 0, none⟩)), (5, .bool true)]) 1 [4, 5] (by kernel_rfl) ?_
  refine WL.nil ?_
  refine hK45 _ _ _ ?_
  have h53 := (h36.keep' u43 (disc (Own.ne h36 h40 rfl) dis0))
  have h54 := (h53.keep' u51 (disc (Own.ne h53 h48 rfl) dis0))
  refine CW.ret fun a ha => ?_
  try simp (decide := true) only [Exit.inBlock, Exit.then, ↓reduceIte]
  exact fin ha.defers (res_cellTmp rfl ha rfl agg214 siz214 h50 rfl rfl rfl) ⟨ao34, cp35, rfl, h54, (fun b hb => (by have := f38 b hb; have := u5.size; have := u25.size; have := u29.size; omega)), ((((((u5.trans u25).trans u29).trans u37).trans u43).trans u51).sub (by intro k hk hl; have := u5.size; have := u25.size; have := u29.size; have := u37.size; have := u43.size; have := u51.size; have := g26; have := g6; simp only [ob_ao, Option.mem_toList, Option.mem_def, Option.map_none, Option.map_some, Option.some.injEq, reduceCtorEq, List.mem_append, List.mem_cons, List.not_mem_nil, or_false, false_or, or_assoc] at hk ⊢; rcases hk with hk | hk | hk <;> first | omega | (simp [hk]; done)))⟩

theorem all1 {w : World} {S scp sat F k vcp : Nat} {sao vao : Option Addr} {smx nx wr id ri rv : Int} {fs : List Value} (h_S : Blk w S [.slice sao 1 scp, .map (some sat), .pointer (some ⟨F, 0, none⟩), .int .i64 smx, .int .i64 nx, .int .i64 wr] 121) (h_sat : KMap ki w sat ([(id, .int .i64 0)])) (h_sao : Own w (.slice sao 1 scp) 214 3 1 ([.int .i64 ri, .int .i64 rv, .slice vao k vcp])) (h_vao : Own w (.slice vao k vcp) 58 4 k fs) (h1 : fs.all Value.oneCell' = true) (hk : k ≤ 1000) :
    Ret Tryz.prog 121 #[.pointer (some ⟨S, 0, none⟩)] w fun v w' => ∃ oao ocp ao cp, v = .slice oao 1 ocp ∧ Own w' (.slice oao 1 ocp) 214 3 1 ([.int .i64 ri, .int .i64 rv, .slice ao k cp]) ∧ (∀ b, (.slice oao 1 ocp : Value).ownBlock = some b → w.heap.size ≤ b) ∧ Own w' (.slice ao k cp) 58 4 k fs ∧ (∀ b, (.slice ao k cp : Value).ownBlock = some b → w.heap.size ≤ b) ∧ Only ([]) w w' := by
  refine enterL (args := [.pointer (some ⟨S, 0, none⟩)]) Tryz.func121 rfl rfl rfl ?_
  refine CW.seq fun K1 hK1 => ?_
  refine CW.region ?_
  refine WL.to (E' := [(0, .pointer (some ⟨S, 0, none⟩)), (2, .slice none 0 0)]) 1 [0, 2] (by kernel_rfl) ?_
  refine WL.nil ?_
  refine hK1 _ _ _ ?_
  refine CW.seq fun K2 hK2 => ?_
  refine CW.region ?_
  refine WL.to (E' := [(0, .pointer (some ⟨S, 0, none⟩)), (2, .slice none 0 0), (3, .slice none 0 0)]) 1 [0, 2, 3] (by kernel_rfl) ?_
  refine WL.nil ?_
  refine hK2 _ _ _ ?_
  refine CW.seq fun K3 hK3 => ?_
  refine CW.region ?_
  refine WL.to (E' := [(0, .pointer (some ⟨S, 0, none⟩)), (2, .slice none 0 0), (3, .slice none 0 0), (4, .func (.func 163) #[.pointer (some ⟨S, 0, none⟩)] #[])]) 3 [0, 2, 3, 4] (by kernel_rfl) ?_
  refine WL.nil ?_
  refine hK3 _ _ _ ?_
  refine CW.seq fun K4 hK4 => ?_
  refine CW.seq fun K5 hK5 => ?_
  refine CW.region ?_
  refine WL.to (E' := [(2, .slice none 0 0), (3, .slice none 0 0), (4, .func (.func 163) #[.pointer (some ⟨S, 0, none⟩)] #[]), (13, .pointer (some ⟨S, 1, none⟩))]) 3 [2, 3, 4, 13] (by kernel_rfl) ?_
  refine WL.load1 rfl agg118 rfl rfl h_S rfl ?_
  refine WL.call rfl rfl rfl rfl ent164 rfl (keys164) ?_
  rintro _ w10 ⟨b6, rfl, h7, g8, u9⟩
  have h11 := (h_sat.keep u9 nm0)
  refine WL.call rfl rfl rfl rfl ent122 rfl (sorted_230 h7 h11) ?_
  rintro _ w17 ⟨ao12, cp13, rfl, h14, f15, u16⟩
  refine WL.to (E' := [(2, .slice none 0 0), (3, .slice none 0 0), (4, .func (.func 163) #[.pointer (some ⟨S, 0, none⟩)] #[]), (16, .slice ao12 1 cp13), (17, .int .i64 1), (18, .int .i64 0)]) 2 [2, 3, 4, 16, 17, 18] (by kernel_rfl) ?_
  refine WL.nil ?_
  refine hK5 _ _ _ ?_
  refine CW.block ?_
  refine CW.round1 fun K18 hK18 => ?_
  refine CW.seq fun K19 hK19 => ?_
  refine CW.region ?_
  refine WL.to (E' := [(2, .slice none 0 0), (3, .slice none 0 0), (4, .func (.func 163) #[.pointer (some ⟨S, 0, none⟩)] #[]), (16, .slice ao12 1 cp13), (17, .int .i64 1), (18, .int .i64 0), (19, .bool true)]) 1 [2, 3, 4, 16, 17, 18, 19] (by kernel_rfl) ?_
  refine WL.nil ?_
  refine hK19 _ _ _ ?_
  refine CW.seq fun K20 hK20 => ?_
  refine CW.condT rfl ?_
  refine CW.skip ?_
  refine hK20 _ _ _ ?_
  refine CW.seq fun K21 hK21 => ?_
  refine CW.block ?_
  refine CW.seq fun K22 hK22 => ?_
  refine CW.region ?_
  obtain ⟨g30, rest23, e24, h25, q26, q27, q28, q29⟩ := h14.open2 (by omega)
  subst e24
  refine WL.index rfl rfl Tryz.underlying225 siz2 rfl rfl (by decide) (by decide) ?_
  refine WL.load1 rfl agg2 rfl rfl h25 rfl ?_
  refine WL.to (E' := [(2, .slice none 0 0), (3, .slice none 0 0), (4, .func (.func 163) #[.pointer (some ⟨S, 0, none⟩)] #[]), (16, .slice (some ⟨g30, 0, none⟩) 1 cp13), (17, .int .i64 1), (18, .int .i64 0), (19, .bool true), (20, .pointer (some ⟨g30, 0, none⟩)), (21, .int .i64 id), (6, .int .i64 id)]) 1 [2, 3, 4, 16, 17, 18, 19, 20, 21, 6] (by kernel_rfl) ?_
  refine WL.nil ?_
  refine hK22 _ _ _ ?_
  refine CW.seq fun K31 hK31 => ?_
  refine CW.region ?_
  refine WL.to (E' := [(2, .slice none 0 0), (3, .slice none 0 0), (4, .func (.func 163) #[.pointer (some ⟨S, 0, none⟩)] #[]), (16, .slice (some ⟨g30, 0, none⟩) 1 cp13), (17, .int .i64 1), (18, .int .i64 0), (19, .bool true), (20, .pointer (some ⟨g30, 0, none⟩)), (21, .int .i64 id), (6, .int .i64 id), (23, .func (.func 163) #[.pointer (some ⟨S, 0, none⟩)] #[]), (24, .int .i64 id)]) 2 [2, 3, 4, 16, 17, 18, 19, 20, 21, 6, 23, 24] (by kernel_rfl) ?_
  have h32 := ((h_S.keep u9 nm0).keep u16 nm0)
  have h33 := (h11.keep u16 nm0)
  have h34 := ((h_sao.keep' u9 dis0).keep' u16 dis0)
  have h35 := ((h_vao.keep' u9 dis0).keep' u16 dis0)
  refine WL.callB rfl rfl rfl rfl ent163 rfl (get1 h32 h33 h34 h35 h1 hk) ?_
  rintro _ w41 ⟨ao36, cp37, rfl, h38, f39, u40⟩
  refine WL.to (E' := [(2, .slice none 0 0), (3, .slice none 0 0), (4, .func (.func 163) #[.pointer (some ⟨S, 0, none⟩)] #[]), (16, .slice (some ⟨g30, 0, none⟩) 1 cp13), (17, .int .i64 1), (18, .int .i64 0), (19, .bool true), (20, .pointer (some ⟨g30, 0, none⟩)), (21, .int .i64 id), (6, .int .i64 id), (23, .func (.func 163) #[.pointer (some ⟨S, 0, none⟩)] #[]), (24, .int .i64 id), (25, .tuple #[.agg #[.int .i64 ri, .int .i64 rv, .slice ao36 k cp37], .bool true]), (22, .tuple #[.agg #[.int .i64 ri, .int .i64 rv, .slice ao36 k cp37], .bool true]), (26, .agg #[.int .i64 ri, .int .i64 rv, .slice ao36 k cp37]), (27, .bool true)]) 3 [2, 3, 4, 16, 17, 18, 19, 20, 21, 6, 23, 24, 25, 22, 26, 27] (by kernel_rfl) ?_
  refine WL.alloc (cs := [.int .i64 0, .int .i64 0, .slice none 0 0]) rfl rfl zer214 rfl ?_
  intro w42 b43 h44 u45 g46
  refine WL.storeN rfl siz214 rfl rfl rfl rfl h44 (Nat.le_of_ble_eq_true rfl) ?_
  intro w47 h48 u49 z50
  refine WL.to (E' := [(2, .slice none 0 0), (3, .slice none 0 0), (4, .func (.func 163) #[.pointer (some ⟨S, 0, none⟩)] #[]), (16, .slice (some ⟨g30, 0, none⟩) 1 cp13), (17, .int .i64 1), (18, .int .i64 0), (19, .bool true), (20, .pointer (some ⟨g30, 0, none⟩)), (21, .int .i64 id), (6, .int .i64 id), (23, .func (.func 163) #[.pointer (some ⟨S, 0, none⟩)] #[]), (24, .int .i64 id), (25, .tuple #[.agg #[.int .i64 ri, .int .i64 rv, .slice ao36 k cp37], .bool true]), (22, .tuple #[.agg #[.int .i64 ri, .int .i64 rv, .slice ao36 k cp37], .bool true]), (26, .agg #[.int .i64 ri, .int .i64 rv, .slice ao36 k cp37]), (27, .bool true), (7, .pointer (some ⟨b43, 0, none⟩))]) 1 [2, 3, 4, 16, 17, 18, 19, 20, 21, 6, 23, 24, 25, 22, 26, 27, 7] (by kernel_rfl) ?_
  refine WL.nil ?_
  refine hK31 _ _ _ ?_
  refine CW.region ?_
  refine WL.to (E' := [(2, .slice none 0 0), (3, .slice none 0 0), (4, .func (.func 163) #[.pointer (some ⟨S, 0, none⟩)] #[]), (16, .slice (some ⟨g30, 0, none⟩) 1 cp13), (17, .int .i64 1), (18, .int .i64 0), (19, .bool true), (20, .pointer (some ⟨g30, 0, none⟩)), (21, .int .i64 id), (6, .int .i64 id), (23, .func (.func 163) #[.pointer (some ⟨S, 0, none⟩)] #[]), (24, .int .i64 id), (25, .tuple #[.agg #[.int .i64 ri, .int .i64 rv, .slice ao36 k cp37], .bool true]), (22, .tuple #[.agg #[.int .i64 ri, .int .i64 rv, .slice ao36 k cp37], .bool true]), (26, .agg #[.int .i64 ri, .int .i64 rv, .slice ao36 k cp37]), (27, .bool true), (7, .pointer (some ⟨b43, 0, none⟩)), (28, .slice none 0 0)]) 1 [2, 3, 4, 16, 17, 18, 19, 20, 21, 6, 23, 24, 25, 22, 26, 27, 7, 28] (by kernel_rfl) ?_
  refine WL.loadN rfl agg214 siz214 rfl rfl h48 rfl rfl ?_
  refine WL.buildSlice (vs := [(0, .agg #[.int .i64 ri, .int .i64 rv, .slice ao36 k cp37])]) (cs := [.int .i64 ri, .int .i64 rv, .slice ao36 k cp37]) rfl rfl Tryz.underlying117 rfl (by kernel_rfl) ?_
  intro w51 b52 h53 u54 g55
  refine WL.appT (k := 0) (xs := []) rfl Tryz.underlying117 inf214 rfl rfl rfl rfl rfl Own.nil h53 rfl rfl rfl ⟨by decide, by decide⟩ ?_
  intro v60 w56 h57 u58 f59
  obtain ⟨ao61, cp62, rfl⟩ := h57.form
  have f63 : ∀ b, (.slice ao61 1 cp62 : Value).ownBlock = some b → w51.heap.size ≤ b := fun b hb => (f59 b hb).resolve_left (by simp [Value.ownBlock])
  refine WL.to (E' := [(2, .slice none 0 0), (3, .slice ao61 1 cp62), (4, .func (.func 163) #[.pointer (some ⟨S, 0, none⟩)] #[]), (16, .slice (some ⟨g30, 0, none⟩) 1 cp13), (17, .int .i64 1), (18, .int .i64 0), (19, .bool true), (20, .pointer (some ⟨g30, 0, none⟩)), (21, .int .i64 id), (6, .int .i64 id), (23, .func (.func 163) #[.pointer (some ⟨S, 0, none⟩)] #[]), (24, .int .i64 id), (25, .tuple #[.agg #[.int .i64 ri, .int .i64 rv, .slice ao36 k cp37], .bool true]), (22, .tuple #[.agg #[.int .i64 ri, .int .i64 rv, .slice ao36 k cp37], .bool true]), (26, .agg #[.int .i64 ri, .int .i64 rv, .slice ao36 k cp37]), (27, .bool true), (7, .pointer (some ⟨b43, 0, none⟩)), (28, .slice none 0 0), (29, .agg #[.int .i64 ri, .int .i64 rv, .slice ao36 k cp37]), (30, .slice (some ⟨b52, 0, none⟩) 1 1), (31, .slice ao61 1 cp62)]) 1 [2, 3, 4, 16, 17, 18, 19, 20, 21, 6, 23, 24, 25, 22, 26, 27, 7, 28, 29, 30, 31] (by kernel_rfl) ?_
  refine WL.nil ?_
  refine hK21 _ _ _ ?_
  refine CW.region ?_
  refine WL.to (E' := [(2, .slice none 0 0), (3, .slice ao61 1 cp62), (4, .func (.func 163) #[.pointer (some ⟨S, 0, none⟩)] #[]), (16, .slice (some ⟨g30, 0, none⟩) 1 cp13), (17, .int .i64 1), (18, .int .i64 1), (19, .bool true), (20, .pointer (some ⟨g30, 0, none⟩)), (21, .int .i64 id), (6, .int .i64 id), (23, .func (.func 163) #[.pointer (some ⟨S, 0, none⟩)] #[]), (24, .int .i64 id), (25, .tuple #[.agg #[.int .i64 ri, .int .i64 rv, .slice ao36 k cp37], .bool true]), (22, .tuple #[.agg #[.int .i64 ri, .int .i64 rv, .slice ao36 k cp37], .bool true]), (26, .agg #[.int .i64 ri, .int .i64 rv, .slice ao36 k cp37]), (27, .bool true), (7, .pointer (some ⟨b43, 0, none⟩)), (28, .slice none 0 0), (29, .agg #[.int .i64 ri, .int .i64 rv, .slice ao36 k cp37]), (30, .slice (some ⟨b52, 0, none⟩) 1 1), (31, .slice ao61 1 cp62), (32, .int .i64 1)]) 2 [2, 3, 4, 16, 17, 18, 19, 20, 21, 6, 23, 24, 25, 22, 26, 27, 7, 28, 29, 30, 31, 32] (by kernel_rfl) ?_
  refine WL.nil ?_
  refine hK18 _ _ ?_
  refine CL.round fun K64 hK64 => ?_
  refine CW.seq fun K65 hK65 => ?_
  refine CW.region ?_
  refine WL.to (E' := [(2, .slice none 0 0), (3, .slice ao61 1 cp62), (4, .func (.func 163) #[.pointer (some ⟨S, 0, none⟩)] #[]), (16, .slice (some ⟨g30, 0, none⟩) 1 cp13), (17, .int .i64 1), (18, .int .i64 1), (19, .bool false), (20, .pointer (some ⟨g30, 0, none⟩)), (21, .int .i64 id), (6, .int .i64 id), (23, .func (.func 163) #[.pointer (some ⟨S, 0, none⟩)] #[]), (24, .int .i64 id), (25, .tuple #[.agg #[.int .i64 ri, .int .i64 rv, .slice ao36 k cp37], .bool true]), (22, .tuple #[.agg #[.int .i64 ri, .int .i64 rv, .slice ao36 k cp37], .bool true]), (26, .agg #[.int .i64 ri, .int .i64 rv, .slice ao36 k cp37]), (27, .bool true), (7, .pointer (some ⟨b43, 0, none⟩)), (28, .slice none 0 0), (29, .agg #[.int .i64 ri, .int .i64 rv, .slice ao36 k cp37]), (30, .slice (some ⟨b52, 0, none⟩) 1 1), (31, .slice ao61 1 cp62), (32, .int .i64 1)]) 1 [2, 3, 4, 16, 17, 18, 19, 20, 21, 6, 23, 24, 25, 22, 26, 27, 7, 28, 29, 30, 31, 32] (by kernel_rfl) ?_
  refine WL.nil ?_
  refine hK65 _ _ _ ?_
  refine CW.seq fun K66 hK66 => ?_
  refine CW.condF rfl ?_
  refine CW.exit ?_
  refine hK4 _ _ _ ?_
  refine CW.seq fun K67 hK67 => ?_
  refine CW.region ?_
  refine WL.to (E' := [(2, .slice ao61 1 cp62)]) 2 [2] (by kernel_rfl) ?_
  refine WL.nil ?_
  refine hK67 _ _ _ ?_
  have h68 := (h38.keep' u45 dis0)
  have h69 := (((h68.keep' u49 (disc (Own.ne h68 h44 rfl) dis0)).keep' u54 dis0).keep' u58 dis0)
  refine CW.ret fun a ha => ?_
  try simp (decide := true) only [Exit.inBlock, Exit.then, ↓reduceIte]
  exact fin ha.defers (res_tmp rfl ha rfl _) ⟨ao61, cp62, ao36, cp37, rfl, h57, (fun b hb => (by have := f63 b hb; have := u9.size; have := u16.size; have := u40.size; have := u45.size; have := u49.size; have := u54.size; omega)), h69, (fun b hb => (by have := f39 b hb; have := u9.size; have := u16.size; omega)), (((((((u9.trans u16).trans u40).trans u45).trans u49).trans u54).trans u58).sub (by intro k hk hl; have := u9.size; have := u16.size; have := u40.size; have := u45.size; have := u49.size; have := u54.size; have := u58.size; have := g46; simp only [ob_ao, Option.mem_toList, Option.mem_def, Option.map_none, Option.map_some, Option.some.injEq, reduceCtorEq, List.mem_append, List.mem_cons, List.not_mem_nil, or_false, false_or, or_assoc] at hk ⊢; first | omega | (simp [hk]; done)))⟩

theorem changed1 {w : World} {p t hub base S scp sat F k vcp : Nat} {nm : ByteArray} {tv0 tv1 tv2 tv4 tv5 tv6 : Value} {sao vao : Option Addr} {smx nx wr id rv : Int} {fs : List Value} (h_p : Blk w p [.pointer (some ⟨t, 0, none⟩), .pointer (some ⟨hub, 0, none⟩), .map (some base)] 87) (h_base : KMap ki w base ([])) (h_t : Blk w t [tv0, tv1, tv2, .pointer (some ⟨S, 0, none⟩), tv4, tv5, tv6] 116) (h_S : Blk w S [.slice sao 1 scp, .map (some sat), .pointer (some ⟨F, 0, none⟩), .int .i64 smx, .int .i64 nx, .int .i64 wr] 121) (h_sat : KMap ki w sat ([(id, .int .i64 0)])) (h_sao : Own w (.slice sao 1 scp) 214 3 1 ([.int .i64 id, .int .i64 rv, .slice vao k vcp])) (h_vao : Own w (.slice vao k vcp) 58 4 k fs) (h1 : fs.all Value.oneCell' = true) (hk : k ≤ 1000) :
    Ret Tryz.prog 88 #[.pointer (some ⟨p, 0, none⟩), .string nm] w fun v w' => ∃ cao ccp ao cp nb, v = .slice cao 1 ccp ∧ Own w' (.slice cao 1 ccp) 40 4 1 ([.string nm, .int .i64 id, .slice none 0 0, .slice ao k cp]) ∧ (∀ b, (.slice cao 1 ccp : Value).ownBlock = some b → w.heap.size ≤ b) ∧ Blk w' p [.pointer (some ⟨t, 0, none⟩), .pointer (some ⟨hub, 0, none⟩), .map (some nb)] 87 ∧ w.heap.size ≤ nb ∧ Only ([p]) w w' := by
  refine enterL (args := [.pointer (some ⟨p, 0, none⟩), .string nm]) Tryz.func88 rfl rfl rfl ?_
  refine CW.seq fun K1 hK1 => ?_
  refine CW.region ?_
  refine WL.to (E' := [(0, .pointer (some ⟨p, 0, none⟩)), (1, .string nm), (4, .slice none 0 0)]) 1 [0, 1, 4] (by kernel_rfl) ?_
  refine WL.nil ?_
  refine hK1 _ _ _ ?_
  refine CW.seq fun K2 hK2 => ?_
  refine CW.region ?_
  refine WL.makeMap rfl rfl ?_
  intro w3 m4 h5 u6 g7
  replace h5 := KMap.new (κ := ki) h5
  refine WL.to (E' := [(0, .pointer (some ⟨p, 0, none⟩)), (1, .string nm), (4, .slice none 0 0), (5, .map (some m4))]) 1 [0, 1, 4, 5] (by kernel_rfl) ?_
  refine WL.nil ?_
  refine hK2 _ _ _ ?_
  refine CW.seq fun K8 hK8 => ?_
  refine CW.region ?_
  refine WL.makeMap rfl rfl ?_
  intro w9 m10 h11 u12 g13
  replace h11 := KMap.new (κ := ki) h11
  refine WL.to (E' := [(0, .pointer (some ⟨p, 0, none⟩)), (1, .string nm), (4, .slice none 0 0), (5, .map (some m4)), (6, .map (some m10))]) 1 [0, 1, 4, 5, 6] (by kernel_rfl) ?_
  refine WL.nil ?_
  refine hK8 _ _ _ ?_
  refine CW.seq fun K14 hK14 => ?_
  refine CW.seq fun K15 hK15 => ?_
  refine CW.region ?_
  refine WL.to (E' := [(0, .pointer (some ⟨p, 0, none⟩)), (1, .string nm), (4, .slice none 0 0), (5, .map (some m4)), (6, .map (some m10)), (21, .pointer (some ⟨p, 0, none⟩))]) 3 [0, 1, 4, 5, 6, 21] (by kernel_rfl) ?_
  have h16 := ((h_p.keep u6 nm0).keep u12 nm0)
  refine WL.load1 rfl agg60 rfl rfl h16 rfl ?_
  have h17 := ((h_t.keep u6 nm0).keep u12 nm0)
  refine WL.callQ (v := .pointer (some ⟨S, 0, none⟩)) rfl rfl rfl rfl ent22 rfl (rows_of h17) ?_
  have h18 := ((h_S.keep u6 nm0).keep u12 nm0)
  have h19 := ((h_sat.keep u6 nm0).keep u12 nm0)
  have h20 := ((h_sao.keep' u6 dis0).keep' u12 dis0)
  have h21 := ((h_vao.keep' u6 dis0).keep' u12 dis0)
  refine WL.call rfl rfl rfl rfl ent121 rfl (all1 h18 h19 h20 h21 h1 hk) ?_
  rintro _ w31 ⟨oao22, ocp23, ao24, cp25, rfl, h26, f27, h28, f29, u30⟩
  refine WL.to (E' := [(0, .pointer (some ⟨p, 0, none⟩)), (1, .string nm), (4, .slice none 0 0), (5, .map (some m4)), (6, .map (some m10)), (24, .slice oao22 1 ocp23), (25, .int .i64 1), (26, .int .i64 0)]) 2 [0, 1, 4, 5, 6, 24, 25, 26] (by kernel_rfl) ?_
  refine WL.nil ?_
  refine hK15 _ _ _ ?_
  refine CW.block ?_
  refine CW.round1 fun K32 hK32 => ?_
  refine CW.seq fun K33 hK33 => ?_
  refine CW.region ?_
  refine WL.to (E' := [(0, .pointer (some ⟨p, 0, none⟩)), (1, .string nm), (4, .slice none 0 0), (5, .map (some m4)), (6, .map (some m10)), (24, .slice oao22 1 ocp23), (25, .int .i64 1), (26, .int .i64 0), (27, .bool true)]) 1 [0, 1, 4, 5, 6, 24, 25, 26, 27] (by kernel_rfl) ?_
  refine WL.nil ?_
  refine hK33 _ _ _ ?_
  refine CW.seq fun K34 hK34 => ?_
  refine CW.condT rfl ?_
  refine CW.skip ?_
  refine hK34 _ _ _ ?_
  refine CW.seq fun K35 hK35 => ?_
  refine CW.block ?_
  refine CW.seq fun K36 hK36 => ?_
  refine CW.region ?_
  obtain ⟨g44, rest37, e38, h39, q40, q41, q42, q43⟩ := h26.open2 (by omega)
  subst e38
  refine WL.index rfl rfl Tryz.underlying117 siz214 rfl rfl (by decide) (by decide) ?_
  refine WL.loadN rfl agg214 siz214 rfl rfl h39 rfl rfl ?_
  refine WL.alloc (cs := [.int .i64 0, .int .i64 0, .slice none 0 0]) rfl rfl zer214 rfl ?_
  intro w45 b46 h47 u48 g49
  refine WL.storeN rfl siz214 rfl rfl rfl rfl h47 (Nat.le_of_ble_eq_true rfl) ?_
  intro w50 h51 u52 z53
  refine WL.nil ?_
  refine hK36 _ _ _ ?_
  refine CW.seq fun K54 hK54 => ?_
  refine CW.region ?_
  refine WL.to (E' := [(0, .pointer (some ⟨p, 0, none⟩)), (1, .string nm), (4, .slice none 0 0), (5, .map (some m4)), (6, .map (some m10)), (24, .slice (some ⟨g44, 0, none⟩) 1 ocp23), (25, .int .i64 1), (26, .int .i64 0), (27, .bool true), (28, .pointer (some ⟨g44, 0, none⟩)), (29, .agg #[.int .i64 id, .int .i64 rv, .slice ao24 k cp25]), (8, .pointer (some ⟨b46, 0, none⟩)), (30, .map (some m4)), (31, .pointer (some ⟨b46, 0, none⟩))]) 2 [0, 1, 4, 5, 6, 24, 25, 26, 27, 28, 29, 8, 30, 31] (by kernel_rfl) ?_
  refine WL.load1 rfl agg2 rfl rfl h51 rfl ?_
  refine WL.to (E' := [(0, .pointer (some ⟨p, 0, none⟩)), (1, .string nm), (4, .slice none 0 0), (5, .map (some m4)), (6, .map (some m10)), (24, .slice (some ⟨g44, 0, none⟩) 1 ocp23), (25, .int .i64 1), (26, .int .i64 0), (27, .bool true), (28, .pointer (some ⟨g44, 0, none⟩)), (29, .agg #[.int .i64 id, .int .i64 rv, .slice ao24 k cp25]), (8, .pointer (some ⟨b46, 0, none⟩)), (30, .map (some m4)), (31, .pointer (some ⟨b46, 0, none⟩)), (32, .int .i64 id), (33, .pointer (some ⟨b46, 2, none⟩))]) 1 [0, 1, 4, 5, 6, 24, 25, 26, 27, 28, 29, 8, 30, 31, 32, 33] (by kernel_rfl) ?_
  refine WL.load1 rfl agg38 rfl rfl h51 rfl ?_
  have h55 := (((h5.keep u12 nm0).keep u30 nm0).keep u48 nm0)
  have h56 := (h55.keep u52 (nmc (Ne.symm (Blk.neK h47 h55)) nm0))
  refine WL.putNew (κ := ki) (a := id) rfl law_i Tryz.underlying85 Tryz.underlying2 rfl rfl rfl h56 (by simp [look]) ?_
  intro w57 h58 u59 z60
  have h61 : KMap ki w57 m4 [(id, .slice ao24 k cp25)] := by simpa [setv] using h58
  refine WL.nil ?_
  refine hK54 _ _ _ ?_
  refine CW.region ?_
  refine WL.to (E' := [(0, .pointer (some ⟨p, 0, none⟩)), (1, .string nm), (4, .slice none 0 0), (5, .map (some m4)), (6, .map (some m10)), (24, .slice (some ⟨g44, 0, none⟩) 1 ocp23), (25, .int .i64 1), (26, .int .i64 0), (27, .bool true), (28, .pointer (some ⟨g44, 0, none⟩)), (29, .agg #[.int .i64 id, .int .i64 rv, .slice ao24 k cp25]), (8, .pointer (some ⟨b46, 0, none⟩)), (30, .map (some m4)), (31, .pointer (some ⟨b46, 0, none⟩)), (32, .int .i64 id), (33, .pointer (some ⟨b46, 2, none⟩)), (34, .slice ao24 k cp25), (35, .map (some m10)), (36, .pointer (some ⟨b46, 0, none⟩))]) 2 [0, 1, 4, 5, 6, 24, 25, 26, 27, 28, 29, 8, 30, 31, 32, 33, 34, 35, 36] (by kernel_rfl) ?_
  have h62 := (h51.keep u59 (nmc (Blk.neK h51 h56) nm0))
  refine WL.load1 rfl agg2 rfl rfl h62 rfl ?_
  refine WL.build (vs := []) (v := .agg #[]) rfl rfl rfl (by kernel_rfl) ?_
  have h63 := ((h11.keep u30 nm0).keep u48 nm0)
  have h64 := (h63.keep u52 (nmc (Ne.symm (Blk.neK h47 h63)) nm0))
  have h65 := (h64.keep u59 (nmc (Ne.symm (by have := h5.lt; have := g13; omega)) nm0))
  refine WL.putNew (κ := ki) (a := id) rfl law_i Tryz.underlying222 Tryz.underlying2 rfl rfl rfl h65 (by simp [look]) ?_
  intro w66 h67 u68 z69
  have h70 : KMap ki w66 m10 [(id, .agg #[])] := by simpa [setv] using h67
  refine WL.nil ?_
  refine hK35 _ _ _ ?_
  refine CW.region ?_
  refine WL.to (E' := [(0, .pointer (some ⟨p, 0, none⟩)), (1, .string nm), (4, .slice none 0 0), (5, .map (some m4)), (6, .map (some m10)), (24, .slice (some ⟨g44, 0, none⟩) 1 ocp23), (25, .int .i64 1), (26, .int .i64 1), (27, .bool true), (28, .pointer (some ⟨g44, 0, none⟩)), (29, .agg #[.int .i64 id, .int .i64 rv, .slice ao24 k cp25]), (8, .pointer (some ⟨b46, 0, none⟩)), (30, .map (some m4)), (31, .pointer (some ⟨b46, 0, none⟩)), (32, .int .i64 id), (33, .pointer (some ⟨b46, 2, none⟩)), (34, .slice ao24 k cp25), (35, .map (some m10)), (36, .pointer (some ⟨b46, 0, none⟩)), (37, .int .i64 id), (38, .agg #[]), (39, .int .i64 1)]) 2 [0, 1, 4, 5, 6, 24, 25, 26, 27, 28, 29, 8, 30, 31, 32, 33, 34, 35, 36, 37, 38, 39] (by kernel_rfl) ?_
  refine WL.nil ?_
  refine hK32 _ _ ?_
  refine CL.round fun K71 hK71 => ?_
  refine CW.seq fun K72 hK72 => ?_
  refine CW.region ?_
  refine WL.to (E' := [(0, .pointer (some ⟨p, 0, none⟩)), (1, .string nm), (4, .slice none 0 0), (5, .map (some m4)), (6, .map (some m10)), (24, .slice (some ⟨g44, 0, none⟩) 1 ocp23), (25, .int .i64 1), (26, .int .i64 1), (27, .bool false), (28, .pointer (some ⟨g44, 0, none⟩)), (29, .agg #[.int .i64 id, .int .i64 rv, .slice ao24 k cp25]), (8, .pointer (some ⟨b46, 0, none⟩)), (30, .map (some m4)), (31, .pointer (some ⟨b46, 0, none⟩)), (32, .int .i64 id), (33, .pointer (some ⟨b46, 2, none⟩)), (34, .slice ao24 k cp25), (35, .map (some m10)), (36, .pointer (some ⟨b46, 0, none⟩)), (37, .int .i64 id), (38, .agg #[]), (39, .int .i64 1)]) 1 [0, 1, 4, 5, 6, 24, 25, 26, 27, 28, 29, 8, 30, 31, 32, 33, 34, 35, 36, 37, 38, 39] (by kernel_rfl) ?_
  refine WL.nil ?_
  refine hK72 _ _ _ ?_
  refine CW.seq fun K73 hK73 => ?_
  refine CW.condF rfl ?_
  refine CW.exit ?_
  refine hK14 _ _ _ ?_
  refine CW.seq fun K74 hK74 => ?_
  refine CW.seq fun K75 hK75 => ?_
  refine CW.region ?_
  refine WL.to (E' := [(0, .pointer (some ⟨p, 0, none⟩)), (1, .string nm), (4, .slice none 0 0), (5, .map (some m4)), (6, .map (some m10)), (42, .pointer (some ⟨p, 2, none⟩))]) 3 [0, 1, 4, 5, 6, 42] (by kernel_rfl) ?_
  have h76 := ((h16.keep u30 nm0).keep u48 nm0)
  have h77 := (h76.keep u52 (nmc (Blk.ne h76 h47 rfl) nm0))
  have h78 := (h77.keep u59 (nmc (Blk.neK h77 h56) nm0))
  have h79 := (h78.keep u68 (nmc (Blk.neK h78 h65) nm0))
  refine WL.load1 rfl agg85 rfl rfl h79 rfl ?_
  have h80 := ((((h_base.keep u6 nm0).keep u12 nm0).keep u30 nm0).keep u48 nm0)
  have h81 := (h80.keep u52 (nmc (Ne.symm (Blk.neK h47 h80)) nm0))
  have h82 := (h81.keep u59 (nmc (by have := h_base.lt; have := g7; omega) nm0))
  have h83 := (h82.keep u68 (nmc (by have := h_base.lt; have := g13; have := u6.size; omega) nm0))
  refine WL.range (κ := ki) rfl rfl Tryz.underlying85 rfl h83 ?_
  intro w84 it85 h86 u87 g88
  refine WL.sub [(0, .pointer (some ⟨p, 0, none⟩)), (1, .string nm), (4, .slice none 0 0), (5, .map (some m4)), (6, .map (some m10)), (44, .pointer (some ⟨it85, 0, none⟩))] ⟨rfl, rfl, rfl, rfl, rfl, rfl, trivial⟩ ?_
  refine WL.nil ?_
  refine hK75 _ _ _ ?_
  refine CW.block ?_
  refine CW.round1 fun K89 hK89 => ?_
  refine CW.seq fun K90 hK90 => ?_
  refine CW.region ?_
  refine WL.next2 (κ := ki) rfl rfl rfl h86 (fun ht => ?_) (fun j x v w2 hjx hi2 hat un zn => absurd hjx (by simp))
  refine WL.to (E' := [(0, .pointer (some ⟨p, 0, none⟩)), (1, .string nm), (4, .slice none 0 0), (5, .map (some m4)), (6, .map (some m10)), (44, .pointer (some ⟨it85, 0, none⟩)), (45, .tuple #[.bool false]), (46, .bool false)]) 1 [0, 1, 4, 5, 6, 44, 45, 46] (by kernel_rfl) ?_
  refine WL.nil ?_
  refine hK90 _ _ _ ?_
  refine CW.seq fun K91 hK91 => ?_
  refine CW.condF rfl ?_
  refine CW.exit ?_
  refine hK74 _ _ _ ?_
  refine CW.seq fun K92 hK92 => ?_
  refine CW.region ?_
  refine WL.to (E' := [(0, .pointer (some ⟨p, 0, none⟩)), (1, .string nm), (4, .slice none 0 0), (5, .map (some m4)), (6, .map (some m10)), (10, .slice none 0 0)]) 1 [0, 1, 4, 5, 6, 10] (by kernel_rfl) ?_
  refine WL.nil ?_
  refine hK92 _ _ _ ?_
  refine CW.seq fun K93 hK93 => ?_
  refine CW.seq fun K94 hK94 => ?_
  refine CW.region ?_
  refine WL.to (E' := [(0, .pointer (some ⟨p, 0, none⟩)), (1, .string nm), (4, .slice none 0 0), (5, .map (some m4)), (10, .slice none 0 0), (52, .map (some m10))]) 1 [0, 1, 4, 5, 10, 52] (by kernel_rfl) ?_
  refine WL.call rfl rfl rfl rfl ent123 rfl (keys123) ?_
  rintro _ w99 ⟨b95, rfl, h96, g97, u98⟩
  have h100 := ((h70.keep u87 nm0).keep u98 nm0)
  refine WL.call rfl rfl rfl rfl ent122 rfl (sorted_167 h96 h100) ?_
  rintro _ w106 ⟨ao101, cp102, rfl, h103, f104, u105⟩
  refine WL.to (E' := [(0, .pointer (some ⟨p, 0, none⟩)), (1, .string nm), (4, .slice none 0 0), (5, .map (some m4)), (10, .slice none 0 0), (54, .slice ao101 1 cp102), (55, .int .i64 1), (56, .int .i64 0)]) 2 [0, 1, 4, 5, 10, 54, 55, 56] (by kernel_rfl) ?_
  refine WL.nil ?_
  refine hK94 _ _ _ ?_
  refine CW.block ?_
  refine CW.round1 fun K107 hK107 => ?_
  refine CW.seq fun K108 hK108 => ?_
  refine CW.region ?_
  refine WL.to (E' := [(0, .pointer (some ⟨p, 0, none⟩)), (1, .string nm), (4, .slice none 0 0), (5, .map (some m4)), (10, .slice none 0 0), (54, .slice ao101 1 cp102), (55, .int .i64 1), (56, .int .i64 0), (57, .bool true)]) 1 [0, 1, 4, 5, 10, 54, 55, 56, 57] (by kernel_rfl) ?_
  refine WL.nil ?_
  refine hK108 _ _ _ ?_
  refine CW.seq fun K109 hK109 => ?_
  refine CW.condT rfl ?_
  refine CW.skip ?_
  refine hK109 _ _ _ ?_
  refine CW.seq fun K110 hK110 => ?_
  refine CW.block ?_
  refine CW.seq fun K111 hK111 => ?_
  refine CW.region ?_
  obtain ⟨g119, rest112, e113, h114, q115, q116, q117, q118⟩ := h103.open2 (by omega)
  subst e113
  refine WL.index rfl rfl Tryz.underlying225 siz2 rfl rfl (by decide) (by decide) ?_
  refine WL.load1 rfl agg2 rfl rfl h114 rfl ?_
  refine WL.to (E' := [(0, .pointer (some ⟨p, 0, none⟩)), (1, .string nm), (4, .slice none 0 0), (5, .map (some m4)), (10, .slice none 0 0), (54, .slice (some ⟨g119, 0, none⟩) 1 cp102), (55, .int .i64 1), (56, .int .i64 0), (57, .bool true), (58, .pointer (some ⟨g119, 0, none⟩)), (59, .int .i64 id), (12, .int .i64 id)]) 1 [0, 1, 4, 5, 10, 54, 55, 56, 57, 58, 59, 12] (by kernel_rfl) ?_
  refine WL.nil ?_
  refine hK111 _ _ _ ?_
  refine CW.seq fun K120 hK120 => ?_
  refine CW.region ?_
  refine WL.to (E' := [(0, .pointer (some ⟨p, 0, none⟩)), (1, .string nm), (4, .slice none 0 0), (5, .map (some m4)), (10, .slice none 0 0), (54, .slice (some ⟨g119, 0, none⟩) 1 cp102), (55, .int .i64 1), (56, .int .i64 0), (57, .bool true), (58, .pointer (some ⟨g119, 0, none⟩)), (59, .int .i64 id), (12, .int .i64 id), (61, .pointer (some ⟨p, 0, none⟩)), (62, .pointer (some ⟨p, 0, none⟩)), (63, .pointer (some ⟨p, 2, none⟩))]) 3 [0, 1, 4, 5, 10, 54, 55, 56, 57, 58, 59, 12, 61, 62, 63] (by kernel_rfl) ?_
  have h121 := (((h79.keep u87 nm0).keep u98 nm0).keep u105 nm0)
  refine WL.load1 rfl agg85 rfl rfl h121 rfl ?_
  refine WL.to (E' := [(0, .pointer (some ⟨p, 0, none⟩)), (1, .string nm), (4, .slice none 0 0), (5, .map (some m4)), (10, .slice none 0 0), (54, .slice (some ⟨g119, 0, none⟩) 1 cp102), (55, .int .i64 1), (56, .int .i64 0), (57, .bool true), (58, .pointer (some ⟨g119, 0, none⟩)), (59, .int .i64 id), (12, .int .i64 id), (61, .pointer (some ⟨p, 0, none⟩)), (62, .pointer (some ⟨p, 0, none⟩)), (63, .pointer (some ⟨p, 2, none⟩)), (64, .map (some base)), (65, .int .i64 id)]) 1 [0, 1, 4, 5, 10, 54, 55, 56, 57, 58, 59, 12, 61, 62, 63, 64, 65] (by kernel_rfl) ?_
  have h122 := (((h83.keep u87 nm0).keep u98 nm0).keep u105 nm0)
  refine WL.lookB (κ := ki) (a := id) true rfl rfl law_i Tryz.underlying85 Tryz.underlying2 zer38 rfl rfl h122 ?_
  refine WL.chg 66 (.tuple #[.slice none 0 0, .bool false]) rfl (by rw [(by simp [look] : look ([]) id = none)]; rfl) ?_
  refine WL.to (E' := [(0, .pointer (some ⟨p, 0, none⟩)), (1, .string nm), (4, .slice none 0 0), (5, .map (some m4)), (10, .slice none 0 0), (54, .slice (some ⟨g119, 0, none⟩) 1 cp102), (55, .int .i64 1), (56, .int .i64 0), (57, .bool true), (58, .pointer (some ⟨g119, 0, none⟩)), (59, .int .i64 id), (12, .int .i64 id), (61, .pointer (some ⟨p, 0, none⟩)), (62, .pointer (some ⟨p, 0, none⟩)), (63, .pointer (some ⟨p, 2, none⟩)), (64, .map (some base)), (65, .int .i64 id), (66, .tuple #[.slice none 0 0, .bool false]), (60, .tuple #[.slice none 0 0, .bool false]), (67, .slice none 0 0), (68, .bool false), (13, .slice none 0 0), (14, .bool false)]) 5 [0, 1, 4, 5, 10, 54, 55, 56, 57, 58, 59, 12, 61, 62, 63, 64, 65, 66, 60, 67, 68, 13, 14] (by kernel_rfl) ?_
  refine WL.nil ?_
  refine hK120 _ _ _ ?_
  refine CW.seq fun K123 hK123 => ?_
  refine CW.region ?_
  refine WL.to (E' := [(0, .pointer (some ⟨p, 0, none⟩)), (1, .string nm), (4, .slice none 0 0), (5, .map (some m4)), (10, .slice none 0 0), (54, .slice (some ⟨g119, 0, none⟩) 1 cp102), (55, .int .i64 1), (56, .int .i64 0), (57, .bool true), (58, .pointer (some ⟨g119, 0, none⟩)), (59, .int .i64 id), (12, .int .i64 id), (61, .pointer (some ⟨p, 0, none⟩)), (62, .pointer (some ⟨p, 0, none⟩)), (63, .pointer (some ⟨p, 2, none⟩)), (64, .map (some base)), (65, .int .i64 id), (66, .tuple #[.slice none 0 0, .bool false]), (60, .tuple #[.slice none 0 0, .bool false]), (67, .slice none 0 0), (68, .bool false), (13, .slice none 0 0), (14, .bool false), (70, .map (some m4)), (71, .int .i64 id)]) 2 [0, 1, 4, 5, 10, 54, 55, 56, 57, 58, 59, 12, 61, 62, 63, 64, 65, 66, 60, 67, 68, 13, 14, 70, 71] (by kernel_rfl) ?_
  have h124 := ((((h61.keep u68 (nmc (by have := h5.lt; have := g13; omega) nm0)).keep u87 nm0).keep u98 nm0).keep u105 nm0)
  refine WL.lookB (κ := ki) (a := id) true rfl rfl law_i Tryz.underlying85 Tryz.underlying2 zer38 rfl rfl h124 ?_
  refine WL.chg 72 (.tuple #[.slice ao24 k cp25, .bool true]) rfl (by rw [(by simp [look] : look ([(id, .slice ao24 k cp25)]) id = some (.slice ao24 k cp25))]; rfl) ?_
  refine WL.to (E' := [(0, .pointer (some ⟨p, 0, none⟩)), (1, .string nm), (4, .slice none 0 0), (5, .map (some m4)), (10, .slice none 0 0), (54, .slice (some ⟨g119, 0, none⟩) 1 cp102), (55, .int .i64 1), (56, .int .i64 0), (57, .bool true), (58, .pointer (some ⟨g119, 0, none⟩)), (59, .int .i64 id), (12, .int .i64 id), (61, .pointer (some ⟨p, 0, none⟩)), (62, .pointer (some ⟨p, 0, none⟩)), (63, .pointer (some ⟨p, 2, none⟩)), (64, .map (some base)), (65, .int .i64 id), (66, .tuple #[.slice none 0 0, .bool false]), (60, .tuple #[.slice none 0 0, .bool false]), (67, .slice none 0 0), (68, .bool false), (13, .slice none 0 0), (14, .bool false), (70, .map (some m4)), (71, .int .i64 id), (72, .tuple #[.slice ao24 k cp25, .bool true]), (69, .tuple #[.slice ao24 k cp25, .bool true]), (73, .slice ao24 k cp25), (74, .bool true), (15, .slice ao24 k cp25), (16, .bool true)]) 5 [0, 1, 4, 5, 10, 54, 55, 56, 57, 58, 59, 12, 61, 62, 63, 64, 65, 66, 60, 67, 68, 13, 14, 70, 71, 72, 69, 73, 74, 15, 16] (by kernel_rfl) ?_
  refine WL.nil ?_
  refine hK123 _ _ _ ?_
  refine CW.seq fun K125 hK125 => ?_
  refine CW.region ?_
  refine WL.to (E' := [(0, .pointer (some ⟨p, 0, none⟩)), (1, .string nm), (4, .slice none 0 0), (5, .map (some m4)), (10, .slice none 0 0), (54, .slice (some ⟨g119, 0, none⟩) 1 cp102), (55, .int .i64 1), (56, .int .i64 0), (57, .bool true), (58, .pointer (some ⟨g119, 0, none⟩)), (59, .int .i64 id), (12, .int .i64 id), (61, .pointer (some ⟨p, 0, none⟩)), (62, .pointer (some ⟨p, 0, none⟩)), (63, .pointer (some ⟨p, 2, none⟩)), (64, .map (some base)), (65, .int .i64 id), (66, .tuple #[.slice none 0 0, .bool false]), (60, .tuple #[.slice none 0 0, .bool false]), (67, .slice none 0 0), (68, .bool false), (13, .slice none 0 0), (14, .bool false), (70, .map (some m4)), (71, .int .i64 id), (72, .tuple #[.slice ao24 k cp25, .bool true]), (69, .tuple #[.slice ao24 k cp25, .bool true]), (73, .slice ao24 k cp25), (74, .bool true), (15, .slice ao24 k cp25), (16, .bool true), (75, .bool false), (76, .bool true), (77, .bool true), (78, .bool true), (79, undef), (80, undef), (81, undef), (82, undef), (83, .bool true)]) 9 [0, 1, 4, 5, 10, 54, 55, 56, 57, 58, 59, 12, 61, 62, 63, 64, 65, 66, 60, 67, 68, 13, 14, 70, 71, 72, 69, 73, 74, 15, 16, 75, 76, 77, 78, 79, 80, 81, 82, 83] (by kernel_rfl) ?_
  refine WL.nil ?_
  refine hK125 _ _ _ ?_
  refine CW.condT rfl ?_
  refine CW.region ?_
  refine WL.to (E' := [(0, .pointer (some ⟨p, 0, none⟩)), (1, .string nm), (4, .slice none 0 0), (5, .map (some m4)), (10, .slice none 0 0), (54, .slice (some ⟨g119, 0, none⟩) 1 cp102), (55, .int .i64 1), (56, .int .i64 0), (57, .bool true), (58, .pointer (some ⟨g119, 0, none⟩)), (59, .int .i64 id), (12, .int .i64 id), (61, .pointer (some ⟨p, 0, none⟩)), (62, .pointer (some ⟨p, 0, none⟩)), (63, .pointer (some ⟨p, 2, none⟩)), (64, .map (some base)), (65, .int .i64 id), (66, .tuple #[.slice none 0 0, .bool false]), (60, .tuple #[.slice none 0 0, .bool false]), (67, .slice none 0 0), (68, .bool false), (13, .slice none 0 0), (14, .bool false), (70, .map (some m4)), (71, .int .i64 id), (72, .tuple #[.slice ao24 k cp25, .bool true]), (69, .tuple #[.slice ao24 k cp25, .bool true]), (73, .slice ao24 k cp25), (74, .bool true), (15, .slice ao24 k cp25), (16, .bool true), (75, .bool false), (76, .bool true), (77, .bool true), (78, .bool true), (79, undef), (80, undef), (81, undef), (82, undef), (83, .bool true), (84, .slice none 0 0), (85, .string nm), (86, .int .i64 id), (87, .slice none 0 0)]) 4 [0, 1, 4, 5, 10, 54, 55, 56, 57, 58, 59, 12, 61, 62, 63, 64, 65, 66, 60, 67, 68, 13, 14, 70, 71, 72, 69, 73, 74, 15, 16, 75, 76, 77, 78, 79, 80, 81, 82, 83, 84, 85, 86, 87] (by kernel_rfl) ?_
  refine WL.callQ (v := .slice none 0 0) rfl rfl rfl rfl ent125 rfl (copy_nil) ?_
  refine WL.to (E' := [(0, .pointer (some ⟨p, 0, none⟩)), (1, .string nm), (4, .slice none 0 0), (5, .map (some m4)), (10, .slice none 0 0), (54, .slice (some ⟨g119, 0, none⟩) 1 cp102), (55, .int .i64 1), (56, .int .i64 0), (57, .bool true), (58, .pointer (some ⟨g119, 0, none⟩)), (59, .int .i64 id), (12, .int .i64 id), (61, .pointer (some ⟨p, 0, none⟩)), (62, .pointer (some ⟨p, 0, none⟩)), (63, .pointer (some ⟨p, 2, none⟩)), (64, .map (some base)), (65, .int .i64 id), (66, .tuple #[.slice none 0 0, .bool false]), (60, .tuple #[.slice none 0 0, .bool false]), (67, .slice none 0 0), (68, .bool false), (13, .slice none 0 0), (14, .bool false), (70, .map (some m4)), (71, .int .i64 id), (72, .tuple #[.slice ao24 k cp25, .bool true]), (69, .tuple #[.slice ao24 k cp25, .bool true]), (73, .slice ao24 k cp25), (74, .bool true), (15, .slice ao24 k cp25), (16, .bool true), (75, .bool false), (76, .bool true), (77, .bool true), (78, .bool true), (79, undef), (80, undef), (81, undef), (82, undef), (83, .bool true), (84, .slice none 0 0), (85, .string nm), (86, .int .i64 id), (87, .slice none 0 0), (88, .slice none 0 0), (89, .slice ao24 k cp25)]) 1 [0, 1, 4, 5, 10, 54, 55, 56, 57, 58, 59, 12, 61, 62, 63, 64, 65, 66, 60, 67, 68, 13, 14, 70, 71, 72, 69, 73, 74, 15, 16, 75, 76, 77, 78, 79, 80, 81, 82, 83, 84, 85, 86, 87, 88, 89] (by kernel_rfl) ?_
  have h126 := (h28.keep' u48 dis0)
  have h127 := (h126.keep' u52 (disc (Own.ne h126 h47 rfl) dis0))
  have h128 := (h127.keep' u59 (disc (Own.neM h127 h56) dis0))
  have h129 := ((((h128.keep' u68 (disc (Own.neM h128 h65) dis0)).keep' u87 dis0).keep' u98 dis0).keep' u105 dis0)
  refine WL.call rfl rfl rfl rfl ent125 rfl (copy_own h129 h1 hk) ?_
  rintro _ w135 ⟨ao130, cp131, rfl, h132, u133, f134⟩
  refine WL.build (vs := [(0, .string nm), (1, .int .i64 id), (2, .slice none 0 0), (3, .slice ao130 k cp131)]) (v := .agg #[.string nm, .int .i64 id, .slice none 0 0, .slice ao130 k cp131]) rfl rfl rfl (by kernel_rfl) ?_
  refine WL.buildSlice (vs := [(0, .agg #[.string nm, .int .i64 id, .slice none 0 0, .slice ao130 k cp131])]) (cs := [.string nm, .int .i64 id, .slice none 0 0, .slice ao130 k cp131]) rfl rfl Tryz.underlying36 rfl (by kernel_rfl) ?_
  intro w136 b137 h138 u139 g140
  refine WL.appT (k := 0) (xs := []) rfl Tryz.underlying36 inf40 rfl rfl rfl rfl rfl Own.nil h138 rfl rfl rfl ⟨by decide, by decide⟩ ?_
  intro v145 w141 h142 u143 f144
  obtain ⟨ao146, cp147, rfl⟩ := h142.form
  have f148 : ∀ b, (.slice ao146 1 cp147 : Value).ownBlock = some b → w136.heap.size ≤ b := fun b hb => (f144 b hb).resolve_left (by simp [Value.ownBlock])
  refine WL.to (E' := [(0, .pointer (some ⟨p, 0, none⟩)), (1, .string nm), (4, .slice none 0 0), (5, .map (some m4)), (10, .slice ao146 1 cp147), (54, .slice (some ⟨g119, 0, none⟩) 1 cp102), (55, .int .i64 1), (56, .int .i64 0), (57, .bool true), (58, .pointer (some ⟨g119, 0, none⟩)), (59, .int .i64 id), (12, .int .i64 id), (61, .pointer (some ⟨p, 0, none⟩)), (62, .pointer (some ⟨p, 0, none⟩)), (63, .pointer (some ⟨p, 2, none⟩)), (64, .map (some base)), (65, .int .i64 id), (66, .tuple #[.slice none 0 0, .bool false]), (60, .tuple #[.slice none 0 0, .bool false]), (67, .slice none 0 0), (68, .bool false), (13, .slice none 0 0), (14, .bool false), (70, .map (some m4)), (71, .int .i64 id), (72, .tuple #[.slice ao24 k cp25, .bool true]), (69, .tuple #[.slice ao24 k cp25, .bool true]), (73, .slice ao24 k cp25), (74, .bool true), (15, .slice ao24 k cp25), (16, .bool true), (75, .bool false), (76, .bool true), (77, .bool true), (78, .bool true), (79, undef), (80, undef), (81, undef), (82, undef), (83, .bool true), (84, .slice none 0 0), (85, .string nm), (86, .int .i64 id), (87, .slice none 0 0), (88, .slice none 0 0), (89, .slice ao24 k cp25), (90, .slice ao130 k cp131), (91, .agg #[.string nm, .int .i64 id, .slice none 0 0, .slice ao130 k cp131]), (92, .slice (some ⟨b137, 0, none⟩) 1 1), (93, .slice ao146 1 cp147)]) 1 [0, 1, 4, 5, 10, 54, 55, 56, 57, 58, 59, 12, 61, 62, 63, 64, 65, 66, 60, 67, 68, 13, 14, 70, 71, 72, 69, 73, 74, 15, 16, 75, 76, 77, 78, 79, 80, 81, 82, 83, 84, 85, 86, 87, 88, 89, 90, 91, 92, 93] (by kernel_rfl) ?_
  refine WL.nil ?_
  refine hK110 _ _ _ ?_
  refine CW.region ?_
  refine WL.to (E' := [(0, .pointer (some ⟨p, 0, none⟩)), (1, .string nm), (4, .slice none 0 0), (5, .map (some m4)), (10, .slice ao146 1 cp147), (54, .slice (some ⟨g119, 0, none⟩) 1 cp102), (55, .int .i64 1), (56, .int .i64 1), (57, .bool true), (58, .pointer (some ⟨g119, 0, none⟩)), (59, .int .i64 id), (12, .int .i64 id), (61, .pointer (some ⟨p, 0, none⟩)), (62, .pointer (some ⟨p, 0, none⟩)), (63, .pointer (some ⟨p, 2, none⟩)), (64, .map (some base)), (65, .int .i64 id), (66, .tuple #[.slice none 0 0, .bool false]), (60, .tuple #[.slice none 0 0, .bool false]), (67, .slice none 0 0), (68, .bool false), (13, .slice none 0 0), (14, .bool false), (70, .map (some m4)), (71, .int .i64 id), (72, .tuple #[.slice ao24 k cp25, .bool true]), (69, .tuple #[.slice ao24 k cp25, .bool true]), (73, .slice ao24 k cp25), (74, .bool true), (15, .slice ao24 k cp25), (16, .bool true), (75, .bool false), (76, .bool true), (77, .bool true), (78, .bool true), (79, undef), (80, undef), (81, undef), (82, undef), (83, .bool true), (84, .slice none 0 0), (85, .string nm), (86, .int .i64 id), (87, .slice none 0 0), (88, .slice none 0 0), (89, .slice ao24 k cp25), (90, .slice ao130 k cp131), (91, .agg #[.string nm, .int .i64 id, .slice none 0 0, .slice ao130 k cp131]), (92, .slice (some ⟨b137, 0, none⟩) 1 1), (93, .slice ao146 1 cp147), (94, .int .i64 1)]) 2 [0, 1, 4, 5, 10, 54, 55, 56, 57, 58, 59, 12, 61, 62, 63, 64, 65, 66, 60, 67, 68, 13, 14, 70, 71, 72, 69, 73, 74, 15, 16, 75, 76, 77, 78, 79, 80, 81, 82, 83, 84, 85, 86, 87, 88, 89, 90, 91, 92, 93, 94] (by kernel_rfl) ?_
  refine WL.nil ?_
  refine hK107 _ _ ?_
  refine CL.round fun K149 hK149 => ?_
  refine CW.seq fun K150 hK150 => ?_
  refine CW.region ?_
  refine WL.to (E' := [(0, .pointer (some ⟨p, 0, none⟩)), (1, .string nm), (4, .slice none 0 0), (5, .map (some m4)), (10, .slice ao146 1 cp147), (54, .slice (some ⟨g119, 0, none⟩) 1 cp102), (55, .int .i64 1), (56, .int .i64 1), (57, .bool false), (58, .pointer (some ⟨g119, 0, none⟩)), (59, .int .i64 id), (12, .int .i64 id), (61, .pointer (some ⟨p, 0, none⟩)), (62, .pointer (some ⟨p, 0, none⟩)), (63, .pointer (some ⟨p, 2, none⟩)), (64, .map (some base)), (65, .int .i64 id), (66, .tuple #[.slice none 0 0, .bool false]), (60, .tuple #[.slice none 0 0, .bool false]), (67, .slice none 0 0), (68, .bool false), (13, .slice none 0 0), (14, .bool false), (70, .map (some m4)), (71, .int .i64 id), (72, .tuple #[.slice ao24 k cp25, .bool true]), (69, .tuple #[.slice ao24 k cp25, .bool true]), (73, .slice ao24 k cp25), (74, .bool true), (15, .slice ao24 k cp25), (16, .bool true), (75, .bool false), (76, .bool true), (77, .bool true), (78, .bool true), (79, undef), (80, undef), (81, undef), (82, undef), (83, .bool true), (84, .slice none 0 0), (85, .string nm), (86, .int .i64 id), (87, .slice none 0 0), (88, .slice none 0 0), (89, .slice ao24 k cp25), (90, .slice ao130 k cp131), (91, .agg #[.string nm, .int .i64 id, .slice none 0 0, .slice ao130 k cp131]), (92, .slice (some ⟨b137, 0, none⟩) 1 1), (93, .slice ao146 1 cp147), (94, .int .i64 1)]) 1 [0, 1, 4, 5, 10, 54, 55, 56, 57, 58, 59, 12, 61, 62, 63, 64, 65, 66, 60, 67, 68, 13, 14, 70, 71, 72, 69, 73, 74, 15, 16, 75, 76, 77, 78, 79, 80, 81, 82, 83, 84, 85, 86, 87, 88, 89, 90, 91, 92, 93, 94] (by kernel_rfl) ?_
  refine WL.nil ?_
  refine hK150 _ _ _ ?_
  refine CW.seq fun K151 hK151 => ?_
  refine CW.condF rfl ?_
  refine CW.exit ?_
  refine hK93 _ _ _ ?_
  refine CW.seq fun K152 hK152 => ?_
  refine CW.region ?_
  refine WL.to (E' := [(4, .slice none 0 0), (10, .slice ao146 1 cp147), (96, .map (some m4)), (98, .pointer (some ⟨p, 2, none⟩))]) 4 [4, 10, 96, 98] (by kernel_rfl) ?_
  have h153 := (((h121.keep u133 nm0).keep u139 nm0).keep u143 nm0)
  refine WL.store1 rfl siz85 rfl rfl rfl h153 rfl ?_
  intro w154 h155 u156 z157
  refine WL.sub [(4, .slice none 0 0), (10, .slice ao146 1 cp147)] ⟨rfl, rfl, trivial⟩ ?_
  refine WL.nil ?_
  refine hK152 _ _ _ ?_
  refine CW.seq fun K158 hK158 => ?_
  refine CW.region ?_
  refine WL.to (E' := [(4, .slice ao146 1 cp147)]) 2 [4] (by kernel_rfl) ?_
  refine WL.nil ?_
  refine hK158 _ _ _ ?_
  have h159 := (h142.keep' u156 (disc (Own.ne h142 h153 rfl) dis0))
  refine CW.ret fun a ha => ?_
  try simp (decide := true) only [Exit.inBlock, Exit.then, ↓reduceIte]
  exact fin ha.defers (res_tmp rfl ha rfl _) ⟨ao146, cp147, ao130, cp131, m4, rfl, h159, (fun b hb => (by have := f148 b hb; have := u6.size; have := u12.size; have := u30.size; have := u48.size; have := u52.size; have := u59.size; have := u68.size; have := u87.size; have := u98.size; have := u105.size; have := u133.size; have := u139.size; omega)), h155, (by have := g7; omega), ((((((((((((((u6.trans u12).trans u30).trans u48).trans u52).trans u59).trans u68).trans u87).trans u98).trans u105).trans u133).trans u139).trans u143).trans u156).sub (by intro k hk hl; have := u6.size; have := u12.size; have := u30.size; have := u48.size; have := u52.size; have := u59.size; have := u68.size; have := u87.size; have := u98.size; have := u105.size; have := u133.size; have := u139.size; have := u143.size; have := u156.size; have := g49; have := g7; have := g13; simp only [ob_ao, Option.mem_toList, Option.mem_def, Option.map_none, Option.map_some, Option.some.injEq, reduceCtorEq, List.mem_append, List.mem_cons, List.not_mem_nil, or_false, false_or, or_assoc] at hk ⊢; rcases hk with hk | hk | hk | hk <;> first | omega | (simp [hk]; done)))⟩

theorem commits1 {w : World} {m_ pl lg mscp wt p m lcp t hub base S scp sat F k vcp : Nat} {msao lao sao vao : Option Addr} {bz : Bool} {nm : ByteArray} {fns fs : List Value} {tv0 tv1 tv2 tv4 tv5 tv6 : Value} {smx nx wr id rv : Int} (h_m_ : Blk w m_ [.map (some pl), .pointer (some ⟨lg, 0, none⟩), .slice msao 0 mscp, .pointer (some ⟨wt, 0, none⟩), .bool bz] 75) (h_pl : KMap ks w pl ([(nm, .pointer (some ⟨p, 0, none⟩))])) (h_lg : Blk w lg [.slice lao m lcp] 126) (h_lao : Own w (.slice lao m lcp) 1 1 m fns) (h_wt : Blk w wt [.slice none 0 0, .int .i64 0] 129) (h_p : Blk w p [.pointer (some ⟨t, 0, none⟩), .pointer (some ⟨hub, 0, none⟩), .map (some base)] 87) (h_base : KMap ki w base ([])) (h_t : Blk w t [tv0, tv1, tv2, .pointer (some ⟨S, 0, none⟩), tv4, tv5, tv6] 116) (h_S : Blk w S [.slice sao 1 scp, .map (some sat), .pointer (some ⟨F, 0, none⟩), .int .i64 smx, .int .i64 nx, .int .i64 wr] 121) (h_sat : KMap ki w sat ([(id, .int .i64 0)])) (h_sao : Own w (.slice sao 1 scp) 214 3 1 ([.int .i64 id, .int .i64 rv, .slice vao k vcp])) (h_vao : Own w (.slice vao k vcp) 58 4 k fs) (h1 : fs.all Value.oneCell' = true) (hk : k ≤ 1000) :
    Ret Tryz.prog 47 #[.pointer (some ⟨m_, 0, none⟩)] w fun v w' => ∃ nb, v = .nilIface ∧ Blk w' lg [.slice lao 0 lcp] 126 ∧ Own w' (.slice lao 0 lcp) 1 1 0 ([]) ∧ Blk w' p [.pointer (some ⟨t, 0, none⟩), .pointer (some ⟨hub, 0, none⟩), .map (some nb)] 87 ∧ w.heap.size ≤ nb ∧ Only ([lg, p] ++ (.slice lao m lcp : Value).ownBlock.toList) w w' := by
  refine enterL (args := [.pointer (some ⟨m_, 0, none⟩)]) Tryz.func47 rfl rfl rfl ?_
  refine CW.seq fun K1 hK1 => ?_
  refine CW.region ?_
  refine WL.to (E' := [(0, .pointer (some ⟨m_, 0, none⟩)), (2, .nilIface)]) 1 [0, 2] (by kernel_rfl) ?_
  refine WL.nil ?_
  refine hK1 _ _ _ ?_
  refine CW.seq fun K2 hK2 => ?_
  refine CW.seq fun K3 hK3 => ?_
  refine CW.region ?_
  refine WL.to (E' := [(0, .pointer (some ⟨m_, 0, none⟩)), (2, .nilIface), (6, .pointer (some ⟨m_, 0, none⟩))]) 1 [0, 2, 6] (by kernel_rfl) ?_
  refine WL.callQ (v := .int .i64 0) rfl rfl rfl rfl ent26 rfl (depth_of h_m_) ?_
  refine WL.to (E' := [(0, .pointer (some ⟨m_, 0, none⟩)), (2, .nilIface), (8, .bool false)]) 1 [0, 2, 8] (by kernel_rfl) ?_
  refine WL.nil ?_
  refine hK3 _ _ _ ?_
  refine CW.condF rfl ?_
  refine CW.skip ?_
  refine hK2 _ _ _ ?_
  refine CW.seq fun K4 hK4 => ?_
  refine CW.region ?_
  refine WL.to (E' := [(0, .pointer (some ⟨m_, 0, none⟩)), (2, .nilIface), (11, .pointer (some ⟨m_, 1, none⟩))]) 3 [0, 2, 11] (by kernel_rfl) ?_
  refine WL.load1 rfl agg70 rfl rfl h_m_ rfl ?_
  refine WL.call rfl rfl rfl rfl ent85 rfl (keep_of h_lg h_lao) ?_
  rintro _ w8 ⟨rfl, h5, h6, u7⟩
  refine WL.sub [(0, .pointer (some ⟨m_, 0, none⟩)), (2, .nilIface)] ⟨rfl, rfl, trivial⟩ ?_
  refine WL.nil ?_
  refine hK4 _ _ _ ?_
  refine CW.seq fun K9 hK9 => ?_
  refine CW.region ?_
  refine WL.to (E' := [(0, .pointer (some ⟨m_, 0, none⟩)), (2, .nilIface), (3, .slice none 0 0)]) 1 [0, 2, 3] (by kernel_rfl) ?_
  refine WL.nil ?_
  refine hK9 _ _ _ ?_
  refine CW.seq fun K10 hK10 => ?_
  refine CW.seq fun K11 hK11 => ?_
  refine CW.region ?_
  refine WL.to (E' := [(0, .pointer (some ⟨m_, 0, none⟩)), (2, .nilIface), (3, .slice none 0 0), (16, .pointer (some ⟨m_, 0, none⟩))]) 3 [0, 2, 3, 16] (by kernel_rfl) ?_
  have h12 := (h_m_.keep u7 (nma (nmc (Blk.ne h_m_ h_lg rfl) nm0) (Own.ne h_lao h_m_ rfl)))
  refine WL.load1 rfl agg69 rfl rfl h12 rfl ?_
  refine WL.call rfl rfl rfl rfl ent87 rfl (keys87) ?_
  rintro _ w17 ⟨b13, rfl, h14, g15, u16⟩
  have h18 := ((h_pl.keep u7 (nma (nmc (Ne.symm (Blk.neK h_lg h_pl)) nm0) (Own.neM h_lao h_pl))).keep u16 nm0)
  refine WL.call rfl rfl rfl rfl ent86 rfl (sorted_120 h14 h18) ?_
  rintro _ w24 ⟨ao19, cp20, rfl, h21, f22, u23⟩
  refine WL.to (E' := [(0, .pointer (some ⟨m_, 0, none⟩)), (2, .nilIface), (3, .slice none 0 0), (19, .slice ao19 1 cp20), (20, .int .i64 1), (21, .int .i64 0)]) 2 [0, 2, 3, 19, 20, 21] (by kernel_rfl) ?_
  refine WL.nil ?_
  refine hK11 _ _ _ ?_
  refine CW.block ?_
  refine CW.round1 fun K25 hK25 => ?_
  refine CW.seq fun K26 hK26 => ?_
  refine CW.region ?_
  refine WL.to (E' := [(0, .pointer (some ⟨m_, 0, none⟩)), (2, .nilIface), (3, .slice none 0 0), (19, .slice ao19 1 cp20), (20, .int .i64 1), (21, .int .i64 0), (22, .bool true)]) 1 [0, 2, 3, 19, 20, 21, 22] (by kernel_rfl) ?_
  refine WL.nil ?_
  refine hK26 _ _ _ ?_
  refine CW.seq fun K27 hK27 => ?_
  refine CW.condT rfl ?_
  refine CW.skip ?_
  refine hK27 _ _ _ ?_
  refine CW.seq fun K28 hK28 => ?_
  refine CW.block ?_
  refine CW.seq fun K29 hK29 => ?_
  refine CW.region ?_
  obtain ⟨g37, rest30, e31, h32, q33, q34, q35, q36⟩ := h21.open2 (by omega)
  subst e31
  refine WL.index rfl rfl Tryz.underlying168 siz9 rfl rfl (by decide) (by decide) ?_
  refine WL.load1 rfl agg9 rfl rfl h32 rfl ?_
  refine WL.to (E' := [(0, .pointer (some ⟨m_, 0, none⟩)), (2, .nilIface), (3, .slice none 0 0), (19, .slice (some ⟨g37, 0, none⟩) 1 cp20), (20, .int .i64 1), (21, .int .i64 0), (22, .bool true), (23, .pointer (some ⟨g37, 0, none⟩)), (24, .string nm), (5, .string nm)]) 1 [0, 2, 3, 19, 20, 21, 22, 23, 24, 5] (by kernel_rfl) ?_
  refine WL.nil ?_
  refine hK29 _ _ _ ?_
  refine CW.region ?_
  refine WL.to (E' := [(0, .pointer (some ⟨m_, 0, none⟩)), (2, .nilIface), (3, .slice none 0 0), (19, .slice (some ⟨g37, 0, none⟩) 1 cp20), (20, .int .i64 1), (21, .int .i64 0), (22, .bool true), (23, .pointer (some ⟨g37, 0, none⟩)), (24, .string nm), (5, .string nm), (25, .slice none 0 0), (26, .pointer (some ⟨m_, 0, none⟩)), (27, .pointer (some ⟨m_, 0, none⟩)), (28, .pointer (some ⟨m_, 0, none⟩))]) 4 [0, 2, 3, 19, 20, 21, 22, 23, 24, 5, 25, 26, 27, 28] (by kernel_rfl) ?_
  have h38 := ((h12.keep u16 nm0).keep u23 nm0)
  refine WL.load1 rfl agg69 rfl rfl h38 rfl ?_
  refine WL.to (E' := [(0, .pointer (some ⟨m_, 0, none⟩)), (2, .nilIface), (3, .slice none 0 0), (19, .slice (some ⟨g37, 0, none⟩) 1 cp20), (20, .int .i64 1), (21, .int .i64 0), (22, .bool true), (23, .pointer (some ⟨g37, 0, none⟩)), (24, .string nm), (5, .string nm), (25, .slice none 0 0), (26, .pointer (some ⟨m_, 0, none⟩)), (27, .pointer (some ⟨m_, 0, none⟩)), (28, .pointer (some ⟨m_, 0, none⟩)), (29, .map (some pl)), (30, .string nm)]) 1 [0, 2, 3, 19, 20, 21, 22, 23, 24, 5, 25, 26, 27, 28, 29, 30] (by kernel_rfl) ?_
  have h39 := (h18.keep u23 nm0)
  refine WL.lookB (κ := ks) (a := nm) false rfl rfl law_s Tryz.underlying69 Tryz.underlying9 zer77 rfl rfl h39 ?_
  refine WL.chg 31 (.pointer (some ⟨p, 0, none⟩)) rfl (by rw [(by simp [look] : look ([(nm, .pointer (some ⟨p, 0, none⟩))]) nm = some (.pointer (some ⟨p, 0, none⟩)))]; rfl) ?_
  refine WL.to (E' := [(0, .pointer (some ⟨m_, 0, none⟩)), (2, .nilIface), (3, .slice none 0 0), (19, .slice (some ⟨g37, 0, none⟩) 1 cp20), (20, .int .i64 1), (21, .int .i64 0), (22, .bool true), (23, .pointer (some ⟨g37, 0, none⟩)), (24, .string nm), (5, .string nm), (25, .slice none 0 0), (26, .pointer (some ⟨m_, 0, none⟩)), (27, .pointer (some ⟨m_, 0, none⟩)), (28, .pointer (some ⟨m_, 0, none⟩)), (29, .map (some pl)), (30, .string nm), (31, .pointer (some ⟨p, 0, none⟩)), (32, .string nm)]) 1 [0, 2, 3, 19, 20, 21, 22, 23, 24, 5, 25, 26, 27, 28, 29, 30, 31, 32] (by kernel_rfl) ?_
  have h40 := (((h_p.keep u7 (nma (nmc (Blk.ne h_p h_lg rfl) nm0) (Own.ne h_lao h_p rfl))).keep u16 nm0).keep u23 nm0)
  have h41 := (((h_base.keep u7 (nma (nmc (Ne.symm (Blk.neK h_lg h_base)) nm0) (Own.neM h_lao h_base))).keep u16 nm0).keep u23 nm0)
  have h42 := (((h_t.keep u7 (nma (nmc (Blk.ne h_t h_lg rfl) nm0) (Own.ne h_lao h_t rfl))).keep u16 nm0).keep u23 nm0)
  have h43 := (((h_S.keep u7 (nma (nmc (Blk.ne h_S h_lg rfl) nm0) (Own.ne h_lao h_S rfl))).keep u16 nm0).keep u23 nm0)
  have h44 := (((h_sat.keep u7 (nma (nmc (Ne.symm (Blk.neK h_lg h_sat)) nm0) (Own.neM h_lao h_sat))).keep u16 nm0).keep u23 nm0)
  have h45 := (((h_sao.keep' u7 (disa (disc (Own.ne h_sao h_lg rfl) dis0) (Own.neO h_sao h_lao rfl))).keep' u16 dis0).keep' u23 dis0)
  have h46 := (((h_vao.keep' u7 (disa (disc (Own.ne h_vao h_lg rfl) dis0) (Own.neO h_vao h_lao rfl))).keep' u16 dis0).keep' u23 dis0)
  refine WL.call rfl rfl rfl rfl ent88 rfl (changed1 h40 h41 h42 h43 h44 h45 h46 h1 hk) ?_
  rintro _ w57 ⟨cao47, ccp48, ao49, cp50, nb51, rfl, h52, f53, h54, g55, u56⟩
  obtain ⟨g65, rest58, e59, h60, q61, q62, q63, q64⟩ := h52.open2 (by omega)
  subst e59
  refine WL.appT (k := 0) (xs := []) rfl Tryz.underlying36 inf40 rfl rfl rfl rfl rfl Own.nil h60 rfl rfl rfl ⟨by decide, by decide⟩ ?_
  intro v70 w66 h67 u68 f69
  obtain ⟨ao71, cp72, rfl⟩ := h67.form
  have f73 : ∀ b, (.slice ao71 1 cp72 : Value).ownBlock = some b → w57.heap.size ≤ b := fun b hb => (f69 b hb).resolve_left (by simp [Value.ownBlock])
  refine WL.to (E' := [(0, .pointer (some ⟨m_, 0, none⟩)), (2, .nilIface), (3, .slice ao71 1 cp72), (19, .slice (some ⟨g37, 0, none⟩) 1 cp20), (20, .int .i64 1), (21, .int .i64 0), (22, .bool true), (23, .pointer (some ⟨g37, 0, none⟩)), (24, .string nm), (5, .string nm), (25, .slice none 0 0), (26, .pointer (some ⟨m_, 0, none⟩)), (27, .pointer (some ⟨m_, 0, none⟩)), (28, .pointer (some ⟨m_, 0, none⟩)), (29, .map (some pl)), (30, .string nm), (31, .pointer (some ⟨p, 0, none⟩)), (32, .string nm), (33, .slice (some ⟨g65, 0, none⟩) 1 ccp48), (34, .slice ao71 1 cp72)]) 1 [0, 2, 3, 19, 20, 21, 22, 23, 24, 5, 25, 26, 27, 28, 29, 30, 31, 32, 33, 34] (by kernel_rfl) ?_
  refine WL.nil ?_
  refine hK28 _ _ _ ?_
  refine CW.region ?_
  refine WL.to (E' := [(0, .pointer (some ⟨m_, 0, none⟩)), (2, .nilIface), (3, .slice ao71 1 cp72), (19, .slice (some ⟨g37, 0, none⟩) 1 cp20), (20, .int .i64 1), (21, .int .i64 1), (22, .bool true), (23, .pointer (some ⟨g37, 0, none⟩)), (24, .string nm), (5, .string nm), (25, .slice none 0 0), (26, .pointer (some ⟨m_, 0, none⟩)), (27, .pointer (some ⟨m_, 0, none⟩)), (28, .pointer (some ⟨m_, 0, none⟩)), (29, .map (some pl)), (30, .string nm), (31, .pointer (some ⟨p, 0, none⟩)), (32, .string nm), (33, .slice (some ⟨g65, 0, none⟩) 1 ccp48), (34, .slice ao71 1 cp72), (35, .int .i64 1)]) 2 [0, 2, 3, 19, 20, 21, 22, 23, 24, 5, 25, 26, 27, 28, 29, 30, 31, 32, 33, 34, 35] (by kernel_rfl) ?_
  refine WL.nil ?_
  refine hK25 _ _ ?_
  refine CL.round fun K74 hK74 => ?_
  refine CW.seq fun K75 hK75 => ?_
  refine CW.region ?_
  refine WL.to (E' := [(0, .pointer (some ⟨m_, 0, none⟩)), (2, .nilIface), (3, .slice ao71 1 cp72), (19, .slice (some ⟨g37, 0, none⟩) 1 cp20), (20, .int .i64 1), (21, .int .i64 1), (22, .bool false), (23, .pointer (some ⟨g37, 0, none⟩)), (24, .string nm), (5, .string nm), (25, .slice none 0 0), (26, .pointer (some ⟨m_, 0, none⟩)), (27, .pointer (some ⟨m_, 0, none⟩)), (28, .pointer (some ⟨m_, 0, none⟩)), (29, .map (some pl)), (30, .string nm), (31, .pointer (some ⟨p, 0, none⟩)), (32, .string nm), (33, .slice (some ⟨g65, 0, none⟩) 1 ccp48), (34, .slice ao71 1 cp72), (35, .int .i64 1)]) 1 [0, 2, 3, 19, 20, 21, 22, 23, 24, 5, 25, 26, 27, 28, 29, 30, 31, 32, 33, 34, 35] (by kernel_rfl) ?_
  refine WL.nil ?_
  refine hK75 _ _ _ ?_
  refine CW.seq fun K76 hK76 => ?_
  refine CW.condF rfl ?_
  refine CW.exit ?_
  refine hK10 _ _ _ ?_
  refine CW.seq fun K77 hK77 => ?_
  refine CW.seq fun K78 hK78 => ?_
  refine CW.region ?_
  refine WL.to (E' := [(0, .pointer (some ⟨m_, 0, none⟩)), (2, .nilIface), (3, .slice ao71 1 cp72), (38, .bool false)]) 3 [0, 2, 3, 38] (by kernel_rfl) ?_
  refine WL.nil ?_
  refine hK78 _ _ _ ?_
  refine CW.condF rfl ?_
  refine CW.skip ?_
  refine hK77 _ _ _ ?_
  refine CW.seq fun K79 hK79 => ?_
  refine CW.region ?_
  refine WL.to (E' := [(2, .nilIface), (3, .slice ao71 1 cp72), (41, .pointer (some ⟨m_, 3, none⟩))]) 3 [2, 3, 41] (by kernel_rfl) ?_
  have h80 := ((h38.keep u56 (nmc (Blk.ne h38 h40 rfl) nm0)).keep u68 nm0)
  refine WL.load1 rfl agg72 rfl rfl h80 rfl ?_
  refine WL.to (E' := [(2, .nilIface), (42, .pointer (some ⟨wt, 0, none⟩)), (43, .slice ao71 1 cp72)]) 1 [2, 42, 43] (by kernel_rfl) ?_
  obtain ⟨g88, rest81, e82, h83, q84, q85, q86, q87⟩ := h67.open2 (by omega)
  subst e82
  have h89 := (((h_wt.keep u7 (nma (nmc (Blk.ne h_wt h_lg rfl) nm0) (Own.ne h_lao h_wt rfl))).keep u16 nm0).keep u23 nm0)
  have h90 := ((h89.keep u56 (nmc (Blk.ne h89 h40 rfl) nm0)).keep u68 nm0)
  refine WL.call rfl rfl rfl rfl ent89 rfl (tell_none h90 h83) ?_
  rintro _ w92 ⟨rfl, u91⟩
  refine WL.to (E' := [(2, .nilIface)]) 1 [2] (by kernel_rfl) ?_
  refine WL.nil ?_
  refine hK79 _ _ _ ?_
  have h93 := ((h5.keep u16 nm0).keep u23 nm0)
  have h94 := (((h93.keep u56 (nmc (Blk.ne h93 h40 rfl) nm0)).keep u68 nm0).keep u91 nm0)
  have h95 := ((h6.keep' u16 dis0).keep' u23 dis0)
  have h96 := (((h95.keep' u56 (disc (Own.ne h95 h40 rfl) dis0)).keep' u68 dis0).keep' u91 dis0)
  have h97 := ((h54.keep u68 nm0).keep u91 nm0)
  refine CW.ret fun a ha => ?_
  try simp (decide := true) only [Exit.inBlock, Exit.then, ↓reduceIte]
  exact fin ha.defers (res_tmp rfl ha rfl _) ⟨nb51, rfl, h94, h96, h97, (by have := g55; have := u7.size; have := u16.size; have := u23.size; omega), ((((((u7.trans u16).trans u23).trans u56).trans u68).trans u91).sub (by intro k hk hl; have := u7.size; have := u16.size; have := u23.size; have := u56.size; have := u68.size; have := u91.size; simp only [ob_ao, Option.mem_toList, Option.mem_def, Option.map_none, Option.map_some, Option.some.injEq, reduceCtorEq, List.mem_append, List.mem_cons, List.not_mem_nil, or_false, false_or, or_assoc] at hk ⊢; rcases hk with hk | hk | hk <;> first | omega | (simp [hk]; done)))⟩
end Go.K

namespace Go.K
open Go.Proofs
set_option maxHeartbeats 1000000
abbrev mC (pl lg wt : Nat) (sv : Value) (b : Bool) : List Value := [.map (some pl), .pointer (some ⟨lg, 0, none⟩), sv, .pointer (some ⟨wt, 0, none⟩), .bool b]
def LogX (w : World) (S p n : Nat) (fns : List Value) (X : List Nat) : Prop := ∀ j, j < n → ∃ br bi bp brw, fns[2 * j]? = some (.func (.func 79) #[] #[.pointer (some ⟨br, 0, none⟩), .pointer (some ⟨bi, 0, none⟩)]) ∧
    fns[2 * j + 1]? = some (.func (.func 43) #[] #[.pointer (some ⟨bp, 0, none⟩), .pointer (some ⟨brw, 0, none⟩)]) ∧
    Blk w br [.pointer (some ⟨S, 0, none⟩)] 63 ∧ Blk w bi [.int .i64 (((j : Nat) : Int) + 1)] 2 ∧ Blk w bp [.pointer (some ⟨p, 0, none⟩)] 77 ∧ Blk w brw [.int .i64 (((j : Nat) : Int) + 1)] 2 ∧ br ∉ X ∧ bi ∉ X ∧ bp ∉ X ∧ brw ∉ X
theorem LogX.of {w : World} {S p n : Nat} {fns : List Value} {X : List Nat} (h : LogOk w S p n fns) (hX : NoT w [63, 2, 77] X) : LogX w S p n fns X := fun j hj => by
  obtain ⟨br, bi, bp, brw, h1, h2, h3, h4, h5, h6⟩ := h.2 j hj
  exact ⟨br, bi, bp, brw, h1, h2, h3, h4, h5, h6, fun hm => hX _ hm _ _ h3 (by simp), fun hm => hX _ hm _ _ h4 (by simp), fun hm => hX _ hm _ _ h5 (by simp), fun hm => hX _ hm _ _ h6 (by simp)⟩
theorem LogX.keep {w w' : World} {S p n : Nat} {fns : List Value} {X Y : List Nat} (h : LogX w S p n fns X) (u : Only Y w w') (hY : ∀ b ∈ Y, b ∈ X ∨ NoT w [63, 2, 77] [b]) : LogX w' S p n fns X := fun j hj => by
  obtain ⟨br, bi, bp, brw, h1, h2, h3, h4, h5, h6, x1, x2, x3, x4⟩ := h j hj
  have key : ∀ {b cs T}, Blk w b cs T → T ∈ [63, 2, 77] → b ∉ X → b ∉ Y := fun hb hT hx hm => by
    rcases hY _ hm with h | h
    · exact hx h
    · exact h _ (by simp) _ _ hb hT
  exact ⟨br, bi, bp, brw, h1, h2, h3.keep u (key h3 (by simp) x1), h4.keep u (key h4 (by simp) x2), h5.keep u (key h5 (by simp) x3), h6.keep u (key h6 (by simp) x4), x1, x2, x3, x4⟩
theorem NoT.one {w : World} {Ts S : List Nat} {b : Nat} (h : NoT w Ts S) (hb : b ∈ S) : NoT w Ts [b] := fun c hc => by
  have : c = b := by simpa using hc
  subst this; exact h _ hb
def NInv (sz pl lg wt m_ p t hub base S sat F n d mscp scp : Nat) (msao sao : Option Addr) (smx wr : Int) (fns : List Value) (X : List Nat) (wb : World) (j : Nat) (w : World) : Prop :=
  Blk w m_ (mC pl lg wt (.slice msao d mscp) true) 75 ∧ Blk w p [.pointer (some ⟨t, 0, none⟩), .pointer (some ⟨hub, 0, none⟩), .map (some base)] 87 ∧ Blk w hub [.slice none 0 0] 137 ∧ LogX w S p n fns X ∧ sz ≤ wb.heap.size ∧ wb.heap.size ≤ w.heap.size ∧
  ∃ r q xs fa fc l, r = (j + 1) / 2 ∧ r + q = n ∧ Blk w S [.slice sao n scp, .map (some sat), .pointer (some ⟨F, 0, none⟩), .int .i64 smx, .int .i64 (((r : Nat) : Int) + 1), .int .i64 (wr + q)] 121 ∧ KMap ki w sat (idxOf r) ∧
    Own w (.slice sao n scp) 214 3 n xs ∧ Blk w F [.slice fa q fc, .func (.func 135) #[] #[]] 246 ∧ Own w (.slice fa q fc) 3 1 q (nums l) ∧ l.length = q ∧ (q = 1 → l = [((r : Nat) : Int)]) ∧ (∀ b, (Value.slice fa q fc).ownBlock = some b → wb.heap.size ≤ b)
theorem roll_n {w : World} {m_ lg pl wt p t hub base S sat F n k d msk mscp m lcp scp : Nat} {msao lao sao : Option Addr} {svs : List Int} {fns xs : List Value} {smx wr : Int}
    (hm_ : Blk w m_ [.map (some pl), .pointer (some ⟨lg, 0, none⟩), .slice msao msk mscp, .pointer (some ⟨wt, 0, none⟩), .bool false] 75) (hms : Own w (.slice msao msk mscp) 3 1 msk (nums svs)) (hl : Blk w lg [.slice lao m lcp] 126) (hlo : Own w (.slice lao m lcp) 1 1 m fns)
    (hp : Blk w p [.pointer (some ⟨t, 0, none⟩), .pointer (some ⟨hub, 0, none⟩), .map (some base)] 87) (hhub : Blk w hub [.slice none 0 0] 137)
    (hS : Blk w S [.slice sao n scp, .map (some sat), .pointer (some ⟨F, 0, none⟩), .int .i64 smx, .int .i64 (((n : Nat) : Int) + 1), .int .i64 wr] 121) (hA : KMap ki w sat (idxOf n)) (hO : Own w (.slice sao n scp) 214 3 n xs) (hF : Blk w F [.slice none 0 0, .func (.func 135) #[] #[]] 246)
    (hlog : LogOk w S p n fns) (hmk : svs[d]? = some ((2 * k : Nat) : Int)) (hd : d < msk) (hmsk : msk ≤ 1000) (hk : k ≤ n) (hn : n ≤ 40000) (hw : -100000 ≤ wr ∧ wr ≤ 100000) :
    Ret Tryz.prog 27 #[.pointer (some ⟨m_, 0, none⟩), .int .i64 ((d + 1 : Nat) : Int)] w fun v w' => ∃ q wr' xs' fa fc l, v = .nilIface ∧ q + k = n ∧ Blk w' m_ [.map (some pl), .pointer (some ⟨lg, 0, none⟩), .slice msao d mscp, .pointer (some ⟨wt, 0, none⟩), .bool false] 75 ∧ Blk w' lg [.slice lao (2 * k) lcp] 126 ∧ Own w' (.slice lao (2 * k) lcp) 1 1 (2 * k) (fns.take (2 * k)) ∧
      Blk w' S [.slice sao n scp, .map (some sat), .pointer (some ⟨F, 0, none⟩), .int .i64 smx, .int .i64 (((k : Nat) : Int) + 1), .int .i64 wr'] 121 ∧ KMap ki w' sat (idxOf k) ∧ Own w' (.slice sao n scp) 214 3 n xs' ∧ Blk w' F [.slice fa q fc, .func (.func 135) #[] #[]] 246 ∧ Own w' (.slice fa q fc) 3 1 q (nums l) ∧ (q = 1 → l = [((k : Nat) : Int)]) ∧ (-200000 ≤ wr' ∧ wr' ≤ 200000) ∧ (∀ b, (Value.slice fa q fc).ownBlock = some b → w.heap.size ≤ b) ∧
      Only ([m_, lg, S, sat, F] ++ (Value.slice lao m lcp).ownBlock.toList ++ (Value.slice sao n scp).ownBlock.toList) w w' := by
  have hm2 : m = 2 * n := by have := hlog.1; have := hlo.len; omega
  subst hm2
  have hform : ∀ (j : Nat) (f : Value), fns[j]? = some f → ∃ (g : FuncId) (caps : List Value), f = .func (.func g) #[] caps.toArray ∧ enters Tryz.prog g = true := by
    intro j f hf
    have hj : j < 2 * n := by have := (List.getElem?_eq_some_iff.1 hf).1; have := hlog.1; omega
    obtain ⟨br, bi, bp, brw, h1, h2, _⟩ := hlog.2 (j / 2) (by omega)
    rcases Nat.mod_two_eq_zero_or_one j with e | e
    · rw [show 2 * (j / 2) = j from by omega, hf] at h1
      simp only [Option.some.injEq] at h1
      exact ⟨79, [.pointer (some ⟨br, 0, none⟩), .pointer (some ⟨bi, 0, none⟩)], h1, ent79⟩
    · rw [show 2 * (j / 2) + 1 = j from by omega, hf] at h2
      simp only [Option.some.injEq] at h2
      exact ⟨43, [.pointer (some ⟨bp, 0, none⟩), .pointer (some ⟨brw, 0, none⟩)], h2, ent43⟩
  have xm := nma (nmc (Blk.ne hm_ hl rfl) nm0) (Own.ne hlo hm_ rfl)
  have xp := nma (nmc (Blk.ne hp hl rfl) nm0) (Own.ne hlo hp rfl)
  have xh := nma (nmc (Blk.ne hhub hl rfl) nm0) (Own.ne hlo hhub rfl)
  have xS := nma (nmc (Blk.ne hS hl rfl) nm0) (Own.ne hlo hS rfl)
  have xF := nma (nmc (Blk.ne hF hl rfl) nm0) (Own.ne hlo hF rfl)
  have xA := nma (nmc (Ne.symm (Blk.neK hl hA)) nm0) (Own.neM hlo hA)
  have xO := disa (disc (Own.ne hO hl rfl) dis0) (Own.neO hO hlo rfl)
  have xlt : ∀ b ∈ [lg] ++ (Value.slice lao (2 * n) lcp).ownBlock.toList, b < w.heap.size := by
    intro b hb
    rcases List.mem_append.1 hb with hb | hb
    · have : b = lg := by simpa using hb
      subst this; exact hl.lt
    · exact hlo.lt' hb
  have hX := LogX.of hlog (noa (noc (noB hl (by decide)) no0) (noO hlo (by decide)))
  refine Ret.mono (rollback_of (Inv := NInv w.heap.size pl lg wt m_ p t hub base S sat F n d mscp scp msao sao smx wr fns ([lg] ++ (Value.slice lao (2 * n) lcp).ownBlock.toList)) (S0 := [S, sat, F] ++ (Value.slice sao n scp).ownBlock.toList) (k := 2 * k) hm_ hms hmk hd hmsk hl hlo (by omega) (by omega) ?_ ?_ ?_ ?_ hform ?_) ?_
  · intro b hb
    simp only [List.mem_append, List.mem_cons, List.not_mem_nil, or_false] at hb
    have := hS.lt; have := hA.lt; have := hF.lt; have := @Own.lt' _ _ _ _ _ b _ hO
    grind
  · intro wb u hmb
    have n1 : ∀ {b cs T}, Blk w b cs T → Nat.beq T 75 = false → b ∉ [m_] := fun h hT => nmc (Blk.ne h hm_ hT) nm0
    refine ⟨hmb, hp.keep u (n1 hp rfl), hhub.keep u (n1 hhub rfl), hX.keep u (fun b hb => .inr (NoT.one (noc (noB hm_ (by decide)) no0) hb)), u.size, Nat.le_refl _, n, 0, xs, none, 0, [], by omega, rfl, by simpa using hS.keep u (n1 hS rfl), hA.keep u (nmc (Ne.symm (Blk.neK hm_ hA)) nm0),
      hO.keep' u (disc (Own.ne hO hm_ rfl) dis0), hF.keep u (n1 hF rfl), Own.nil, rfl, fun h => by omega, fun b h => by simp [Value.ownBlock] at h⟩
  · rintro wb w1 ⟨h, _⟩; exact h
  · rintro wb j w1 w2 ⟨q1, q2, q3, q4, q0, q00, r, q, xs1, fa, fc, l, e1, e2, q5, q6, q7, q8, q9, q12, q10, q11⟩ u
    exact ⟨q1.keep u xm, q2.keep u xp, q3.keep u xh, q4.keep u (fun b hb => .inl hb), q0, Nat.le_trans q00 u.size, r, q, xs1, fa, fc, l, e1, e2, q5.keep u xS, q6.keep u xA, q7.keep' u xO, q8.keep u xF, q9.keep' u (fun b hb hm => by have := xlt b hm; have := q11 b (by simpa using hb); omega), q12, q10, q11⟩
  · rintro wb j g caps w1 hkj hjm hf ⟨q1, q2, q3, q4, q0, q00, r, q, xs1, fa, fc, l, e1, e2, q5, q6, q7, q8, q9, q12, q10, q11⟩
    obtain ⟨br, bi, bp, brw, h1, h2, h3, h4, h5, h6, x1, x2, x3, x4⟩ := q4 (j / 2) (by omega)
    rcases Nat.mod_two_eq_zero_or_one j with e | e
    · rw [show 2 * (j / 2) = j from by omega, hf] at h1
      simp only [Option.some.injEq, Value.func.injEq, Fn.func.injEq, true_and] at h1
      obtain ⟨rfl, hc⟩ := h1
      rw [hc]
      obtain ⟨a, rfl⟩ : ∃ a, j = 2 * a := ⟨j / 2, by omega⟩
      have er : r = a + 1 := by omega
      subst er
      rw [show 2 * a / 2 = a from by omega] at h4
      refine Ret.mono (back79_of (j := a) q8 q9 (by omega) q5 q6 q7 (look_idxOf (by omega)) (by omega) (by omega) h3 h4 (by omega) ?_) ?_
      · intro p' hp'
        rw [delv_idxOf] at hp'
        obtain ⟨i, hi, rfl⟩ := idxOf_mem hp'
        simp only; omega
      · rintro v w2 ⟨fa', fc', l', rfl, g1, g2, g3, g4, g5, g6, g7, g8, u⟩
        rw [delv_idxOf] at g2
        have nn : ∀ {b cs T}, Blk w1 b cs T → Nat.beq T 121 = false → Nat.beq T 246 = false → Nat.beq T 214 = false → Nat.beq T 3 = false → b ∉ [S, sat, F] ++ (Value.slice sao n scp).ownBlock.toList ++ (Value.slice fa q fc).ownBlock.toList := fun h t1 t2 t3 t4 =>
          nma (nma (nmc (Blk.ne h q5 t1) (nmc (Blk.neK h q6) (nmc (Blk.ne h q8 t2) nm0))) (Own.ne q7 h t3)) (Own.ne q9 h t4)
        have hdis : ∀ b ∈ [lg] ++ (Value.slice lao (2 * n) lcp).ownBlock.toList, b ∉ [S, sat, F] ++ (Value.slice sao n scp).ownBlock.toList ++ (Value.slice fa q fc).ownBlock.toList := by
          intro b hb hm
          rcases List.mem_append.1 hm with hm | hm
          · rcases List.mem_append.1 hm with hm | hm
            · simp only [List.mem_cons, List.not_mem_nil, or_false] at hm
              rcases hm with rfl | rfl | rfl
              · exact xS hb
              · exact xA hb
              · exact xF hb
            · exact xO b hm hb
          · have := xlt b hb; have := q11 b (by simpa using hm); omega
        refine ⟨⟨q1.keep u (nn q1 rfl rfl rfl rfl), q2.keep u (nn q2 rfl rfl rfl rfl), q3.keep u (nn q3 rfl rfl rfl rfl), q4.keep u (fun b hb => .inr (NoT.one (noa (noa (noc (noB q5 (by decide)) (noc (noK q6) (noc (noB q8 (by decide)) no0))) (noO q7 (by decide))) (noO q9 (by decide))) hb)), q0, Nat.le_trans q00 u.size,
          a, q + 1, _, fa', fc', l', by omega, by omega, ?_, g2, g3, g6, g7, by omega, ?_, ?_⟩, _, u, ?_, hdis lg (by simp), fun b hb => hdis b (List.mem_append_right _ hb)⟩
        · rw [show wr + ((q + 1 : Nat) : Int) = wr + ((q : Nat) : Int) + 1 from by omega]; exact g1
        · intro e1
          exact g5 (List.eq_nil_of_length_eq_zero (by omega))
        · intro b hb
          rcases g8 b hb with h | h
          · exact q11 b h
          · omega
        · intro b hb
          rcases List.mem_append.1 hb with hb | hb
          · exact .inl hb
          · exact .inr (q11 b (by simpa using hb))
    · rw [show 2 * (j / 2) + 1 = j from by omega, hf] at h2
      simp only [Option.some.injEq, Value.func.injEq, Fn.func.injEq, true_and] at h2
      obtain ⟨rfl, hc⟩ := h2
      rw [hc]
      refine Ret.mono (back43_of q2 q3 h5 h6) ?_
      rintro v w2 ⟨rfl, u⟩
      exact ⟨⟨q1.keep u nm0, q2.keep u nm0, q3.keep u nm0, q4.keep u (fun b hb => by cases hb), q0, Nat.le_trans q00 u.size, r, q, xs1, fa, fc, l, by omega, e2, q5.keep u nm0, q6.keep u nm0, q7.keep0 u, q8.keep u nm0, q9.keep0 u, q12, q10, q11⟩, [], u, (fun b hb => by cases hb), nm0, fun _ _ => nm0⟩
  · rintro v w' ⟨rfl, wb, w2, ⟨q1, q2, q3, q4, q0, q00, r, q, xs1, fa, fc, l, e1, e2, q5, q6, q7, q8, q9, q12, q10, q11⟩, ub, hlw, hlow, uw, u2, hmw⟩
    have er : r = k := by omega
    subst er
    have n1 : ∀ {b cs T}, Blk w2 b cs T → Nat.beq T 75 = false → b ∉ [m_] := fun h hT => nmc (Blk.ne h q1 hT) nm0
    refine ⟨q, _, xs1, fa, fc, l, rfl, by omega, hmw, hlw.keep u2 (n1 hlw rfl), hlow.keep' u2 (disc (Own.ne hlow q1 rfl) dis0), q5.keep u2 (n1 q5 rfl), q6.keep u2 (nmc (Ne.symm (Blk.neK q1 q6)) nm0), q7.keep' u2 (disc (Own.ne q7 q1 rfl) dis0), q8.keep u2 (n1 q8 rfl), q9.keep' u2 (disc (Own.ne q9 q1 rfl) dis0), q10, by omega, ?_, ?_⟩
    · intro b hb; have := q11 b hb; omega
    · refine uw.sub ?_
      intro b hb hlt
      simp only [List.mem_append, List.mem_cons, List.not_mem_nil, or_false] at hb ⊢
      grind
end Go.K

namespace Go.K
open Go.Proofs
set_option maxRecDepth 8000
set_option maxHeartbeats 1000000
set_option linter.unusedSimpArgs false
set_option linter.unusedVariables false
theorem known66 {w : World} {p bm3 bf t sh cps S scp sat F g fc lg m lcp vb hub base wt m_ pl mscp bm bv bid : Nat} {h1 h2 x0 x1 x2 : Value} {mx smx nx wr x iv : Int} {sao lao msao : Option Addr} {grest fns rest : List Value} {c : UInt8} {nm : ByteArray} (h_t : Blk w t [.slice (some ⟨sh, 0, none⟩) 1 cps, h1, h2, .pointer (some ⟨S, 0, none⟩), .int .i64 mx, .slice none 0 0, .slice none 0 0] 116) (h_S : Blk w S [.slice sao 1 scp, .map (some sat), .pointer (some ⟨F, 0, none⟩), .int .i64 smx, .int .i64 nx, .int .i64 wr] 121) (h_sat : KMap ki w sat ([])) (h_sao : Own w (.slice sao 1 scp) 214 3 1 ([x0, x1, x2])) (h_F : Blk w F [.slice (some ⟨g, 0, none⟩) 1 fc, .func (.func 135) #[] #[]] 246) (h_g : Blk w g (.int .i64 0 :: grest) 3) (h_lg : Blk w lg [.slice lao m lcp] 126) (h_lao : Own w (.slice lao m lcp) 1 1 m fns) (h_sh : Blk w sh (.string (⟨#[c]⟩) :: .int .i64 1 :: rest) 51) (h_vb : Blk w vb [.int .i64 1, .int .i64 x, .string ByteArray.empty, .float .f64 0] 58) (h_p : Blk w p [.pointer (some ⟨t, 0, none⟩), .pointer (some ⟨hub, 0, none⟩), .map (some base)] 87) (h_base : KMap ki w base ([])) (h_wt : Blk w wt [.slice none 0 0, .int .i64 0] 129) (h_m_ : Blk w m_ [.map (some pl), .pointer (some ⟨lg, 0, none⟩), .slice msao 0 mscp, .pointer (some ⟨wt, 0, none⟩), .bool true] 75) (h_pl : KMap ks w pl ([(nm, .pointer (some ⟨p, 0, none⟩))])) (h_bm : Blk w bm [.pointer (some ⟨m_, 0, none⟩)] 24) (h_bv : Blk w bv [.slice (some ⟨vb, 0, none⟩) 1 1] 38) (h_bid : Blk w bid [.int .i64 iv] 2) (h_bf : Blk w bf [.func (.func 40) #[] #[.pointer (some ⟨bm, 0, none⟩), .pointer (some ⟨bv, 0, none⟩), .pointer (some ⟨bid, 0, none⟩)]] 100) (h_bm3 : Blk w bm3 [.pointer (some ⟨m_, 0, none⟩)] 24) (hc : 97 ≤ c.toNat ∧ c.toNat ≤ 122) (hcp : 1 ≤ cps) (hmx : 0 < mx) (hsm : 0 < smx) (hwr : -1000000 ≤ wr ∧ wr ≤ 1000000) (hnx : -1000000 ≤ nx ∧ nx ≤ 1000000) (hm : m ≤ 90000) (hne : sat ≠ base) (hps : pl ≠ sat) :
    Ret Tryz.prog 66 #[.pointer (some ⟨p, 0, none⟩), .pointer (some ⟨bm3, 0, none⟩), .pointer (some ⟨bf, 0, none⟩)] w fun v w' => ∃ lao' lcp', v = .nilIface ∧ Blk w' bid [.int .i64 nx] 2 ∧ Blk w' lg [.slice lao' 0 lcp'] 126 ∧ Own w' (.slice lao' 0 lcp') 1 1 0 ([]) ∧ Only ([S, sat, lg, F, g, p, bid] ++ (.slice sao 1 scp : Value).ownBlock.toList ++ (.slice lao m lcp : Value).ownBlock.toList) w w' := by
  refine enterL (args := [.pointer (some ⟨p, 0, none⟩), .pointer (some ⟨bm3, 0, none⟩), .pointer (some ⟨bf, 0, none⟩)]) Tryz.func66 rfl rfl rfl ?_
  refine CW.seq fun K1 hK1 => ?_
  refine CW.region ?_
  refine WL.box (cs := [.pointer (some ⟨p, 0, none⟩)]) rfl rfl rfl rfl ?_
  intro w2 b3 h4 u5 g6
  refine WL.to (E' := [(1, .pointer (some ⟨bm3, 0, none⟩)), (2, .pointer (some ⟨bf, 0, none⟩)), (3, .pointer (some ⟨b3, 0, none⟩)), (4, .nilIface)]) 1 [1, 2, 3, 4] (by kernel_rfl) ?_
  refine WL.nil ?_
  refine hK1 _ _ _ ?_
  refine CW.seq fun K7 hK7 => ?_
  refine CW.seq fun K8 hK8 => ?_
  refine CW.region ?_
  have h9 := (h_bm3.keep u5 nm0)
  refine WL.load1 rfl agg24 rfl rfl h9 rfl ?_
  refine WL.to (E' := [(1, .pointer (some ⟨bm3, 0, none⟩)), (2, .pointer (some ⟨bf, 0, none⟩)), (3, .pointer (some ⟨b3, 0, none⟩)), (4, .nilIface), (8, .pointer (some ⟨m_, 1, none⟩))]) 2 [1, 2, 3, 4, 8] (by kernel_rfl) ?_
  have h10 := (h_m_.keep u5 nm0)
  refine WL.load1 rfl agg70 rfl rfl h10 rfl ?_
  refine WL.to (E' := [(1, .pointer (some ⟨bm3, 0, none⟩)), (4, .nilIface), (9, .pointer (some ⟨lg, 0, none⟩)), (10, .func (.func 68) #[] #[.pointer (some ⟨bf, 0, none⟩), .pointer (some ⟨b3, 0, none⟩)])]) 1 [1, 4, 9, 10] (by kernel_rfl) ?_
  have h11 := (h_bf.keep u5 nm0)
  have h12 := (h_p.keep u5 nm0)
  have h13 := (h_bm.keep u5 nm0)
  have h14 := (h_bv.keep u5 nm0)
  have h15 := (h_bid.keep u5 nm0)
  have h16 := (h_t.keep u5 nm0)
  have h17 := (h_vb.keep u5 nm0)
  have h18 := (h_S.keep u5 nm0)
  have h19 := (h_lg.keep u5 nm0)
  have h20 := (h_sh.keep u5 nm0)
  have h21 := (h_sat.keep u5 nm0)
  have h22 := (h_sao.keep' u5 dis0)
  have h23 := (h_F.keep u5 nm0)
  have h24 := (h_lao.keep' u5 dis0)
  have h25 := (h_g.keep u5 nm0)
  refine WL.call rfl rfl rfl rfl ent67 rfl (do_of (S := ([S, sat, lg, F, g, bid] ++ (.slice sao 1 scp : Value).ownBlock.toList ++ (.slice lao m lcp : Value).ownBlock.toList)) ent68 h19 (by intro b hb; simp only [List.mem_append, List.mem_cons, List.not_mem_nil, or_false, false_or] at hb; have := h18.lt; have := h21.lt; have := h19.lt; have := h23.lt; have := h25.lt; have := h15.lt; have := @Own.lt' _ _ _ _ _ b _ h22; have := @Own.lt' _ _ _ _ _ b _ h24; grind) (fun w1 u1 => jmins68_1 (h16.keep u1 nm0) (h18.keep u1 nm0) (h21.keep u1 nm0) (h22.keep' u1 dis0) (h23.keep u1 nm0) (h25.keep u1 nm0) (by first | omega | decide | (simp; omega) | assumption) (h19.keep u1 nm0) (h24.keep' u1 dis0) hc (h20.keep u1 nm0) (h17.keep u1 nm0) (by first | omega | decide | (simp; omega) | assumption) (by first | omega | decide | (simp; omega) | assumption) (h12.keep u1 nm0) (h10.keep u1 nm0) (h13.keep u1 nm0) (h14.keep u1 nm0) (h15.keep u1 nm0) (h11.keep u1 nm0) (h4.keep u1 nm0) (by first | assumption | rfl | simp [look]) (by first | omega | decide | (simp; omega) | assumption) (by first | omega | decide | (simp; omega) | assumption) (by first | omega | decide | (simp; omega) | assumption) (by first | omega | decide | (simp; omega) | assumption) (by first | omega | decide | (simp; omega) | assumption)) (by rintro w1 v w2 ⟨rfl, _, _, _, _, _, _, _, _, _, _, _, _, _, _, _, _, _, _, _, _, _, _, _, _, u⟩; exact ⟨rfl, u⟩)) ?_
  rintro _ w58 ⟨rfl, w51, w52, b53, u54, ⟨_, br26, bi27, bp28, brw29, ao30, cp31, lao32, lcp33, h34, h35, g36, h37, h38, g39, h40, h41, h42, h43, h44, f45, h46, h47, h48, f49, u50⟩, h55, g56, u57⟩
  have h59 : KMap ki w52 sat [(nx, .int .i64 0)] := h42
  have h60 : Own w52 (.slice sao 1 scp) 214 3 1 [.int .i64 nx, .int .i64 1, .slice ao30 1 cp31] := h43
  refine WL.to (E' := [(1, .pointer (some ⟨bm3, 0, none⟩)), (4, .nilIface), (5, .nilIface)]) 1 [1, 4, 5] (by kernel_rfl) ?_
  refine WL.nil ?_
  refine hK8 _ _ _ ?_
  refine CW.seq fun K61 hK61 => ?_
  refine CW.region ?_
  refine WL.to (E' := [(1, .pointer (some ⟨bm3, 0, none⟩)), (4, .nilIface), (5, .nilIface), (13, .bool false)]) 2 [1, 4, 5, 13] (by kernel_rfl) ?_
  refine WL.nil ?_
  refine hK61 _ _ _ ?_
  refine CW.condF rfl ?_
  refine CW.skip ?_
  refine hK7 _ _ _ ?_
  refine CW.seq fun K62 hK62 => ?_
  refine CW.region ?_
  have h63 := (h9.keep u54 nm0)
  have h64 := (h63.keep u50 (nma (nma (nmc (Blk.ne h63 (h18.keep u54 nm0) rfl) (nmc (Blk.neK h63 (h21.keep u54 nm0)) (nmc (Blk.ne h63 (h19.keep u54 nm0) rfl) (nmc (Blk.ne h63 (h23.keep u54 nm0) rfl) (nmc (Blk.ne h63 (h25.keep u54 nm0) rfl) (nmc (Blk.ne h63 (h15.keep u54 nm0) rfl) nm0)))))) (Own.ne (h22.keep' u54 dis0) h63 rfl)) (Own.ne (h24.keep' u54 dis0) h63 rfl)))
  have h65 := (h64.keep u57 (nmc (Blk.ne h64 h55 rfl) nm0))
  refine WL.load1 rfl agg24 rfl rfl h65 rfl ?_
  have h66 := (h10.keep u54 nm0)
  have h67 := (h66.keep u50 (nma (nma (nmc (Blk.ne h66 (h18.keep u54 nm0) rfl) (nmc (Blk.neK h66 (h21.keep u54 nm0)) (nmc (Blk.ne h66 (h19.keep u54 nm0) rfl) (nmc (Blk.ne h66 (h23.keep u54 nm0) rfl) (nmc (Blk.ne h66 (h25.keep u54 nm0) rfl) (nmc (Blk.ne h66 (h15.keep u54 nm0) rfl) nm0)))))) (Own.ne (h22.keep' u54 dis0) h66 rfl)) (Own.ne (h24.keep' u54 dis0) h66 rfl)))
  have h68 := (h67.keep u57 (nmc (Blk.ne h67 h55 rfl) nm0))
  have h69 := ((h_pl.keep u5 nm0).keep u54 nm0)
  have h70 := (h69.keep u50 (nma (nma (nmc (Ne.symm (Blk.neK (h18.keep u54 nm0) h69)) (nmc hps (nmc (Ne.symm (Blk.neK (h19.keep u54 nm0) h69)) (nmc (Ne.symm (Blk.neK (h23.keep u54 nm0) h69)) (nmc (Ne.symm (Blk.neK (h25.keep u54 nm0) h69)) (nmc (Ne.symm (Blk.neK (h15.keep u54 nm0) h69)) nm0)))))) (Own.neM (h22.keep' u54 dis0) h69)) (Own.neM (h24.keep' u54 dis0) h69)))
  have h71 := (h70.keep u57 (nmc (Ne.symm (Blk.neK h55 h70)) nm0))
  have h72 := (h47.keep u57 (nmc (Blk.ne h47 h55 rfl) nm0))
  have h73 := (h48.keep' u57 (disc (Own.ne h48 h55 rfl) dis0))
  have h74 := ((h_wt.keep u5 nm0).keep u54 nm0)
  have h75 := (h74.keep u50 (nma (nma (nmc (Blk.ne h74 (h18.keep u54 nm0) rfl) (nmc (Blk.neK h74 (h21.keep u54 nm0)) (nmc (Blk.ne h74 (h19.keep u54 nm0) rfl) (nmc (Blk.ne h74 (h23.keep u54 nm0) rfl) (nmc (Blk.ne h74 (h25.keep u54 nm0) rfl) (nmc (Blk.ne h74 (h15.keep u54 nm0) rfl) nm0)))))) (Own.ne (h22.keep' u54 dis0) h74 rfl)) (Own.ne (h24.keep' u54 dis0) h74 rfl)))
  have h76 := (h75.keep u57 (nmc (Blk.ne h75 h55 rfl) nm0))
  have h77 := (h12.keep u54 nm0)
  have h78 := (h77.keep u50 (nma (nma (nmc (Blk.ne h77 (h18.keep u54 nm0) rfl) (nmc (Blk.neK h77 (h21.keep u54 nm0)) (nmc (Blk.ne h77 (h19.keep u54 nm0) rfl) (nmc (Blk.ne h77 (h23.keep u54 nm0) rfl) (nmc (Blk.ne h77 (h25.keep u54 nm0) rfl) (nmc (Blk.ne h77 (h15.keep u54 nm0) rfl) nm0)))))) (Own.ne (h22.keep' u54 dis0) h77 rfl)) (Own.ne (h24.keep' u54 dis0) h77 rfl)))
  have h79 := (h78.keep u57 (nmc (Blk.ne h78 h55 rfl) nm0))
  have h80 := ((h_base.keep u5 nm0).keep u54 nm0)
  have h81 := (h80.keep u50 (nma (nma (nmc (Ne.symm (Blk.neK (h18.keep u54 nm0) h80)) (nmc (Ne.symm hne) (nmc (Ne.symm (Blk.neK (h19.keep u54 nm0) h80)) (nmc (Ne.symm (Blk.neK (h23.keep u54 nm0) h80)) (nmc (Ne.symm (Blk.neK (h25.keep u54 nm0) h80)) (nmc (Ne.symm (Blk.neK (h15.keep u54 nm0) h80)) nm0)))))) (Own.neM (h22.keep' u54 dis0) h80)) (Own.neM (h24.keep' u54 dis0) h80)))
  have h82 := (h81.keep u57 (nmc (Ne.symm (Blk.neK h55 h81)) nm0))
  have h83 := (h16.keep u54 nm0)
  have h84 := (h83.keep u50 (nma (nma (nmc (Blk.ne h83 (h18.keep u54 nm0) rfl) (nmc (Blk.neK h83 (h21.keep u54 nm0)) (nmc (Blk.ne h83 (h19.keep u54 nm0) rfl) (nmc (Blk.ne h83 (h23.keep u54 nm0) rfl) (nmc (Blk.ne h83 (h25.keep u54 nm0) rfl) (nmc (Blk.ne h83 (h15.keep u54 nm0) rfl) nm0)))))) (Own.ne (h22.keep' u54 dis0) h83 rfl)) (Own.ne (h24.keep' u54 dis0) h83 rfl)))
  have h85 := (h84.keep u57 (nmc (Blk.ne h84 h55 rfl) nm0))
  have h86 := (h41.keep u57 (nmc (Blk.ne h41 h55 rfl) nm0))
  have h87 := (h59.keep u57 (nmc (Ne.symm (Blk.neK h55 h59)) nm0))
  have h88 := (h60.keep' u57 (disc (Own.ne h60 h55 rfl) dis0))
  have h89 := (h44.keep' u57 (disc (Own.ne h44 h55 rfl) dis0))
  refine WL.call rfl rfl rfl rfl ent47 rfl (commits1 h68 h71 h72 h73 h76 h79 h82 h85 h86 h87 h88 h89 rfl (by omega)) ?_
  rintro _ w96 ⟨nb90, rfl, h91, h92, h93, g94, u95⟩
  refine WL.to (E' := [(4, .nilIface)]) 1 [4] (by kernel_rfl) ?_
  refine WL.nil ?_
  refine hK62 _ _ _ ?_
  have h97 := (h40.keep u57 (nmc (Blk.ne h40 h55 rfl) nm0))
  have h98 := (h97.keep u95 (nma (nmc (Blk.ne h97 h72 rfl) (nmc (Blk.ne h97 h79 rfl) nm0)) (Own.ne h73 h97 rfl)))
  refine CW.ret fun a ha => ?_
  try simp (decide := true) only [Exit.inBlock, Exit.then, ↓reduceIte]
  exact fin ha.defers (res_tmp rfl ha rfl _) ⟨lao32, lcp33, rfl, h98, h91, h92, (((((u5.trans u54).trans u50).trans u57).trans u95).sub (by intro k hk hl; have := u5.size; have := u54.size; have := u50.size; have := u57.size; have := u95.size; have := g56; have p0_ : ∀ b, (lao32 : Option Addr).map (·.block) = some b → (lao : Option Addr).map (·.block) = some b ∨ w51.heap.size ≤ b := (by simpa only [ob_ao, Option.map_some] using f49); have q9_ : ∀ b, (lao32 : Option Addr).map (·.block) = some b → (lao : Option Addr).map (·.block) = some b ∨ w.heap.size ≤ b := (fun b hb => ((p0_ b hb).imp_right (fun h'1 => by have := u5.size; have := u54.size; omega))); simp only [ob_ao, Option.mem_toList, Option.mem_def, Option.map_none, Option.map_some, Option.some.injEq, reduceCtorEq, List.mem_append, List.mem_cons, List.not_mem_nil, or_false, false_or, or_assoc] at hk ⊢; rcases hk with hk | hk | hk | hk | hk | hk | hk | hk | hk | hk | hk | hk <;> first | omega | (simp [hk]; done) | (rcases q9_ _ hk with h | h <;> first | omega | (simp [h]; done))))⟩

theorem known103 {w : World} {bm4 bnm bf66 t sh cps S scp sat F g fc lg m lcp vb p hub base wt m_ pl mscp bm bv bid bf bm3 : Nat} {h1 h2 x0 x1 x2 : Value} {mx smx nx wr x iv : Int} {sao lao msao : Option Addr} {grest fns rest : List Value} {c : UInt8} {nm : ByteArray} (h_t : Blk w t [.slice (some ⟨sh, 0, none⟩) 1 cps, h1, h2, .pointer (some ⟨S, 0, none⟩), .int .i64 mx, .slice none 0 0, .slice none 0 0] 116) (h_S : Blk w S [.slice sao 1 scp, .map (some sat), .pointer (some ⟨F, 0, none⟩), .int .i64 smx, .int .i64 nx, .int .i64 wr] 121) (h_sat : KMap ki w sat ([])) (h_sao : Own w (.slice sao 1 scp) 214 3 1 ([x0, x1, x2])) (h_F : Blk w F [.slice (some ⟨g, 0, none⟩) 1 fc, .func (.func 135) #[] #[]] 246) (h_g : Blk w g (.int .i64 0 :: grest) 3) (h_lg : Blk w lg [.slice lao m lcp] 126) (h_lao : Own w (.slice lao m lcp) 1 1 m fns) (h_sh : Blk w sh (.string (⟨#[c]⟩) :: .int .i64 1 :: rest) 51) (h_vb : Blk w vb [.int .i64 1, .int .i64 x, .string ByteArray.empty, .float .f64 0] 58) (h_p : Blk w p [.pointer (some ⟨t, 0, none⟩), .pointer (some ⟨hub, 0, none⟩), .map (some base)] 87) (h_base : KMap ki w base ([])) (h_wt : Blk w wt [.slice none 0 0, .int .i64 0] 129) (h_m_ : Blk w m_ [.map (some pl), .pointer (some ⟨lg, 0, none⟩), .slice msao 0 mscp, .pointer (some ⟨wt, 0, none⟩), .bool true] 75) (h_pl : KMap ks w pl ([(nm, .pointer (some ⟨p, 0, none⟩))])) (h_bm : Blk w bm [.pointer (some ⟨m_, 0, none⟩)] 24) (h_bv : Blk w bv [.slice (some ⟨vb, 0, none⟩) 1 1] 38) (h_bid : Blk w bid [.int .i64 iv] 2) (h_bf : Blk w bf [.func (.func 40) #[] #[.pointer (some ⟨bm, 0, none⟩), .pointer (some ⟨bv, 0, none⟩), .pointer (some ⟨bid, 0, none⟩)]] 100) (h_bm3 : Blk w bm3 [.pointer (some ⟨m_, 0, none⟩)] 24) (h_bm4 : Blk w bm4 [.pointer (some ⟨m_, 0, none⟩)] 24) (h_bnm : Blk w bnm [.string nm] 9) (h_bf66 : Blk w bf66 [.func (.func 66) #[] #[.pointer (some ⟨bm3, 0, none⟩), .pointer (some ⟨bf, 0, none⟩)]] 100) (hc : 97 ≤ c.toNat ∧ c.toNat ≤ 122) (hcp : 1 ≤ cps) (hmx : 0 < mx) (hsm : 0 < smx) (hwr : -1000000 ≤ wr ∧ wr ≤ 1000000) (hnx : -1000000 ≤ nx ∧ nx ≤ 1000000) (hm : m ≤ 90000) (hne : sat ≠ base) (hps : pl ≠ sat) :
    Ret Tryz.prog 103 #[.pointer (some ⟨bm4, 0, none⟩), .pointer (some ⟨bnm, 0, none⟩), .pointer (some ⟨bf66, 0, none⟩)] w fun v w' => ∃ lao' lcp', v = .nilIface ∧ Blk w' bid [.int .i64 nx] 2 ∧ Blk w' m_ [.map (some pl), .pointer (some ⟨lg, 0, none⟩), .slice msao 0 mscp, .pointer (some ⟨wt, 0, none⟩), .bool true] 75 ∧ Blk w' lg [.slice lao' 0 lcp'] 126 ∧ Own w' (.slice lao' 0 lcp') 1 1 0 ([]) ∧ Only ([S, sat, lg, F, g, p, bid, m_] ++ (.slice sao 1 scp : Value).ownBlock.toList ++ (.slice lao m lcp : Value).ownBlock.toList) w w' := by
  refine enterL (args := [.pointer (some ⟨bm4, 0, none⟩), .pointer (some ⟨bnm, 0, none⟩), .pointer (some ⟨bf66, 0, none⟩)]) Tryz.func103 rfl rfl rfl ?_
  refine CW.seq fun K1 hK1 => ?_
  refine CW.region ?_
  refine WL.to (E' := [(0, .pointer (some ⟨bm4, 0, none⟩)), (1, .pointer (some ⟨bnm, 0, none⟩)), (2, .pointer (some ⟨bf66, 0, none⟩)), (3, .nilIface)]) 1 [0, 1, 2, 3] (by kernel_rfl) ?_
  refine WL.nil ?_
  refine hK1 _ _ _ ?_
  refine CW.seq fun K2 hK2 => ?_
  refine CW.still (by kernel_rfl) (by kernel_rfl) ?_
  intro w3 e5 u4
  have h6 := (h_bm4.keep u4 nm0)
  refine ST.load1 rfl agg24 rfl rfl h6 rfl ?_
  refine ST.to (E' := [(1, .pointer (some ⟨bnm, 0, none⟩)), (2, .pointer (some ⟨bf66, 0, none⟩)), (3, .nilIface), (9, .pointer (some ⟨m_, 0, none⟩))]) 2 [1, 2, 3, 9] (by kernel_rfl) ?_
  have h7 := (h_m_.keep u4 nm0)
  refine ST.load1 rfl agg69 rfl rfl h7 rfl ?_
  have h8 := (h_bnm.keep u4 nm0)
  refine ST.load1 rfl agg9 rfl rfl h8 rfl ?_
  have h9 := (h_pl.keep u4 nm0)
  refine ST.lookB (κ := ks) (a := nm) true rfl rfl law_s Tryz.underlying69 Tryz.underlying9 zer77 rfl rfl h9 ?_
  refine ST.chg 12 (.tuple #[.pointer (some ⟨p, 0, none⟩), .bool true]) rfl (by rw [(by simp [look] : look ([(nm, .pointer (some ⟨p, 0, none⟩))]) nm = some (.pointer (some ⟨p, 0, none⟩)))]; rfl) ?_
  refine ST.to (E' := [(2, .pointer (some ⟨bf66, 0, none⟩)), (3, .nilIface), (4, .pointer (some ⟨p, 0, none⟩)), (5, .bool true)]) 5 [2, 3, 4, 5] (by kernel_rfl) ?_
  refine ST.nil ?_
  refine hK2 _ _ _ ?_
  refine CW.seq fun K10 hK10 => ?_
  refine CW.seq fun K11 hK11 => ?_
  refine CW.region ?_
  refine WL.to (E' := [(2, .pointer (some ⟨bf66, 0, none⟩)), (3, .nilIface), (4, .pointer (some ⟨p, 0, none⟩)), (16, .bool false)]) 2 [2, 3, 4, 16] (by kernel_rfl) ?_
  refine WL.nil ?_
  refine hK11 _ _ _ ?_
  refine CW.condF rfl ?_
  refine CW.skip ?_
  refine hK10 _ _ _ ?_
  refine CW.seq fun K12 hK12 => ?_
  refine CW.region ?_
  have h13 := (h_bf66.keep u4 nm0)
  refine WL.load1 rfl agg100 rfl rfl h13 rfl ?_
  refine WL.to (E' := [(3, .nilIface), (18, .func (.func 66) #[] #[.pointer (some ⟨bm3, 0, none⟩), .pointer (some ⟨bf, 0, none⟩)]), (19, .pointer (some ⟨p, 0, none⟩))]) 1 [3, 18, 19] (by kernel_rfl) ?_
  have h14 := (h_t.keep u4 nm0)
  have h15 := (h_S.keep u4 nm0)
  have h16 := (h_sat.keep u4 nm0)
  have h17 := (h_sao.keep' u4 dis0)
  have h18 := (h_F.keep u4 nm0)
  have h19 := (h_g.keep u4 nm0)
  have h20 := (h_lg.keep u4 nm0)
  have h21 := (h_lao.keep' u4 dis0)
  have h22 := (h_sh.keep u4 nm0)
  have h23 := (h_vb.keep u4 nm0)
  have h24 := (h_p.keep u4 nm0)
  have h25 := (h_base.keep u4 nm0)
  have h26 := (h_wt.keep u4 nm0)
  have h27 := (h_bm.keep u4 nm0)
  have h28 := (h_bv.keep u4 nm0)
  have h29 := (h_bid.keep u4 nm0)
  have h30 := (h_bf.keep u4 nm0)
  have h31 := (h_bm3.keep u4 nm0)
  refine WL.call rfl rfl rfl rfl ent66 rfl (known66 h14 h15 h16 h17 h18 h19 h20 h21 h22 h23 h24 h25 h26 h7 h9 h27 h28 h29 h30 h31 hc (by omega) (by omega) (by omega) (by omega) (by omega) (by omega) hne hps) ?_
  rintro _ w38 ⟨lao32, lcp33, rfl, h34, h35, h36, u37⟩
  refine WL.to (E' := [(3, .nilIface)]) 1 [3] (by kernel_rfl) ?_
  refine WL.nil ?_
  refine hK12 _ _ _ ?_
  have h39 := (h7.keep u37 (nma (nma (nmc (Blk.ne h7 h15 rfl) (nmc (Blk.neK h7 h16) (nmc (Blk.ne h7 h20 rfl) (nmc (Blk.ne h7 h18 rfl) (nmc (Blk.ne h7 h19 rfl) (nmc (Blk.ne h7 h24 rfl) (nmc (Blk.ne h7 h29 rfl) nm0))))))) (Own.ne h17 h7 rfl)) (Own.ne h21 h7 rfl)))
  refine CW.ret fun a ha => ?_
  try simp (decide := true) only [Exit.inBlock, Exit.then, ↓reduceIte]
  exact fin ha.defers (res_tmp rfl ha rfl _) ⟨lao32, lcp33, rfl, h34, h39, h35, h36, ((u4.trans u37).sub (by intro k hk hl; have := u4.size; have := u37.size; simp only [ob_ao, Option.mem_toList, Option.mem_def, Option.map_none, Option.map_some, Option.some.injEq, reduceCtorEq, List.mem_append, List.mem_cons, List.not_mem_nil, or_false, false_or, or_assoc] at hk ⊢; rcases hk with hk | hk | hk | hk | hk | hk | hk | hk | hk <;> first | omega | (simp [hk]; done)))⟩

theorem known65 {w : World} {m_ bm3 bf t sh cps S scp sat F g fc lg m lcp vb p hub base wt pl mscp bm bv bid : Nat} {nm : ByteArray} {h1 h2 x0 x1 x2 : Value} {mx smx nx wr x iv : Int} {sao lao msao : Option Addr} {grest fns rest : List Value} {c : UInt8} (h_t : Blk w t [.slice (some ⟨sh, 0, none⟩) 1 cps, h1, h2, .pointer (some ⟨S, 0, none⟩), .int .i64 mx, .slice none 0 0, .slice none 0 0] 116) (h_S : Blk w S [.slice sao 1 scp, .map (some sat), .pointer (some ⟨F, 0, none⟩), .int .i64 smx, .int .i64 nx, .int .i64 wr] 121) (h_sat : KMap ki w sat ([])) (h_sao : Own w (.slice sao 1 scp) 214 3 1 ([x0, x1, x2])) (h_F : Blk w F [.slice (some ⟨g, 0, none⟩) 1 fc, .func (.func 135) #[] #[]] 246) (h_g : Blk w g (.int .i64 0 :: grest) 3) (h_lg : Blk w lg [.slice lao m lcp] 126) (h_lao : Own w (.slice lao m lcp) 1 1 m fns) (h_sh : Blk w sh (.string (⟨#[c]⟩) :: .int .i64 1 :: rest) 51) (h_vb : Blk w vb [.int .i64 1, .int .i64 x, .string ByteArray.empty, .float .f64 0] 58) (h_p : Blk w p [.pointer (some ⟨t, 0, none⟩), .pointer (some ⟨hub, 0, none⟩), .map (some base)] 87) (h_base : KMap ki w base ([])) (h_wt : Blk w wt [.slice none 0 0, .int .i64 0] 129) (h_m_ : Blk w m_ [.map (some pl), .pointer (some ⟨lg, 0, none⟩), .slice msao 0 mscp, .pointer (some ⟨wt, 0, none⟩), .bool false] 75) (h_pl : KMap ks w pl ([(nm, .pointer (some ⟨p, 0, none⟩))])) (h_bm : Blk w bm [.pointer (some ⟨m_, 0, none⟩)] 24) (h_bv : Blk w bv [.slice (some ⟨vb, 0, none⟩) 1 1] 38) (h_bid : Blk w bid [.int .i64 iv] 2) (h_bf : Blk w bf [.func (.func 40) #[] #[.pointer (some ⟨bm, 0, none⟩), .pointer (some ⟨bv, 0, none⟩), .pointer (some ⟨bid, 0, none⟩)]] 100) (h_bm3 : Blk w bm3 [.pointer (some ⟨m_, 0, none⟩)] 24) (hc : 97 ≤ c.toNat ∧ c.toNat ≤ 122) (hcp : 1 ≤ cps) (hmx : 0 < mx) (hsm : 0 < smx) (hwr : -1000000 ≤ wr ∧ wr ≤ 1000000) (hnx : -1000000 ≤ nx ∧ nx ≤ 1000000) (hm : m ≤ 90000) (hne : sat ≠ base) (hps : pl ≠ sat) :
    Ret Tryz.prog 65 #[.pointer (some ⟨m_, 0, none⟩), .string nm, .func (.func 66) #[] #[.pointer (some ⟨bm3, 0, none⟩), .pointer (some ⟨bf, 0, none⟩)]] w fun v w' => ∃ lao' lcp', v = .nilIface ∧ Blk w' bid [.int .i64 nx] 2 ∧ Blk w' m_ [.map (some pl), .pointer (some ⟨lg, 0, none⟩), .slice msao 0 mscp, .pointer (some ⟨wt, 0, none⟩), .bool false] 75 ∧ Blk w' lg [.slice lao' 0 lcp'] 126 ∧ Own w' (.slice lao' 0 lcp') 1 1 0 ([]) ∧ Only ([S, sat, lg, F, g, p, bid, m_] ++ (.slice sao 1 scp : Value).ownBlock.toList ++ (.slice lao m lcp : Value).ownBlock.toList) w w' := by
  refine enterL (args := [.pointer (some ⟨m_, 0, none⟩), .string nm, .func (.func 66) #[] #[.pointer (some ⟨bm3, 0, none⟩), .pointer (some ⟨bf, 0, none⟩)]]) Tryz.func65 rfl rfl rfl ?_
  refine CW.seq fun K1 hK1 => ?_
  refine CW.region ?_
  refine WL.box (cs := [.pointer (some ⟨m_, 0, none⟩)]) rfl rfl rfl rfl ?_
  intro w2 b3 h4 u5 g6
  refine WL.box (cs := [.string nm]) rfl rfl rfl rfl ?_
  intro w7 b8 h9 u10 g11
  refine WL.box (cs := [.func (.func 66) #[] #[.pointer (some ⟨bm3, 0, none⟩), .pointer (some ⟨bf, 0, none⟩)]]) rfl rfl rfl rfl ?_
  intro w12 b13 h14 u15 g16
  refine WL.to (E' := [(3, .pointer (some ⟨b3, 0, none⟩)), (4, .pointer (some ⟨b8, 0, none⟩)), (5, .pointer (some ⟨b13, 0, none⟩)), (6, .nilIface)]) 1 [3, 4, 5, 6] (by kernel_rfl) ?_
  refine WL.nil ?_
  refine hK1 _ _ _ ?_
  refine CW.seq fun K17 hK17 => ?_
  refine CW.region ?_
  have h18 := ((h4.keep u10 nm0).keep u15 nm0)
  refine WL.load1 rfl agg24 rfl rfl h18 rfl ?_
  refine WL.to (E' := [(6, .nilIface), (7, .pointer (some ⟨m_, 0, none⟩)), (8, .func (.func 103) #[] #[.pointer (some ⟨b3, 0, none⟩), .pointer (some ⟨b8, 0, none⟩), .pointer (some ⟨b13, 0, none⟩)])]) 1 [6, 7, 8] (by kernel_rfl) ?_
  have h19 := (((h_m_.keep u5 nm0).keep u10 nm0).keep u15 nm0)
  have h20 := (h9.keep u15 nm0)
  have h21 := (((h_bf.keep u5 nm0).keep u10 nm0).keep u15 nm0)
  have h22 := (((h_bm3.keep u5 nm0).keep u10 nm0).keep u15 nm0)
  have h23 := (((h_lg.keep u5 nm0).keep u10 nm0).keep u15 nm0)
  have h24 := (((h_wt.keep u5 nm0).keep u10 nm0).keep u15 nm0)
  have h25 := (((h_pl.keep u5 nm0).keep u10 nm0).keep u15 nm0)
  have h26 := (((h_bm.keep u5 nm0).keep u10 nm0).keep u15 nm0)
  have h27 := (((h_bv.keep u5 nm0).keep u10 nm0).keep u15 nm0)
  have h28 := (((h_bid.keep u5 nm0).keep u10 nm0).keep u15 nm0)
  have h29 := (((h_lao.keep' u5 dis0).keep' u10 dis0).keep' u15 dis0)
  have h30 := (((h_vb.keep u5 nm0).keep u10 nm0).keep u15 nm0)
  have h31 := (((h_p.keep u5 nm0).keep u10 nm0).keep u15 nm0)
  have h32 := (((h_t.keep u5 nm0).keep u10 nm0).keep u15 nm0)
  have h33 := (((h_base.keep u5 nm0).keep u10 nm0).keep u15 nm0)
  have h34 := (((h_S.keep u5 nm0).keep u10 nm0).keep u15 nm0)
  have h35 := (((h_sh.keep u5 nm0).keep u10 nm0).keep u15 nm0)
  have h36 := (((h_sat.keep u5 nm0).keep u10 nm0).keep u15 nm0)
  have h37 := (((h_sao.keep' u5 dis0).keep' u10 dis0).keep' u15 dis0)
  have h38 := (((h_F.keep u5 nm0).keep u10 nm0).keep u15 nm0)
  have h39 := (((h_g.keep u5 nm0).keep u10 nm0).keep u15 nm0)
  refine WL.call rfl rfl rfl rfl ent30 rfl (alone_of (S := ([S, sat, lg, F, g, p, bid, m_] ++ (.slice sao 1 scp : Value).ownBlock.toList ++ (.slice lao m lcp : Value).ownBlock.toList)) ent103 h19 (by intro b hb; simp only [List.mem_append, List.mem_cons, List.not_mem_nil, or_false, false_or] at hb; have := h34.lt; have := h36.lt; have := h23.lt; have := h38.lt; have := h39.lt; have := h31.lt; have := h28.lt; have := h19.lt; have := @Own.lt' _ _ _ _ _ b _ h37; have := @Own.lt' _ _ _ _ _ b _ h29; grind) (fun w1 u1 hm1 => known103 (h32.keep u1 (nmc (Blk.ne h32 h19 rfl) nm0)) (h34.keep u1 (nmc (Blk.ne h34 h19 rfl) nm0)) (h36.keep u1 (nmc (Ne.symm (Blk.neK h19 h36)) nm0)) (h37.keep' u1 (disc (Own.ne h37 h19 rfl) dis0)) (h38.keep u1 (nmc (Blk.ne h38 h19 rfl) nm0)) (h39.keep u1 (nmc (Blk.ne h39 h19 rfl) nm0)) (h23.keep u1 (nmc (Blk.ne h23 h19 rfl) nm0)) (h29.keep' u1 (disc (Own.ne h29 h19 rfl) dis0)) (h35.keep u1 (nmc (Blk.ne h35 h19 rfl) nm0)) (h30.keep u1 (nmc (Blk.ne h30 h19 rfl) nm0)) (h31.keep u1 (nmc (Blk.ne h31 h19 rfl) nm0)) (h33.keep u1 (nmc (Ne.symm (Blk.neK h19 h33)) nm0)) (h24.keep u1 (nmc (Blk.ne h24 h19 rfl) nm0)) hm1 (h25.keep u1 (nmc (Ne.symm (Blk.neK h19 h25)) nm0)) (h26.keep u1 (nmc (Blk.ne h26 h19 rfl) nm0)) (h27.keep u1 (nmc (Blk.ne h27 h19 rfl) nm0)) (h28.keep u1 (nmc (Blk.ne h28 h19 rfl) nm0)) (h21.keep u1 (nmc (Blk.ne h21 h19 rfl) nm0)) (h22.keep u1 (nmc (Blk.ne h22 h19 rfl) nm0)) (h18.keep u1 (nmc (Blk.ne h18 h19 rfl) nm0)) (h20.keep u1 (nmc (Blk.ne h20 h19 rfl) nm0)) (h14.keep u1 (nmc (Blk.ne h14 h19 rfl) nm0)) hc (by omega) (by omega) (by omega) (by omega) (by omega) (by omega) hne hps) (by rintro w1 v w2 ⟨_, _, rfl, _, hm2, _, _, u⟩; exact ⟨_, _, _, _, hm2, u⟩)) ?_
  rintro _ w53 ⟨w47, w48, x56, x57, x58, x59, u49, h55, ⟨lao40, lcp41, rfl, h42, h43, h44, h45, u46⟩, h50, h51, u52⟩
  have e54 := Blk.inj h50 h43
  cases e54
  refine WL.to (E' := [(6, .nilIface)]) 1 [6] (by kernel_rfl) ?_
  refine WL.nil ?_
  refine hK17 _ _ _ ?_
  have h60 := (h42.keep u52 (nmc (Blk.ne h42 h50 rfl) nm0))
  have h61 := (h44.keep u52 (nmc (Blk.ne h44 h50 rfl) nm0))
  have h62 := (h45.keep' u52 (disc (Own.ne h45 h50 rfl) dis0))
  refine CW.ret fun a ha => ?_
  try simp (decide := true) only [Exit.inBlock, Exit.then, ↓reduceIte]
  exact fin ha.defers (res_tmp rfl ha rfl _) ⟨lao40, lcp41, rfl, h60, h51, h61, h62, ((((((u5.trans u10).trans u15).trans u49).trans u46).trans u52).sub (by intro k hk hl; have := u5.size; have := u10.size; have := u15.size; have := u49.size; have := u46.size; have := u52.size; simp only [ob_ao, Option.mem_toList, Option.mem_def, Option.map_none, Option.map_some, Option.some.injEq, reduceCtorEq, List.mem_append, List.mem_cons, List.not_mem_nil, or_false, false_or, or_assoc] at hk ⊢; rcases hk with hk | hk | hk | hk | hk | hk | hk | hk | hk | hk | hk | hk <;> first | omega | (simp [hk]; done)))⟩

theorem known39 {w : World} {m_ bm bv bid t sh cps S scp sat F g fc lg m lcp vb p hub base wt pl mscp : Nat} {nm : ByteArray} {h1 h2 x0 x1 x2 : Value} {mx smx nx wr x iv : Int} {sao lao msao : Option Addr} {grest fns rest : List Value} {c : UInt8} (h_t : Blk w t [.slice (some ⟨sh, 0, none⟩) 1 cps, h1, h2, .pointer (some ⟨S, 0, none⟩), .int .i64 mx, .slice none 0 0, .slice none 0 0] 116) (h_S : Blk w S [.slice sao 1 scp, .map (some sat), .pointer (some ⟨F, 0, none⟩), .int .i64 smx, .int .i64 nx, .int .i64 wr] 121) (h_sat : KMap ki w sat ([])) (h_sao : Own w (.slice sao 1 scp) 214 3 1 ([x0, x1, x2])) (h_F : Blk w F [.slice (some ⟨g, 0, none⟩) 1 fc, .func (.func 135) #[] #[]] 246) (h_g : Blk w g (.int .i64 0 :: grest) 3) (h_lg : Blk w lg [.slice lao m lcp] 126) (h_lao : Own w (.slice lao m lcp) 1 1 m fns) (h_sh : Blk w sh (.string (⟨#[c]⟩) :: .int .i64 1 :: rest) 51) (h_vb : Blk w vb [.int .i64 1, .int .i64 x, .string ByteArray.empty, .float .f64 0] 58) (h_p : Blk w p [.pointer (some ⟨t, 0, none⟩), .pointer (some ⟨hub, 0, none⟩), .map (some base)] 87) (h_base : KMap ki w base ([])) (h_wt : Blk w wt [.slice none 0 0, .int .i64 0] 129) (h_m_ : Blk w m_ [.map (some pl), .pointer (some ⟨lg, 0, none⟩), .slice msao 0 mscp, .pointer (some ⟨wt, 0, none⟩), .bool false] 75) (h_pl : KMap ks w pl ([(nm, .pointer (some ⟨p, 0, none⟩))])) (h_bm : Blk w bm [.pointer (some ⟨m_, 0, none⟩)] 24) (h_bv : Blk w bv [.slice (some ⟨vb, 0, none⟩) 1 1] 38) (h_bid : Blk w bid [.int .i64 iv] 2) (hc : 97 ≤ c.toNat ∧ c.toNat ≤ 122) (hcp : 1 ≤ cps) (hmx : 0 < mx) (hsm : 0 < smx) (hwr : -1000000 ≤ wr ∧ wr ≤ 1000000) (hnx : -1000000 ≤ nx ∧ nx ≤ 1000000) (hm : m ≤ 90000) (hne : sat ≠ base) (hps : pl ≠ sat) :
    Ret Tryz.prog 39 #[.pointer (some ⟨m_, 0, none⟩), .string nm, .func (.func 40) #[] #[.pointer (some ⟨bm, 0, none⟩), .pointer (some ⟨bv, 0, none⟩), .pointer (some ⟨bid, 0, none⟩)]] w fun v w' => ∃ lao' lcp', v = .nilIface ∧ Blk w' bid [.int .i64 nx] 2 ∧ Blk w' m_ [.map (some pl), .pointer (some ⟨lg, 0, none⟩), .slice msao 0 mscp, .pointer (some ⟨wt, 0, none⟩), .bool false] 75 ∧ Blk w' lg [.slice lao' 0 lcp'] 126 ∧ Own w' (.slice lao' 0 lcp') 1 1 0 ([]) ∧ Only ([S, sat, lg, F, g, p, bid, m_] ++ (.slice sao 1 scp : Value).ownBlock.toList ++ (.slice lao m lcp : Value).ownBlock.toList) w w' := by
  refine enterL (args := [.pointer (some ⟨m_, 0, none⟩), .string nm, .func (.func 40) #[] #[.pointer (some ⟨bm, 0, none⟩), .pointer (some ⟨bv, 0, none⟩), .pointer (some ⟨bid, 0, none⟩)]]) Tryz.func39 rfl rfl rfl ?_
  refine CW.seq fun K1 hK1 => ?_
  refine CW.region ?_
  refine WL.box (cs := [.pointer (some ⟨m_, 0, none⟩)]) rfl rfl rfl rfl ?_
  intro w2 b3 h4 u5 g6
  refine WL.box (cs := [.func (.func 40) #[] #[.pointer (some ⟨bm, 0, none⟩), .pointer (some ⟨bv, 0, none⟩), .pointer (some ⟨bid, 0, none⟩)]]) rfl rfl rfl rfl ?_
  intro w7 b8 h9 u10 g11
  refine WL.to (E' := [(1, .string nm), (3, .pointer (some ⟨b3, 0, none⟩)), (5, .pointer (some ⟨b8, 0, none⟩)), (6, .nilIface)]) 1 [1, 3, 5, 6] (by kernel_rfl) ?_
  refine WL.nil ?_
  refine hK1 _ _ _ ?_
  refine CW.seq fun K12 hK12 => ?_
  refine CW.region ?_
  have h13 := (h4.keep u10 nm0)
  refine WL.load1 rfl agg24 rfl rfl h13 rfl ?_
  refine WL.to (E' := [(6, .nilIface), (7, .pointer (some ⟨m_, 0, none⟩)), (8, .string nm), (9, .func (.func 66) #[] #[.pointer (some ⟨b3, 0, none⟩), .pointer (some ⟨b8, 0, none⟩)])]) 2 [6, 7, 8, 9] (by kernel_rfl) ?_
  have h14 := ((h_t.keep u5 nm0).keep u10 nm0)
  have h15 := ((h_S.keep u5 nm0).keep u10 nm0)
  have h16 := ((h_sat.keep u5 nm0).keep u10 nm0)
  have h17 := ((h_sao.keep' u5 dis0).keep' u10 dis0)
  have h18 := ((h_F.keep u5 nm0).keep u10 nm0)
  have h19 := ((h_g.keep u5 nm0).keep u10 nm0)
  have h20 := ((h_lg.keep u5 nm0).keep u10 nm0)
  have h21 := ((h_lao.keep' u5 dis0).keep' u10 dis0)
  have h22 := ((h_sh.keep u5 nm0).keep u10 nm0)
  have h23 := ((h_vb.keep u5 nm0).keep u10 nm0)
  have h24 := ((h_p.keep u5 nm0).keep u10 nm0)
  have h25 := ((h_base.keep u5 nm0).keep u10 nm0)
  have h26 := ((h_wt.keep u5 nm0).keep u10 nm0)
  have h27 := ((h_m_.keep u5 nm0).keep u10 nm0)
  have h28 := ((h_pl.keep u5 nm0).keep u10 nm0)
  have h29 := ((h_bm.keep u5 nm0).keep u10 nm0)
  have h30 := ((h_bv.keep u5 nm0).keep u10 nm0)
  have h31 := ((h_bid.keep u5 nm0).keep u10 nm0)
  refine WL.call rfl rfl rfl rfl ent65 rfl (known65 h14 h15 h16 h17 h18 h19 h20 h21 h22 h23 h24 h25 h26 h27 h28 h29 h30 h31 h9 h13 hc (by omega) (by omega) (by omega) (by omega) (by omega) (by omega) hne hps) ?_
  rintro _ w39 ⟨lao32, lcp33, rfl, h34, h35, h36, h37, u38⟩
  refine WL.to (E' := [(6, .nilIface)]) 1 [6] (by kernel_rfl) ?_
  refine WL.nil ?_
  refine hK12 _ _ _ ?_
  refine CW.ret fun a ha => ?_
  try simp (decide := true) only [Exit.inBlock, Exit.then, ↓reduceIte]
  exact fin ha.defers (res_tmp rfl ha rfl _) ⟨lao32, lcp33, rfl, h34, h35, h36, h37, (((u5.trans u10).trans u38).sub (by intro k hk hl; have := u5.size; have := u10.size; have := u38.size; simp only [ob_ao, Option.mem_toList, Option.mem_def, Option.map_none, Option.map_some, Option.some.injEq, reduceCtorEq, List.mem_append, List.mem_cons, List.not_mem_nil, or_false, false_or, or_assoc] at hk ⊢; rcases hk with hk | hk | hk | hk | hk | hk | hk | hk | hk | hk <;> first | omega | (simp [hk]; done)))⟩

theorem known14 {w : World} {m_ vb t sh cps S scp sat F g fc lg m lcp p hub base wt pl mscp : Nat} {nm : ByteArray} {h1 h2 x0 x1 x2 : Value} {mx smx nx wr x : Int} {sao lao msao : Option Addr} {grest fns rest : List Value} {c : UInt8} (h_t : Blk w t [.slice (some ⟨sh, 0, none⟩) 1 cps, h1, h2, .pointer (some ⟨S, 0, none⟩), .int .i64 mx, .slice none 0 0, .slice none 0 0] 116) (h_S : Blk w S [.slice sao 1 scp, .map (some sat), .pointer (some ⟨F, 0, none⟩), .int .i64 smx, .int .i64 nx, .int .i64 wr] 121) (h_sat : KMap ki w sat ([])) (h_sao : Own w (.slice sao 1 scp) 214 3 1 ([x0, x1, x2])) (h_F : Blk w F [.slice (some ⟨g, 0, none⟩) 1 fc, .func (.func 135) #[] #[]] 246) (h_g : Blk w g (.int .i64 0 :: grest) 3) (h_lg : Blk w lg [.slice lao m lcp] 126) (h_lao : Own w (.slice lao m lcp) 1 1 m fns) (h_sh : Blk w sh (.string (⟨#[c]⟩) :: .int .i64 1 :: rest) 51) (h_vb : Blk w vb [.int .i64 1, .int .i64 x, .string ByteArray.empty, .float .f64 0] 58) (h_p : Blk w p [.pointer (some ⟨t, 0, none⟩), .pointer (some ⟨hub, 0, none⟩), .map (some base)] 87) (h_base : KMap ki w base ([])) (h_wt : Blk w wt [.slice none 0 0, .int .i64 0] 129) (h_m_ : Blk w m_ [.map (some pl), .pointer (some ⟨lg, 0, none⟩), .slice msao 0 mscp, .pointer (some ⟨wt, 0, none⟩), .bool false] 75) (h_pl : KMap ks w pl ([(nm, .pointer (some ⟨p, 0, none⟩))])) (hc : 97 ≤ c.toNat ∧ c.toNat ≤ 122) (hcp : 1 ≤ cps) (hmx : 0 < mx) (hsm : 0 < smx) (hwr : -1000000 ≤ wr ∧ wr ≤ 1000000) (hnx : -1000000 ≤ nx ∧ nx ≤ 1000000) (hm : m ≤ 90000) (hne : sat ≠ base) (hps : pl ≠ sat) :
    Ret Tryz.prog 14 #[.pointer (some ⟨m_, 0, none⟩), .string nm, .slice (some ⟨vb, 0, none⟩) 1 1] w fun v w' => ∃ lao' lcp', v = .tuple #[.int .i64 nx, .nilIface] ∧ Blk w' m_ [.map (some pl), .pointer (some ⟨lg, 0, none⟩), .slice msao 0 mscp, .pointer (some ⟨wt, 0, none⟩), .bool false] 75 ∧ Blk w' lg [.slice lao' 0 lcp'] 126 ∧ Own w' (.slice lao' 0 lcp') 1 1 0 ([]) ∧ Only ([S, sat, lg, F, g, p, m_] ++ (.slice sao 1 scp : Value).ownBlock.toList ++ (.slice lao m lcp : Value).ownBlock.toList) w w' := by
  refine enterL (args := [.pointer (some ⟨m_, 0, none⟩), .string nm, .slice (some ⟨vb, 0, none⟩) 1 1]) Tryz.func14 rfl rfl rfl ?_
  refine CW.seq fun K1 hK1 => ?_
  refine CW.region ?_
  refine WL.box (cs := [.pointer (some ⟨m_, 0, none⟩)]) rfl rfl rfl rfl ?_
  intro w2 b3 h4 u5 g6
  refine WL.box (cs := [.slice (some ⟨vb, 0, none⟩) 1 1]) rfl rfl rfl rfl ?_
  intro w7 b8 h9 u10 g11
  refine WL.to (E' := [(1, .string nm), (3, .pointer (some ⟨b3, 0, none⟩)), (5, .pointer (some ⟨b8, 0, none⟩)), (6, .int .i64 0), (7, .nilIface)]) 2 [1, 3, 5, 6, 7] (by kernel_rfl) ?_
  refine WL.nil ?_
  refine hK1 _ _ _ ?_
  refine CW.seq fun K12 hK12 => ?_
  refine CW.region ?_
  refine WL.alloc (cs := [.int .i64 0]) rfl rfl zer2 rfl ?_
  intro w13 b14 h15 u16 g17
  refine WL.store1 rfl siz2 rfl rfl rfl h15 rfl ?_
  intro w18 h19 u20 z21
  refine WL.nil ?_
  refine hK12 _ _ _ ?_
  refine CW.seq fun K22 hK22 => ?_
  refine CW.region ?_
  have h23 := ((h4.keep u10 nm0).keep u16 nm0)
  have h24 := (h23.keep u20 (nmc (Blk.ne h23 h15 rfl) nm0))
  refine WL.load1 rfl agg24 rfl rfl h24 rfl ?_
  refine WL.to (E' := [(6, .int .i64 0), (7, .nilIface), (8, .pointer (some ⟨b14, 0, none⟩)), (10, .pointer (some ⟨m_, 0, none⟩)), (11, .string nm), (12, .func (.func 40) #[] #[.pointer (some ⟨b3, 0, none⟩), .pointer (some ⟨b8, 0, none⟩), .pointer (some ⟨b14, 0, none⟩)])]) 2 [6, 7, 8, 10, 11, 12] (by kernel_rfl) ?_
  have h25 := (((h_t.keep u5 nm0).keep u10 nm0).keep u16 nm0)
  have h26 := (h25.keep u20 (nmc (Blk.ne h25 h15 rfl) nm0))
  have h27 := (((h_S.keep u5 nm0).keep u10 nm0).keep u16 nm0)
  have h28 := (h27.keep u20 (nmc (Blk.ne h27 h15 rfl) nm0))
  have h29 := (((h_sat.keep u5 nm0).keep u10 nm0).keep u16 nm0)
  have h30 := (h29.keep u20 (nmc (Ne.symm (Blk.neK h15 h29)) nm0))
  have h31 := (((h_sao.keep' u5 dis0).keep' u10 dis0).keep' u16 dis0)
  have h32 := (h31.keep' u20 (disc (Own.ne h31 h15 rfl) dis0))
  have h33 := (((h_F.keep u5 nm0).keep u10 nm0).keep u16 nm0)
  have h34 := (h33.keep u20 (nmc (Blk.ne h33 h15 rfl) nm0))
  have h35 := (((h_g.keep u5 nm0).keep u10 nm0).keep u16 nm0)
  have h36 := (h35.keep u20 (nmc (Blk.ne h35 h15 rfl) nm0))
  have h37 := (((h_lg.keep u5 nm0).keep u10 nm0).keep u16 nm0)
  have h38 := (h37.keep u20 (nmc (Blk.ne h37 h15 rfl) nm0))
  have h39 := (((h_lao.keep' u5 dis0).keep' u10 dis0).keep' u16 dis0)
  have h40 := (h39.keep' u20 (disc (Own.ne h39 h15 rfl) dis0))
  have h41 := (((h_sh.keep u5 nm0).keep u10 nm0).keep u16 nm0)
  have h42 := (h41.keep u20 (nmc (Blk.ne h41 h15 rfl) nm0))
  have h43 := (((h_vb.keep u5 nm0).keep u10 nm0).keep u16 nm0)
  have h44 := (h43.keep u20 (nmc (Blk.ne h43 h15 rfl) nm0))
  have h45 := (((h_p.keep u5 nm0).keep u10 nm0).keep u16 nm0)
  have h46 := (h45.keep u20 (nmc (Blk.ne h45 h15 rfl) nm0))
  have h47 := (((h_base.keep u5 nm0).keep u10 nm0).keep u16 nm0)
  have h48 := (h47.keep u20 (nmc (Ne.symm (Blk.neK h15 h47)) nm0))
  have h49 := (((h_wt.keep u5 nm0).keep u10 nm0).keep u16 nm0)
  have h50 := (h49.keep u20 (nmc (Blk.ne h49 h15 rfl) nm0))
  have h51 := (((h_m_.keep u5 nm0).keep u10 nm0).keep u16 nm0)
  have h52 := (h51.keep u20 (nmc (Blk.ne h51 h15 rfl) nm0))
  have h53 := (((h_pl.keep u5 nm0).keep u10 nm0).keep u16 nm0)
  have h54 := (h53.keep u20 (nmc (Ne.symm (Blk.neK h15 h53)) nm0))
  have h55 := (h9.keep u16 nm0)
  have h56 := (h55.keep u20 (nmc (Blk.ne h55 h15 rfl) nm0))
  refine WL.call rfl rfl rfl rfl ent39 rfl (known39 h26 h28 h30 h32 h34 h36 h38 h40 h42 h44 h46 h48 h50 h52 h54 h24 h56 h19 hc (by omega) (by omega) (by omega) (by omega) (by omega) (by omega) hne hps) ?_
  rintro _ w64 ⟨lao57, lcp58, rfl, h59, h60, h61, h62, u63⟩
  refine WL.to (E' := [(6, .int .i64 0), (7, .nilIface), (8, .pointer (some ⟨b14, 0, none⟩)), (9, .nilIface)]) 1 [6, 7, 8, 9] (by kernel_rfl) ?_
  refine WL.nil ?_
  refine hK22 _ _ _ ?_
  refine CW.seq fun K65 hK65 => ?_
  refine CW.region ?_
  refine WL.load1 rfl agg2 rfl rfl h59 rfl ?_
  refine WL.to (E' := [(6, .int .i64 nx), (7, .nilIface)]) 3 [6, 7] (by kernel_rfl) ?_
  refine WL.nil ?_
  refine hK65 _ _ _ ?_
  refine CW.ret fun a ha => ?_
  try simp (decide := true) only [Exit.inBlock, Exit.then, ↓reduceIte]
  exact fin ha.defers (res_tmp2 rfl ha rfl rfl _) ⟨lao57, lcp58, rfl, h60, h61, h62, (((((u5.trans u10).trans u16).trans u20).trans u63).sub (by intro k hk hl; have := u5.size; have := u10.size; have := u16.size; have := u20.size; have := u63.size; have := g17; simp only [ob_ao, Option.mem_toList, Option.mem_def, Option.map_none, Option.map_some, Option.some.injEq, reduceCtorEq, List.mem_append, List.mem_cons, List.not_mem_nil, or_false, false_or, or_assoc] at hk ⊢; rcases hk with hk | hk | hk | hk | hk | hk | hk | hk | hk | hk | hk <;> first | omega | (simp [hk]; done)))⟩
end Go.K

namespace Go.K
open Go.Proofs
set_option maxRecDepth 8000
set_option maxHeartbeats 1000000
set_option linter.unusedSimpArgs false
set_option linter.unusedVariables false
theorem len3 {l : List Value} (h : l.length = 1 * 3) : ∃ a b c, l = [a, b, c] := by
  match l, h with
  | [a, b, c], _ => exact ⟨a, b, c, rfl⟩

theorem known_of {w : World}  (hE : ErrT w) :
    Ret Tryz.prog 6 #[] w fun v w' => v = .bool true ∧ Only ([]) w w' := by
  refine enterL (args := []) Tryz.func6 rfl rfl rfl ?_
  refine CW.seq fun K1 hK1 => ?_
  refine CW.region ?_
  refine WL.to (E' := [(0, .bool false)]) 1 [0] (by kernel_rfl) ?_
  refine WL.nil ?_
  refine hK1 _ _ _ ?_
  refine CW.seq fun K2 hK2 => ?_
  refine CW.region ?_
  refine WL.call rfl rfl rfl rfl ent7 rfl (newmarket) ?_
  rintro _ w16 ⟨m3, pl4, lg5, wt6, rfl, h7, h8, h9, h10, g11, g12, g13, g14, u15⟩
  refine WL.to (E' := [(0, .bool false), (1, .pointer (some ⟨m3, 0, none⟩))]) 1 [0, 1] (by kernel_rfl) ?_
  refine WL.nil ?_
  refine hK2 _ _ _ ?_
  refine CW.seq fun K17 hK17 => ?_
  refine CW.seq fun K18 hK18 => ?_
  refine CW.region ?_
  refine WL.to (E' := [(0, .bool false), (1, .pointer (some ⟨m3, 0, none⟩)), (14, .bool false), (15, .pointer (some ⟨m3, 0, none⟩))]) 4 [0, 1, 14, 15] (by kernel_rfl) ?_
  refine WL.build (vs := [(0, .string (⟨#[97]⟩)), (1, .int .i64 1)]) (v := .agg #[.string (⟨#[97]⟩), .int .i64 1]) rfl rfl rfl (by kernel_rfl) ?_
  refine WL.buildSlice (vs := [(0, .agg #[.string (⟨#[97]⟩), .int .i64 1])]) (cs := [.string (⟨#[97]⟩), .int .i64 1]) rfl rfl Tryz.underlying29 rfl (by kernel_rfl) ?_
  intro w19 b20 h21 u22 g23
  refine WL.build (vs := []) (v := .agg #[.slice none 0 0, .slice none 0 0]) rfl rfl rfl (by kernel_rfl) ?_
  have h24 := (h7.keep u22 nm0)
  have h25 := (h8.keep u22 nm0)
  refine WL.call rfl rfl rfl rfl ent8 rfl (table_1o (by decide) h24 h25 (by first | assumption | rfl | simp [look]) (by first | omega | decide | (simp; omega) | assumption) (by first | omega | decide | (simp; omega) | assumption) (by decide) Own.nil Own.nil rfl rfl (by first | omega | decide | (simp; omega) | assumption) (by first | omega | decide | (simp; omega) | assumption) h21 (by first | omega | decide | (simp; omega) | assumption)) ?_
  rintro _ w59 ⟨rfl, p26, hub27, base28, t29, S30, sat31, F32, sh33, cps34, h35, h36, rest37, h38, h39, h40, h41, h42, p43, h44, h45, h46, ⟨g47, g48, g49, g50, g51, g52, g53, g54⟩, n55, h56, h57, u58⟩
  have h60 : KMap ks w59 pl4 [(⟨#[116]⟩, .pointer (some ⟨p26, 0, none⟩))] := h56
  refine WL.to (E' := [(0, .bool false), (1, .pointer (some ⟨m3, 0, none⟩)), (21, .bool false)]) 2 [0, 1, 21] (by kernel_rfl) ?_
  refine WL.nil ?_
  refine hK18 _ _ _ ?_
  refine CW.condF rfl ?_
  refine CW.skip ?_
  refine hK17 _ _ _ ?_
  refine CW.seq fun K61 hK61 => ?_
  refine CW.region ?_
  refine WL.to (E' := [(0, .bool false), (1, .pointer (some ⟨m3, 0, none⟩)), (23, .pointer (some ⟨m3, 0, none⟩))]) 1 [0, 1, 23] (by kernel_rfl) ?_
  have h62 := (h9.keep u22 nm0)
  have h63 := (h62.keep u58 (nmc (Blk.neK h62 h25) (nmc (Blk.ne h62 h24 rfl) nm0)))
  refine WL.call rfl rfl rfl rfl ent13 rfl (save_ok h57 h63 Own.nil (by first | omega | decide | (simp; omega) | assumption) (by first | omega | decide | (simp; omega) | assumption)) ?_
  rintro _ w70 ⟨rfl, msao64, mscp65, h66, h67, f68, u69⟩
  have f71 : ∀ b, (.slice msao64 (0 + 1) mscp65 : Value).ownBlock = some b → w59.heap.size ≤ b := fun b hb => (f68 b hb).resolve_left (by simp [Value.ownBlock])
  have h72 : Blk w70 m3 [.map (some pl4), .pointer (some ⟨lg5, 0, none⟩), .slice msao64 1 mscp65, .pointer (some ⟨wt6, 0, none⟩), .bool false] 75 := h66
  have h73 : Own w70 (.slice msao64 1 mscp65) 3 1 1 [.int .i64 0] := h67
  refine WL.to (E' := [(0, .bool false), (1, .pointer (some ⟨m3, 0, none⟩)), (2, .int .i64 1), (3, .nilIface)]) 5 [0, 1, 2, 3] (by kernel_rfl) ?_
  refine WL.nil ?_
  refine hK61 _ _ _ ?_
  refine CW.seq fun K74 hK74 => ?_
  refine CW.region ?_
  refine WL.to (E' := [(0, .bool false), (1, .pointer (some ⟨m3, 0, none⟩)), (2, .int .i64 1), (3, .nilIface), (28, .pointer (some ⟨m3, 0, none⟩))]) 1 [0, 1, 2, 3, 28] (by kernel_rfl) ?_
  refine WL.call rfl rfl rfl rfl ent19 rfl (num_of) ?_
  rintro _ w76 ⟨rfl, u75⟩
  refine WL.buildSlice (vs := [(0, .agg #[.int .i64 1, .int .i64 5, .string ByteArray.empty, .float .f64 0])]) (cs := [.int .i64 1, .int .i64 5, .string ByteArray.empty, .float .f64 0]) rfl rfl Tryz.underlying38 rfl (by kernel_rfl) ?_
  intro w77 b78 h79 u80 g81
  have h82 := (((h41.keep u69 (nmc (Blk.ne h41 h57 rfl) nm0)).keep u75 nm0).keep u80 nm0)
  have h83 := (((h44.keep u69 (nmc (Blk.ne h44 h57 rfl) nm0)).keep u75 nm0).keep u80 nm0)
  have h84 := (((h45.keep u69 (nmc (Ne.symm (Blk.neK h57 h45)) nm0)).keep u75 nm0).keep u80 nm0)
  have h85 := (((h46.keep u69 (nmc (Blk.ne h46 h57 rfl) nm0)).keep u75 nm0).keep u80 nm0)
  have h86 := (((h63.keep u69 (nmc (Blk.ne h63 h57 rfl) nm0)).keep u75 nm0).keep u80 nm0)
  have h87 := (((h42.keep u69 (nmc (Blk.ne h42 h57 rfl) nm0)).keep u75 nm0).keep u80 nm0)
  have h88 := (((h38.keep u69 (nmc (Blk.ne h38 h57 rfl) nm0)).keep u75 nm0).keep u80 nm0)
  have h89 := ((h72.keep u75 nm0).keep u80 nm0)
  have h90 := (((h60.keep u69 (nmc (Ne.symm (Blk.neK h57 h60)) nm0)).keep u75 nm0).keep u80 nm0)
  refine WL.call rfl rfl rfl rfl ent14 rfl (mins14_1 h82 h83 h84 Own.nil h85 h86 Own.nil (by decide) h87 h79 (by first | omega | decide | (simp; omega) | assumption) (by first | omega | decide | (simp; omega) | assumption) h88 h89 (by first | omega | decide | (simp; omega) | assumption) h90 (by first | assumption | rfl | simp [look]) (by first | assumption | rfl | simp [look]) (by first | omega | decide | (simp; omega) | assumption) (by first | omega | decide | (simp; omega) | assumption) (by first | omega | decide | (simp; omega) | assumption) (by first | omega | decide | (simp; omega) | assumption) (by first | omega | decide | (simp; omega) | assumption)) ?_
  rintro _ w118 ⟨rfl, br91, bi92, bp93, brw94, sao95, scp96, ao97, cp98, lao99, lcp100, h101, h102, g103, h104, h105, g106, h107, h108, h109, h110, h111, f112, f113, h114, h115, f116, u117⟩
  have f119 : ∀ b, (.slice sao95 (0 + 1) scp96 : Value).ownBlock = some b → w77.heap.size ≤ b := fun b hb => (f113 b hb).resolve_left (by simp [Value.ownBlock])
  have f120 : ∀ b, (.slice lao99 (0 + 1 + 1) lcp100 : Value).ownBlock = some b → w77.heap.size ≤ b := fun b hb => (f116 b hb).resolve_left (by simp [Value.ownBlock])
  have h121 : Blk w118 lg5 [.slice lao99 2 lcp100] 126 := h114
  have h122 : Blk w118 S30 [.slice sao95 1 scp96, .map (some sat31), .pointer (some ⟨F32, 0, none⟩), .int .i64 10, .int .i64 2, .int .i64 1] 121 := h108
  have h123 : KMap ki w118 sat31 [(1, .int .i64 0)] := h109
  have h124 : Own w118 (.slice sao95 1 scp96) 214 3 1 [.int .i64 1, .int .i64 1, .slice ao97 1 cp98] := h110
  have h125 : Own w118 (.slice lao99 2 lcp100) 1 1 2 [.func (.func 79) #[] #[.pointer (some ⟨br91, 0, none⟩), .pointer (some ⟨bi92, 0, none⟩)], .func (.func 43) #[] #[.pointer (some ⟨bp93, 0, none⟩), .pointer (some ⟨brw94, 0, none⟩)]] := h115
  refine WL.to (E' := [(0, .bool false), (1, .pointer (some ⟨m3, 0, none⟩)), (2, .int .i64 1), (3, .nilIface), (4, .int .i64 1), (5, .nilIface)]) 5 [0, 1, 2, 3, 4, 5] (by kernel_rfl) ?_
  refine WL.nil ?_
  refine hK74 _ _ _ ?_
  refine CW.seq fun K126 hK126 => ?_
  refine CW.region ?_
  refine WL.to (E' := [(0, .bool false), (1, .pointer (some ⟨m3, 0, none⟩)), (2, .int .i64 1), (3, .nilIface), (4, .int .i64 1), (5, .nilIface), (34, .pointer (some ⟨m3, 0, none⟩))]) 1 [0, 1, 2, 3, 4, 5, 34] (by kernel_rfl) ?_
  have h127 := ((h73.keep' u75 dis0).keep' u80 dis0)
  have h128 := (h127.keep' u117 (disc (Own.ne h127 h83 rfl) (disc (Own.neM h127 h84) (disc (Own.ne h127 h86 rfl) (disc (Own.ne h127 h89 rfl) dis0)))))
  have h129 := (h88.keep u117 (nmc (Blk.ne h88 h83 rfl) (nmc (Blk.neK h88 h84) (nmc (Blk.ne h88 h86 rfl) (nmc (Blk.ne h88 h89 rfl) nm0)))))
  have h130 := (((h39.keep u69 (nmc (Blk.ne h39 h57 rfl) nm0)).keep u75 nm0).keep u80 nm0)
  have h131 := (h130.keep u117 (nmc (Blk.ne h130 h83 rfl) (nmc (Blk.neK h130 h84) (nmc (Blk.ne h130 h86 rfl) (nmc (Blk.ne h130 h89 rfl) nm0)))))
  have h132 := (h85.keep u117 (nmc (Blk.ne h85 h83 rfl) (nmc (Blk.neK h85 h84) (nmc (Blk.ne h85 h86 rfl) (nmc (Blk.ne h85 h89 rfl) nm0)))))
  refine WL.call rfl rfl rfl rfl ent27 rfl (roll_n (k := 0) (n := 1) (d := 0) (svs := [0]) h107 h128 h121 h125 h129 h131 h122 h123 h124 h132 (LogOk.snoc LogOk.nil (by simp) h101 h102 h104 h105) rfl (by first | omega | decide | (simp; omega) | assumption) (by first | omega | decide | (simp; omega) | assumption) (by first | omega | decide | (simp; omega) | assumption) (by first | omega | decide | (simp; omega) | assumption) (by first | omega | decide | (simp; omega) | assumption)) ?_
  rintro _ w153 ⟨q133, wr134, xs135, fa136, fc137, l138, rfl, p139, h140, h141, h142, h143, h144, h145, h146, h147, p148, ⟨p149, p150⟩, f151, u152⟩
  have h154 : Blk w153 lg5 [.slice lao99 0 lcp100] 126 := h141
  have h155 : Blk w153 S30 [.slice sao95 1 scp96, .map (some sat31), .pointer (some ⟨F32, 0, none⟩), .int .i64 10, .int .i64 1, .int .i64 wr134] 121 := h143
  have h156 : KMap ki w153 sat31 [] := h144
  have h157 : Own w153 (.slice lao99 0 lcp100) 1 1 0 (([.func (.func 79) #[] #[.pointer (some ⟨br91, 0, none⟩), .pointer (some ⟨bi92, 0, none⟩)], .func (.func 43) #[] #[.pointer (some ⟨bp93, 0, none⟩), .pointer (some ⟨brw94, 0, none⟩)]]).take (2 * 0)) := h142
  obtain rfl : q133 = 1 := by omega
  have el := p148 rfl
  subst el
  have h158 : Own w153 (.slice fa136 1 fc137) 3 1 1 [.int .i64 0] := h147
  obtain ⟨x0, x1, x2, ex⟩ := len3 h145.len
  subst ex
  refine WL.to (E' := [(0, .bool false), (1, .pointer (some ⟨m3, 0, none⟩)), (2, .int .i64 1), (3, .nilIface), (4, .int .i64 1), (5, .nilIface), (6, .nilIface)]) 1 [0, 1, 2, 3, 4, 5, 6] (by kernel_rfl) ?_
  refine WL.nil ?_
  refine hK126 _ _ _ ?_
  refine CW.seq fun K159 hK159 => ?_
  refine CW.region ?_
  refine WL.to (E' := [(0, .bool false), (1, .pointer (some ⟨m3, 0, none⟩)), (2, .int .i64 1), (3, .nilIface), (4, .int .i64 1), (5, .nilIface), (6, .nilIface), (37, .pointer (some ⟨m3, 0, none⟩))]) 1 [0, 1, 2, 3, 4, 5, 6, 37] (by kernel_rfl) ?_
  refine WL.call rfl rfl rfl rfl ent19 rfl (num_of) ?_
  rintro _ w161 ⟨rfl, u160⟩
  refine WL.buildSlice (vs := [(0, .agg #[.int .i64 1, .int .i64 6, .string ByteArray.empty, .float .f64 0])]) (cs := [.int .i64 1, .int .i64 6, .string ByteArray.empty, .float .f64 0]) rfl rfl Tryz.underlying38 rfl (by kernel_rfl) ?_
  intro w162 b163 h164 u165 g166
  have h167 := ((h158.keep' u160 dis0).keep' u165 dis0)
  obtain ⟨g175, rest168, e169, h170, q171, q172, q173, q174⟩ := h167.open2 (by omega)
  subst e169
  have h176 := (h82.keep u117 (nmc (Blk.ne h82 h83 rfl) (nmc (Blk.neK h82 h84) (nmc (Blk.ne h82 h86 rfl) (nmc (Blk.ne h82 h89 rfl) nm0)))))
  have h177 := (((h176.keep u152 (nma (nma (nmc (Blk.ne h176 h107 rfl) (nmc (Blk.ne h176 h121 rfl) (nmc (Blk.ne h176 h122 rfl) (nmc (Blk.neK h176 h123) (nmc (Blk.ne h176 h132 rfl) nm0))))) (Own.ne h125 h176 rfl)) (Own.ne h124 h176 rfl))).keep u160 nm0).keep u165 nm0)
  have h178 := ((h155.keep u160 nm0).keep u165 nm0)
  have h179 := ((h156.keep u160 nm0).keep u165 nm0)
  have h180 := ((h145.keep' u160 dis0).keep' u165 dis0)
  have h181 := ((h146.keep u160 nm0).keep u165 nm0)
  have h182 := ((h154.keep u160 nm0).keep u165 nm0)
  have h183 := ((h157.keep' u160 dis0).keep' u165 dis0)
  have h184 := (h87.keep u117 (nmc (Blk.ne h87 h83 rfl) (nmc (Blk.neK h87 h84) (nmc (Blk.ne h87 h86 rfl) (nmc (Blk.ne h87 h89 rfl) nm0)))))
  have h185 := (((h184.keep u152 (nma (nma (nmc (Blk.ne h184 h107 rfl) (nmc (Blk.ne h184 h121 rfl) (nmc (Blk.ne h184 h122 rfl) (nmc (Blk.neK h184 h123) (nmc (Blk.ne h184 h132 rfl) nm0))))) (Own.ne h125 h184 rfl)) (Own.ne h124 h184 rfl))).keep u160 nm0).keep u165 nm0)
  have h186 := (((h129.keep u152 (nma (nma (nmc (Blk.ne h129 h107 rfl) (nmc (Blk.ne h129 h121 rfl) (nmc (Blk.ne h129 h122 rfl) (nmc (Blk.neK h129 h123) (nmc (Blk.ne h129 h132 rfl) nm0))))) (Own.ne h125 h129 rfl)) (Own.ne h124 h129 rfl))).keep u160 nm0).keep u165 nm0)
  have h187 := (((h40.keep u69 (nmc (Ne.symm (Blk.neK h57 h40)) nm0)).keep u75 nm0).keep u80 nm0)
  have h188 := (h187.keep u117 (nmc (Ne.symm (Blk.neK h83 h187)) (nmc (Ne.symm n55) (nmc (Ne.symm (Blk.neK h86 h187)) (nmc (Ne.symm (Blk.neK h89 h187)) nm0)))))
  have h189 := (((h188.keep u152 (nma (nma (nmc (Ne.symm (Blk.neK h107 h188)) (nmc (Ne.symm (Blk.neK h121 h188)) (nmc (Ne.symm (Blk.neK h122 h188)) (nmc (Ne.symm n55) (nmc (Ne.symm (Blk.neK h132 h188)) nm0))))) (Own.neM h125 h188)) (Own.neM h124 h188))).keep u160 nm0).keep u165 nm0)
  have h190 := (h10.keep u22 nm0)
  have h191 := (h190.keep u58 (nmc (Blk.neK h190 h25) (nmc (Blk.ne h190 h24 rfl) nm0)))
  have h192 := (((h191.keep u69 (nmc (Blk.ne h191 h57 rfl) nm0)).keep u75 nm0).keep u80 nm0)
  have h193 := (h192.keep u117 (nmc (Blk.ne h192 h83 rfl) (nmc (Blk.neK h192 h84) (nmc (Blk.ne h192 h86 rfl) (nmc (Blk.ne h192 h89 rfl) nm0)))))
  have h194 := (((h193.keep u152 (nma (nma (nmc (Blk.ne h193 h107 rfl) (nmc (Blk.ne h193 h121 rfl) (nmc (Blk.ne h193 h122 rfl) (nmc (Blk.neK h193 h123) (nmc (Blk.ne h193 h132 rfl) nm0))))) (Own.ne h125 h193 rfl)) (Own.ne h124 h193 rfl))).keep u160 nm0).keep u165 nm0)
  have h195 := ((h140.keep u160 nm0).keep u165 nm0)
  have h196 := (h90.keep u117 (nmc (Ne.symm (Blk.neK h83 h90)) (nmc (by have := h8.lt; have := g53; have := u22.size; omega) (nmc (Ne.symm (Blk.neK h86 h90)) (nmc (Ne.symm (Blk.neK h89 h90)) nm0)))))
  have h197 := (((h196.keep u152 (nma (nma (nmc (Ne.symm (Blk.neK h107 h196)) (nmc (Ne.symm (Blk.neK h121 h196)) (nmc (Ne.symm (Blk.neK h122 h196)) (nmc (by have := h8.lt; have := g53; have := u22.size; omega) (nmc (Ne.symm (Blk.neK h132 h196)) nm0))))) (Own.neM h125 h196)) (Own.neM h124 h196))).keep u160 nm0).keep u165 nm0)
  refine WL.call rfl rfl rfl rfl ent14 rfl (known14 h177 h178 h179 h180 h181 h170 h182 h183 h185 h164 h186 h189 h194 h195 h197 (by decide) (by omega) (by omega) (by omega) (by omega) (by omega) (by omega) n55 (by have := h8.lt; have := g53; have := u22.size; omega)) ?_
  rintro _ w204 ⟨lao198, lcp199, rfl, h200, h201, h202, u203⟩
  refine WL.to (E' := [(0, .bool false), (1, .pointer (some ⟨m3, 0, none⟩)), (2, .int .i64 1), (3, .nilIface), (4, .int .i64 1), (5, .nilIface), (6, .nilIface), (7, .int .i64 1), (8, .nilIface)]) 5 [0, 1, 2, 3, 4, 5, 6, 7, 8] (by kernel_rfl) ?_
  refine WL.nil ?_
  refine hK159 _ _ _ ?_
  refine CW.seq fun K205 hK205 => ?_
  refine CW.region ?_
  refine WL.to (E' := [(0, .bool false), (1, .pointer (some ⟨m3, 0, none⟩)), (2, .int .i64 1), (3, .nilIface), (4, .int .i64 1), (5, .nilIface), (6, .nilIface), (7, .int .i64 1), (8, .nilIface), (44, .pointer (some ⟨m3, 0, none⟩))]) 1 [0, 1, 2, 3, 4, 5, 6, 7, 8, 44] (by kernel_rfl) ?_
  have h206 := (h197.keep u203 (nma (nma (nmc (Ne.symm (Blk.neK h178 h197)) (nmc (by have := h8.lt; have := g53; have := u22.size; omega) (nmc (Ne.symm (Blk.neK h182 h197)) (nmc (Ne.symm (Blk.neK h181 h197)) (nmc (Ne.symm (Blk.neK h170 h197)) (nmc (Ne.symm (Blk.neK h186 h197)) (nmc (Ne.symm (Blk.neK h195 h197)) nm0))))))) (Own.neM h180 h197)) (Own.neM h183 h197)))
  refine WL.call rfl rfl rfl rfl ent14 rfl (insert_none h200 h206 (by first | assumption | rfl | simp [look])) ?_
  rintro _ w209 ⟨rfl, h207, u208⟩
  refine WL.to (E' := [(0, .bool false), (1, .pointer (some ⟨m3, 0, none⟩)), (2, .int .i64 1), (3, .nilIface), (4, .int .i64 1), (5, .nilIface), (6, .nilIface), (7, .int .i64 1), (8, .nilIface), (10, .iface 79 (.int .i64 100))]) 5 [0, 1, 2, 3, 4, 5, 6, 7, 8, 10] (by kernel_rfl) ?_
  refine WL.nil ?_
  refine hK205 _ _ _ ?_
  refine CW.seq fun K210 hK210 => ?_
  refine CW.region ?_
  refine WL.to (E' := [(0, .bool false), (10, .iface 79 (.int .i64 100)), (74, .bool true), (75, .pointer (some ⟨m3, 0, none⟩))]) 28 [0, 10, 74, 75] (by kernel_rfl) ?_
  have h211 := (h201.keep u208 (nmc (Blk.ne h201 h200 rfl) nm0))
  refine WL.callQ (v := .int .i64 ((0 : Nat) : Int)) rfl rfl rfl rfl ent24 rfl (log_of h207 h211) ?_
  refine WL.to (E' := [(0, .bool false), (79, .bool true), (80, .iface 79 (.int .i64 100))]) 4 [0, 79, 80] (by kernel_rfl) ?_
  refine WL.call rfl rfl rfl rfl ent10 rfl (class_of (hE.keep (S := []) ((((((((((((u15.trans u22).trans u58).trans u69).trans u75).trans u80).trans u117).trans u152).trans u160).trans u165).trans u203).trans u208).sub (by intro k hk hl; have := u15.size; have := u22.size; have := u58.size; have := u69.size; have := u75.size; have := u80.size; have := u117.size; have := u152.size; have := u160.size; have := u165.size; have := u203.size; have := u208.size; have := g12; have := g11; have := g52; have := g53; have := g13; have := g54; have := g47; have p0_ : ∀ b, (lao99 : Option Addr).map (·.block) = some b → w77.heap.size ≤ b := (by simpa only [ob_ao, Option.map_some] using f120); have q0_ : ∀ b, (lao99 : Option Addr).map (·.block) = some b → w.heap.size ≤ b := (fun b hb => (by have := p0_ b hb; have := u15.size; have := u22.size; have := u58.size; have := u69.size; have := u75.size; have := u80.size; omega)); have p1_ : ∀ b, (sao95 : Option Addr).map (·.block) = some b → w77.heap.size ≤ b := (by simpa only [ob_ao, Option.map_some] using f119); have q1_ : ∀ b, (sao95 : Option Addr).map (·.block) = some b → w.heap.size ≤ b := (fun b hb => (by have := p1_ b hb; have := u15.size; have := u22.size; have := u58.size; have := u69.size; have := u75.size; have := u80.size; omega)); have p2_ : ∀ b, (some ⟨g175, 0, none⟩ : Option Addr).map (·.block) = some b → w118.heap.size ≤ b := (by simpa only [ob_ao, Option.map_some] using f151); have q2_ : ∀ b, (some ⟨g175, 0, none⟩ : Option Addr).map (·.block) = some b → w.heap.size ≤ b := (fun b hb => (by have := p2_ b hb; have := u15.size; have := u22.size; have := u58.size; have := u69.size; have := u75.size; have := u80.size; have := u117.size; omega)); simp only [ob_ao, Option.mem_toList, Option.mem_def, Option.map_none, Option.map_some, Option.some.injEq, reduceCtorEq, List.mem_append, List.mem_cons, List.not_mem_nil, or_false, false_or, or_assoc] at hk ⊢; rcases hk with hk | hk | hk | hk | hk | hk | hk | hk | hk | hk | hk | hk | hk | hk | hk | hk | hk | hk | hk | hk | hk | hk | hk | hk <;> first | omega | (simp [hk]; done) | (have := q0_ _ hk; omega) | (have := q1_ _ hk; omega) | (have := q2_ _ hk; omega) | (have := q2_ k (by simp [hk]); omega))) nm0)) ?_
  rintro _ w213 ⟨rfl, u212⟩
  refine WL.to (E' := [(0, .bool true)]) 3 [0] (by kernel_rfl) ?_
  refine WL.nil ?_
  refine hK210 _ _ _ ?_
  refine CW.ret fun a ha => ?_
  try simp (decide := true) only [Exit.inBlock, Exit.then, ↓reduceIte]
  exact fin ha.defers (res_tmp rfl ha rfl _) ⟨rfl, (((((((((((((u15.trans u22).trans u58).trans u69).trans u75).trans u80).trans u117).trans u152).trans u160).trans u165).trans u203).trans u208).trans u212).sub (by intro k hk hl; have := u15.size; have := u22.size; have := u58.size; have := u69.size; have := u75.size; have := u80.size; have := u117.size; have := u152.size; have := u160.size; have := u165.size; have := u203.size; have := u208.size; have := u212.size; have := g12; have := g11; have := g52; have := g53; have := g13; have := g54; have := g47; have p0_ : ∀ b, (lao99 : Option Addr).map (·.block) = some b → w77.heap.size ≤ b := (by simpa only [ob_ao, Option.map_some] using f120); have q0_ : ∀ b, (lao99 : Option Addr).map (·.block) = some b → w.heap.size ≤ b := (fun b hb => (by have := p0_ b hb; have := u15.size; have := u22.size; have := u58.size; have := u69.size; have := u75.size; have := u80.size; omega)); have p1_ : ∀ b, (sao95 : Option Addr).map (·.block) = some b → w77.heap.size ≤ b := (by simpa only [ob_ao, Option.map_some] using f119); have q1_ : ∀ b, (sao95 : Option Addr).map (·.block) = some b → w.heap.size ≤ b := (fun b hb => (by have := p1_ b hb; have := u15.size; have := u22.size; have := u58.size; have := u69.size; have := u75.size; have := u80.size; omega)); have p2_ : ∀ b, (some ⟨g175, 0, none⟩ : Option Addr).map (·.block) = some b → w118.heap.size ≤ b := (by simpa only [ob_ao, Option.map_some] using f151); have q2_ : ∀ b, (some ⟨g175, 0, none⟩ : Option Addr).map (·.block) = some b → w.heap.size ≤ b := (fun b hb => (by have := p2_ b hb; have := u15.size; have := u22.size; have := u58.size; have := u69.size; have := u75.size; have := u80.size; have := u117.size; omega)); simp only [ob_ao, Option.mem_toList, Option.mem_def, Option.map_none, Option.map_some, Option.some.injEq, reduceCtorEq, List.mem_append, List.mem_cons, List.not_mem_nil, or_false, false_or, or_assoc] at hk ⊢; rcases hk with hk | hk | hk | hk | hk | hk | hk | hk | hk | hk | hk | hk | hk | hk | hk | hk | hk | hk | hk | hk | hk | hk | hk | hk <;> first | omega | (simp [hk]; done) | (have := q0_ _ hk; omega) | (have := q1_ _ hk; omega) | (have := q2_ _ hk; omega) | (have := q2_ k (by simp [hk]); omega)))⟩
end Go.K

