/-
  Part 10 of the texts that lead to the theorem marketNested_card_holds: contracts of the functions that the law reaches.
-/
import Derived.Test.YtbnobbcpklcbgaaGreatDoorPartA8
set_option linter.all false
set_option autoImplicit true
set_option relaxedAutoImplicit true
namespace Go.K
open Go.Proofs
set_option maxRecDepth 8000
set_option maxHeartbeats 1000000
set_option linter.unusedSimpArgs false
set_option linter.unusedVariables false
theorem newfree {w : World} :
    Ret Tryz.prog 99 #[] w fun v w' => ∃ F, v = .pointer (some ⟨F, 0, none⟩) ∧ Blk w' F [.slice none 0 0, .func (.func 135) #[] #[]] 246 ∧ Only [] w w' ∧ w.heap.size ≤ F := by
  refine enterL (args := []) Tryz.func99 rfl rfl rfl ?_
  refine CW.seq fun K1 hK1 => ?_
  refine CW.region ?_
  refine WL.to (E' := [(0, .pointer none)]) 1 [0] (by kernel_rfl) ?_
  refine WL.nil ?_
  refine hK1 _ _ _ ?_
  refine CW.seq fun K2 hK2 => ?_
  refine CW.region ?_
  refine WL.build (vs := [(1, .func (.func 135) #[] #[])]) (v := .agg #[.slice none 0 0, .func (.func 135) #[] #[]]) rfl rfl rfl (by kernel_rfl) ?_
  refine WL.build (vs := [(0, .agg #[.slice none 0 0, .func (.func 135) #[] #[]])]) (v := .agg #[.slice none 0 0, .func (.func 135) #[] #[]]) rfl rfl rfl (by kernel_rfl) ?_
  refine WL.box (cs := [.slice none 0 0, .func (.func 135) #[] #[]]) rfl rfl rfl rfl ?_
  intro w3 b4 h5 u6 g7
  refine WL.to (E' := [(0, .pointer (some ⟨b4, 0, none⟩))]) 1 [0] (by kernel_rfl) ?_
  refine WL.nil ?_
  refine hK2 _ _ _ ?_
  refine CW.ret fun a ha => ?_
  try simp (decide := true) only [Exit.inBlock, Exit.then, ↓reduceIte]
  exact fin ha.defers (res_tmp rfl ha rfl _) ⟨_, rfl, h5, (u6.sub (by simp)), (by have := g7; omega)⟩

theorem newstore {w : World} {mx : Int} (hmx : 0 ≤ mx ∧ mx ≤ 200) :
    Ret Tryz.prog 59 #[.int .i64 mx] w fun v w' => ∃ S sat F, v = .pointer (some ⟨S, 0, none⟩) ∧ Blk w' S [.slice none 0 0, .map (some sat), .pointer (some ⟨F, 0, none⟩), .int .i64 mx, .int .i64 1, .int .i64 0] 121 ∧ KMap ki w' sat [] ∧ Blk w' F [.slice none 0 0, .func (.func 135) #[] #[]] 246 ∧ w.heap.size ≤ S ∧ w.heap.size ≤ sat ∧ w.heap.size ≤ F ∧ Only [] w w' := by
  refine enterL (args := [.int .i64 mx]) Tryz.func59 rfl rfl rfl ?_
  refine CW.seq fun K1 hK1 => ?_
  refine CW.region ?_
  refine WL.to (E' := [(0, .int .i64 mx), (2, .pointer none)]) 1 [0, 2] (by kernel_rfl) ?_
  refine WL.nil ?_
  refine hK1 _ _ _ ?_
  refine CW.seq fun K2 hK2 => ?_
  refine CW.region ?_
  refine WL.makeMap rfl rfl ?_
  intro w3 m4 h5 u6 g7
  replace h5 := KMap.new (κ := ki) h5
  refine WL.call rfl rfl rfl rfl ent99 rfl (newfree) ?_
  rintro _ w12 ⟨b8, rfl, h9, u10, g11⟩
  refine WL.to (E' := [(2, .pointer none), (3, .map (some m4)), (4, .pointer (some ⟨b8, 0, none⟩)), (6, .int .i64 (if 0 > mx then 0 else mx))]) 2 [2, 3, 4, 6] (by kernel_rfl) ?_
  refine WL.chg 6 (.int .i64 mx) rfl (congrArg (Value.int .i64) (if_neg (by omega))) ?_
  refine WL.to (E' := [(2, .pointer none), (3, .map (some m4)), (4, .pointer (some ⟨b8, 0, none⟩)), (7, .int .i64 (if 200 < mx then 200 else mx))]) 1 [2, 3, 4, 7] (by kernel_rfl) ?_
  refine WL.chg 7 (.int .i64 mx) rfl (congrArg (Value.int .i64) (if_neg (by omega))) ?_
  refine WL.build (vs := [(1, .map (some m4)), (2, .pointer (some ⟨b8, 0, none⟩)), (3, .int .i64 mx), (4, .int .i64 1)]) (v := .agg #[.slice none 0 0, .map (some m4), .pointer (some ⟨b8, 0, none⟩), .int .i64 mx, .int .i64 1, .int .i64 0]) rfl rfl rfl (by kernel_rfl) ?_
  refine WL.box (cs := [.slice none 0 0, .map (some m4), .pointer (some ⟨b8, 0, none⟩), .int .i64 mx, .int .i64 1, .int .i64 0]) rfl rfl rfl rfl ?_
  intro w13 b14 h15 u16 g17
  refine WL.to (E' := [(2, .pointer (some ⟨b14, 0, none⟩))]) 1 [2] (by kernel_rfl) ?_
  refine WL.nil ?_
  refine hK2 _ _ _ ?_
  have h18 := ((h5.keep u10 nm0).keep u16 nm0)
  have h19 := (h9.keep u16 nm0)
  refine CW.ret fun a ha => ?_
  try simp (decide := true) only [Exit.inBlock, Exit.then, ↓reduceIte]
  exact fin ha.defers (res_tmp rfl ha rfl _) ⟨b14, m4, b8, rfl, h15, h18, h19, (by have := g17; have := u6.size; have := u10.size; omega), (by have := g7; omega), (by have := g11; have := u6.size; omega), (((u6.trans u10).trans u16).sub (by simp))⟩

theorem newtable1o {w : World} {s0 cp0 : Nat} {mx : Int} {rest : List Value} {c : UInt8} (hc : 97 ≤ c.toNat ∧ c.toNat ≤ 122) {eao cao : Option Addr} {ek ecp ck ccp : Nat} {efs cfs : List Value} (hE : Own w (.slice eao ek ecp) 104 1 ek efs) (hC : Own w (.slice cao ck ccp) 107 1 ck cfs) (hE1 : efs.all Value.oneCell' = true) (hC1 : cfs.all Value.oneCell' = true) (hek : ek ≤ 1000) (hck : ck ≤ 1000) (hs : Blk w s0 (.string (⟨#[c]⟩) :: .int .i64 1 :: rest) 51) (hcp : 1 ≤ cp0) (hmx : 0 ≤ mx ∧ mx ≤ 200) :
    Ret Tryz.prog 33 #[.slice (some ⟨s0, 0, none⟩) 1 cp0, .agg #[.slice eao ek ecp, .slice cao ck ccp], .int .i64 mx] w fun v w' => ∃ t S sat F sh cps h1 h2 rest', v = .tuple #[.pointer (some ⟨t, 0, none⟩), .int .i64 0] ∧ Blk w' t [.slice (some ⟨sh, 0, none⟩) 1 cps, h1, h2, .pointer (some ⟨S, 0, none⟩), .int .i64 mx, .slice none 0 0, .slice none 0 0] 116 ∧ Blk w' sh (.string (⟨#[c]⟩) :: .int .i64 1 :: rest') 51 ∧ 1 ≤ cps ∧ Blk w' S [.slice none 0 0, .map (some sat), .pointer (some ⟨F, 0, none⟩), .int .i64 mx, .int .i64 1, .int .i64 0] 121 ∧ KMap ki w' sat [] ∧ Blk w' F [.slice none 0 0, .func (.func 135) #[] #[]] 246 ∧ w.heap.size ≤ t ∧ w.heap.size ≤ sh ∧ w.heap.size ≤ S ∧ w.heap.size ≤ sat ∧ w.heap.size ≤ F ∧ Only [] w w' := by
  refine enterL (args := [.slice (some ⟨s0, 0, none⟩) 1 cp0, .agg #[.slice eao ek ecp, .slice cao ck ccp], .int .i64 mx]) Tryz.func33 rfl rfl rfl ?_
  refine CW.seq fun K1 hK1 => ?_
  refine CW.region ?_
  refine WL.box (cs := [.slice eao ek ecp, .slice cao ck ccp]) rfl rfl rfl rfl ?_
  intro w2 b3 h4 u5 g6
  refine WL.to (E' := [(0, .slice (some ⟨s0, 0, none⟩) 1 cp0), (2, .int .i64 mx), (4, .pointer (some ⟨b3, 0, none⟩)), (6, .pointer none), (7, .int .i64 0)]) 2 [0, 2, 4, 6, 7] (by kernel_rfl) ?_
  refine WL.nil ?_
  refine hK1 _ _ _ ?_
  refine CW.seq fun K7 hK7 => ?_
  refine CW.seq fun K8 hK8 => ?_
  refine CW.region ?_
  refine WL.to (E' := [(0, .slice (some ⟨s0, 0, none⟩) 1 cp0), (2, .int .i64 mx), (4, .pointer (some ⟨b3, 0, none⟩)), (6, .pointer none), (7, .int .i64 0), (8, .slice (some ⟨s0, 0, none⟩) 1 cp0)]) 1 [0, 2, 4, 6, 7, 8] (by kernel_rfl) ?_
  have h9 := (hs.keep u5 nm0)
  refine WL.call rfl rfl rfl rfl ent55 rfl (shape1 (c := c) hc (by omega) h9) ?_
  rintro _ w11 ⟨rfl, u10⟩
  refine WL.to (E' := [(0, .slice (some ⟨s0, 0, none⟩) 1 cp0), (2, .int .i64 mx), (4, .pointer (some ⟨b3, 0, none⟩)), (6, .pointer none), (7, .int .i64 0), (10, .bool false)]) 1 [0, 2, 4, 6, 7, 10] (by kernel_rfl) ?_
  refine WL.nil ?_
  refine hK8 _ _ _ ?_
  refine CW.condF rfl ?_
  refine CW.skip ?_
  refine hK7 _ _ _ ?_
  refine CW.seq fun K12 hK12 => ?_
  refine CW.mixed (by kernel_rfl) ?_
  intro w13 e15 u14
  refine MX.to (f := 6) (L' := #[true, false, false, true, false, false, false, false]) (E' := [(0, .slice (some ⟨s0, 0, none⟩) 1 cp0), (2, .int .i64 mx), (4, .pointer (some ⟨b3, 0, none⟩)), (6, .pointer none), (7, .int .i64 0), (11, .pointer (some ⟨b3, 0, none⟩)), (14, .pointer (some ⟨b3, 1, none⟩))]) [0, 3] [0, 2, 4, 6, 7, 11, 14] rfl (by kernel_rfl) ?_
  have h16 := ((h4.keep u10 nm0).keep u14 nm0)
  refine MX.load1 (L' := #[true, true, false, true, false, false, false, false]) 1 (by kernel_rfl) rfl rfl rfl agg31 rfl rfl h16 rfl ?_
  refine MX.load1 (L' := #[true, true, false, true, true, false, false, false]) 4 (by kernel_rfl) rfl rfl rfl agg32 rfl rfl h16 rfl ?_
  refine MX.loud 2 (by kernel_rfl) rfl (fun K17 hK17 => ?_) rfl
  have h18 := (((hE.keep' u5 dis0).keep' u10 dis0).keep' u14 dis0)
  refine WL.call rfl rfl rfl rfl ent56 rfl (cloneEe_own h18 hE1 (by omega)) ?_
  rintro _ w24 ⟨ao19, cp20, rfl, h21, u22, f23⟩
  refine WL.fin (L' := #[true, true, true, true, true, false, false, false]) hK17 (stN (fun q => (q.keep u22 nm0)) (stY (by kernel_rfl) st0)) ?_
  refine MX.loud 5 (by kernel_rfl) rfl (fun K25 hK25 => ?_) rfl
  have h26 := ((((hC.keep' u5 dis0).keep' u10 dis0).keep' u14 dis0).keep' u22 dis0)
  refine WL.call rfl rfl rfl rfl ent57 rfl (cloneCc_own h26 hC1 (by omega)) ?_
  rintro _ w32 ⟨ao27, cp28, rfl, h29, u30, f31⟩
  refine WL.fin (L' := #[true, true, true, true, true, true, false, false]) hK25 (stY (by kernel_rfl) (stN (fun q => (q.keep u30 nm0)) st0)) ?_
  refine MX.build (vs := [(0, .slice ao19 ek cp20), (1, .slice ao27 ck cp28)]) (v := .agg #[.slice ao19 ek cp20, .slice ao27 ck cp28]) (L' := #[true, true, true, true, true, true, true, false]) 6 (by kernel_rfl) rfl rfl rfl rfl rfl (by kernel_rfl) ?_
  refine MX.loud 7 (by kernel_rfl) rfl (fun K33 hK33 => ?_) rfl
  have h34 := ((h16.keep u22 nm0).keep u30 nm0)
  refine WL.storeN rfl siz34 rfl rfl rfl rfl h34 (Nat.le_of_ble_eq_true rfl) ?_
  intro w35 h36 u37 z38
  refine WL.fin (L' := #[true, true, true, true, true, true, true, true]) hK33 (stY (by kernel_rfl) (stY (by kernel_rfl) (stY (by kernel_rfl) st0))) ?_
  refine MX.done (by kernel_rfl) ?_
  refine hK12 _ _ _ ?_
  refine CW.seq fun K39 hK39 => ?_
  refine CW.mixed (by kernel_rfl) ?_
  intro w40 e42 u41
  refine MX.to (f := 8) (L' := #[true, false, false, true, false, true, true, false, false, false, false, false]) (E' := [(4, .pointer (some ⟨b3, 0, none⟩)), (6, .pointer none), (7, .int .i64 0), (18, .slice (some ⟨s0, 0, none⟩) 1 cp0), (21, .int .i64 mx), (24, .int .i64 (if 0 > mx then 0 else mx))]) [0, 3, 5, 6] [4, 6, 7, 18, 21, 24] rfl (by kernel_rfl) ?_
  refine MX.chg 24 (.int .i64 mx) rfl (congrArg (Value.int .i64) (if_neg (by omega))) ?_
  refine MX.to (f := 7) (L' := #[true, false, false, true, false, true, true, true, false, false, false, false]) (E' := [(4, .pointer (some ⟨b3, 0, none⟩)), (6, .pointer none), (7, .int .i64 0), (18, .slice (some ⟨s0, 0, none⟩) 1 cp0), (21, .int .i64 mx), (25, .int .i64 (if 200 < mx then 200 else mx))]) [7] [4, 6, 7, 18, 21, 25] rfl (by kernel_rfl) ?_
  refine MX.chg 25 (.int .i64 mx) rfl (congrArg (Value.int .i64) (if_neg (by omega))) ?_
  have h43 := (h36.keep u41 nm0)
  refine MX.loadN (L' := #[true, false, true, true, false, true, true, true, false, false, false, false]) 2 (by kernel_rfl) rfl rfl rfl agg34 siz34 rfl rfl h43 rfl rfl ?_
  refine MX.loud 1 (by kernel_rfl) rfl (fun K44 hK44 => ?_) rfl
  have h45 := ((((h9.keep u10 nm0).keep u14 nm0).keep u22 nm0).keep u30 nm0)
  have h46 := ((h45.keep u37 (nmc (Blk.ne h45 h34 rfl) nm0)).keep u41 nm0)
  refine WL.call rfl rfl rfl rfl ent58 rfl (cloneF (k := 1) (fs := [.string (⟨#[c]⟩), .int .i64 1]) (rest := rest) (by simpa using h46) rfl (by rfl) (by omega)) ?_
  rintro _ w52 ⟨ao47, cp48, rfl, h49, u50, f51⟩
  refine WL.fin (L' := #[true, true, true, true, false, true, true, true, false, false, false, false]) hK44 (stN (fun q => (q.keep u50 nm0)) st0) ?_
  refine MX.loud 4 (by kernel_rfl) rfl (fun K53 hK53 => ?_) rfl
  refine WL.call rfl rfl rfl rfl ent59 rfl (newstore (mx := mx) (by omega)) ?_
  rintro _ w64 ⟨S54, at55, F56, rfl, h57, h58, h59, g60, g61, g62, u63⟩
  refine WL.fin (L' := #[true, true, true, true, true, true, true, true, false, false, false, false]) hK53 (stN (fun q => (q.keep u63 nm0)) st0) ?_
  refine MX.build (vs := [(0, .slice ao47 1 cp48), (1, .agg #[.slice ao19 ek cp20, .slice ao27 ck cp28]), (2, .pointer (some ⟨S54, 0, none⟩)), (3, .int .i64 mx)]) (v := .agg #[.slice ao47 1 cp48, .slice ao19 ek cp20, .slice ao27 ck cp28, .pointer (some ⟨S54, 0, none⟩), .int .i64 mx, .slice none 0 0, .slice none 0 0]) (L' := #[true, true, true, true, true, true, true, true, true, false, false, false]) 8 (by kernel_rfl) rfl rfl rfl rfl rfl (by kernel_rfl) ?_
  refine MX.loud 9 (by kernel_rfl) rfl (fun K65 hK65 => ?_) rfl
  refine WL.box (cs := [.slice ao47 1 cp48, .slice ao19 ek cp20, .slice ao27 ck cp28, .pointer (some ⟨S54, 0, none⟩), .int .i64 mx, .slice none 0 0, .slice none 0 0]) rfl rfl rfl rfl ?_
  intro w66 b67 h68 u69 g70
  refine WL.fin (L' := #[true, true, true, true, true, true, true, true, true, true, false, false]) hK65 (stY (by kernel_rfl) (stN (fun q => (q.keep u69 nm0)) st0)) ?_
  refine MX.to (f := 0) (L' := #[true, true, true, true, true, true, true, true, true, true, true, true]) (E' := [(6, .pointer (some ⟨b67, 0, none⟩)), (7, .int .i64 0)]) [10, 11] [6, 7] rfl (by kernel_rfl) ?_
  refine MX.done (by kernel_rfl) ?_
  refine hK39 _ _ _ ?_
  have h71 := ((h49.keep' u63 dis0).keep' u69 dis0)
  obtain ⟨g79, rest72, e73, h74, q75, q76, q77, q78⟩ := h71.open2 (by omega)
  subst e73
  have h80 := (h57.keep u69 nm0)
  have h81 := (h58.keep u69 nm0)
  have h82 := (h59.keep u69 nm0)
  refine CW.ret fun a ha => ?_
  try simp (decide := true) only [Exit.inBlock, Exit.then, ↓reduceIte]
  exact fin ha.defers (res_tmp2 rfl ha rfl rfl _) ⟨b67, S54, at55, F56, g79, _, _, _, rest72, rfl, h68, h74, q75, h80, h81, h82, (by have := g70; have := u5.size; have := u10.size; have := u14.size; have := u22.size; have := u30.size; have := u37.size; have := u41.size; have := u50.size; have := u63.size; omega), (by have := f51 g79 rfl; have := u5.size; have := u10.size; have := u14.size; have := u22.size; have := u30.size; have := u37.size; have := u41.size; omega), (by have := g60; have := u5.size; have := u10.size; have := u14.size; have := u22.size; have := u30.size; have := u37.size; have := u41.size; have := u50.size; omega), (by have := g61; have := u5.size; have := u10.size; have := u14.size; have := u22.size; have := u30.size; have := u37.size; have := u41.size; have := u50.size; omega), (by have := g62; have := u5.size; have := u10.size; have := u14.size; have := u22.size; have := u30.size; have := u37.size; have := u41.size; have := u50.size; omega), ((((((((((u5.trans u10).trans u14).trans u22).trans u30).trans u37).trans u41).trans u50).trans u63).trans u69).sub (by intro k hk hl; simp only [Value.ownBlock, Option.toList, List.mem_append, List.mem_cons, List.not_mem_nil, or_false, false_or] at hk; have := g6; have := u5.size; have := u10.size; have := u14.size; have := u22.size; have := u30.size; have := u37.size; have := u41.size; have := u50.size; have := u63.size; have := u69.size; omega))⟩

theorem newtable2o {w : World} {s0 cp0 : Nat} {mx : Int} {rest : List Value}  {eao cao : Option Addr} {ek ecp ck ccp : Nat} {efs cfs : List Value} (hE : Own w (.slice eao ek ecp) 104 1 ek efs) (hC : Own w (.slice cao ck ccp) 107 1 ck cfs) (hE1 : efs.all Value.oneCell' = true) (hC1 : cfs.all Value.oneCell' = true) (hek : ek ≤ 1000) (hck : ck ≤ 1000) (hs : Blk w s0 (.string (⟨#[97]⟩) :: .int .i64 1 :: .string (⟨#[98]⟩) :: .int .i64 1 :: rest) 51) (hcp : 2 ≤ cp0) (hmx : 0 ≤ mx ∧ mx ≤ 200) :
    Ret Tryz.prog 33 #[.slice (some ⟨s0, 0, none⟩) 2 cp0, .agg #[.slice eao ek ecp, .slice cao ck ccp], .int .i64 mx] w fun v w' => ∃ t S sat F sh cps h1 h2 rest', v = .tuple #[.pointer (some ⟨t, 0, none⟩), .int .i64 0] ∧ Blk w' t [.slice (some ⟨sh, 0, none⟩) 2 cps, h1, h2, .pointer (some ⟨S, 0, none⟩), .int .i64 mx, .slice none 0 0, .slice none 0 0] 116 ∧ Blk w' sh (.string (⟨#[97]⟩) :: .int .i64 1 :: .string (⟨#[98]⟩) :: .int .i64 1 :: rest') 51 ∧ 2 ≤ cps ∧ Blk w' S [.slice none 0 0, .map (some sat), .pointer (some ⟨F, 0, none⟩), .int .i64 mx, .int .i64 1, .int .i64 0] 121 ∧ KMap ki w' sat [] ∧ Blk w' F [.slice none 0 0, .func (.func 135) #[] #[]] 246 ∧ w.heap.size ≤ t ∧ w.heap.size ≤ sh ∧ w.heap.size ≤ S ∧ w.heap.size ≤ sat ∧ w.heap.size ≤ F ∧ Only [] w w' := by
  refine enterL (args := [.slice (some ⟨s0, 0, none⟩) 2 cp0, .agg #[.slice eao ek ecp, .slice cao ck ccp], .int .i64 mx]) Tryz.func33 rfl rfl rfl ?_
  refine CW.seq fun K1 hK1 => ?_
  refine CW.region ?_
  refine WL.box (cs := [.slice eao ek ecp, .slice cao ck ccp]) rfl rfl rfl rfl ?_
  intro w2 b3 h4 u5 g6
  refine WL.to (E' := [(0, .slice (some ⟨s0, 0, none⟩) 2 cp0), (2, .int .i64 mx), (4, .pointer (some ⟨b3, 0, none⟩)), (6, .pointer none), (7, .int .i64 0)]) 2 [0, 2, 4, 6, 7] (by kernel_rfl) ?_
  refine WL.nil ?_
  refine hK1 _ _ _ ?_
  refine CW.seq fun K7 hK7 => ?_
  refine CW.seq fun K8 hK8 => ?_
  refine CW.region ?_
  refine WL.to (E' := [(0, .slice (some ⟨s0, 0, none⟩) 2 cp0), (2, .int .i64 mx), (4, .pointer (some ⟨b3, 0, none⟩)), (6, .pointer none), (7, .int .i64 0), (8, .slice (some ⟨s0, 0, none⟩) 2 cp0)]) 1 [0, 2, 4, 6, 7, 8] (by kernel_rfl) ?_
  have h9 := (hs.keep u5 nm0)
  refine WL.call rfl rfl rfl rfl ent55 rfl (shape2 (by omega) h9) ?_
  rintro _ w11 ⟨rfl, u10⟩
  refine WL.to (E' := [(0, .slice (some ⟨s0, 0, none⟩) 2 cp0), (2, .int .i64 mx), (4, .pointer (some ⟨b3, 0, none⟩)), (6, .pointer none), (7, .int .i64 0), (10, .bool false)]) 1 [0, 2, 4, 6, 7, 10] (by kernel_rfl) ?_
  refine WL.nil ?_
  refine hK8 _ _ _ ?_
  refine CW.condF rfl ?_
  refine CW.skip ?_
  refine hK7 _ _ _ ?_
  refine CW.seq fun K12 hK12 => ?_
  refine CW.mixed (by kernel_rfl) ?_
  intro w13 e15 u14
  refine MX.to (f := 6) (L' := #[true, false, false, true, false, false, false, false]) (E' := [(0, .slice (some ⟨s0, 0, none⟩) 2 cp0), (2, .int .i64 mx), (4, .pointer (some ⟨b3, 0, none⟩)), (6, .pointer none), (7, .int .i64 0), (11, .pointer (some ⟨b3, 0, none⟩)), (14, .pointer (some ⟨b3, 1, none⟩))]) [0, 3] [0, 2, 4, 6, 7, 11, 14] rfl (by kernel_rfl) ?_
  have h16 := ((h4.keep u10 nm0).keep u14 nm0)
  refine MX.load1 (L' := #[true, true, false, true, false, false, false, false]) 1 (by kernel_rfl) rfl rfl rfl agg31 rfl rfl h16 rfl ?_
  refine MX.load1 (L' := #[true, true, false, true, true, false, false, false]) 4 (by kernel_rfl) rfl rfl rfl agg32 rfl rfl h16 rfl ?_
  refine MX.loud 2 (by kernel_rfl) rfl (fun K17 hK17 => ?_) rfl
  have h18 := (((hE.keep' u5 dis0).keep' u10 dis0).keep' u14 dis0)
  refine WL.call rfl rfl rfl rfl ent56 rfl (cloneEe_own h18 hE1 (by omega)) ?_
  rintro _ w24 ⟨ao19, cp20, rfl, h21, u22, f23⟩
  refine WL.fin (L' := #[true, true, true, true, true, false, false, false]) hK17 (stN (fun q => (q.keep u22 nm0)) (stY (by kernel_rfl) st0)) ?_
  refine MX.loud 5 (by kernel_rfl) rfl (fun K25 hK25 => ?_) rfl
  have h26 := ((((hC.keep' u5 dis0).keep' u10 dis0).keep' u14 dis0).keep' u22 dis0)
  refine WL.call rfl rfl rfl rfl ent57 rfl (cloneCc_own h26 hC1 (by omega)) ?_
  rintro _ w32 ⟨ao27, cp28, rfl, h29, u30, f31⟩
  refine WL.fin (L' := #[true, true, true, true, true, true, false, false]) hK25 (stY (by kernel_rfl) (stN (fun q => (q.keep u30 nm0)) st0)) ?_
  refine MX.build (vs := [(0, .slice ao19 ek cp20), (1, .slice ao27 ck cp28)]) (v := .agg #[.slice ao19 ek cp20, .slice ao27 ck cp28]) (L' := #[true, true, true, true, true, true, true, false]) 6 (by kernel_rfl) rfl rfl rfl rfl rfl (by kernel_rfl) ?_
  refine MX.loud 7 (by kernel_rfl) rfl (fun K33 hK33 => ?_) rfl
  have h34 := ((h16.keep u22 nm0).keep u30 nm0)
  refine WL.storeN rfl siz34 rfl rfl rfl rfl h34 (Nat.le_of_ble_eq_true rfl) ?_
  intro w35 h36 u37 z38
  refine WL.fin (L' := #[true, true, true, true, true, true, true, true]) hK33 (stY (by kernel_rfl) (stY (by kernel_rfl) (stY (by kernel_rfl) st0))) ?_
  refine MX.done (by kernel_rfl) ?_
  refine hK12 _ _ _ ?_
  refine CW.seq fun K39 hK39 => ?_
  refine CW.mixed (by kernel_rfl) ?_
  intro w40 e42 u41
  refine MX.to (f := 8) (L' := #[true, false, false, true, false, true, true, false, false, false, false, false]) (E' := [(4, .pointer (some ⟨b3, 0, none⟩)), (6, .pointer none), (7, .int .i64 0), (18, .slice (some ⟨s0, 0, none⟩) 2 cp0), (21, .int .i64 mx), (24, .int .i64 (if 0 > mx then 0 else mx))]) [0, 3, 5, 6] [4, 6, 7, 18, 21, 24] rfl (by kernel_rfl) ?_
  refine MX.chg 24 (.int .i64 mx) rfl (congrArg (Value.int .i64) (if_neg (by omega))) ?_
  refine MX.to (f := 7) (L' := #[true, false, false, true, false, true, true, true, false, false, false, false]) (E' := [(4, .pointer (some ⟨b3, 0, none⟩)), (6, .pointer none), (7, .int .i64 0), (18, .slice (some ⟨s0, 0, none⟩) 2 cp0), (21, .int .i64 mx), (25, .int .i64 (if 200 < mx then 200 else mx))]) [7] [4, 6, 7, 18, 21, 25] rfl (by kernel_rfl) ?_
  refine MX.chg 25 (.int .i64 mx) rfl (congrArg (Value.int .i64) (if_neg (by omega))) ?_
  have h43 := (h36.keep u41 nm0)
  refine MX.loadN (L' := #[true, false, true, true, false, true, true, true, false, false, false, false]) 2 (by kernel_rfl) rfl rfl rfl agg34 siz34 rfl rfl h43 rfl rfl ?_
  refine MX.loud 1 (by kernel_rfl) rfl (fun K44 hK44 => ?_) rfl
  have h45 := ((((h9.keep u10 nm0).keep u14 nm0).keep u22 nm0).keep u30 nm0)
  have h46 := ((h45.keep u37 (nmc (Blk.ne h45 h34 rfl) nm0)).keep u41 nm0)
  refine WL.call rfl rfl rfl rfl ent58 rfl (cloneF (k := 2) (fs := [.string (⟨#[97]⟩), .int .i64 1, .string (⟨#[98]⟩), .int .i64 1]) (rest := rest) (by simpa using h46) rfl (by rfl) (by omega)) ?_
  rintro _ w52 ⟨ao47, cp48, rfl, h49, u50, f51⟩
  refine WL.fin (L' := #[true, true, true, true, false, true, true, true, false, false, false, false]) hK44 (stN (fun q => (q.keep u50 nm0)) st0) ?_
  refine MX.loud 4 (by kernel_rfl) rfl (fun K53 hK53 => ?_) rfl
  refine WL.call rfl rfl rfl rfl ent59 rfl (newstore (mx := mx) (by omega)) ?_
  rintro _ w64 ⟨S54, at55, F56, rfl, h57, h58, h59, g60, g61, g62, u63⟩
  refine WL.fin (L' := #[true, true, true, true, true, true, true, true, false, false, false, false]) hK53 (stN (fun q => (q.keep u63 nm0)) st0) ?_
  refine MX.build (vs := [(0, .slice ao47 2 cp48), (1, .agg #[.slice ao19 ek cp20, .slice ao27 ck cp28]), (2, .pointer (some ⟨S54, 0, none⟩)), (3, .int .i64 mx)]) (v := .agg #[.slice ao47 2 cp48, .slice ao19 ek cp20, .slice ao27 ck cp28, .pointer (some ⟨S54, 0, none⟩), .int .i64 mx, .slice none 0 0, .slice none 0 0]) (L' := #[true, true, true, true, true, true, true, true, true, false, false, false]) 8 (by kernel_rfl) rfl rfl rfl rfl rfl (by kernel_rfl) ?_
  refine MX.loud 9 (by kernel_rfl) rfl (fun K65 hK65 => ?_) rfl
  refine WL.box (cs := [.slice ao47 2 cp48, .slice ao19 ek cp20, .slice ao27 ck cp28, .pointer (some ⟨S54, 0, none⟩), .int .i64 mx, .slice none 0 0, .slice none 0 0]) rfl rfl rfl rfl ?_
  intro w66 b67 h68 u69 g70
  refine WL.fin (L' := #[true, true, true, true, true, true, true, true, true, true, false, false]) hK65 (stY (by kernel_rfl) (stN (fun q => (q.keep u69 nm0)) st0)) ?_
  refine MX.to (f := 0) (L' := #[true, true, true, true, true, true, true, true, true, true, true, true]) (E' := [(6, .pointer (some ⟨b67, 0, none⟩)), (7, .int .i64 0)]) [10, 11] [6, 7] rfl (by kernel_rfl) ?_
  refine MX.done (by kernel_rfl) ?_
  refine hK39 _ _ _ ?_
  have h71 := ((h49.keep' u63 dis0).keep' u69 dis0)
  obtain ⟨g79, rest72, e73, h74, q75, q76, q77, q78⟩ := h71.open2 (by omega)
  subst e73
  have h80 := (h57.keep u69 nm0)
  have h81 := (h58.keep u69 nm0)
  have h82 := (h59.keep u69 nm0)
  refine CW.ret fun a ha => ?_
  try simp (decide := true) only [Exit.inBlock, Exit.then, ↓reduceIte]
  exact fin ha.defers (res_tmp2 rfl ha rfl rfl _) ⟨b67, S54, at55, F56, g79, _, _, _, rest72, rfl, h68, h74, q75, h80, h81, h82, (by have := g70; have := u5.size; have := u10.size; have := u14.size; have := u22.size; have := u30.size; have := u37.size; have := u41.size; have := u50.size; have := u63.size; omega), (by have := f51 g79 rfl; have := u5.size; have := u10.size; have := u14.size; have := u22.size; have := u30.size; have := u37.size; have := u41.size; omega), (by have := g60; have := u5.size; have := u10.size; have := u14.size; have := u22.size; have := u30.size; have := u37.size; have := u41.size; have := u50.size; omega), (by have := g61; have := u5.size; have := u10.size; have := u14.size; have := u22.size; have := u30.size; have := u37.size; have := u41.size; have := u50.size; omega), (by have := g62; have := u5.size; have := u10.size; have := u14.size; have := u22.size; have := u30.size; have := u37.size; have := u41.size; have := u50.size; omega), ((((((((((u5.trans u10).trans u14).trans u22).trans u30).trans u37).trans u41).trans u50).trans u63).trans u69).sub (by intro k hk hl; simp only [Value.ownBlock, Option.toList, List.mem_append, List.mem_cons, List.not_mem_nil, or_false, false_or] at hk; have := g6; have := u5.size; have := u10.size; have := u14.size; have := u22.size; have := u30.size; have := u37.size; have := u41.size; have := u50.size; have := u63.size; have := u69.size; omega))⟩

theorem mnamed_of {w : World} {c : UInt8} (hc : 97 ≤ c.toNat ∧ c.toNat ≤ 122) :
    Ret Tryz.prog 32 #[.string (⟨#[c]⟩)] w fun v w' => v = .bool true ∧ Only [] w w' := by
  refine enterL (args := [.string (⟨#[c]⟩)]) Tryz.func32 rfl rfl rfl ?_
  refine CW.seq fun K1 hK1 => ?_
  refine CW.region ?_
  refine WL.to (E' := [(0, .string (⟨#[c]⟩)), (2, .bool false)]) 1 [0, 2] (by kernel_rfl) ?_
  refine WL.nil ?_
  refine hK1 _ _ _ ?_
  refine CW.seq fun K2 hK2 => ?_
  refine CW.region ?_
  refine WL.to (E' := [(2, .bool false), (3, .string (⟨#[c]⟩))]) 1 [2, 3] (by kernel_rfl) ?_
  refine WL.build (vs := [(0, .string (⟨#[c]⟩)), (1, .int .i64 1)]) (v := .agg #[.string (⟨#[c]⟩), .int .i64 1]) rfl rfl rfl (by kernel_rfl) ?_
  refine WL.buildSlice (vs := [(0, .agg #[.string (⟨#[c]⟩), .int .i64 1])]) (cs := [.string (⟨#[c]⟩), .int .i64 1]) rfl rfl Tryz.underlying29 rfl (by kernel_rfl) ?_
  intro w3 b4 h5 u6 g7
  refine WL.call rfl rfl rfl rfl ent55 rfl (shape1 (c := c) hc (by decide) h5) ?_
  rintro _ w9 ⟨rfl, u8⟩
  refine WL.to (E' := [(2, .bool true)]) 1 [2] (by kernel_rfl) ?_
  refine WL.nil ?_
  refine hK2 _ _ _ ?_
  refine CW.ret fun a ha => ?_
  try simp (decide := true) only [Exit.inBlock, Exit.then, ↓reduceIte]
  exact fin ha.defers (res_tmp rfl ha rfl _) ⟨rfl, ((u6.trans u8).sub (by simp))⟩
end Go.K

namespace Go.K
open Go.Proofs
set_option maxRecDepth 8000
set_option maxHeartbeats 1000000
set_option linter.unusedSimpArgs false
set_option linter.unusedVariables false
theorem table1_1o {w : World} {m_ pl lg wt : Nat} {plm : List (ByteArray × Value)} {mx : Int} {nc : UInt8} (hnc : 97 ≤ nc.toNat ∧ nc.toNat ≤ 122) (hm_ : Blk w m_ [.map (some pl), .pointer (some ⟨lg, 0, none⟩), .slice none 0 0, .pointer (some ⟨wt, 0, none⟩), .bool true] 75) (hpl : KMap ks w pl plm) (hlk : look plm ⟨#[nc]⟩ = none) (hfew : plm.length < 4) (hmx : 0 ≤ mx ∧ mx ≤ 200) {s0 cp0 : Nat} {rest : List Value} {c : UInt8} (hc : 97 ≤ c.toNat ∧ c.toNat ≤ 122) {eao cao : Option Addr} {ek ecp ck ccp : Nat} {efs cfs : List Value} (hE : Own w (.slice eao ek ecp) 104 1 ek efs) (hC : Own w (.slice cao ck ccp) 107 1 ck cfs) (hE1 : efs.all Value.oneCell' = true) (hC1 : cfs.all Value.oneCell' = true) (hek : ek ≤ 1000) (hck : ck ≤ 1000) (hs : Blk w s0 (.string (⟨#[c]⟩) :: .int .i64 1 :: rest) 51) (hcp : 1 ≤ cp0) {bm bnm bsh bhk bmx : Nat} (hbm : Blk w bm [.pointer (some ⟨m_, 0, none⟩)] 24) (hbnm : Blk w bnm [.string (⟨#[nc]⟩)] 9) (hbsh : Blk w bsh [.slice (some ⟨s0, 0, none⟩) 1 cp0] 29) (hbhk : Blk w bhk [.slice eao ek ecp, .slice cao ck ccp] 34) (hbmx : Blk w bmx [.int .i64 mx] 3) :
    Ret Tryz.prog 31 #[.pointer (some ⟨bm, 0, none⟩), .pointer (some ⟨bnm, 0, none⟩), .pointer (some ⟨bsh, 0, none⟩), .pointer (some ⟨bhk, 0, none⟩), .pointer (some ⟨bmx, 0, none⟩)] w fun v w' => v = .nilIface ∧ ∃ p hub base t S sat F sh cps h1 h2 rest', Blk w' p [.pointer (some ⟨t, 0, none⟩), .pointer (some ⟨hub, 0, none⟩), .map (some base)] 87 ∧ Blk w' hub [.slice none 0 0] 137 ∧ KMap ki w' base [] ∧ Blk w' t [.slice (some ⟨sh, 0, none⟩) 1 cps, h1, h2, .pointer (some ⟨S, 0, none⟩), .int .i64 mx, .slice none 0 0, .slice none 0 0] 116 ∧ Blk w' sh (.string (⟨#[c]⟩) :: .int .i64 1 :: rest') 51 ∧ 1 ≤ cps ∧ Blk w' S [.slice none 0 0, .map (some sat), .pointer (some ⟨F, 0, none⟩), .int .i64 mx, .int .i64 1, .int .i64 0] 121 ∧ KMap ki w' sat [] ∧ Blk w' F [.slice none 0 0, .func (.func 135) #[] #[]] 246 ∧ (w.heap.size ≤ p ∧ w.heap.size ≤ hub ∧ w.heap.size ≤ base ∧ w.heap.size ≤ t ∧ w.heap.size ≤ sh ∧ w.heap.size ≤ S ∧ w.heap.size ≤ sat ∧ w.heap.size ≤ F) ∧ sat ≠ base ∧ KMap ks w' pl (plm ++ [(⟨#[nc]⟩, .pointer (some ⟨p, 0, none⟩))]) ∧ Blk w' m_ [.map (some pl), .pointer (some ⟨lg, 0, none⟩), .slice none 0 0, .pointer (some ⟨wt, 0, none⟩), .bool true] 75 ∧ Only [pl] w w' := by
  refine enterL (args := [.pointer (some ⟨bm, 0, none⟩), .pointer (some ⟨bnm, 0, none⟩), .pointer (some ⟨bsh, 0, none⟩), .pointer (some ⟨bhk, 0, none⟩), .pointer (some ⟨bmx, 0, none⟩)]) Tryz.func31 rfl rfl rfl ?_
  refine CW.seq fun K1 hK1 => ?_
  refine CW.region ?_
  refine WL.to (E' := [(0, .pointer (some ⟨bm, 0, none⟩)), (1, .pointer (some ⟨bnm, 0, none⟩)), (2, .pointer (some ⟨bsh, 0, none⟩)), (3, .pointer (some ⟨bhk, 0, none⟩)), (4, .pointer (some ⟨bmx, 0, none⟩)), (5, .nilIface)]) 1 [0, 1, 2, 3, 4, 5] (by kernel_rfl) ?_
  refine WL.nil ?_
  refine hK1 _ _ _ ?_
  refine CW.seq fun K2 hK2 => ?_
  refine CW.still (by kernel_rfl) (by kernel_rfl) ?_
  intro w3 e5 u4
  have h6 := (hbm.keep u4 nm0)
  refine ST.load1 rfl agg24 rfl rfl h6 rfl ?_
  refine ST.to (E' := [(0, .pointer (some ⟨bm, 0, none⟩)), (1, .pointer (some ⟨bnm, 0, none⟩)), (2, .pointer (some ⟨bsh, 0, none⟩)), (3, .pointer (some ⟨bhk, 0, none⟩)), (4, .pointer (some ⟨bmx, 0, none⟩)), (5, .nilIface), (13, .pointer (some ⟨m_, 0, none⟩))]) 2 [0, 1, 2, 3, 4, 5, 13] (by kernel_rfl) ?_
  have h7 := (hm_.keep u4 nm0)
  refine ST.load1 rfl agg69 rfl rfl h7 rfl ?_
  have h8 := (hbnm.keep u4 nm0)
  refine ST.load1 rfl agg9 rfl rfl h8 rfl ?_
  have h9 := (hpl.keep u4 nm0)
  refine ST.lookB (κ := ks) (a := ⟨#[nc]⟩) true rfl rfl law_s Tryz.underlying69 Tryz.underlying9 zer77 rfl rfl h9 ?_
  refine ST.chg 16 (.tuple #[.pointer none, .bool false]) rfl (by rw [(hlk : look plm (⟨#[nc]⟩) = none)]; rfl) ?_
  refine ST.to (E' := [(0, .pointer (some ⟨bm, 0, none⟩)), (1, .pointer (some ⟨bnm, 0, none⟩)), (2, .pointer (some ⟨bsh, 0, none⟩)), (3, .pointer (some ⟨bhk, 0, none⟩)), (4, .pointer (some ⟨bmx, 0, none⟩)), (5, .nilIface), (7, .bool false)]) 5 [0, 1, 2, 3, 4, 5, 7] (by kernel_rfl) ?_
  refine ST.nil ?_
  refine hK2 _ _ _ ?_
  refine CW.seq fun K10 hK10 => ?_
  refine CW.block ?_
  refine CW.seq fun K11 hK11 => ?_
  refine CW.region ?_
  refine WL.load1 rfl agg24 rfl rfl h6 rfl ?_
  refine WL.callQ (v := .int .i64 0) rfl rfl rfl rfl ent26 rfl (depth_of h7) ?_
  refine WL.to (E' := [(0, .pointer (some ⟨bm, 0, none⟩)), (1, .pointer (some ⟨bnm, 0, none⟩)), (2, .pointer (some ⟨bsh, 0, none⟩)), (3, .pointer (some ⟨bhk, 0, none⟩)), (4, .pointer (some ⟨bmx, 0, none⟩)), (5, .nilIface), (7, .bool false), (19, .bool false)]) 2 [0, 1, 2, 3, 4, 5, 7, 19] (by kernel_rfl) ?_
  refine WL.nil ?_
  refine hK11 _ _ _ ?_
  refine CW.condF rfl ?_
  refine CW.seq fun K12 hK12 => ?_
  refine CW.seq fun K13 hK13 => ?_
  refine CW.region ?_
  refine WL.load1 rfl agg9 rfl rfl h8 rfl ?_
  refine WL.call rfl rfl rfl rfl ent32 rfl (mnamed_of (c := nc) hnc) ?_
  rintro _ w15 ⟨rfl, u14⟩
  refine WL.to (E' := [(0, .pointer (some ⟨bm, 0, none⟩)), (1, .pointer (some ⟨bnm, 0, none⟩)), (2, .pointer (some ⟨bsh, 0, none⟩)), (3, .pointer (some ⟨bhk, 0, none⟩)), (4, .pointer (some ⟨bmx, 0, none⟩)), (5, .nilIface), (7, .bool false), (24, .bool false)]) 2 [0, 1, 2, 3, 4, 5, 7, 24] (by kernel_rfl) ?_
  refine WL.nil ?_
  refine hK13 _ _ _ ?_
  refine CW.condF rfl ?_
  refine CW.seq fun K16 hK16 => ?_
  refine CW.region ?_
  refine WL.to (E' := [(0, .pointer (some ⟨bm, 0, none⟩)), (1, .pointer (some ⟨bnm, 0, none⟩)), (2, .pointer (some ⟨bsh, 0, none⟩)), (3, .pointer (some ⟨bhk, 0, none⟩)), (4, .pointer (some ⟨bmx, 0, none⟩)), (5, .nilIface), (24, .bool false)]) 2 [0, 1, 2, 3, 4, 5, 24] (by kernel_rfl) ?_
  refine WL.nil ?_
  refine hK16 _ _ _ ?_
  refine CW.condF rfl ?_
  refine CW.region ?_
  have h17 := (h6.keep u14 nm0)
  refine WL.load1 rfl agg24 rfl rfl h17 rfl ?_
  refine WL.to (E' := [(0, .pointer (some ⟨bm, 0, none⟩)), (1, .pointer (some ⟨bnm, 0, none⟩)), (2, .pointer (some ⟨bsh, 0, none⟩)), (3, .pointer (some ⟨bhk, 0, none⟩)), (4, .pointer (some ⟨bmx, 0, none⟩)), (5, .nilIface), (24, .bool false), (31, .pointer (some ⟨m_, 0, none⟩))]) 2 [0, 1, 2, 3, 4, 5, 24, 31] (by kernel_rfl) ?_
  have h18 := (h7.keep u14 nm0)
  refine WL.load1 rfl agg69 rfl rfl h18 rfl ?_
  have h19 := (h9.keep u14 nm0)
  refine WL.lenMap ks rfl rfl Tryz.underlying69 rfl h19 ?_
  refine WL.to (E' := [(0, .pointer (some ⟨bm, 0, none⟩)), (1, .pointer (some ⟨bnm, 0, none⟩)), (2, .pointer (some ⟨bsh, 0, none⟩)), (3, .pointer (some ⟨bhk, 0, none⟩)), (4, .pointer (some ⟨bmx, 0, none⟩)), (5, .nilIface), (24, .bool (decide (((plm.length : Nat) : Int) ≥ 4)))]) 2 [0, 1, 2, 3, 4, 5, 24] (by kernel_rfl) ?_
  refine WL.nil ?_
  refine hK12 _ _ _ ?_
  refine CW.no rfl (decide_eq_false (by omega)) ?_
  refine CW.skip ?_
  refine hK10 _ _ _ ?_
  refine CW.seq fun K20 hK20 => ?_
  refine CW.region ?_
  have h21 := ((hbsh.keep u4 nm0).keep u14 nm0)
  refine WL.load1 rfl agg29 rfl rfl h21 rfl ?_
  have h22 := ((hbhk.keep u4 nm0).keep u14 nm0)
  refine WL.loadN rfl agg34 siz34 rfl rfl h22 rfl rfl ?_
  have h23 := ((hbmx.keep u4 nm0).keep u14 nm0)
  refine WL.load1 rfl agg3 rfl rfl h23 rfl ?_
  have h24 := ((hE.keep' u4 dis0).keep' u14 dis0)
  have h25 := ((hC.keep' u4 dis0).keep' u14 dis0)
  have h48 := ((hs.keep u4 nm0).keep u14 nm0)
  refine WL.call rfl rfl rfl rfl ent33 rfl (newtable1o hc h24 h25 hE1 hC1 (by omega) (by omega) h48 (by omega) (by omega)) ?_
  rintro _ w47 ⟨t26, S27, at28, F29, g30, cp31, v32, v33, rest34, rfl, h35, h36, q37, h38, h39, h40, g41, g42, g43, g44, g45, u46⟩
  refine WL.to (E' := [(0, .pointer (some ⟨bm, 0, none⟩)), (1, .pointer (some ⟨bnm, 0, none⟩)), (5, .nilIface), (8, .pointer (some ⟨t26, 0, none⟩)), (9, .int .i64 0)]) 5 [0, 1, 5, 8, 9] (by kernel_rfl) ?_
  refine WL.nil ?_
  refine hK20 _ _ _ ?_
  refine CW.seq fun K49 hK49 => ?_
  refine CW.seq fun K50 hK50 => ?_
  refine CW.region ?_
  refine WL.to (E' := [(0, .pointer (some ⟨bm, 0, none⟩)), (1, .pointer (some ⟨bnm, 0, none⟩)), (5, .nilIface), (8, .pointer (some ⟨t26, 0, none⟩)), (9, .int .i64 0), (44, .bool false)]) 2 [0, 1, 5, 8, 9, 44] (by kernel_rfl) ?_
  refine WL.nil ?_
  refine hK50 _ _ _ ?_
  refine CW.condF rfl ?_
  refine CW.skip ?_
  refine hK49 _ _ _ ?_
  refine CW.seq fun K51 hK51 => ?_
  refine CW.mixed (by kernel_rfl) ?_
  intro w52 e54 u53
  refine MX.to (f := 10) (L' := #[false, false, false, false, false, true, false, false, false, false, false]) (E' := [(0, .pointer (some ⟨bm, 0, none⟩)), (1, .pointer (some ⟨bnm, 0, none⟩)), (5, .nilIface), (52, .pointer (some ⟨t26, 0, none⟩))]) [5] [0, 1, 5, 52] rfl (by kernel_rfl) ?_
  have h55 := ((h17.keep u46 nm0).keep u53 nm0)
  refine MX.load1 (L' := #[true, false, false, false, false, true, false, false, false, false, false]) 0 (by kernel_rfl) rfl rfl rfl agg24 rfl rfl h55 rfl ?_
  refine MX.to (f := 7) (L' := #[true, true, true, false, false, true, false, false, false, false, false]) (E' := [(1, .pointer (some ⟨bnm, 0, none⟩)), (5, .nilIface), (52, .pointer (some ⟨t26, 0, none⟩)), (49, .pointer (some ⟨m_, 0, none⟩))]) [1, 2] [1, 5, 52, 49] rfl (by kernel_rfl) ?_
  have h56 := ((h18.keep u46 nm0).keep u53 nm0)
  refine MX.load1 (L' := #[true, true, true, true, false, true, false, false, false, false, false]) 3 (by kernel_rfl) rfl rfl rfl agg69 rfl rfl h56 rfl ?_
  have h57 := (((h8.keep u14 nm0).keep u46 nm0).keep u53 nm0)
  refine MX.load1 (L' := #[true, true, true, true, true, true, false, false, false, false, false]) 4 (by kernel_rfl) rfl rfl rfl agg9 rfl rfl h57 rfl ?_
  refine MX.loud2 6 7 (by kernel_rfl) rfl rfl rfl rfl (fun K58 hK58 => ?_) (fun K58 hK58 => ?_)
  · skip
    refine WL.call rfl rfl rfl rfl ent34 rfl (newhub) ?_
    rintro _ w63 ⟨b59, rfl, h60, u61, g62⟩
    refine WL.fin (L' := #[true, true, true, true, true, true, true, false, false, false, false]) hK58 (stN (fun q => (q.keep u61 nm0)) (stN (fun q => (q.keep u61 nm0)) (stN (fun q => (q.keep u61 nm0)) st0))) ?_
    refine MX.loud 7 (by kernel_rfl) rfl (fun K64 hK64 => ?_) rfl
    refine WL.makeMap rfl rfl ?_
    intro w65 m66 h67 u68 g69
    replace h67 := KMap.new (κ := ki) h67
    refine WL.fin (L' := #[true, true, true, true, true, true, true, true, false, false, false]) hK64 (stN (fun q => (q.keep u68 nm0)) (stN (fun q => (q.keep u68 nm0)) (stN (fun q => (q.keep u68 nm0)) st0))) ?_
    refine MX.build (vs := [(0, .pointer (some ⟨t26, 0, none⟩)), (1, .pointer (some ⟨b59, 0, none⟩)), (2, .map (some m66))]) (v := .agg #[.pointer (some ⟨t26, 0, none⟩), .pointer (some ⟨b59, 0, none⟩), .map (some m66)]) (L' := #[true, true, true, true, true, true, true, true, true, false, false]) 8 (by kernel_rfl) rfl rfl rfl rfl rfl (by kernel_rfl) ?_
    refine MX.loud 9 (by kernel_rfl) rfl (fun K70 hK70 => ?_) rfl
    refine WL.box (cs := [.pointer (some ⟨t26, 0, none⟩), .pointer (some ⟨b59, 0, none⟩), .map (some m66)]) rfl rfl rfl rfl ?_
    intro w71 b72 h73 u74 g75
    refine WL.fin (L' := #[true, true, true, true, true, true, true, true, true, true, false]) hK70 (stY (by kernel_rfl) (stN (fun q => (q.keep u74 nm0)) (stN (fun q => (q.keep u74 nm0)) (stN (fun q => (q.keep u74 nm0)) st0)))) ?_
    refine MX.loud 10 (by kernel_rfl) rfl (fun K76 hK76 => ?_) rfl
    have h77 := (((((h19.keep u46 nm0).keep u53 nm0).keep u61 nm0).keep u68 nm0).keep u74 nm0)
    refine WL.putNew (κ := ks) (a := ⟨#[nc]⟩) rfl law_s Tryz.underlying69 Tryz.underlying9 rfl rfl rfl h77 (hlk) ?_
    intro w78 h79 u80 z81
    refine WL.fin (L' := #[true, true, true, true, true, true, true, true, true, true, true]) hK76 (stY (by kernel_rfl) (stY (by kernel_rfl) (stY (by kernel_rfl) (stY (by kernel_rfl) st0)))) ?_
    refine MX.done (by kernel_rfl) ?_
    refine hK51 _ _ _ ?_
    refine CW.seq fun K82 hK82 => ?_
    refine CW.region ?_
    refine WL.to (E' := [(5, .nilIface)]) 1 [5] (by kernel_rfl) ?_
    refine WL.nil ?_
    refine hK82 _ _ _ ?_
    have h83 := (h73.keep u80 (nmc (Blk.neK h73 h77) nm0))
    have h84 := ((h60.keep u68 nm0).keep u74 nm0)
    have h85 := (h84.keep u80 (nmc (Blk.neK h84 h77) nm0))
    have h86 := (h67.keep u74 nm0)
    have h87 := (h86.keep u80 (nmc (Ne.symm (by have := hpl.lt; have := g69; have := u4.size; have := u14.size; have := u46.size; have := u53.size; have := u61.size; omega)) nm0))
    have h88 := ((((h35.keep u53 nm0).keep u61 nm0).keep u68 nm0).keep u74 nm0)
    have h89 := (h88.keep u80 (nmc (Blk.neK h88 h77) nm0))
    have h90 := ((((h36.keep u53 nm0).keep u61 nm0).keep u68 nm0).keep u74 nm0)
    have h91 := (h90.keep u80 (nmc (Blk.neK h90 h77) nm0))
    have h92 := ((((h38.keep u53 nm0).keep u61 nm0).keep u68 nm0).keep u74 nm0)
    have h93 := (h92.keep u80 (nmc (Blk.neK h92 h77) nm0))
    have h94 := ((((h39.keep u53 nm0).keep u61 nm0).keep u68 nm0).keep u74 nm0)
    have h95 := (h94.keep u80 (nmc (Ne.symm (by have := hpl.lt; have := g44; have := u4.size; have := u14.size; omega)) nm0))
    have h96 := ((((h40.keep u53 nm0).keep u61 nm0).keep u68 nm0).keep u74 nm0)
    have h97 := (h96.keep u80 (nmc (Blk.neK h96 h77) nm0))
    have h98 := (((h56.keep u61 nm0).keep u68 nm0).keep u74 nm0)
    have h99 := (h98.keep u80 (nmc (Blk.neK h98 h77) nm0))
    refine CW.ret fun a ha => ?_
    try simp (decide := true) only [Exit.inBlock, Exit.then, ↓reduceIte]
    exact fin ha.defers (res_tmp rfl ha rfl _) ⟨rfl, b72, b59, m66, t26, S27, at28, F29, g30, cp31, v32, v33, rest34, h83, h85, h87, h89, h91, q37, h93, h95, h97, ⟨(by have := g75; have := u4.size; have := u14.size; have := u46.size; have := u53.size; have := u61.size; have := u68.size; omega), (by have := g62; have := u4.size; have := u14.size; have := u46.size; have := u53.size; omega), (by have := g69; have := u4.size; have := u14.size; have := u46.size; have := u53.size; have := u61.size; omega), (by have := g41; have := u4.size; have := u14.size; omega), (by have := g42; have := u4.size; have := u14.size; omega), (by have := g43; have := u4.size; have := u14.size; omega), (by have := g44; have := u4.size; have := u14.size; omega), (by have := g45; have := u4.size; have := u14.size; omega)⟩, (by have := h39.lt; have := g69; have := u53.size; have := u61.size; omega), h79, h99, ((((((((u4.trans u14).trans u46).trans u53).trans u61).trans u68).trans u74).trans u80).sub (by intro k hk hl; simp only [Value.ownBlock, Option.toList, List.mem_append, List.mem_cons, List.not_mem_nil, or_false, false_or] at hk ⊢; have := u4.size; have := u14.size; have := u46.size; have := u53.size; have := u61.size; have := u68.size; have := u74.size; have := u80.size; omega))⟩
  · skip
    refine WL.makeMap rfl rfl ?_
    intro w100 m101 h102 u103 g104
    replace h102 := KMap.new (κ := ki) h102
    refine WL.fin (L' := #[true, true, true, true, true, true, false, true, false, false, false]) hK58 (stN (fun q => (q.keep u103 nm0)) (stN (fun q => (q.keep u103 nm0)) (stN (fun q => (q.keep u103 nm0)) st0))) ?_
    refine MX.loud 6 (by kernel_rfl) rfl (fun K105 hK105 => ?_) rfl
    refine WL.call rfl rfl rfl rfl ent34 rfl (newhub) ?_
    rintro _ w110 ⟨b106, rfl, h107, u108, g109⟩
    refine WL.fin (L' := #[true, true, true, true, true, true, true, true, false, false, false]) hK105 (stN (fun q => (q.keep u108 nm0)) (stN (fun q => (q.keep u108 nm0)) (stN (fun q => (q.keep u108 nm0)) st0))) ?_
    refine MX.build (vs := [(0, .pointer (some ⟨t26, 0, none⟩)), (1, .pointer (some ⟨b106, 0, none⟩)), (2, .map (some m101))]) (v := .agg #[.pointer (some ⟨t26, 0, none⟩), .pointer (some ⟨b106, 0, none⟩), .map (some m101)]) (L' := #[true, true, true, true, true, true, true, true, true, false, false]) 8 (by kernel_rfl) rfl rfl rfl rfl rfl (by kernel_rfl) ?_
    refine MX.loud 9 (by kernel_rfl) rfl (fun K111 hK111 => ?_) rfl
    refine WL.box (cs := [.pointer (some ⟨t26, 0, none⟩), .pointer (some ⟨b106, 0, none⟩), .map (some m101)]) rfl rfl rfl rfl ?_
    intro w112 b113 h114 u115 g116
    refine WL.fin (L' := #[true, true, true, true, true, true, true, true, true, true, false]) hK111 (stY (by kernel_rfl) (stN (fun q => (q.keep u115 nm0)) (stN (fun q => (q.keep u115 nm0)) (stN (fun q => (q.keep u115 nm0)) st0)))) ?_
    refine MX.loud 10 (by kernel_rfl) rfl (fun K117 hK117 => ?_) rfl
    have h118 := (((((h19.keep u46 nm0).keep u53 nm0).keep u103 nm0).keep u108 nm0).keep u115 nm0)
    refine WL.putNew (κ := ks) (a := ⟨#[nc]⟩) rfl law_s Tryz.underlying69 Tryz.underlying9 rfl rfl rfl h118 (hlk) ?_
    intro w119 h120 u121 z122
    refine WL.fin (L' := #[true, true, true, true, true, true, true, true, true, true, true]) hK117 (stY (by kernel_rfl) (stY (by kernel_rfl) (stY (by kernel_rfl) (stY (by kernel_rfl) st0)))) ?_
    refine MX.done (by kernel_rfl) ?_
    refine hK51 _ _ _ ?_
    refine CW.seq fun K123 hK123 => ?_
    refine CW.region ?_
    refine WL.to (E' := [(5, .nilIface)]) 1 [5] (by kernel_rfl) ?_
    refine WL.nil ?_
    refine hK123 _ _ _ ?_
    have h124 := (h114.keep u121 (nmc (Blk.neK h114 h118) nm0))
    have h125 := (h107.keep u115 nm0)
    have h126 := (h125.keep u121 (nmc (Blk.neK h125 h118) nm0))
    have h127 := ((h102.keep u108 nm0).keep u115 nm0)
    have h128 := (h127.keep u121 (nmc (Ne.symm (by have := hpl.lt; have := g104; have := u4.size; have := u14.size; have := u46.size; have := u53.size; omega)) nm0))
    have h129 := ((((h35.keep u53 nm0).keep u103 nm0).keep u108 nm0).keep u115 nm0)
    have h130 := (h129.keep u121 (nmc (Blk.neK h129 h118) nm0))
    have h131 := ((((h36.keep u53 nm0).keep u103 nm0).keep u108 nm0).keep u115 nm0)
    have h132 := (h131.keep u121 (nmc (Blk.neK h131 h118) nm0))
    have h133 := ((((h38.keep u53 nm0).keep u103 nm0).keep u108 nm0).keep u115 nm0)
    have h134 := (h133.keep u121 (nmc (Blk.neK h133 h118) nm0))
    have h135 := ((((h39.keep u53 nm0).keep u103 nm0).keep u108 nm0).keep u115 nm0)
    have h136 := (h135.keep u121 (nmc (Ne.symm (by have := hpl.lt; have := g44; have := u4.size; have := u14.size; omega)) nm0))
    have h137 := ((((h40.keep u53 nm0).keep u103 nm0).keep u108 nm0).keep u115 nm0)
    have h138 := (h137.keep u121 (nmc (Blk.neK h137 h118) nm0))
    have h139 := (((h56.keep u103 nm0).keep u108 nm0).keep u115 nm0)
    have h140 := (h139.keep u121 (nmc (Blk.neK h139 h118) nm0))
    refine CW.ret fun a ha => ?_
    try simp (decide := true) only [Exit.inBlock, Exit.then, ↓reduceIte]
    exact fin ha.defers (res_tmp rfl ha rfl _) ⟨rfl, b113, b106, m101, t26, S27, at28, F29, g30, cp31, v32, v33, rest34, h124, h126, h128, h130, h132, q37, h134, h136, h138, ⟨(by have := g116; have := u4.size; have := u14.size; have := u46.size; have := u53.size; have := u103.size; have := u108.size; omega), (by have := g109; have := u4.size; have := u14.size; have := u46.size; have := u53.size; have := u103.size; omega), (by have := g104; have := u4.size; have := u14.size; have := u46.size; have := u53.size; omega), (by have := g41; have := u4.size; have := u14.size; omega), (by have := g42; have := u4.size; have := u14.size; omega), (by have := g43; have := u4.size; have := u14.size; omega), (by have := g44; have := u4.size; have := u14.size; omega), (by have := g45; have := u4.size; have := u14.size; omega)⟩, (by have := h39.lt; have := g104; have := u53.size; omega), h120, h140, ((((((((u4.trans u14).trans u46).trans u53).trans u103).trans u108).trans u115).trans u121).sub (by intro k hk hl; simp only [Value.ownBlock, Option.toList, List.mem_append, List.mem_cons, List.not_mem_nil, or_false, false_or] at hk ⊢; have := u4.size; have := u14.size; have := u46.size; have := u53.size; have := u103.size; have := u108.size; have := u115.size; have := u121.size; omega))⟩

theorem table1_2o {w : World} {m_ pl lg wt : Nat} {plm : List (ByteArray × Value)} {mx : Int} {nc : UInt8} (hnc : 97 ≤ nc.toNat ∧ nc.toNat ≤ 122) (hm_ : Blk w m_ [.map (some pl), .pointer (some ⟨lg, 0, none⟩), .slice none 0 0, .pointer (some ⟨wt, 0, none⟩), .bool true] 75) (hpl : KMap ks w pl plm) (hlk : look plm ⟨#[nc]⟩ = none) (hfew : plm.length < 4) (hmx : 0 ≤ mx ∧ mx ≤ 200) {s0 cp0 : Nat} {rest : List Value}  {eao cao : Option Addr} {ek ecp ck ccp : Nat} {efs cfs : List Value} (hE : Own w (.slice eao ek ecp) 104 1 ek efs) (hC : Own w (.slice cao ck ccp) 107 1 ck cfs) (hE1 : efs.all Value.oneCell' = true) (hC1 : cfs.all Value.oneCell' = true) (hek : ek ≤ 1000) (hck : ck ≤ 1000) (hs : Blk w s0 (.string (⟨#[97]⟩) :: .int .i64 1 :: .string (⟨#[98]⟩) :: .int .i64 1 :: rest) 51) (hcp : 2 ≤ cp0) {bm bnm bsh bhk bmx : Nat} (hbm : Blk w bm [.pointer (some ⟨m_, 0, none⟩)] 24) (hbnm : Blk w bnm [.string (⟨#[nc]⟩)] 9) (hbsh : Blk w bsh [.slice (some ⟨s0, 0, none⟩) 2 cp0] 29) (hbhk : Blk w bhk [.slice eao ek ecp, .slice cao ck ccp] 34) (hbmx : Blk w bmx [.int .i64 mx] 3) :
    Ret Tryz.prog 31 #[.pointer (some ⟨bm, 0, none⟩), .pointer (some ⟨bnm, 0, none⟩), .pointer (some ⟨bsh, 0, none⟩), .pointer (some ⟨bhk, 0, none⟩), .pointer (some ⟨bmx, 0, none⟩)] w fun v w' => v = .nilIface ∧ ∃ p hub base t S sat F sh cps h1 h2 rest', Blk w' p [.pointer (some ⟨t, 0, none⟩), .pointer (some ⟨hub, 0, none⟩), .map (some base)] 87 ∧ Blk w' hub [.slice none 0 0] 137 ∧ KMap ki w' base [] ∧ Blk w' t [.slice (some ⟨sh, 0, none⟩) 2 cps, h1, h2, .pointer (some ⟨S, 0, none⟩), .int .i64 mx, .slice none 0 0, .slice none 0 0] 116 ∧ Blk w' sh (.string (⟨#[97]⟩) :: .int .i64 1 :: .string (⟨#[98]⟩) :: .int .i64 1 :: rest') 51 ∧ 2 ≤ cps ∧ Blk w' S [.slice none 0 0, .map (some sat), .pointer (some ⟨F, 0, none⟩), .int .i64 mx, .int .i64 1, .int .i64 0] 121 ∧ KMap ki w' sat [] ∧ Blk w' F [.slice none 0 0, .func (.func 135) #[] #[]] 246 ∧ (w.heap.size ≤ p ∧ w.heap.size ≤ hub ∧ w.heap.size ≤ base ∧ w.heap.size ≤ t ∧ w.heap.size ≤ sh ∧ w.heap.size ≤ S ∧ w.heap.size ≤ sat ∧ w.heap.size ≤ F) ∧ sat ≠ base ∧ KMap ks w' pl (plm ++ [(⟨#[nc]⟩, .pointer (some ⟨p, 0, none⟩))]) ∧ Blk w' m_ [.map (some pl), .pointer (some ⟨lg, 0, none⟩), .slice none 0 0, .pointer (some ⟨wt, 0, none⟩), .bool true] 75 ∧ Only [pl] w w' := by
  refine enterL (args := [.pointer (some ⟨bm, 0, none⟩), .pointer (some ⟨bnm, 0, none⟩), .pointer (some ⟨bsh, 0, none⟩), .pointer (some ⟨bhk, 0, none⟩), .pointer (some ⟨bmx, 0, none⟩)]) Tryz.func31 rfl rfl rfl ?_
  refine CW.seq fun K1 hK1 => ?_
  refine CW.region ?_
  refine WL.to (E' := [(0, .pointer (some ⟨bm, 0, none⟩)), (1, .pointer (some ⟨bnm, 0, none⟩)), (2, .pointer (some ⟨bsh, 0, none⟩)), (3, .pointer (some ⟨bhk, 0, none⟩)), (4, .pointer (some ⟨bmx, 0, none⟩)), (5, .nilIface)]) 1 [0, 1, 2, 3, 4, 5] (by kernel_rfl) ?_
  refine WL.nil ?_
  refine hK1 _ _ _ ?_
  refine CW.seq fun K2 hK2 => ?_
  refine CW.still (by kernel_rfl) (by kernel_rfl) ?_
  intro w3 e5 u4
  have h6 := (hbm.keep u4 nm0)
  refine ST.load1 rfl agg24 rfl rfl h6 rfl ?_
  refine ST.to (E' := [(0, .pointer (some ⟨bm, 0, none⟩)), (1, .pointer (some ⟨bnm, 0, none⟩)), (2, .pointer (some ⟨bsh, 0, none⟩)), (3, .pointer (some ⟨bhk, 0, none⟩)), (4, .pointer (some ⟨bmx, 0, none⟩)), (5, .nilIface), (13, .pointer (some ⟨m_, 0, none⟩))]) 2 [0, 1, 2, 3, 4, 5, 13] (by kernel_rfl) ?_
  have h7 := (hm_.keep u4 nm0)
  refine ST.load1 rfl agg69 rfl rfl h7 rfl ?_
  have h8 := (hbnm.keep u4 nm0)
  refine ST.load1 rfl agg9 rfl rfl h8 rfl ?_
  have h9 := (hpl.keep u4 nm0)
  refine ST.lookB (κ := ks) (a := ⟨#[nc]⟩) true rfl rfl law_s Tryz.underlying69 Tryz.underlying9 zer77 rfl rfl h9 ?_
  refine ST.chg 16 (.tuple #[.pointer none, .bool false]) rfl (by rw [(hlk : look plm (⟨#[nc]⟩) = none)]; rfl) ?_
  refine ST.to (E' := [(0, .pointer (some ⟨bm, 0, none⟩)), (1, .pointer (some ⟨bnm, 0, none⟩)), (2, .pointer (some ⟨bsh, 0, none⟩)), (3, .pointer (some ⟨bhk, 0, none⟩)), (4, .pointer (some ⟨bmx, 0, none⟩)), (5, .nilIface), (7, .bool false)]) 5 [0, 1, 2, 3, 4, 5, 7] (by kernel_rfl) ?_
  refine ST.nil ?_
  refine hK2 _ _ _ ?_
  refine CW.seq fun K10 hK10 => ?_
  refine CW.block ?_
  refine CW.seq fun K11 hK11 => ?_
  refine CW.region ?_
  refine WL.load1 rfl agg24 rfl rfl h6 rfl ?_
  refine WL.callQ (v := .int .i64 0) rfl rfl rfl rfl ent26 rfl (depth_of h7) ?_
  refine WL.to (E' := [(0, .pointer (some ⟨bm, 0, none⟩)), (1, .pointer (some ⟨bnm, 0, none⟩)), (2, .pointer (some ⟨bsh, 0, none⟩)), (3, .pointer (some ⟨bhk, 0, none⟩)), (4, .pointer (some ⟨bmx, 0, none⟩)), (5, .nilIface), (7, .bool false), (19, .bool false)]) 2 [0, 1, 2, 3, 4, 5, 7, 19] (by kernel_rfl) ?_
  refine WL.nil ?_
  refine hK11 _ _ _ ?_
  refine CW.condF rfl ?_
  refine CW.seq fun K12 hK12 => ?_
  refine CW.seq fun K13 hK13 => ?_
  refine CW.region ?_
  refine WL.load1 rfl agg9 rfl rfl h8 rfl ?_
  refine WL.call rfl rfl rfl rfl ent32 rfl (mnamed_of (c := nc) hnc) ?_
  rintro _ w15 ⟨rfl, u14⟩
  refine WL.to (E' := [(0, .pointer (some ⟨bm, 0, none⟩)), (1, .pointer (some ⟨bnm, 0, none⟩)), (2, .pointer (some ⟨bsh, 0, none⟩)), (3, .pointer (some ⟨bhk, 0, none⟩)), (4, .pointer (some ⟨bmx, 0, none⟩)), (5, .nilIface), (7, .bool false), (24, .bool false)]) 2 [0, 1, 2, 3, 4, 5, 7, 24] (by kernel_rfl) ?_
  refine WL.nil ?_
  refine hK13 _ _ _ ?_
  refine CW.condF rfl ?_
  refine CW.seq fun K16 hK16 => ?_
  refine CW.region ?_
  refine WL.to (E' := [(0, .pointer (some ⟨bm, 0, none⟩)), (1, .pointer (some ⟨bnm, 0, none⟩)), (2, .pointer (some ⟨bsh, 0, none⟩)), (3, .pointer (some ⟨bhk, 0, none⟩)), (4, .pointer (some ⟨bmx, 0, none⟩)), (5, .nilIface), (24, .bool false)]) 2 [0, 1, 2, 3, 4, 5, 24] (by kernel_rfl) ?_
  refine WL.nil ?_
  refine hK16 _ _ _ ?_
  refine CW.condF rfl ?_
  refine CW.region ?_
  have h17 := (h6.keep u14 nm0)
  refine WL.load1 rfl agg24 rfl rfl h17 rfl ?_
  refine WL.to (E' := [(0, .pointer (some ⟨bm, 0, none⟩)), (1, .pointer (some ⟨bnm, 0, none⟩)), (2, .pointer (some ⟨bsh, 0, none⟩)), (3, .pointer (some ⟨bhk, 0, none⟩)), (4, .pointer (some ⟨bmx, 0, none⟩)), (5, .nilIface), (24, .bool false), (31, .pointer (some ⟨m_, 0, none⟩))]) 2 [0, 1, 2, 3, 4, 5, 24, 31] (by kernel_rfl) ?_
  have h18 := (h7.keep u14 nm0)
  refine WL.load1 rfl agg69 rfl rfl h18 rfl ?_
  have h19 := (h9.keep u14 nm0)
  refine WL.lenMap ks rfl rfl Tryz.underlying69 rfl h19 ?_
  refine WL.to (E' := [(0, .pointer (some ⟨bm, 0, none⟩)), (1, .pointer (some ⟨bnm, 0, none⟩)), (2, .pointer (some ⟨bsh, 0, none⟩)), (3, .pointer (some ⟨bhk, 0, none⟩)), (4, .pointer (some ⟨bmx, 0, none⟩)), (5, .nilIface), (24, .bool (decide (((plm.length : Nat) : Int) ≥ 4)))]) 2 [0, 1, 2, 3, 4, 5, 24] (by kernel_rfl) ?_
  refine WL.nil ?_
  refine hK12 _ _ _ ?_
  refine CW.no rfl (decide_eq_false (by omega)) ?_
  refine CW.skip ?_
  refine hK10 _ _ _ ?_
  refine CW.seq fun K20 hK20 => ?_
  refine CW.region ?_
  have h21 := ((hbsh.keep u4 nm0).keep u14 nm0)
  refine WL.load1 rfl agg29 rfl rfl h21 rfl ?_
  have h22 := ((hbhk.keep u4 nm0).keep u14 nm0)
  refine WL.loadN rfl agg34 siz34 rfl rfl h22 rfl rfl ?_
  have h23 := ((hbmx.keep u4 nm0).keep u14 nm0)
  refine WL.load1 rfl agg3 rfl rfl h23 rfl ?_
  have h24 := ((hE.keep' u4 dis0).keep' u14 dis0)
  have h25 := ((hC.keep' u4 dis0).keep' u14 dis0)
  have h48 := ((hs.keep u4 nm0).keep u14 nm0)
  refine WL.call rfl rfl rfl rfl ent33 rfl (newtable2o h24 h25 hE1 hC1 (by omega) (by omega) h48 (by omega) (by omega)) ?_
  rintro _ w47 ⟨t26, S27, at28, F29, g30, cp31, v32, v33, rest34, rfl, h35, h36, q37, h38, h39, h40, g41, g42, g43, g44, g45, u46⟩
  refine WL.to (E' := [(0, .pointer (some ⟨bm, 0, none⟩)), (1, .pointer (some ⟨bnm, 0, none⟩)), (5, .nilIface), (8, .pointer (some ⟨t26, 0, none⟩)), (9, .int .i64 0)]) 5 [0, 1, 5, 8, 9] (by kernel_rfl) ?_
  refine WL.nil ?_
  refine hK20 _ _ _ ?_
  refine CW.seq fun K49 hK49 => ?_
  refine CW.seq fun K50 hK50 => ?_
  refine CW.region ?_
  refine WL.to (E' := [(0, .pointer (some ⟨bm, 0, none⟩)), (1, .pointer (some ⟨bnm, 0, none⟩)), (5, .nilIface), (8, .pointer (some ⟨t26, 0, none⟩)), (9, .int .i64 0), (44, .bool false)]) 2 [0, 1, 5, 8, 9, 44] (by kernel_rfl) ?_
  refine WL.nil ?_
  refine hK50 _ _ _ ?_
  refine CW.condF rfl ?_
  refine CW.skip ?_
  refine hK49 _ _ _ ?_
  refine CW.seq fun K51 hK51 => ?_
  refine CW.mixed (by kernel_rfl) ?_
  intro w52 e54 u53
  refine MX.to (f := 10) (L' := #[false, false, false, false, false, true, false, false, false, false, false]) (E' := [(0, .pointer (some ⟨bm, 0, none⟩)), (1, .pointer (some ⟨bnm, 0, none⟩)), (5, .nilIface), (52, .pointer (some ⟨t26, 0, none⟩))]) [5] [0, 1, 5, 52] rfl (by kernel_rfl) ?_
  have h55 := ((h17.keep u46 nm0).keep u53 nm0)
  refine MX.load1 (L' := #[true, false, false, false, false, true, false, false, false, false, false]) 0 (by kernel_rfl) rfl rfl rfl agg24 rfl rfl h55 rfl ?_
  refine MX.to (f := 7) (L' := #[true, true, true, false, false, true, false, false, false, false, false]) (E' := [(1, .pointer (some ⟨bnm, 0, none⟩)), (5, .nilIface), (52, .pointer (some ⟨t26, 0, none⟩)), (49, .pointer (some ⟨m_, 0, none⟩))]) [1, 2] [1, 5, 52, 49] rfl (by kernel_rfl) ?_
  have h56 := ((h18.keep u46 nm0).keep u53 nm0)
  refine MX.load1 (L' := #[true, true, true, true, false, true, false, false, false, false, false]) 3 (by kernel_rfl) rfl rfl rfl agg69 rfl rfl h56 rfl ?_
  have h57 := (((h8.keep u14 nm0).keep u46 nm0).keep u53 nm0)
  refine MX.load1 (L' := #[true, true, true, true, true, true, false, false, false, false, false]) 4 (by kernel_rfl) rfl rfl rfl agg9 rfl rfl h57 rfl ?_
  refine MX.loud2 6 7 (by kernel_rfl) rfl rfl rfl rfl (fun K58 hK58 => ?_) (fun K58 hK58 => ?_)
  · skip
    refine WL.call rfl rfl rfl rfl ent34 rfl (newhub) ?_
    rintro _ w63 ⟨b59, rfl, h60, u61, g62⟩
    refine WL.fin (L' := #[true, true, true, true, true, true, true, false, false, false, false]) hK58 (stN (fun q => (q.keep u61 nm0)) (stN (fun q => (q.keep u61 nm0)) (stN (fun q => (q.keep u61 nm0)) st0))) ?_
    refine MX.loud 7 (by kernel_rfl) rfl (fun K64 hK64 => ?_) rfl
    refine WL.makeMap rfl rfl ?_
    intro w65 m66 h67 u68 g69
    replace h67 := KMap.new (κ := ki) h67
    refine WL.fin (L' := #[true, true, true, true, true, true, true, true, false, false, false]) hK64 (stN (fun q => (q.keep u68 nm0)) (stN (fun q => (q.keep u68 nm0)) (stN (fun q => (q.keep u68 nm0)) st0))) ?_
    refine MX.build (vs := [(0, .pointer (some ⟨t26, 0, none⟩)), (1, .pointer (some ⟨b59, 0, none⟩)), (2, .map (some m66))]) (v := .agg #[.pointer (some ⟨t26, 0, none⟩), .pointer (some ⟨b59, 0, none⟩), .map (some m66)]) (L' := #[true, true, true, true, true, true, true, true, true, false, false]) 8 (by kernel_rfl) rfl rfl rfl rfl rfl (by kernel_rfl) ?_
    refine MX.loud 9 (by kernel_rfl) rfl (fun K70 hK70 => ?_) rfl
    refine WL.box (cs := [.pointer (some ⟨t26, 0, none⟩), .pointer (some ⟨b59, 0, none⟩), .map (some m66)]) rfl rfl rfl rfl ?_
    intro w71 b72 h73 u74 g75
    refine WL.fin (L' := #[true, true, true, true, true, true, true, true, true, true, false]) hK70 (stY (by kernel_rfl) (stN (fun q => (q.keep u74 nm0)) (stN (fun q => (q.keep u74 nm0)) (stN (fun q => (q.keep u74 nm0)) st0)))) ?_
    refine MX.loud 10 (by kernel_rfl) rfl (fun K76 hK76 => ?_) rfl
    have h77 := (((((h19.keep u46 nm0).keep u53 nm0).keep u61 nm0).keep u68 nm0).keep u74 nm0)
    refine WL.putNew (κ := ks) (a := ⟨#[nc]⟩) rfl law_s Tryz.underlying69 Tryz.underlying9 rfl rfl rfl h77 (hlk) ?_
    intro w78 h79 u80 z81
    refine WL.fin (L' := #[true, true, true, true, true, true, true, true, true, true, true]) hK76 (stY (by kernel_rfl) (stY (by kernel_rfl) (stY (by kernel_rfl) (stY (by kernel_rfl) st0)))) ?_
    refine MX.done (by kernel_rfl) ?_
    refine hK51 _ _ _ ?_
    refine CW.seq fun K82 hK82 => ?_
    refine CW.region ?_
    refine WL.to (E' := [(5, .nilIface)]) 1 [5] (by kernel_rfl) ?_
    refine WL.nil ?_
    refine hK82 _ _ _ ?_
    have h83 := (h73.keep u80 (nmc (Blk.neK h73 h77) nm0))
    have h84 := ((h60.keep u68 nm0).keep u74 nm0)
    have h85 := (h84.keep u80 (nmc (Blk.neK h84 h77) nm0))
    have h86 := (h67.keep u74 nm0)
    have h87 := (h86.keep u80 (nmc (Ne.symm (by have := hpl.lt; have := g69; have := u4.size; have := u14.size; have := u46.size; have := u53.size; have := u61.size; omega)) nm0))
    have h88 := ((((h35.keep u53 nm0).keep u61 nm0).keep u68 nm0).keep u74 nm0)
    have h89 := (h88.keep u80 (nmc (Blk.neK h88 h77) nm0))
    have h90 := ((((h36.keep u53 nm0).keep u61 nm0).keep u68 nm0).keep u74 nm0)
    have h91 := (h90.keep u80 (nmc (Blk.neK h90 h77) nm0))
    have h92 := ((((h38.keep u53 nm0).keep u61 nm0).keep u68 nm0).keep u74 nm0)
    have h93 := (h92.keep u80 (nmc (Blk.neK h92 h77) nm0))
    have h94 := ((((h39.keep u53 nm0).keep u61 nm0).keep u68 nm0).keep u74 nm0)
    have h95 := (h94.keep u80 (nmc (Ne.symm (by have := hpl.lt; have := g44; have := u4.size; have := u14.size; omega)) nm0))
    have h96 := ((((h40.keep u53 nm0).keep u61 nm0).keep u68 nm0).keep u74 nm0)
    have h97 := (h96.keep u80 (nmc (Blk.neK h96 h77) nm0))
    have h98 := (((h56.keep u61 nm0).keep u68 nm0).keep u74 nm0)
    have h99 := (h98.keep u80 (nmc (Blk.neK h98 h77) nm0))
    refine CW.ret fun a ha => ?_
    try simp (decide := true) only [Exit.inBlock, Exit.then, ↓reduceIte]
    exact fin ha.defers (res_tmp rfl ha rfl _) ⟨rfl, b72, b59, m66, t26, S27, at28, F29, g30, cp31, v32, v33, rest34, h83, h85, h87, h89, h91, q37, h93, h95, h97, ⟨(by have := g75; have := u4.size; have := u14.size; have := u46.size; have := u53.size; have := u61.size; have := u68.size; omega), (by have := g62; have := u4.size; have := u14.size; have := u46.size; have := u53.size; omega), (by have := g69; have := u4.size; have := u14.size; have := u46.size; have := u53.size; have := u61.size; omega), (by have := g41; have := u4.size; have := u14.size; omega), (by have := g42; have := u4.size; have := u14.size; omega), (by have := g43; have := u4.size; have := u14.size; omega), (by have := g44; have := u4.size; have := u14.size; omega), (by have := g45; have := u4.size; have := u14.size; omega)⟩, (by have := h39.lt; have := g69; have := u53.size; have := u61.size; omega), h79, h99, ((((((((u4.trans u14).trans u46).trans u53).trans u61).trans u68).trans u74).trans u80).sub (by intro k hk hl; simp only [Value.ownBlock, Option.toList, List.mem_append, List.mem_cons, List.not_mem_nil, or_false, false_or] at hk ⊢; have := u4.size; have := u14.size; have := u46.size; have := u53.size; have := u61.size; have := u68.size; have := u74.size; have := u80.size; omega))⟩
  · skip
    refine WL.makeMap rfl rfl ?_
    intro w100 m101 h102 u103 g104
    replace h102 := KMap.new (κ := ki) h102
    refine WL.fin (L' := #[true, true, true, true, true, true, false, true, false, false, false]) hK58 (stN (fun q => (q.keep u103 nm0)) (stN (fun q => (q.keep u103 nm0)) (stN (fun q => (q.keep u103 nm0)) st0))) ?_
    refine MX.loud 6 (by kernel_rfl) rfl (fun K105 hK105 => ?_) rfl
    refine WL.call rfl rfl rfl rfl ent34 rfl (newhub) ?_
    rintro _ w110 ⟨b106, rfl, h107, u108, g109⟩
    refine WL.fin (L' := #[true, true, true, true, true, true, true, true, false, false, false]) hK105 (stN (fun q => (q.keep u108 nm0)) (stN (fun q => (q.keep u108 nm0)) (stN (fun q => (q.keep u108 nm0)) st0))) ?_
    refine MX.build (vs := [(0, .pointer (some ⟨t26, 0, none⟩)), (1, .pointer (some ⟨b106, 0, none⟩)), (2, .map (some m101))]) (v := .agg #[.pointer (some ⟨t26, 0, none⟩), .pointer (some ⟨b106, 0, none⟩), .map (some m101)]) (L' := #[true, true, true, true, true, true, true, true, true, false, false]) 8 (by kernel_rfl) rfl rfl rfl rfl rfl (by kernel_rfl) ?_
    refine MX.loud 9 (by kernel_rfl) rfl (fun K111 hK111 => ?_) rfl
    refine WL.box (cs := [.pointer (some ⟨t26, 0, none⟩), .pointer (some ⟨b106, 0, none⟩), .map (some m101)]) rfl rfl rfl rfl ?_
    intro w112 b113 h114 u115 g116
    refine WL.fin (L' := #[true, true, true, true, true, true, true, true, true, true, false]) hK111 (stY (by kernel_rfl) (stN (fun q => (q.keep u115 nm0)) (stN (fun q => (q.keep u115 nm0)) (stN (fun q => (q.keep u115 nm0)) st0)))) ?_
    refine MX.loud 10 (by kernel_rfl) rfl (fun K117 hK117 => ?_) rfl
    have h118 := (((((h19.keep u46 nm0).keep u53 nm0).keep u103 nm0).keep u108 nm0).keep u115 nm0)
    refine WL.putNew (κ := ks) (a := ⟨#[nc]⟩) rfl law_s Tryz.underlying69 Tryz.underlying9 rfl rfl rfl h118 (hlk) ?_
    intro w119 h120 u121 z122
    refine WL.fin (L' := #[true, true, true, true, true, true, true, true, true, true, true]) hK117 (stY (by kernel_rfl) (stY (by kernel_rfl) (stY (by kernel_rfl) (stY (by kernel_rfl) st0)))) ?_
    refine MX.done (by kernel_rfl) ?_
    refine hK51 _ _ _ ?_
    refine CW.seq fun K123 hK123 => ?_
    refine CW.region ?_
    refine WL.to (E' := [(5, .nilIface)]) 1 [5] (by kernel_rfl) ?_
    refine WL.nil ?_
    refine hK123 _ _ _ ?_
    have h124 := (h114.keep u121 (nmc (Blk.neK h114 h118) nm0))
    have h125 := (h107.keep u115 nm0)
    have h126 := (h125.keep u121 (nmc (Blk.neK h125 h118) nm0))
    have h127 := ((h102.keep u108 nm0).keep u115 nm0)
    have h128 := (h127.keep u121 (nmc (Ne.symm (by have := hpl.lt; have := g104; have := u4.size; have := u14.size; have := u46.size; have := u53.size; omega)) nm0))
    have h129 := ((((h35.keep u53 nm0).keep u103 nm0).keep u108 nm0).keep u115 nm0)
    have h130 := (h129.keep u121 (nmc (Blk.neK h129 h118) nm0))
    have h131 := ((((h36.keep u53 nm0).keep u103 nm0).keep u108 nm0).keep u115 nm0)
    have h132 := (h131.keep u121 (nmc (Blk.neK h131 h118) nm0))
    have h133 := ((((h38.keep u53 nm0).keep u103 nm0).keep u108 nm0).keep u115 nm0)
    have h134 := (h133.keep u121 (nmc (Blk.neK h133 h118) nm0))
    have h135 := ((((h39.keep u53 nm0).keep u103 nm0).keep u108 nm0).keep u115 nm0)
    have h136 := (h135.keep u121 (nmc (Ne.symm (by have := hpl.lt; have := g44; have := u4.size; have := u14.size; omega)) nm0))
    have h137 := ((((h40.keep u53 nm0).keep u103 nm0).keep u108 nm0).keep u115 nm0)
    have h138 := (h137.keep u121 (nmc (Blk.neK h137 h118) nm0))
    have h139 := (((h56.keep u103 nm0).keep u108 nm0).keep u115 nm0)
    have h140 := (h139.keep u121 (nmc (Blk.neK h139 h118) nm0))
    refine CW.ret fun a ha => ?_
    try simp (decide := true) only [Exit.inBlock, Exit.then, ↓reduceIte]
    exact fin ha.defers (res_tmp rfl ha rfl _) ⟨rfl, b113, b106, m101, t26, S27, at28, F29, g30, cp31, v32, v33, rest34, h124, h126, h128, h130, h132, q37, h134, h136, h138, ⟨(by have := g116; have := u4.size; have := u14.size; have := u46.size; have := u53.size; have := u103.size; have := u108.size; omega), (by have := g109; have := u4.size; have := u14.size; have := u46.size; have := u53.size; have := u103.size; omega), (by have := g104; have := u4.size; have := u14.size; have := u46.size; have := u53.size; omega), (by have := g41; have := u4.size; have := u14.size; omega), (by have := g42; have := u4.size; have := u14.size; omega), (by have := g43; have := u4.size; have := u14.size; omega), (by have := g44; have := u4.size; have := u14.size; omega), (by have := g45; have := u4.size; have := u14.size; omega)⟩, (by have := h39.lt; have := g104; have := u53.size; omega), h120, h140, ((((((((u4.trans u14).trans u46).trans u53).trans u103).trans u108).trans u115).trans u121).sub (by intro k hk hl; simp only [Value.ownBlock, Option.toList, List.mem_append, List.mem_cons, List.not_mem_nil, or_false, false_or] at hk ⊢; have := u4.size; have := u14.size; have := u46.size; have := u53.size; have := u103.size; have := u108.size; have := u115.size; have := u121.size; omega))⟩

theorem table_1o {w : World} {m_ pl lg wt : Nat} {plm : List (ByteArray × Value)} {mx : Int} {nc : UInt8} (hnc : 97 ≤ nc.toNat ∧ nc.toNat ≤ 122) (hm_ : Blk w m_ [.map (some pl), .pointer (some ⟨lg, 0, none⟩), .slice none 0 0, .pointer (some ⟨wt, 0, none⟩), .bool false] 75) (hpl : KMap ks w pl plm) (hlk : look plm ⟨#[nc]⟩ = none) (hfew : plm.length < 4) (hmx : 0 ≤ mx ∧ mx ≤ 200) {s0 cp0 : Nat} {rest : List Value} {c : UInt8} (hc : 97 ≤ c.toNat ∧ c.toNat ≤ 122) {eao cao : Option Addr} {ek ecp ck ccp : Nat} {efs cfs : List Value} (hE : Own w (.slice eao ek ecp) 104 1 ek efs) (hC : Own w (.slice cao ck ccp) 107 1 ck cfs) (hE1 : efs.all Value.oneCell' = true) (hC1 : cfs.all Value.oneCell' = true) (hek : ek ≤ 1000) (hck : ck ≤ 1000) (hs : Blk w s0 (.string (⟨#[c]⟩) :: .int .i64 1 :: rest) 51) (hcp : 1 ≤ cp0) :
    Ret Tryz.prog 8 #[.pointer (some ⟨m_, 0, none⟩), .string (⟨#[nc]⟩), .slice (some ⟨s0, 0, none⟩) 1 cp0, .agg #[.slice eao ek ecp, .slice cao ck ccp], .int .i64 mx] w fun v w' => v = .nilIface ∧ ∃ p hub base t S sat F sh cps h1 h2 rest', Blk w' p [.pointer (some ⟨t, 0, none⟩), .pointer (some ⟨hub, 0, none⟩), .map (some base)] 87 ∧ Blk w' hub [.slice none 0 0] 137 ∧ KMap ki w' base [] ∧ Blk w' t [.slice (some ⟨sh, 0, none⟩) 1 cps, h1, h2, .pointer (some ⟨S, 0, none⟩), .int .i64 mx, .slice none 0 0, .slice none 0 0] 116 ∧ Blk w' sh (.string (⟨#[c]⟩) :: .int .i64 1 :: rest') 51 ∧ 1 ≤ cps ∧ Blk w' S [.slice none 0 0, .map (some sat), .pointer (some ⟨F, 0, none⟩), .int .i64 mx, .int .i64 1, .int .i64 0] 121 ∧ KMap ki w' sat [] ∧ Blk w' F [.slice none 0 0, .func (.func 135) #[] #[]] 246 ∧ (w.heap.size ≤ p ∧ w.heap.size ≤ hub ∧ w.heap.size ≤ base ∧ w.heap.size ≤ t ∧ w.heap.size ≤ sh ∧ w.heap.size ≤ S ∧ w.heap.size ≤ sat ∧ w.heap.size ≤ F) ∧ sat ≠ base ∧ KMap ks w' pl (plm ++ [(⟨#[nc]⟩, .pointer (some ⟨p, 0, none⟩))]) ∧ Blk w' m_ [.map (some pl), .pointer (some ⟨lg, 0, none⟩), .slice none 0 0, .pointer (some ⟨wt, 0, none⟩), .bool false] 75 ∧ Only [pl, m_] w w' := by
  refine enterL (args := [.pointer (some ⟨m_, 0, none⟩), .string (⟨#[nc]⟩), .slice (some ⟨s0, 0, none⟩) 1 cp0, .agg #[.slice eao ek ecp, .slice cao ck ccp], .int .i64 mx]) Tryz.func8 rfl rfl rfl ?_
  refine CW.seq fun K1 hK1 => ?_
  refine CW.region ?_
  refine WL.box (cs := [.pointer (some ⟨m_, 0, none⟩)]) rfl rfl rfl rfl ?_
  intro w2 b3 h4 u5 g6
  refine WL.box (cs := [.string (⟨#[nc]⟩)]) rfl rfl rfl rfl ?_
  intro w7 b8 h9 u10 g11
  refine WL.box (cs := [.slice (some ⟨s0, 0, none⟩) 1 cp0]) rfl rfl rfl rfl ?_
  intro w12 b13 h14 u15 g16
  refine WL.box (cs := [.slice eao ek ecp, .slice cao ck ccp]) rfl rfl rfl rfl ?_
  intro w17 b18 h19 u20 g21
  refine WL.box (cs := [.int .i64 mx]) rfl rfl rfl rfl ?_
  intro w22 b23 h24 u25 g26
  refine WL.to (E' := [(5, .pointer (some ⟨b3, 0, none⟩)), (6, .pointer (some ⟨b8, 0, none⟩)), (7, .pointer (some ⟨b13, 0, none⟩)), (8, .pointer (some ⟨b18, 0, none⟩)), (9, .pointer (some ⟨b23, 0, none⟩)), (10, .nilIface)]) 1 [5, 6, 7, 8, 9, 10] (by kernel_rfl) ?_
  refine WL.nil ?_
  refine hK1 _ _ _ ?_
  refine CW.seq fun K27 hK27 => ?_
  refine CW.region ?_
  have h28 := ((((h4.keep u10 nm0).keep u15 nm0).keep u20 nm0).keep u25 nm0)
  refine WL.load1 rfl agg24 rfl rfl h28 rfl ?_
  refine WL.to (E' := [(10, .nilIface), (11, .pointer (some ⟨m_, 0, none⟩)), (12, .func (.func 31) #[] #[.pointer (some ⟨b3, 0, none⟩), .pointer (some ⟨b8, 0, none⟩), .pointer (some ⟨b13, 0, none⟩), .pointer (some ⟨b18, 0, none⟩), .pointer (some ⟨b23, 0, none⟩)])]) 1 [10, 11, 12] (by kernel_rfl) ?_
  have h29 := (((((hm_.keep u5 nm0).keep u10 nm0).keep u15 nm0).keep u20 nm0).keep u25 nm0)
  have h30 := (((((hpl.keep u5 nm0).keep u10 nm0).keep u15 nm0).keep u20 nm0).keep u25 nm0)
  have h31 := (((((hs.keep u5 nm0).keep u10 nm0).keep u15 nm0).keep u20 nm0).keep u25 nm0)
  have h32 := (((h9.keep u15 nm0).keep u20 nm0).keep u25 nm0)
  have h33 := ((h14.keep u20 nm0).keep u25 nm0)
  have h34 := (h19.keep u25 nm0)
  have h35 := (((((hE.keep' u5 dis0).keep' u10 dis0).keep' u15 dis0).keep' u20 dis0).keep' u25 dis0)
  have h36 := (((((hC.keep' u5 dis0).keep' u10 dis0).keep' u15 dis0).keep' u20 dis0).keep' u25 dis0)
  refine WL.call rfl rfl rfl rfl ent30 rfl (alone_of (S := [pl]) ent31 h29 (by intro b hb; simp only [List.mem_cons, List.not_mem_nil, or_false] at hb; subst hb; exact h30.lt) (fun w1 u1 hm1 => table1_1o hnc hm1 (h30.keep u1 (nmc (Ne.symm (Blk.neK h29 h30)) nm0)) hlk hfew hmx hc (h35.keep' u1 (disc (Own.ne h35 h29 rfl) dis0)) (h36.keep' u1 (disc (Own.ne h36 h29 rfl) dis0)) hE1 hC1 hek hck (h31.keep u1 (nmc (Blk.ne h31 h29 rfl) nm0)) hcp (h28.keep u1 (nmc (Blk.ne h28 h29 rfl) nm0)) (h32.keep u1 (nmc (Blk.ne h32 h29 rfl) nm0)) (h33.keep u1 (nmc (Blk.ne h33 h29 rfl) nm0)) (h34.keep u1 (nmc (Blk.ne h34 h29 rfl) nm0)) (h24.keep u1 (nmc (Blk.ne h24 h29 rfl) nm0))) (by rintro w1 v w2 ⟨rfl, _, _, _, _, _, _, _, _, _, _, _, _, _, _, _, _, _, _, _, _, _, _, _, _, hm2, u⟩; exact ⟨_, _, _, _, hm2, u⟩)) ?_
  rintro _ w76 ⟨w70, w71, x79, x80, x81, x82, u72, h78, ⟨rfl, p37, hub38, base39, t40, S41, at42, F43, g44, cp45, v46, v47, rest48, h49, h50, h51, h52, h53, h54, h55, h56, h57, ⟨g58, g59, g60, g61, g62, g63, g64, g65⟩, ne66, h67, h68, u69⟩, h73, h74, u75⟩
  have e77 := Blk.inj h73 h68
  cases e77
  refine WL.to (E' := [(10, .nilIface)]) 1 [10] (by kernel_rfl) ?_
  refine WL.nil ?_
  refine hK27 _ _ _ ?_
  have h83 := (h49.keep u75 (nmc (Blk.ne h49 h73 rfl) nm0))
  have h84 := (h50.keep u75 (nmc (Blk.ne h50 h73 rfl) nm0))
  have h85 := (h51.keep u75 (nmc (Ne.symm (Blk.neK h73 h51)) nm0))
  have h86 := (h52.keep u75 (nmc (Blk.ne h52 h73 rfl) nm0))
  have h87 := (h53.keep u75 (nmc (Blk.ne h53 h73 rfl) nm0))
  have h88 := (h55.keep u75 (nmc (Blk.ne h55 h73 rfl) nm0))
  have h89 := (h56.keep u75 (nmc (Ne.symm (Blk.neK h73 h56)) nm0))
  have h90 := (h57.keep u75 (nmc (Blk.ne h57 h73 rfl) nm0))
  have h91 := (h67.keep u75 (nmc (Ne.symm (Blk.neK h73 h67)) nm0))
  refine CW.ret fun a ha => ?_
  try simp (decide := true) only [Exit.inBlock, Exit.then, ↓reduceIte]
  exact fin ha.defers (res_tmp rfl ha rfl _) ⟨rfl, p37, hub38, base39, t40, S41, at42, F43, g44, cp45, v46, v47, rest48, h83, h84, h85, h86, h87, h54, h88, h89, h90, ⟨(by have := g58; have := u5.size; have := u10.size; have := u15.size; have := u20.size; have := u25.size; have := u72.size; omega), (by have := g59; have := u5.size; have := u10.size; have := u15.size; have := u20.size; have := u25.size; have := u72.size; omega), (by have := g60; have := u5.size; have := u10.size; have := u15.size; have := u20.size; have := u25.size; have := u72.size; omega), (by have := g61; have := u5.size; have := u10.size; have := u15.size; have := u20.size; have := u25.size; have := u72.size; omega), (by have := g62; have := u5.size; have := u10.size; have := u15.size; have := u20.size; have := u25.size; have := u72.size; omega), (by have := g63; have := u5.size; have := u10.size; have := u15.size; have := u20.size; have := u25.size; have := u72.size; omega), (by have := g64; have := u5.size; have := u10.size; have := u15.size; have := u20.size; have := u25.size; have := u72.size; omega), (by have := g65; have := u5.size; have := u10.size; have := u15.size; have := u20.size; have := u25.size; have := u72.size; omega)⟩, ne66, h91, h74, ((((((((u5.trans u10).trans u15).trans u20).trans u25).trans u72).trans u69).trans u75).sub (by intro k hk hl; simp only [Value.ownBlock, Option.toList, List.mem_append, List.mem_cons, List.not_mem_nil, or_false, false_or] at hk ⊢; have := u5.size; have := u10.size; have := u15.size; have := u20.size; have := u25.size; have := u72.size; have := u69.size; have := u75.size; omega))⟩

theorem table_2o {w : World} {m_ pl lg wt : Nat} {plm : List (ByteArray × Value)} {mx : Int} {nc : UInt8} (hnc : 97 ≤ nc.toNat ∧ nc.toNat ≤ 122) (hm_ : Blk w m_ [.map (some pl), .pointer (some ⟨lg, 0, none⟩), .slice none 0 0, .pointer (some ⟨wt, 0, none⟩), .bool false] 75) (hpl : KMap ks w pl plm) (hlk : look plm ⟨#[nc]⟩ = none) (hfew : plm.length < 4) (hmx : 0 ≤ mx ∧ mx ≤ 200) {s0 cp0 : Nat} {rest : List Value}  {eao cao : Option Addr} {ek ecp ck ccp : Nat} {efs cfs : List Value} (hE : Own w (.slice eao ek ecp) 104 1 ek efs) (hC : Own w (.slice cao ck ccp) 107 1 ck cfs) (hE1 : efs.all Value.oneCell' = true) (hC1 : cfs.all Value.oneCell' = true) (hek : ek ≤ 1000) (hck : ck ≤ 1000) (hs : Blk w s0 (.string (⟨#[97]⟩) :: .int .i64 1 :: .string (⟨#[98]⟩) :: .int .i64 1 :: rest) 51) (hcp : 2 ≤ cp0) :
    Ret Tryz.prog 8 #[.pointer (some ⟨m_, 0, none⟩), .string (⟨#[nc]⟩), .slice (some ⟨s0, 0, none⟩) 2 cp0, .agg #[.slice eao ek ecp, .slice cao ck ccp], .int .i64 mx] w fun v w' => v = .nilIface ∧ ∃ p hub base t S sat F sh cps h1 h2 rest', Blk w' p [.pointer (some ⟨t, 0, none⟩), .pointer (some ⟨hub, 0, none⟩), .map (some base)] 87 ∧ Blk w' hub [.slice none 0 0] 137 ∧ KMap ki w' base [] ∧ Blk w' t [.slice (some ⟨sh, 0, none⟩) 2 cps, h1, h2, .pointer (some ⟨S, 0, none⟩), .int .i64 mx, .slice none 0 0, .slice none 0 0] 116 ∧ Blk w' sh (.string (⟨#[97]⟩) :: .int .i64 1 :: .string (⟨#[98]⟩) :: .int .i64 1 :: rest') 51 ∧ 2 ≤ cps ∧ Blk w' S [.slice none 0 0, .map (some sat), .pointer (some ⟨F, 0, none⟩), .int .i64 mx, .int .i64 1, .int .i64 0] 121 ∧ KMap ki w' sat [] ∧ Blk w' F [.slice none 0 0, .func (.func 135) #[] #[]] 246 ∧ (w.heap.size ≤ p ∧ w.heap.size ≤ hub ∧ w.heap.size ≤ base ∧ w.heap.size ≤ t ∧ w.heap.size ≤ sh ∧ w.heap.size ≤ S ∧ w.heap.size ≤ sat ∧ w.heap.size ≤ F) ∧ sat ≠ base ∧ KMap ks w' pl (plm ++ [(⟨#[nc]⟩, .pointer (some ⟨p, 0, none⟩))]) ∧ Blk w' m_ [.map (some pl), .pointer (some ⟨lg, 0, none⟩), .slice none 0 0, .pointer (some ⟨wt, 0, none⟩), .bool false] 75 ∧ Only [pl, m_] w w' := by
  refine enterL (args := [.pointer (some ⟨m_, 0, none⟩), .string (⟨#[nc]⟩), .slice (some ⟨s0, 0, none⟩) 2 cp0, .agg #[.slice eao ek ecp, .slice cao ck ccp], .int .i64 mx]) Tryz.func8 rfl rfl rfl ?_
  refine CW.seq fun K1 hK1 => ?_
  refine CW.region ?_
  refine WL.box (cs := [.pointer (some ⟨m_, 0, none⟩)]) rfl rfl rfl rfl ?_
  intro w2 b3 h4 u5 g6
  refine WL.box (cs := [.string (⟨#[nc]⟩)]) rfl rfl rfl rfl ?_
  intro w7 b8 h9 u10 g11
  refine WL.box (cs := [.slice (some ⟨s0, 0, none⟩) 2 cp0]) rfl rfl rfl rfl ?_
  intro w12 b13 h14 u15 g16
  refine WL.box (cs := [.slice eao ek ecp, .slice cao ck ccp]) rfl rfl rfl rfl ?_
  intro w17 b18 h19 u20 g21
  refine WL.box (cs := [.int .i64 mx]) rfl rfl rfl rfl ?_
  intro w22 b23 h24 u25 g26
  refine WL.to (E' := [(5, .pointer (some ⟨b3, 0, none⟩)), (6, .pointer (some ⟨b8, 0, none⟩)), (7, .pointer (some ⟨b13, 0, none⟩)), (8, .pointer (some ⟨b18, 0, none⟩)), (9, .pointer (some ⟨b23, 0, none⟩)), (10, .nilIface)]) 1 [5, 6, 7, 8, 9, 10] (by kernel_rfl) ?_
  refine WL.nil ?_
  refine hK1 _ _ _ ?_
  refine CW.seq fun K27 hK27 => ?_
  refine CW.region ?_
  have h28 := ((((h4.keep u10 nm0).keep u15 nm0).keep u20 nm0).keep u25 nm0)
  refine WL.load1 rfl agg24 rfl rfl h28 rfl ?_
  refine WL.to (E' := [(10, .nilIface), (11, .pointer (some ⟨m_, 0, none⟩)), (12, .func (.func 31) #[] #[.pointer (some ⟨b3, 0, none⟩), .pointer (some ⟨b8, 0, none⟩), .pointer (some ⟨b13, 0, none⟩), .pointer (some ⟨b18, 0, none⟩), .pointer (some ⟨b23, 0, none⟩)])]) 1 [10, 11, 12] (by kernel_rfl) ?_
  have h29 := (((((hm_.keep u5 nm0).keep u10 nm0).keep u15 nm0).keep u20 nm0).keep u25 nm0)
  have h30 := (((((hpl.keep u5 nm0).keep u10 nm0).keep u15 nm0).keep u20 nm0).keep u25 nm0)
  have h31 := (((((hs.keep u5 nm0).keep u10 nm0).keep u15 nm0).keep u20 nm0).keep u25 nm0)
  have h32 := (((h9.keep u15 nm0).keep u20 nm0).keep u25 nm0)
  have h33 := ((h14.keep u20 nm0).keep u25 nm0)
  have h34 := (h19.keep u25 nm0)
  have h35 := (((((hE.keep' u5 dis0).keep' u10 dis0).keep' u15 dis0).keep' u20 dis0).keep' u25 dis0)
  have h36 := (((((hC.keep' u5 dis0).keep' u10 dis0).keep' u15 dis0).keep' u20 dis0).keep' u25 dis0)
  refine WL.call rfl rfl rfl rfl ent30 rfl (alone_of (S := [pl]) ent31 h29 (by intro b hb; simp only [List.mem_cons, List.not_mem_nil, or_false] at hb; subst hb; exact h30.lt) (fun w1 u1 hm1 => table1_2o hnc hm1 (h30.keep u1 (nmc (Ne.symm (Blk.neK h29 h30)) nm0)) hlk hfew hmx (h35.keep' u1 (disc (Own.ne h35 h29 rfl) dis0)) (h36.keep' u1 (disc (Own.ne h36 h29 rfl) dis0)) hE1 hC1 hek hck (h31.keep u1 (nmc (Blk.ne h31 h29 rfl) nm0)) hcp (h28.keep u1 (nmc (Blk.ne h28 h29 rfl) nm0)) (h32.keep u1 (nmc (Blk.ne h32 h29 rfl) nm0)) (h33.keep u1 (nmc (Blk.ne h33 h29 rfl) nm0)) (h34.keep u1 (nmc (Blk.ne h34 h29 rfl) nm0)) (h24.keep u1 (nmc (Blk.ne h24 h29 rfl) nm0))) (by rintro w1 v w2 ⟨rfl, _, _, _, _, _, _, _, _, _, _, _, _, _, _, _, _, _, _, _, _, _, _, _, _, hm2, u⟩; exact ⟨_, _, _, _, hm2, u⟩)) ?_
  rintro _ w76 ⟨w70, w71, x79, x80, x81, x82, u72, h78, ⟨rfl, p37, hub38, base39, t40, S41, at42, F43, g44, cp45, v46, v47, rest48, h49, h50, h51, h52, h53, h54, h55, h56, h57, ⟨g58, g59, g60, g61, g62, g63, g64, g65⟩, ne66, h67, h68, u69⟩, h73, h74, u75⟩
  have e77 := Blk.inj h73 h68
  cases e77
  refine WL.to (E' := [(10, .nilIface)]) 1 [10] (by kernel_rfl) ?_
  refine WL.nil ?_
  refine hK27 _ _ _ ?_
  have h83 := (h49.keep u75 (nmc (Blk.ne h49 h73 rfl) nm0))
  have h84 := (h50.keep u75 (nmc (Blk.ne h50 h73 rfl) nm0))
  have h85 := (h51.keep u75 (nmc (Ne.symm (Blk.neK h73 h51)) nm0))
  have h86 := (h52.keep u75 (nmc (Blk.ne h52 h73 rfl) nm0))
  have h87 := (h53.keep u75 (nmc (Blk.ne h53 h73 rfl) nm0))
  have h88 := (h55.keep u75 (nmc (Blk.ne h55 h73 rfl) nm0))
  have h89 := (h56.keep u75 (nmc (Ne.symm (Blk.neK h73 h56)) nm0))
  have h90 := (h57.keep u75 (nmc (Blk.ne h57 h73 rfl) nm0))
  have h91 := (h67.keep u75 (nmc (Ne.symm (Blk.neK h73 h67)) nm0))
  refine CW.ret fun a ha => ?_
  try simp (decide := true) only [Exit.inBlock, Exit.then, ↓reduceIte]
  exact fin ha.defers (res_tmp rfl ha rfl _) ⟨rfl, p37, hub38, base39, t40, S41, at42, F43, g44, cp45, v46, v47, rest48, h83, h84, h85, h86, h87, h54, h88, h89, h90, ⟨(by have := g58; have := u5.size; have := u10.size; have := u15.size; have := u20.size; have := u25.size; have := u72.size; omega), (by have := g59; have := u5.size; have := u10.size; have := u15.size; have := u20.size; have := u25.size; have := u72.size; omega), (by have := g60; have := u5.size; have := u10.size; have := u15.size; have := u20.size; have := u25.size; have := u72.size; omega), (by have := g61; have := u5.size; have := u10.size; have := u15.size; have := u20.size; have := u25.size; have := u72.size; omega), (by have := g62; have := u5.size; have := u10.size; have := u15.size; have := u20.size; have := u25.size; have := u72.size; omega), (by have := g63; have := u5.size; have := u10.size; have := u15.size; have := u20.size; have := u25.size; have := u72.size; omega), (by have := g64; have := u5.size; have := u10.size; have := u15.size; have := u20.size; have := u25.size; have := u72.size; omega), (by have := g65; have := u5.size; have := u10.size; have := u15.size; have := u20.size; have := u25.size; have := u72.size; omega)⟩, ne66, h91, h74, ((((((((u5.trans u10).trans u15).trans u20).trans u25).trans u72).trans u69).trans u75).sub (by intro k hk hl; simp only [Value.ownBlock, Option.toList, List.mem_append, List.mem_cons, List.not_mem_nil, or_false, false_or] at hk ⊢; have := u5.size; have := u10.size; have := u15.size; have := u20.size; have := u25.size; have := u72.size; have := u69.size; have := u75.size; omega))⟩
end Go.K

namespace Go.K
open Go.Proofs
set_option maxRecDepth 8000
set_option maxHeartbeats 1000000
set_option linter.unusedSimpArgs false
set_option linter.unusedVariables false
theorem as_91 {w : World} {x : Int} {tg vb : Nat} (hv : Blk w vb [.pointer (some ⟨tg, 0, none⟩)] 91) :
    Ret Tryz.prog 63 #[.iface 79 (.int .i64 x), .iface 91 (.pointer (some ⟨tg, 0, none⟩)), .agg #[.pointer (some ⟨3, 91, none⟩), .pointer (some ⟨vb, 0, none⟩), .int .u64 150], .iface 180 (.agg #[.pointer (some ⟨3, 89, none⟩)])] w fun v w' => v = .bool false ∧ Only [] w w' := by
  refine enterL (args := [.iface 79 (.int .i64 x), .iface 91 (.pointer (some ⟨tg, 0, none⟩)), .agg #[.pointer (some ⟨3, 91, none⟩), .pointer (some ⟨vb, 0, none⟩), .int .u64 150], .iface 180 (.agg #[.pointer (some ⟨3, 89, none⟩)])]) Tryz.func63 rfl rfl rfl ?_
  refine CW.seq fun K1 hK1 => ?_
  refine CW.region ?_
  refine WL.box (cs := [.pointer (some ⟨3, 91, none⟩), .pointer (some ⟨vb, 0, none⟩), .int .u64 150]) rfl rfl rfl rfl ?_
  intro w2 b3 h4 u5 g6
  refine WL.to (E' := [(0, .iface 79 (.int .i64 x)), (1, .iface 91 (.pointer (some ⟨tg, 0, none⟩))), (3, .iface 180 (.agg #[.pointer (some ⟨3, 89, none⟩)])), (6, .pointer (some ⟨b3, 0, none⟩)), (8, .bool false)]) 1 [0, 1, 3, 6, 8] (by kernel_rfl) ?_
  refine WL.nil ?_
  refine hK1 _ _ _ ?_
  refine CW.block ?_
  refine CW.round1 fun K7 hK7 => ?_
  refine CW.block ?_
  refine CW.seq fun K8 hK8 => ?_
  refine CW.seq fun K9 hK9 => ?_
  refine CW.region ?_
  refine WL.to (E' := [(0, .iface 79 (.int .i64 x)), (1, .iface 91 (.pointer (some ⟨tg, 0, none⟩))), (3, .iface 180 (.agg #[.pointer (some ⟨3, 89, none⟩)])), (6, .pointer (some ⟨b3, 0, none⟩)), (8, .bool false), (16, .iface 79 (.int .i64 x))]) 1 [0, 1, 3, 6, 8, 16] (by kernel_rfl) ?_
  refine WL.extG rfl rfl rfl rfl rfl (xT_79 _ _) ?_
  refine WL.to (E' := [(0, .iface 79 (.int .i64 x)), (1, .iface 91 (.pointer (some ⟨tg, 0, none⟩))), (3, .iface 180 (.agg #[.pointer (some ⟨3, 89, none⟩)])), (6, .pointer (some ⟨b3, 0, none⟩)), (8, .bool false), (16, .iface 79 (.int .i64 x)), (17, .iface 180 (.agg #[.pointer (some ⟨3, 79, none⟩)])), (18, .iface 180 (.agg #[.pointer (some ⟨3, 89, none⟩)]))]) 1 [0, 1, 3, 6, 8, 16, 17, 18] (by kernel_rfl) ?_
  refine WL.invX (v := .bool false) rfl rfl rfl rfl (fun w => mAssign _ w) rfl (fun w => xA_79_89 w) ?_
  refine WL.nil ?_
  refine hK9 _ _ _ ?_
  refine CW.condF rfl ?_
  refine CW.skip ?_
  refine hK8 _ _ _ ?_
  refine CW.seq fun K10 hK10 => ?_
  refine CW.seq fun K11 hK11 => ?_
  refine CW.region ?_
  refine WL.to (E' := [(0, .iface 79 (.int .i64 x)), (1, .iface 91 (.pointer (some ⟨tg, 0, none⟩))), (3, .iface 180 (.agg #[.pointer (some ⟨3, 89, none⟩)])), (6, .pointer (some ⟨b3, 0, none⟩)), (8, .bool false), (16, .iface 79 (.int .i64 x)), (17, .iface 180 (.agg #[.pointer (some ⟨3, 79, none⟩)])), (18, .iface 180 (.agg #[.pointer (some ⟨3, 89, none⟩)])), (19, .bool false), (26, .iface 79 (.int .i64 x))]) 1 [0, 1, 3, 6, 8, 16, 17, 18, 19, 26] (by kernel_rfl) ?_
  refine WL.assertC rfl rfl rfl (fun w => tA_As _ w) ?_
  refine WL.to (E' := [(0, .iface 79 (.int .i64 x)), (1, .iface 91 (.pointer (some ⟨tg, 0, none⟩))), (3, .iface 180 (.agg #[.pointer (some ⟨3, 89, none⟩)])), (6, .pointer (some ⟨b3, 0, none⟩)), (8, .bool false), (16, .iface 79 (.int .i64 x)), (17, .iface 180 (.agg #[.pointer (some ⟨3, 79, none⟩)])), (18, .iface 180 (.agg #[.pointer (some ⟨3, 89, none⟩)])), (19, .bool false), (26, .iface 79 (.int .i64 x)), (27, .tuple #[.nilIface, .bool false]), (25, .tuple #[.nilIface, .bool false]), (28, .nilIface), (29, .bool false), (9, .nilIface), (10, .bool false)]) 5 [0, 1, 3, 6, 8, 16, 17, 18, 19, 26, 27, 25, 28, 29, 9, 10] (by kernel_rfl) ?_
  refine WL.nil ?_
  refine hK11 _ _ _ ?_
  refine CW.seq fun K12 hK12 => ?_
  refine CW.region ?_
  refine WL.to (E' := [(0, .iface 79 (.int .i64 x)), (1, .iface 91 (.pointer (some ⟨tg, 0, none⟩))), (3, .iface 180 (.agg #[.pointer (some ⟨3, 89, none⟩)])), (6, .pointer (some ⟨b3, 0, none⟩)), (8, .bool false), (16, .iface 79 (.int .i64 x)), (17, .iface 180 (.agg #[.pointer (some ⟨3, 79, none⟩)])), (18, .iface 180 (.agg #[.pointer (some ⟨3, 89, none⟩)])), (19, .bool false), (26, .iface 79 (.int .i64 x)), (27, .tuple #[.nilIface, .bool false]), (25, .tuple #[.nilIface, .bool false]), (28, .nilIface), (29, .bool false), (9, .nilIface), (10, .bool false), (30, .bool false), (31, .bool false), (32, undef), (33, undef), (34, undef), (35, .bool false)]) 6 [0, 1, 3, 6, 8, 16, 17, 18, 19, 26, 27, 25, 28, 29, 9, 10, 30, 31, 32, 33, 34, 35] (by kernel_rfl) ?_
  refine WL.nil ?_
  refine hK12 _ _ _ ?_
  refine CW.condF rfl ?_
  refine CW.skip ?_
  refine hK10 _ _ _ ?_
  refine CW.seq fun K13 hK13 => ?_
  refine CW.region ?_
  refine WL.to (E' := [(0, .iface 79 (.int .i64 x)), (1, .iface 91 (.pointer (some ⟨tg, 0, none⟩))), (3, .iface 180 (.agg #[.pointer (some ⟨3, 89, none⟩)])), (6, .pointer (some ⟨b3, 0, none⟩)), (8, .bool false), (16, .iface 79 (.int .i64 x)), (17, .iface 180 (.agg #[.pointer (some ⟨3, 79, none⟩)])), (18, .iface 180 (.agg #[.pointer (some ⟨3, 89, none⟩)])), (19, .bool false), (26, .iface 79 (.int .i64 x)), (27, .tuple #[.nilIface, .bool false]), (25, .tuple #[.nilIface, .bool false]), (28, .nilIface), (29, .bool false), (9, .nilIface), (10, .bool false), (30, .bool false), (31, .bool false), (32, undef), (33, undef), (34, undef), (35, .bool false), (36, .iface 79 (.int .i64 x))]) 1 [0, 1, 3, 6, 8, 16, 17, 18, 19, 26, 27, 25, 28, 29, 9, 10, 30, 31, 32, 33, 34, 35, 36] (by kernel_rfl) ?_
  refine WL.nil ?_
  refine hK13 _ _ _ ?_
  refine CW.block ?_
  refine CW.seq fun K14 hK14 => ?_
  refine CW.region ?_
  refine WL.assertC rfl rfl rfl (fun w => tA_Un _ w) ?_
  refine WL.to (E' := [(0, .iface 79 (.int .i64 x)), (1, .iface 91 (.pointer (some ⟨tg, 0, none⟩))), (3, .iface 180 (.agg #[.pointer (some ⟨3, 89, none⟩)])), (6, .pointer (some ⟨b3, 0, none⟩)), (8, .bool false), (16, .iface 79 (.int .i64 x)), (17, .iface 180 (.agg #[.pointer (some ⟨3, 79, none⟩)])), (18, .iface 180 (.agg #[.pointer (some ⟨3, 89, none⟩)])), (19, .bool false), (26, .iface 79 (.int .i64 x)), (27, .tuple #[.nilIface, .bool false]), (25, .tuple #[.nilIface, .bool false]), (28, .nilIface), (29, .bool false), (9, .nilIface), (10, .bool false), (30, .bool false), (31, .bool false), (32, undef), (33, undef), (34, undef), (35, .bool false), (36, .iface 79 (.int .i64 x)), (37, .tuple #[.nilIface, .bool false]), (38, .bool false), (39, .nilIface)]) 2 [0, 1, 3, 6, 8, 16, 17, 18, 19, 26, 27, 25, 28, 29, 9, 10, 30, 31, 32, 33, 34, 35, 36, 37, 38, 39] (by kernel_rfl) ?_
  refine WL.nil ?_
  refine hK14 _ _ _ ?_
  refine CW.condF rfl ?_
  refine CW.seq fun K15 hK15 => ?_
  refine CW.region ?_
  refine WL.assertC rfl rfl rfl (fun w => tA_Uns _ w) ?_
  refine WL.to (E' := [(0, .iface 79 (.int .i64 x)), (1, .iface 91 (.pointer (some ⟨tg, 0, none⟩))), (3, .iface 180 (.agg #[.pointer (some ⟨3, 89, none⟩)])), (6, .pointer (some ⟨b3, 0, none⟩)), (8, .bool false), (16, .iface 79 (.int .i64 x)), (17, .iface 180 (.agg #[.pointer (some ⟨3, 79, none⟩)])), (18, .iface 180 (.agg #[.pointer (some ⟨3, 89, none⟩)])), (19, .bool false), (26, .iface 79 (.int .i64 x)), (27, .tuple #[.nilIface, .bool false]), (25, .tuple #[.nilIface, .bool false]), (28, .nilIface), (29, .bool false), (9, .nilIface), (10, .bool false), (30, .bool false), (31, .bool false), (32, undef), (33, undef), (34, undef), (35, .bool false), (36, .iface 79 (.int .i64 x)), (37, .tuple #[.nilIface, .bool false]), (38, .bool false), (39, .nilIface), (44, .tuple #[.nilIface, .bool false]), (45, .bool false), (46, .nilIface)]) 2 [0, 1, 3, 6, 8, 16, 17, 18, 19, 26, 27, 25, 28, 29, 9, 10, 30, 31, 32, 33, 34, 35, 36, 37, 38, 39, 44, 45, 46] (by kernel_rfl) ?_
  refine WL.nil ?_
  refine hK15 _ _ _ ?_
  refine CW.condF rfl ?_
  refine CW.seq fun K16 hK16 => ?_
  refine CW.region ?_
  refine WL.to (E' := [(0, .iface 79 (.int .i64 x)), (1, .iface 91 (.pointer (some ⟨tg, 0, none⟩))), (3, .iface 180 (.agg #[.pointer (some ⟨3, 89, none⟩)])), (6, .pointer (some ⟨b3, 0, none⟩)), (8, .bool false), (16, .iface 79 (.int .i64 x)), (17, .iface 180 (.agg #[.pointer (some ⟨3, 79, none⟩)])), (18, .iface 180 (.agg #[.pointer (some ⟨3, 89, none⟩)])), (19, .bool false), (26, .iface 79 (.int .i64 x)), (27, .tuple #[.nilIface, .bool false]), (25, .tuple #[.nilIface, .bool false]), (28, .nilIface), (29, .bool false), (9, .nilIface), (10, .bool false), (30, .bool false), (31, .bool false), (32, undef), (33, undef), (34, undef), (35, .bool false), (36, .iface 79 (.int .i64 x)), (37, .tuple #[.nilIface, .bool false]), (38, .bool false), (39, .nilIface), (44, .tuple #[.nilIface, .bool false]), (45, .bool false), (46, .nilIface)]) 1 [0, 1, 3, 6, 8, 16, 17, 18, 19, 26, 27, 25, 28, 29, 9, 10, 30, 31, 32, 33, 34, 35, 36, 37, 38, 39, 44, 45, 46] (by kernel_rfl) ?_
  refine WL.nil ?_
  refine hK16 _ _ _ ?_
  refine CW.seq fun K17 hK17 => ?_
  refine CW.region ?_
  refine WL.to (E' := [(0, .iface 79 (.int .i64 x)), (1, .iface 91 (.pointer (some ⟨tg, 0, none⟩))), (3, .iface 180 (.agg #[.pointer (some ⟨3, 89, none⟩)])), (6, .pointer (some ⟨b3, 0, none⟩)), (8, .bool false), (16, .iface 79 (.int .i64 x)), (17, .iface 180 (.agg #[.pointer (some ⟨3, 79, none⟩)])), (18, .iface 180 (.agg #[.pointer (some ⟨3, 89, none⟩)])), (19, .bool false), (26, .iface 79 (.int .i64 x)), (27, .tuple #[.nilIface, .bool false]), (25, .tuple #[.nilIface, .bool false]), (28, .nilIface), (29, .bool false), (9, .nilIface), (10, .bool false), (30, .bool false), (31, .bool false), (32, undef), (33, undef), (34, undef), (35, .bool false), (36, .iface 79 (.int .i64 x)), (37, .tuple #[.nilIface, .bool false]), (38, .bool false), (39, .nilIface), (44, .tuple #[.nilIface, .bool false]), (45, .bool false), (46, .nilIface)]) 1 [0, 1, 3, 6, 8, 16, 17, 18, 19, 26, 27, 25, 28, 29, 9, 10, 30, 31, 32, 33, 34, 35, 36, 37, 38, 39, 44, 45, 46] (by kernel_rfl) ?_
  refine WL.nil ?_
  refine hK17 _ _ _ ?_
  refine CW.ret fun a ha => ?_
  try simp (decide := true) only [Exit.inBlock, Exit.then, ↓reduceIte]
  exact fin ha.defers (res_tmp rfl ha rfl _) ⟨rfl, (u5.sub (by simp))⟩

theorem as_93 {w : World} {x : Int} {tg vb : Nat} (hv : Blk w vb [.pointer (some ⟨tg, 0, none⟩)] 93) :
    Ret Tryz.prog 63 #[.iface 79 (.int .i64 x), .iface 93 (.pointer (some ⟨tg, 0, none⟩)), .agg #[.pointer (some ⟨3, 93, none⟩), .pointer (some ⟨vb, 0, none⟩), .int .u64 150], .iface 180 (.agg #[.pointer (some ⟨3, 92, none⟩)])] w fun v w' => v = .bool false ∧ Only [] w w' := by
  refine enterL (args := [.iface 79 (.int .i64 x), .iface 93 (.pointer (some ⟨tg, 0, none⟩)), .agg #[.pointer (some ⟨3, 93, none⟩), .pointer (some ⟨vb, 0, none⟩), .int .u64 150], .iface 180 (.agg #[.pointer (some ⟨3, 92, none⟩)])]) Tryz.func63 rfl rfl rfl ?_
  refine CW.seq fun K1 hK1 => ?_
  refine CW.region ?_
  refine WL.box (cs := [.pointer (some ⟨3, 93, none⟩), .pointer (some ⟨vb, 0, none⟩), .int .u64 150]) rfl rfl rfl rfl ?_
  intro w2 b3 h4 u5 g6
  refine WL.to (E' := [(0, .iface 79 (.int .i64 x)), (1, .iface 93 (.pointer (some ⟨tg, 0, none⟩))), (3, .iface 180 (.agg #[.pointer (some ⟨3, 92, none⟩)])), (6, .pointer (some ⟨b3, 0, none⟩)), (8, .bool false)]) 1 [0, 1, 3, 6, 8] (by kernel_rfl) ?_
  refine WL.nil ?_
  refine hK1 _ _ _ ?_
  refine CW.block ?_
  refine CW.round1 fun K7 hK7 => ?_
  refine CW.block ?_
  refine CW.seq fun K8 hK8 => ?_
  refine CW.seq fun K9 hK9 => ?_
  refine CW.region ?_
  refine WL.to (E' := [(0, .iface 79 (.int .i64 x)), (1, .iface 93 (.pointer (some ⟨tg, 0, none⟩))), (3, .iface 180 (.agg #[.pointer (some ⟨3, 92, none⟩)])), (6, .pointer (some ⟨b3, 0, none⟩)), (8, .bool false), (16, .iface 79 (.int .i64 x))]) 1 [0, 1, 3, 6, 8, 16] (by kernel_rfl) ?_
  refine WL.extG rfl rfl rfl rfl rfl (xT_79 _ _) ?_
  refine WL.to (E' := [(0, .iface 79 (.int .i64 x)), (1, .iface 93 (.pointer (some ⟨tg, 0, none⟩))), (3, .iface 180 (.agg #[.pointer (some ⟨3, 92, none⟩)])), (6, .pointer (some ⟨b3, 0, none⟩)), (8, .bool false), (16, .iface 79 (.int .i64 x)), (17, .iface 180 (.agg #[.pointer (some ⟨3, 79, none⟩)])), (18, .iface 180 (.agg #[.pointer (some ⟨3, 92, none⟩)]))]) 1 [0, 1, 3, 6, 8, 16, 17, 18] (by kernel_rfl) ?_
  refine WL.invX (v := .bool false) rfl rfl rfl rfl (fun w => mAssign _ w) rfl (fun w => xA_79_92 w) ?_
  refine WL.nil ?_
  refine hK9 _ _ _ ?_
  refine CW.condF rfl ?_
  refine CW.skip ?_
  refine hK8 _ _ _ ?_
  refine CW.seq fun K10 hK10 => ?_
  refine CW.seq fun K11 hK11 => ?_
  refine CW.region ?_
  refine WL.to (E' := [(0, .iface 79 (.int .i64 x)), (1, .iface 93 (.pointer (some ⟨tg, 0, none⟩))), (3, .iface 180 (.agg #[.pointer (some ⟨3, 92, none⟩)])), (6, .pointer (some ⟨b3, 0, none⟩)), (8, .bool false), (16, .iface 79 (.int .i64 x)), (17, .iface 180 (.agg #[.pointer (some ⟨3, 79, none⟩)])), (18, .iface 180 (.agg #[.pointer (some ⟨3, 92, none⟩)])), (19, .bool false), (26, .iface 79 (.int .i64 x))]) 1 [0, 1, 3, 6, 8, 16, 17, 18, 19, 26] (by kernel_rfl) ?_
  refine WL.assertC rfl rfl rfl (fun w => tA_As _ w) ?_
  refine WL.to (E' := [(0, .iface 79 (.int .i64 x)), (1, .iface 93 (.pointer (some ⟨tg, 0, none⟩))), (3, .iface 180 (.agg #[.pointer (some ⟨3, 92, none⟩)])), (6, .pointer (some ⟨b3, 0, none⟩)), (8, .bool false), (16, .iface 79 (.int .i64 x)), (17, .iface 180 (.agg #[.pointer (some ⟨3, 79, none⟩)])), (18, .iface 180 (.agg #[.pointer (some ⟨3, 92, none⟩)])), (19, .bool false), (26, .iface 79 (.int .i64 x)), (27, .tuple #[.nilIface, .bool false]), (25, .tuple #[.nilIface, .bool false]), (28, .nilIface), (29, .bool false), (9, .nilIface), (10, .bool false)]) 5 [0, 1, 3, 6, 8, 16, 17, 18, 19, 26, 27, 25, 28, 29, 9, 10] (by kernel_rfl) ?_
  refine WL.nil ?_
  refine hK11 _ _ _ ?_
  refine CW.seq fun K12 hK12 => ?_
  refine CW.region ?_
  refine WL.to (E' := [(0, .iface 79 (.int .i64 x)), (1, .iface 93 (.pointer (some ⟨tg, 0, none⟩))), (3, .iface 180 (.agg #[.pointer (some ⟨3, 92, none⟩)])), (6, .pointer (some ⟨b3, 0, none⟩)), (8, .bool false), (16, .iface 79 (.int .i64 x)), (17, .iface 180 (.agg #[.pointer (some ⟨3, 79, none⟩)])), (18, .iface 180 (.agg #[.pointer (some ⟨3, 92, none⟩)])), (19, .bool false), (26, .iface 79 (.int .i64 x)), (27, .tuple #[.nilIface, .bool false]), (25, .tuple #[.nilIface, .bool false]), (28, .nilIface), (29, .bool false), (9, .nilIface), (10, .bool false), (30, .bool false), (31, .bool false), (32, undef), (33, undef), (34, undef), (35, .bool false)]) 6 [0, 1, 3, 6, 8, 16, 17, 18, 19, 26, 27, 25, 28, 29, 9, 10, 30, 31, 32, 33, 34, 35] (by kernel_rfl) ?_
  refine WL.nil ?_
  refine hK12 _ _ _ ?_
  refine CW.condF rfl ?_
  refine CW.skip ?_
  refine hK10 _ _ _ ?_
  refine CW.seq fun K13 hK13 => ?_
  refine CW.region ?_
  refine WL.to (E' := [(0, .iface 79 (.int .i64 x)), (1, .iface 93 (.pointer (some ⟨tg, 0, none⟩))), (3, .iface 180 (.agg #[.pointer (some ⟨3, 92, none⟩)])), (6, .pointer (some ⟨b3, 0, none⟩)), (8, .bool false), (16, .iface 79 (.int .i64 x)), (17, .iface 180 (.agg #[.pointer (some ⟨3, 79, none⟩)])), (18, .iface 180 (.agg #[.pointer (some ⟨3, 92, none⟩)])), (19, .bool false), (26, .iface 79 (.int .i64 x)), (27, .tuple #[.nilIface, .bool false]), (25, .tuple #[.nilIface, .bool false]), (28, .nilIface), (29, .bool false), (9, .nilIface), (10, .bool false), (30, .bool false), (31, .bool false), (32, undef), (33, undef), (34, undef), (35, .bool false), (36, .iface 79 (.int .i64 x))]) 1 [0, 1, 3, 6, 8, 16, 17, 18, 19, 26, 27, 25, 28, 29, 9, 10, 30, 31, 32, 33, 34, 35, 36] (by kernel_rfl) ?_
  refine WL.nil ?_
  refine hK13 _ _ _ ?_
  refine CW.block ?_
  refine CW.seq fun K14 hK14 => ?_
  refine CW.region ?_
  refine WL.assertC rfl rfl rfl (fun w => tA_Un _ w) ?_
  refine WL.to (E' := [(0, .iface 79 (.int .i64 x)), (1, .iface 93 (.pointer (some ⟨tg, 0, none⟩))), (3, .iface 180 (.agg #[.pointer (some ⟨3, 92, none⟩)])), (6, .pointer (some ⟨b3, 0, none⟩)), (8, .bool false), (16, .iface 79 (.int .i64 x)), (17, .iface 180 (.agg #[.pointer (some ⟨3, 79, none⟩)])), (18, .iface 180 (.agg #[.pointer (some ⟨3, 92, none⟩)])), (19, .bool false), (26, .iface 79 (.int .i64 x)), (27, .tuple #[.nilIface, .bool false]), (25, .tuple #[.nilIface, .bool false]), (28, .nilIface), (29, .bool false), (9, .nilIface), (10, .bool false), (30, .bool false), (31, .bool false), (32, undef), (33, undef), (34, undef), (35, .bool false), (36, .iface 79 (.int .i64 x)), (37, .tuple #[.nilIface, .bool false]), (38, .bool false), (39, .nilIface)]) 2 [0, 1, 3, 6, 8, 16, 17, 18, 19, 26, 27, 25, 28, 29, 9, 10, 30, 31, 32, 33, 34, 35, 36, 37, 38, 39] (by kernel_rfl) ?_
  refine WL.nil ?_
  refine hK14 _ _ _ ?_
  refine CW.condF rfl ?_
  refine CW.seq fun K15 hK15 => ?_
  refine CW.region ?_
  refine WL.assertC rfl rfl rfl (fun w => tA_Uns _ w) ?_
  refine WL.to (E' := [(0, .iface 79 (.int .i64 x)), (1, .iface 93 (.pointer (some ⟨tg, 0, none⟩))), (3, .iface 180 (.agg #[.pointer (some ⟨3, 92, none⟩)])), (6, .pointer (some ⟨b3, 0, none⟩)), (8, .bool false), (16, .iface 79 (.int .i64 x)), (17, .iface 180 (.agg #[.pointer (some ⟨3, 79, none⟩)])), (18, .iface 180 (.agg #[.pointer (some ⟨3, 92, none⟩)])), (19, .bool false), (26, .iface 79 (.int .i64 x)), (27, .tuple #[.nilIface, .bool false]), (25, .tuple #[.nilIface, .bool false]), (28, .nilIface), (29, .bool false), (9, .nilIface), (10, .bool false), (30, .bool false), (31, .bool false), (32, undef), (33, undef), (34, undef), (35, .bool false), (36, .iface 79 (.int .i64 x)), (37, .tuple #[.nilIface, .bool false]), (38, .bool false), (39, .nilIface), (44, .tuple #[.nilIface, .bool false]), (45, .bool false), (46, .nilIface)]) 2 [0, 1, 3, 6, 8, 16, 17, 18, 19, 26, 27, 25, 28, 29, 9, 10, 30, 31, 32, 33, 34, 35, 36, 37, 38, 39, 44, 45, 46] (by kernel_rfl) ?_
  refine WL.nil ?_
  refine hK15 _ _ _ ?_
  refine CW.condF rfl ?_
  refine CW.seq fun K16 hK16 => ?_
  refine CW.region ?_
  refine WL.to (E' := [(0, .iface 79 (.int .i64 x)), (1, .iface 93 (.pointer (some ⟨tg, 0, none⟩))), (3, .iface 180 (.agg #[.pointer (some ⟨3, 92, none⟩)])), (6, .pointer (some ⟨b3, 0, none⟩)), (8, .bool false), (16, .iface 79 (.int .i64 x)), (17, .iface 180 (.agg #[.pointer (some ⟨3, 79, none⟩)])), (18, .iface 180 (.agg #[.pointer (some ⟨3, 92, none⟩)])), (19, .bool false), (26, .iface 79 (.int .i64 x)), (27, .tuple #[.nilIface, .bool false]), (25, .tuple #[.nilIface, .bool false]), (28, .nilIface), (29, .bool false), (9, .nilIface), (10, .bool false), (30, .bool false), (31, .bool false), (32, undef), (33, undef), (34, undef), (35, .bool false), (36, .iface 79 (.int .i64 x)), (37, .tuple #[.nilIface, .bool false]), (38, .bool false), (39, .nilIface), (44, .tuple #[.nilIface, .bool false]), (45, .bool false), (46, .nilIface)]) 1 [0, 1, 3, 6, 8, 16, 17, 18, 19, 26, 27, 25, 28, 29, 9, 10, 30, 31, 32, 33, 34, 35, 36, 37, 38, 39, 44, 45, 46] (by kernel_rfl) ?_
  refine WL.nil ?_
  refine hK16 _ _ _ ?_
  refine CW.seq fun K17 hK17 => ?_
  refine CW.region ?_
  refine WL.to (E' := [(0, .iface 79 (.int .i64 x)), (1, .iface 93 (.pointer (some ⟨tg, 0, none⟩))), (3, .iface 180 (.agg #[.pointer (some ⟨3, 92, none⟩)])), (6, .pointer (some ⟨b3, 0, none⟩)), (8, .bool false), (16, .iface 79 (.int .i64 x)), (17, .iface 180 (.agg #[.pointer (some ⟨3, 79, none⟩)])), (18, .iface 180 (.agg #[.pointer (some ⟨3, 92, none⟩)])), (19, .bool false), (26, .iface 79 (.int .i64 x)), (27, .tuple #[.nilIface, .bool false]), (25, .tuple #[.nilIface, .bool false]), (28, .nilIface), (29, .bool false), (9, .nilIface), (10, .bool false), (30, .bool false), (31, .bool false), (32, undef), (33, undef), (34, undef), (35, .bool false), (36, .iface 79 (.int .i64 x)), (37, .tuple #[.nilIface, .bool false]), (38, .bool false), (39, .nilIface), (44, .tuple #[.nilIface, .bool false]), (45, .bool false), (46, .nilIface)]) 1 [0, 1, 3, 6, 8, 16, 17, 18, 19, 26, 27, 25, 28, 29, 9, 10, 30, 31, 32, 33, 34, 35, 36, 37, 38, 39, 44, 45, 46] (by kernel_rfl) ?_
  refine WL.nil ?_
  refine hK17 _ _ _ ?_
  refine CW.ret fun a ha => ?_
  try simp (decide := true) only [Exit.inBlock, Exit.then, ↓reduceIte]
  exact fin ha.defers (res_tmp rfl ha rfl _) ⟨rfl, (u5.sub (by simp))⟩

theorem as_94 {w : World} {x : Int} {tg vb : Nat} (hv : Blk w vb [.pointer (some ⟨tg, 0, none⟩)] 94) (htg : Blk w tg [.int .i64 0] 79) :
    Ret Tryz.prog 63 #[.iface 79 (.int .i64 x), .iface 94 (.pointer (some ⟨tg, 0, none⟩)), .agg #[.pointer (some ⟨3, 94, none⟩), .pointer (some ⟨vb, 0, none⟩), .int .u64 150], .iface 180 (.agg #[.pointer (some ⟨3, 79, none⟩)])] w fun v w' => v = .bool true ∧ Blk w' tg [.int .i64 x] 79 ∧ Only [tg] w w' := by
  refine enterL (args := [.iface 79 (.int .i64 x), .iface 94 (.pointer (some ⟨tg, 0, none⟩)), .agg #[.pointer (some ⟨3, 94, none⟩), .pointer (some ⟨vb, 0, none⟩), .int .u64 150], .iface 180 (.agg #[.pointer (some ⟨3, 79, none⟩)])]) Tryz.func63 rfl rfl rfl ?_
  refine CW.seq fun K1 hK1 => ?_
  refine CW.region ?_
  refine WL.box (cs := [.pointer (some ⟨3, 94, none⟩), .pointer (some ⟨vb, 0, none⟩), .int .u64 150]) rfl rfl rfl rfl ?_
  intro w2 b3 h4 u5 g6
  refine WL.to (E' := [(0, .iface 79 (.int .i64 x)), (1, .iface 94 (.pointer (some ⟨tg, 0, none⟩))), (3, .iface 180 (.agg #[.pointer (some ⟨3, 79, none⟩)])), (6, .pointer (some ⟨b3, 0, none⟩)), (8, .bool false)]) 1 [0, 1, 3, 6, 8] (by kernel_rfl) ?_
  refine WL.nil ?_
  refine hK1 _ _ _ ?_
  refine CW.block ?_
  refine CW.round1 fun K7 hK7 => ?_
  refine CW.block ?_
  refine CW.seq fun K8 hK8 => ?_
  refine CW.seq fun K9 hK9 => ?_
  refine CW.region ?_
  refine WL.to (E' := [(0, .iface 79 (.int .i64 x)), (1, .iface 94 (.pointer (some ⟨tg, 0, none⟩))), (3, .iface 180 (.agg #[.pointer (some ⟨3, 79, none⟩)])), (6, .pointer (some ⟨b3, 0, none⟩)), (8, .bool false), (16, .iface 79 (.int .i64 x))]) 1 [0, 1, 3, 6, 8, 16] (by kernel_rfl) ?_
  refine WL.extG rfl rfl rfl rfl rfl (xT_79 _ _) ?_
  refine WL.to (E' := [(0, .iface 79 (.int .i64 x)), (1, .iface 94 (.pointer (some ⟨tg, 0, none⟩))), (3, .iface 180 (.agg #[.pointer (some ⟨3, 79, none⟩)])), (6, .pointer (some ⟨b3, 0, none⟩)), (8, .bool false), (16, .iface 79 (.int .i64 x)), (17, .iface 180 (.agg #[.pointer (some ⟨3, 79, none⟩)])), (18, .iface 180 (.agg #[.pointer (some ⟨3, 79, none⟩)]))]) 1 [0, 1, 3, 6, 8, 16, 17, 18] (by kernel_rfl) ?_
  refine WL.invX (v := .bool true) rfl rfl rfl rfl (fun w => mAssign _ w) rfl (fun w => xA_79_79 w) ?_
  refine WL.nil ?_
  refine hK9 _ _ _ ?_
  refine CW.condT rfl ?_
  refine CW.seq fun K10 hK10 => ?_
  refine CW.region ?_
  refine WL.loadN rfl agg141 siz141 rfl rfl h4 rfl rfl ?_
  have h11 := (hv.keep u5 nm0)
  refine WL.extG rfl rfl rfl rfl rfl (xV_94 h11) ?_
  refine WL.to (E' := [(0, .iface 79 (.int .i64 x)), (1, .iface 94 (.pointer (some ⟨tg, 0, none⟩))), (3, .iface 180 (.agg #[.pointer (some ⟨3, 79, none⟩)])), (6, .pointer (some ⟨b3, 0, none⟩)), (8, .bool false), (16, .iface 79 (.int .i64 x)), (17, .iface 180 (.agg #[.pointer (some ⟨3, 79, none⟩)])), (18, .iface 180 (.agg #[.pointer (some ⟨3, 79, none⟩)])), (19, .bool true), (20, .agg #[.pointer (some ⟨3, 94, none⟩), .pointer (some ⟨vb, 0, none⟩), .int .u64 150]), (21, .agg #[.pointer (some ⟨3, 79, none⟩), .pointer (some ⟨tg, 0, none⟩), .int .u64 386]), (22, .iface 79 (.int .i64 x))]) 1 [0, 1, 3, 6, 8, 16, 17, 18, 19, 20, 21, 22] (by kernel_rfl) ?_
  refine WL.extA (cs := [.int .i64 x]) (T := 79) (vf := fun b => .agg #[.pointer (some ⟨3, 79, none⟩), .pointer (some ⟨b, 0, none⟩), .int .u64 130]) rfl rfl rfl rfl rfl (x60_79 x) ?_
  intro w12 b13 h14 u15 g16
  have h17 := ((htg.keep u5 nm0).keep u15 nm0)
  obtain ⟨w18, e19, h20, u21⟩ := xS_79 h14 h17
  refine WL.extG rfl rfl rfl rfl rfl e19 ?_
  refine WL.sub [(0, .iface 79 (.int .i64 x)), (1, .iface 94 (.pointer (some ⟨tg, 0, none⟩))), (3, .iface 180 (.agg #[.pointer (some ⟨3, 79, none⟩)])), (6, .pointer (some ⟨b3, 0, none⟩)), (8, .bool false), (16, .iface 79 (.int .i64 x)), (17, .iface 180 (.agg #[.pointer (some ⟨3, 79, none⟩)])), (18, .iface 180 (.agg #[.pointer (some ⟨3, 79, none⟩)])), (19, .bool true), (20, .agg #[.pointer (some ⟨3, 94, none⟩), .pointer (some ⟨vb, 0, none⟩), .int .u64 150]), (21, .agg #[.pointer (some ⟨3, 79, none⟩), .pointer (some ⟨tg, 0, none⟩), .int .u64 386]), (22, .iface 79 (.int .i64 x)), (23, .agg #[.pointer (some ⟨3, 79, none⟩), .pointer (some ⟨b13, 0, none⟩), .int .u64 130])] ⟨rfl, rfl, rfl, rfl, rfl, rfl, rfl, rfl, rfl, rfl, rfl, rfl, rfl, trivial⟩ ?_
  refine WL.nil ?_
  refine hK10 _ _ _ ?_
  refine CW.seq fun K22 hK22 => ?_
  refine CW.region ?_
  refine WL.to (E' := [(0, .iface 79 (.int .i64 x)), (1, .iface 94 (.pointer (some ⟨tg, 0, none⟩))), (3, .iface 180 (.agg #[.pointer (some ⟨3, 79, none⟩)])), (6, .pointer (some ⟨b3, 0, none⟩)), (8, .bool true), (16, .iface 79 (.int .i64 x)), (17, .iface 180 (.agg #[.pointer (some ⟨3, 79, none⟩)])), (18, .iface 180 (.agg #[.pointer (some ⟨3, 79, none⟩)])), (19, .bool true), (20, .agg #[.pointer (some ⟨3, 94, none⟩), .pointer (some ⟨vb, 0, none⟩), .int .u64 150]), (21, .agg #[.pointer (some ⟨3, 79, none⟩), .pointer (some ⟨tg, 0, none⟩), .int .u64 386]), (22, .iface 79 (.int .i64 x)), (23, .agg #[.pointer (some ⟨3, 79, none⟩), .pointer (some ⟨b13, 0, none⟩), .int .u64 130])]) 1 [0, 1, 3, 6, 8, 16, 17, 18, 19, 20, 21, 22, 23] (by kernel_rfl) ?_
  refine WL.nil ?_
  refine hK22 _ _ _ ?_
  refine CW.ret fun a ha => ?_
  try simp (decide := true) only [Exit.inBlock, Exit.then, ↓reduceIte]
  exact fin ha.defers (res_tmp rfl ha rfl _) ⟨rfl, h20, (((u5.trans u15).trans u21).sub (by intro k hk hl; simp only [Value.ownBlock, Option.toList, List.mem_append, List.mem_cons, List.not_mem_nil, or_false, false_or] at hk ⊢; have := u5.size; have := u15.size; have := u21.size; omega))⟩

theorem As_91 {w : World} {x : Int} {tg : Nat} (hE : ErrT w) :
    Ret Tryz.prog 35 #[.iface 79 (.int .i64 x), .iface 91 (.pointer (some ⟨tg, 0, none⟩))] w fun v w' => v = .bool false ∧ Only [] w w' := by
  refine enterL (args := [.iface 79 (.int .i64 x), .iface 91 (.pointer (some ⟨tg, 0, none⟩))]) Tryz.func35 rfl rfl rfl ?_
  refine CW.seq fun K1 hK1 => ?_
  refine CW.region ?_
  refine WL.to (E' := [(0, .iface 79 (.int .i64 x)), (1, .iface 91 (.pointer (some ⟨tg, 0, none⟩))), (4, .bool false)]) 1 [0, 1, 4] (by kernel_rfl) ?_
  refine WL.nil ?_
  refine hK1 _ _ _ ?_
  refine CW.seq fun K2 hK2 => ?_
  refine CW.seq fun K3 hK3 => ?_
  refine CW.region ?_
  refine WL.to (E' := [(0, .iface 79 (.int .i64 x)), (1, .iface 91 (.pointer (some ⟨tg, 0, none⟩))), (4, .bool false), (9, .bool false)]) 2 [0, 1, 4, 9] (by kernel_rfl) ?_
  refine WL.nil ?_
  refine hK3 _ _ _ ?_
  refine CW.condF rfl ?_
  refine CW.skip ?_
  refine hK2 _ _ _ ?_
  refine CW.seq fun K4 hK4 => ?_
  refine CW.seq fun K5 hK5 => ?_
  refine CW.region ?_
  refine WL.to (E' := [(0, .iface 79 (.int .i64 x)), (1, .iface 91 (.pointer (some ⟨tg, 0, none⟩))), (4, .bool false), (11, .bool false)]) 2 [0, 1, 4, 11] (by kernel_rfl) ?_
  refine WL.nil ?_
  refine hK5 _ _ _ ?_
  refine CW.condF rfl ?_
  refine CW.skip ?_
  refine hK4 _ _ _ ?_
  refine CW.seq fun K6 hK6 => ?_
  refine CW.region ?_
  refine WL.to (E' := [(0, .iface 79 (.int .i64 x)), (1, .iface 91 (.pointer (some ⟨tg, 0, none⟩))), (4, .bool false), (13, .iface 91 (.pointer (some ⟨tg, 0, none⟩)))]) 1 [0, 1, 4, 13] (by kernel_rfl) ?_
  refine WL.extA (cs := [.pointer (some ⟨tg, 0, none⟩)]) (T := 91) (vf := fun b => .agg #[.pointer (some ⟨3, 91, none⟩), .pointer (some ⟨b, 0, none⟩), .int .u64 150]) rfl rfl rfl rfl rfl (x60_91 tg) ?_
  intro w7 b8 h9 u10 g11
  refine WL.alloc (cs := [.pointer none, .pointer none, .int .u64 0]) rfl rfl zer141 rfl ?_
  intro w12 b13 h14 u15 g16
  refine WL.storeN rfl siz141 rfl rfl rfl rfl h14 (Nat.le_of_ble_eq_true rfl) ?_
  intro w17 h18 u19 z20
  refine WL.sub [(0, .iface 79 (.int .i64 x)), (1, .iface 91 (.pointer (some ⟨tg, 0, none⟩))), (4, .bool false), (5, .pointer (some ⟨b13, 0, none⟩))] ⟨rfl, rfl, rfl, rfl, trivial⟩ ?_
  refine WL.nil ?_
  refine hK6 _ _ _ ?_
  refine CW.seq fun K21 hK21 => ?_
  refine CW.region ?_
  refine WL.loadN rfl agg141 siz141 rfl rfl h18 rfl rfl ?_
  refine WL.extG rfl rfl rfl rfl rfl (x61_91 _ _) ?_
  refine WL.to (E' := [(0, .iface 79 (.int .i64 x)), (1, .iface 91 (.pointer (some ⟨tg, 0, none⟩))), (4, .bool false), (5, .pointer (some ⟨b13, 0, none⟩)), (6, .iface 180 (.agg #[.pointer (some ⟨3, 91, none⟩)]))]) 1 [0, 1, 4, 5, 6] (by kernel_rfl) ?_
  refine WL.nil ?_
  refine hK21 _ _ _ ?_
  refine CW.seq fun K22 hK22 => ?_
  refine CW.seq fun K23 hK23 => ?_
  refine CW.region ?_
  refine WL.to (E' := [(0, .iface 79 (.int .i64 x)), (1, .iface 91 (.pointer (some ⟨tg, 0, none⟩))), (4, .bool false), (5, .pointer (some ⟨b13, 0, none⟩)), (6, .iface 180 (.agg #[.pointer (some ⟨3, 91, none⟩)])), (17, .iface 180 (.agg #[.pointer (some ⟨3, 91, none⟩)]))]) 1 [0, 1, 4, 5, 6, 17] (by kernel_rfl) ?_
  refine WL.invX (v := .int .u8 22) rfl rfl rfl rfl (fun w => mKind _ w) rfl (fun w => xK_91 w) ?_
  refine WL.to (E' := [(0, .iface 79 (.int .i64 x)), (1, .iface 91 (.pointer (some ⟨tg, 0, none⟩))), (4, .bool false), (5, .pointer (some ⟨b13, 0, none⟩)), (6, .iface 180 (.agg #[.pointer (some ⟨3, 91, none⟩)])), (20, .bool false)]) 2 [0, 1, 4, 5, 6, 20] (by kernel_rfl) ?_
  refine WL.loadN rfl agg141 siz141 rfl rfl h18 rfl rfl ?_
  have h24 := (h9.keep u15 nm0)
  have h25 := (h24.keep u19 (nmc (Blk.ne h24 h14 rfl) nm0))
  refine WL.extG rfl rfl rfl rfl rfl (xN_91 h25) ?_
  refine WL.to (E' := [(0, .iface 79 (.int .i64 x)), (1, .iface 91 (.pointer (some ⟨tg, 0, none⟩))), (4, .bool false), (5, .pointer (some ⟨b13, 0, none⟩)), (6, .iface 180 (.agg #[.pointer (some ⟨3, 91, none⟩)])), (23, .bool false)]) 1 [0, 1, 4, 5, 6, 23] (by kernel_rfl) ?_
  refine WL.nil ?_
  refine hK23 _ _ _ ?_
  refine CW.condF rfl ?_
  refine CW.skip ?_
  refine hK22 _ _ _ ?_
  refine CW.seq fun K26 hK26 => ?_
  refine CW.region ?_
  refine WL.to (E' := [(0, .iface 79 (.int .i64 x)), (1, .iface 91 (.pointer (some ⟨tg, 0, none⟩))), (4, .bool false), (5, .pointer (some ⟨b13, 0, none⟩)), (25, .iface 180 (.agg #[.pointer (some ⟨3, 91, none⟩)]))]) 1 [0, 1, 4, 5, 25] (by kernel_rfl) ?_
  refine WL.invX (v := .iface 180 (.agg #[.pointer (some ⟨3, 89, none⟩)])) rfl rfl rfl rfl (fun w => mElem _ w) rfl (fun w => xE_91 w) ?_
  refine WL.to (E' := [(0, .iface 79 (.int .i64 x)), (1, .iface 91 (.pointer (some ⟨tg, 0, none⟩))), (4, .bool false), (5, .pointer (some ⟨b13, 0, none⟩)), (7, .iface 180 (.agg #[.pointer (some ⟨3, 89, none⟩)]))]) 1 [0, 1, 4, 5, 7] (by kernel_rfl) ?_
  refine WL.nil ?_
  refine hK26 _ _ _ ?_
  refine CW.seq fun K27 hK27 => ?_
  refine CW.seq fun K28 hK28 => ?_
  refine CW.region ?_
  refine WL.to (E' := [(0, .iface 79 (.int .i64 x)), (1, .iface 91 (.pointer (some ⟨tg, 0, none⟩))), (4, .bool false), (5, .pointer (some ⟨b13, 0, none⟩)), (7, .iface 180 (.agg #[.pointer (some ⟨3, 89, none⟩)])), (27, .iface 180 (.agg #[.pointer (some ⟨3, 89, none⟩)]))]) 1 [0, 1, 4, 5, 7, 27] (by kernel_rfl) ?_
  refine WL.invX (v := .int .u8 22) rfl rfl rfl rfl (fun w => mKind _ w) rfl (fun w => xK_89 w) ?_
  refine WL.to (E' := [(0, .iface 79 (.int .i64 x)), (1, .iface 91 (.pointer (some ⟨tg, 0, none⟩))), (4, .bool false), (5, .pointer (some ⟨b13, 0, none⟩)), (7, .iface 180 (.agg #[.pointer (some ⟨3, 89, none⟩)])), (30, .bool true), (31, .iface 180 (.agg #[.pointer (some ⟨3, 89, none⟩)]))]) 3 [0, 1, 4, 5, 7, 30, 31] (by kernel_rfl) ?_
  refine WL.loadC rfl agg144 rfl rfl (hE.keep ((((u10.trans u15).trans u19).sub (by intro k hk hl; simp only [Value.ownBlock, Option.toList, List.mem_append, List.mem_cons, List.not_mem_nil, or_false, false_or] at hk; have := g16; have := u10.size; have := u15.size; have := u19.size; omega))) nm0) ?_
  refine WL.invX (v := .bool true) rfl rfl rfl rfl (fun w => mImpl _ w) rfl (fun w => xI_89 w) ?_
  refine WL.to (E' := [(0, .iface 79 (.int .i64 x)), (1, .iface 91 (.pointer (some ⟨tg, 0, none⟩))), (4, .bool false), (5, .pointer (some ⟨b13, 0, none⟩)), (7, .iface 180 (.agg #[.pointer (some ⟨3, 89, none⟩)])), (35, .bool false)]) 2 [0, 1, 4, 5, 7, 35] (by kernel_rfl) ?_
  refine WL.nil ?_
  refine hK28 _ _ _ ?_
  refine CW.condF rfl ?_
  refine CW.skip ?_
  refine hK27 _ _ _ ?_
  refine CW.seq fun K29 hK29 => ?_
  refine CW.region ?_
  refine WL.to (E' := [(4, .bool false), (5, .pointer (some ⟨b13, 0, none⟩)), (7, .iface 180 (.agg #[.pointer (some ⟨3, 89, none⟩)])), (37, .iface 79 (.int .i64 x)), (38, .iface 91 (.pointer (some ⟨tg, 0, none⟩)))]) 2 [4, 5, 7, 37, 38] (by kernel_rfl) ?_
  refine WL.loadN rfl agg141 siz141 rfl rfl h18 rfl rfl ?_
  refine WL.to (E' := [(4, .bool false), (37, .iface 79 (.int .i64 x)), (38, .iface 91 (.pointer (some ⟨tg, 0, none⟩))), (39, .agg #[.pointer (some ⟨3, 91, none⟩), .pointer (some ⟨b8, 0, none⟩), .int .u64 150]), (40, .iface 180 (.agg #[.pointer (some ⟨3, 89, none⟩)]))]) 1 [4, 37, 38, 39, 40] (by kernel_rfl) ?_
  refine WL.call rfl rfl rfl rfl ent63 rfl (as_91 h25) ?_
  rintro _ w31 ⟨rfl, u30⟩
  refine WL.to (E' := [(4, .bool false)]) 1 [4] (by kernel_rfl) ?_
  refine WL.nil ?_
  refine hK29 _ _ _ ?_
  refine CW.ret fun a ha => ?_
  try simp (decide := true) only [Exit.inBlock, Exit.then, ↓reduceIte]
  exact fin ha.defers (res_tmp rfl ha rfl _) ⟨rfl, ((((u10.trans u15).trans u19).trans u30).sub (by intro k hk hl; simp only [Value.ownBlock, Option.toList, List.mem_append, List.mem_cons, List.not_mem_nil, or_false, false_or] at hk; have := g16; have := u10.size; have := u15.size; have := u19.size; have := u30.size; omega))⟩

theorem As_93 {w : World} {x : Int} {tg : Nat} (hE : ErrT w) :
    Ret Tryz.prog 35 #[.iface 79 (.int .i64 x), .iface 93 (.pointer (some ⟨tg, 0, none⟩))] w fun v w' => v = .bool false ∧ Only [] w w' := by
  refine enterL (args := [.iface 79 (.int .i64 x), .iface 93 (.pointer (some ⟨tg, 0, none⟩))]) Tryz.func35 rfl rfl rfl ?_
  refine CW.seq fun K1 hK1 => ?_
  refine CW.region ?_
  refine WL.to (E' := [(0, .iface 79 (.int .i64 x)), (1, .iface 93 (.pointer (some ⟨tg, 0, none⟩))), (4, .bool false)]) 1 [0, 1, 4] (by kernel_rfl) ?_
  refine WL.nil ?_
  refine hK1 _ _ _ ?_
  refine CW.seq fun K2 hK2 => ?_
  refine CW.seq fun K3 hK3 => ?_
  refine CW.region ?_
  refine WL.to (E' := [(0, .iface 79 (.int .i64 x)), (1, .iface 93 (.pointer (some ⟨tg, 0, none⟩))), (4, .bool false), (9, .bool false)]) 2 [0, 1, 4, 9] (by kernel_rfl) ?_
  refine WL.nil ?_
  refine hK3 _ _ _ ?_
  refine CW.condF rfl ?_
  refine CW.skip ?_
  refine hK2 _ _ _ ?_
  refine CW.seq fun K4 hK4 => ?_
  refine CW.seq fun K5 hK5 => ?_
  refine CW.region ?_
  refine WL.to (E' := [(0, .iface 79 (.int .i64 x)), (1, .iface 93 (.pointer (some ⟨tg, 0, none⟩))), (4, .bool false), (11, .bool false)]) 2 [0, 1, 4, 11] (by kernel_rfl) ?_
  refine WL.nil ?_
  refine hK5 _ _ _ ?_
  refine CW.condF rfl ?_
  refine CW.skip ?_
  refine hK4 _ _ _ ?_
  refine CW.seq fun K6 hK6 => ?_
  refine CW.region ?_
  refine WL.to (E' := [(0, .iface 79 (.int .i64 x)), (1, .iface 93 (.pointer (some ⟨tg, 0, none⟩))), (4, .bool false), (13, .iface 93 (.pointer (some ⟨tg, 0, none⟩)))]) 1 [0, 1, 4, 13] (by kernel_rfl) ?_
  refine WL.extA (cs := [.pointer (some ⟨tg, 0, none⟩)]) (T := 93) (vf := fun b => .agg #[.pointer (some ⟨3, 93, none⟩), .pointer (some ⟨b, 0, none⟩), .int .u64 150]) rfl rfl rfl rfl rfl (x60_93 tg) ?_
  intro w7 b8 h9 u10 g11
  refine WL.alloc (cs := [.pointer none, .pointer none, .int .u64 0]) rfl rfl zer141 rfl ?_
  intro w12 b13 h14 u15 g16
  refine WL.storeN rfl siz141 rfl rfl rfl rfl h14 (Nat.le_of_ble_eq_true rfl) ?_
  intro w17 h18 u19 z20
  refine WL.sub [(0, .iface 79 (.int .i64 x)), (1, .iface 93 (.pointer (some ⟨tg, 0, none⟩))), (4, .bool false), (5, .pointer (some ⟨b13, 0, none⟩))] ⟨rfl, rfl, rfl, rfl, trivial⟩ ?_
  refine WL.nil ?_
  refine hK6 _ _ _ ?_
  refine CW.seq fun K21 hK21 => ?_
  refine CW.region ?_
  refine WL.loadN rfl agg141 siz141 rfl rfl h18 rfl rfl ?_
  refine WL.extG rfl rfl rfl rfl rfl (x61_93 _ _) ?_
  refine WL.to (E' := [(0, .iface 79 (.int .i64 x)), (1, .iface 93 (.pointer (some ⟨tg, 0, none⟩))), (4, .bool false), (5, .pointer (some ⟨b13, 0, none⟩)), (6, .iface 180 (.agg #[.pointer (some ⟨3, 93, none⟩)]))]) 1 [0, 1, 4, 5, 6] (by kernel_rfl) ?_
  refine WL.nil ?_
  refine hK21 _ _ _ ?_
  refine CW.seq fun K22 hK22 => ?_
  refine CW.seq fun K23 hK23 => ?_
  refine CW.region ?_
  refine WL.to (E' := [(0, .iface 79 (.int .i64 x)), (1, .iface 93 (.pointer (some ⟨tg, 0, none⟩))), (4, .bool false), (5, .pointer (some ⟨b13, 0, none⟩)), (6, .iface 180 (.agg #[.pointer (some ⟨3, 93, none⟩)])), (17, .iface 180 (.agg #[.pointer (some ⟨3, 93, none⟩)]))]) 1 [0, 1, 4, 5, 6, 17] (by kernel_rfl) ?_
  refine WL.invX (v := .int .u8 22) rfl rfl rfl rfl (fun w => mKind _ w) rfl (fun w => xK_93 w) ?_
  refine WL.to (E' := [(0, .iface 79 (.int .i64 x)), (1, .iface 93 (.pointer (some ⟨tg, 0, none⟩))), (4, .bool false), (5, .pointer (some ⟨b13, 0, none⟩)), (6, .iface 180 (.agg #[.pointer (some ⟨3, 93, none⟩)])), (20, .bool false)]) 2 [0, 1, 4, 5, 6, 20] (by kernel_rfl) ?_
  refine WL.loadN rfl agg141 siz141 rfl rfl h18 rfl rfl ?_
  have h24 := (h9.keep u15 nm0)
  have h25 := (h24.keep u19 (nmc (Blk.ne h24 h14 rfl) nm0))
  refine WL.extG rfl rfl rfl rfl rfl (xN_93 h25) ?_
  refine WL.to (E' := [(0, .iface 79 (.int .i64 x)), (1, .iface 93 (.pointer (some ⟨tg, 0, none⟩))), (4, .bool false), (5, .pointer (some ⟨b13, 0, none⟩)), (6, .iface 180 (.agg #[.pointer (some ⟨3, 93, none⟩)])), (23, .bool false)]) 1 [0, 1, 4, 5, 6, 23] (by kernel_rfl) ?_
  refine WL.nil ?_
  refine hK23 _ _ _ ?_
  refine CW.condF rfl ?_
  refine CW.skip ?_
  refine hK22 _ _ _ ?_
  refine CW.seq fun K26 hK26 => ?_
  refine CW.region ?_
  refine WL.to (E' := [(0, .iface 79 (.int .i64 x)), (1, .iface 93 (.pointer (some ⟨tg, 0, none⟩))), (4, .bool false), (5, .pointer (some ⟨b13, 0, none⟩)), (25, .iface 180 (.agg #[.pointer (some ⟨3, 93, none⟩)]))]) 1 [0, 1, 4, 5, 25] (by kernel_rfl) ?_
  refine WL.invX (v := .iface 180 (.agg #[.pointer (some ⟨3, 92, none⟩)])) rfl rfl rfl rfl (fun w => mElem _ w) rfl (fun w => xE_93 w) ?_
  refine WL.to (E' := [(0, .iface 79 (.int .i64 x)), (1, .iface 93 (.pointer (some ⟨tg, 0, none⟩))), (4, .bool false), (5, .pointer (some ⟨b13, 0, none⟩)), (7, .iface 180 (.agg #[.pointer (some ⟨3, 92, none⟩)]))]) 1 [0, 1, 4, 5, 7] (by kernel_rfl) ?_
  refine WL.nil ?_
  refine hK26 _ _ _ ?_
  refine CW.seq fun K27 hK27 => ?_
  refine CW.seq fun K28 hK28 => ?_
  refine CW.region ?_
  refine WL.to (E' := [(0, .iface 79 (.int .i64 x)), (1, .iface 93 (.pointer (some ⟨tg, 0, none⟩))), (4, .bool false), (5, .pointer (some ⟨b13, 0, none⟩)), (7, .iface 180 (.agg #[.pointer (some ⟨3, 92, none⟩)])), (27, .iface 180 (.agg #[.pointer (some ⟨3, 92, none⟩)]))]) 1 [0, 1, 4, 5, 7, 27] (by kernel_rfl) ?_
  refine WL.invX (v := .int .u8 22) rfl rfl rfl rfl (fun w => mKind _ w) rfl (fun w => xK_92 w) ?_
  refine WL.to (E' := [(0, .iface 79 (.int .i64 x)), (1, .iface 93 (.pointer (some ⟨tg, 0, none⟩))), (4, .bool false), (5, .pointer (some ⟨b13, 0, none⟩)), (7, .iface 180 (.agg #[.pointer (some ⟨3, 92, none⟩)])), (30, .bool true), (31, .iface 180 (.agg #[.pointer (some ⟨3, 92, none⟩)]))]) 3 [0, 1, 4, 5, 7, 30, 31] (by kernel_rfl) ?_
  refine WL.loadC rfl agg144 rfl rfl (hE.keep ((((u10.trans u15).trans u19).sub (by intro k hk hl; simp only [Value.ownBlock, Option.toList, List.mem_append, List.mem_cons, List.not_mem_nil, or_false, false_or] at hk; have := g16; have := u10.size; have := u15.size; have := u19.size; omega))) nm0) ?_
  refine WL.invX (v := .bool true) rfl rfl rfl rfl (fun w => mImpl _ w) rfl (fun w => xI_92 w) ?_
  refine WL.to (E' := [(0, .iface 79 (.int .i64 x)), (1, .iface 93 (.pointer (some ⟨tg, 0, none⟩))), (4, .bool false), (5, .pointer (some ⟨b13, 0, none⟩)), (7, .iface 180 (.agg #[.pointer (some ⟨3, 92, none⟩)])), (35, .bool false)]) 2 [0, 1, 4, 5, 7, 35] (by kernel_rfl) ?_
  refine WL.nil ?_
  refine hK28 _ _ _ ?_
  refine CW.condF rfl ?_
  refine CW.skip ?_
  refine hK27 _ _ _ ?_
  refine CW.seq fun K29 hK29 => ?_
  refine CW.region ?_
  refine WL.to (E' := [(4, .bool false), (5, .pointer (some ⟨b13, 0, none⟩)), (7, .iface 180 (.agg #[.pointer (some ⟨3, 92, none⟩)])), (37, .iface 79 (.int .i64 x)), (38, .iface 93 (.pointer (some ⟨tg, 0, none⟩)))]) 2 [4, 5, 7, 37, 38] (by kernel_rfl) ?_
  refine WL.loadN rfl agg141 siz141 rfl rfl h18 rfl rfl ?_
  refine WL.to (E' := [(4, .bool false), (37, .iface 79 (.int .i64 x)), (38, .iface 93 (.pointer (some ⟨tg, 0, none⟩))), (39, .agg #[.pointer (some ⟨3, 93, none⟩), .pointer (some ⟨b8, 0, none⟩), .int .u64 150]), (40, .iface 180 (.agg #[.pointer (some ⟨3, 92, none⟩)]))]) 1 [4, 37, 38, 39, 40] (by kernel_rfl) ?_
  refine WL.call rfl rfl rfl rfl ent63 rfl (as_93 h25) ?_
  rintro _ w31 ⟨rfl, u30⟩
  refine WL.to (E' := [(4, .bool false)]) 1 [4] (by kernel_rfl) ?_
  refine WL.nil ?_
  refine hK29 _ _ _ ?_
  refine CW.ret fun a ha => ?_
  try simp (decide := true) only [Exit.inBlock, Exit.then, ↓reduceIte]
  exact fin ha.defers (res_tmp rfl ha rfl _) ⟨rfl, ((((u10.trans u15).trans u19).trans u30).sub (by intro k hk hl; simp only [Value.ownBlock, Option.toList, List.mem_append, List.mem_cons, List.not_mem_nil, or_false, false_or] at hk; have := g16; have := u10.size; have := u15.size; have := u19.size; have := u30.size; omega))⟩

theorem As_94 {w : World} {x : Int} {tg : Nat} (hE : ErrT w) (htg : Blk w tg [.int .i64 0] 79) :
    Ret Tryz.prog 35 #[.iface 79 (.int .i64 x), .iface 94 (.pointer (some ⟨tg, 0, none⟩))] w fun v w' => v = .bool true ∧ Blk w' tg [.int .i64 x] 79 ∧ Only [tg] w w' := by
  refine enterL (args := [.iface 79 (.int .i64 x), .iface 94 (.pointer (some ⟨tg, 0, none⟩))]) Tryz.func35 rfl rfl rfl ?_
  refine CW.seq fun K1 hK1 => ?_
  refine CW.region ?_
  refine WL.to (E' := [(0, .iface 79 (.int .i64 x)), (1, .iface 94 (.pointer (some ⟨tg, 0, none⟩))), (4, .bool false)]) 1 [0, 1, 4] (by kernel_rfl) ?_
  refine WL.nil ?_
  refine hK1 _ _ _ ?_
  refine CW.seq fun K2 hK2 => ?_
  refine CW.seq fun K3 hK3 => ?_
  refine CW.region ?_
  refine WL.to (E' := [(0, .iface 79 (.int .i64 x)), (1, .iface 94 (.pointer (some ⟨tg, 0, none⟩))), (4, .bool false), (9, .bool false)]) 2 [0, 1, 4, 9] (by kernel_rfl) ?_
  refine WL.nil ?_
  refine hK3 _ _ _ ?_
  refine CW.condF rfl ?_
  refine CW.skip ?_
  refine hK2 _ _ _ ?_
  refine CW.seq fun K4 hK4 => ?_
  refine CW.seq fun K5 hK5 => ?_
  refine CW.region ?_
  refine WL.to (E' := [(0, .iface 79 (.int .i64 x)), (1, .iface 94 (.pointer (some ⟨tg, 0, none⟩))), (4, .bool false), (11, .bool false)]) 2 [0, 1, 4, 11] (by kernel_rfl) ?_
  refine WL.nil ?_
  refine hK5 _ _ _ ?_
  refine CW.condF rfl ?_
  refine CW.skip ?_
  refine hK4 _ _ _ ?_
  refine CW.seq fun K6 hK6 => ?_
  refine CW.region ?_
  refine WL.to (E' := [(0, .iface 79 (.int .i64 x)), (1, .iface 94 (.pointer (some ⟨tg, 0, none⟩))), (4, .bool false), (13, .iface 94 (.pointer (some ⟨tg, 0, none⟩)))]) 1 [0, 1, 4, 13] (by kernel_rfl) ?_
  refine WL.extA (cs := [.pointer (some ⟨tg, 0, none⟩)]) (T := 94) (vf := fun b => .agg #[.pointer (some ⟨3, 94, none⟩), .pointer (some ⟨b, 0, none⟩), .int .u64 150]) rfl rfl rfl rfl rfl (x60_94 tg) ?_
  intro w7 b8 h9 u10 g11
  refine WL.alloc (cs := [.pointer none, .pointer none, .int .u64 0]) rfl rfl zer141 rfl ?_
  intro w12 b13 h14 u15 g16
  refine WL.storeN rfl siz141 rfl rfl rfl rfl h14 (Nat.le_of_ble_eq_true rfl) ?_
  intro w17 h18 u19 z20
  refine WL.sub [(0, .iface 79 (.int .i64 x)), (1, .iface 94 (.pointer (some ⟨tg, 0, none⟩))), (4, .bool false), (5, .pointer (some ⟨b13, 0, none⟩))] ⟨rfl, rfl, rfl, rfl, trivial⟩ ?_
  refine WL.nil ?_
  refine hK6 _ _ _ ?_
  refine CW.seq fun K21 hK21 => ?_
  refine CW.region ?_
  refine WL.loadN rfl agg141 siz141 rfl rfl h18 rfl rfl ?_
  refine WL.extG rfl rfl rfl rfl rfl (x61_94 _ _) ?_
  refine WL.to (E' := [(0, .iface 79 (.int .i64 x)), (1, .iface 94 (.pointer (some ⟨tg, 0, none⟩))), (4, .bool false), (5, .pointer (some ⟨b13, 0, none⟩)), (6, .iface 180 (.agg #[.pointer (some ⟨3, 94, none⟩)]))]) 1 [0, 1, 4, 5, 6] (by kernel_rfl) ?_
  refine WL.nil ?_
  refine hK21 _ _ _ ?_
  refine CW.seq fun K22 hK22 => ?_
  refine CW.seq fun K23 hK23 => ?_
  refine CW.region ?_
  refine WL.to (E' := [(0, .iface 79 (.int .i64 x)), (1, .iface 94 (.pointer (some ⟨tg, 0, none⟩))), (4, .bool false), (5, .pointer (some ⟨b13, 0, none⟩)), (6, .iface 180 (.agg #[.pointer (some ⟨3, 94, none⟩)])), (17, .iface 180 (.agg #[.pointer (some ⟨3, 94, none⟩)]))]) 1 [0, 1, 4, 5, 6, 17] (by kernel_rfl) ?_
  refine WL.invX (v := .int .u8 22) rfl rfl rfl rfl (fun w => mKind _ w) rfl (fun w => xK_94 w) ?_
  refine WL.to (E' := [(0, .iface 79 (.int .i64 x)), (1, .iface 94 (.pointer (some ⟨tg, 0, none⟩))), (4, .bool false), (5, .pointer (some ⟨b13, 0, none⟩)), (6, .iface 180 (.agg #[.pointer (some ⟨3, 94, none⟩)])), (20, .bool false)]) 2 [0, 1, 4, 5, 6, 20] (by kernel_rfl) ?_
  refine WL.loadN rfl agg141 siz141 rfl rfl h18 rfl rfl ?_
  have h24 := (h9.keep u15 nm0)
  have h25 := (h24.keep u19 (nmc (Blk.ne h24 h14 rfl) nm0))
  refine WL.extG rfl rfl rfl rfl rfl (xN_94 h25) ?_
  refine WL.to (E' := [(0, .iface 79 (.int .i64 x)), (1, .iface 94 (.pointer (some ⟨tg, 0, none⟩))), (4, .bool false), (5, .pointer (some ⟨b13, 0, none⟩)), (6, .iface 180 (.agg #[.pointer (some ⟨3, 94, none⟩)])), (23, .bool false)]) 1 [0, 1, 4, 5, 6, 23] (by kernel_rfl) ?_
  refine WL.nil ?_
  refine hK23 _ _ _ ?_
  refine CW.condF rfl ?_
  refine CW.skip ?_
  refine hK22 _ _ _ ?_
  refine CW.seq fun K26 hK26 => ?_
  refine CW.region ?_
  refine WL.to (E' := [(0, .iface 79 (.int .i64 x)), (1, .iface 94 (.pointer (some ⟨tg, 0, none⟩))), (4, .bool false), (5, .pointer (some ⟨b13, 0, none⟩)), (25, .iface 180 (.agg #[.pointer (some ⟨3, 94, none⟩)]))]) 1 [0, 1, 4, 5, 25] (by kernel_rfl) ?_
  refine WL.invX (v := .iface 180 (.agg #[.pointer (some ⟨3, 79, none⟩)])) rfl rfl rfl rfl (fun w => mElem _ w) rfl (fun w => xE_94 w) ?_
  refine WL.to (E' := [(0, .iface 79 (.int .i64 x)), (1, .iface 94 (.pointer (some ⟨tg, 0, none⟩))), (4, .bool false), (5, .pointer (some ⟨b13, 0, none⟩)), (7, .iface 180 (.agg #[.pointer (some ⟨3, 79, none⟩)]))]) 1 [0, 1, 4, 5, 7] (by kernel_rfl) ?_
  refine WL.nil ?_
  refine hK26 _ _ _ ?_
  refine CW.seq fun K27 hK27 => ?_
  refine CW.seq fun K28 hK28 => ?_
  refine CW.region ?_
  refine WL.to (E' := [(0, .iface 79 (.int .i64 x)), (1, .iface 94 (.pointer (some ⟨tg, 0, none⟩))), (4, .bool false), (5, .pointer (some ⟨b13, 0, none⟩)), (7, .iface 180 (.agg #[.pointer (some ⟨3, 79, none⟩)])), (27, .iface 180 (.agg #[.pointer (some ⟨3, 79, none⟩)]))]) 1 [0, 1, 4, 5, 7, 27] (by kernel_rfl) ?_
  refine WL.invX (v := .int .u8 2) rfl rfl rfl rfl (fun w => mKind _ w) rfl (fun w => xK_79 w) ?_
  refine WL.to (E' := [(0, .iface 79 (.int .i64 x)), (1, .iface 94 (.pointer (some ⟨tg, 0, none⟩))), (4, .bool false), (5, .pointer (some ⟨b13, 0, none⟩)), (7, .iface 180 (.agg #[.pointer (some ⟨3, 79, none⟩)])), (30, .bool true), (31, .iface 180 (.agg #[.pointer (some ⟨3, 79, none⟩)]))]) 3 [0, 1, 4, 5, 7, 30, 31] (by kernel_rfl) ?_
  refine WL.loadC rfl agg144 rfl rfl (hE.keep ((((u10.trans u15).trans u19).sub (by intro k hk hl; simp only [Value.ownBlock, Option.toList, List.mem_append, List.mem_cons, List.not_mem_nil, or_false, false_or] at hk; have := g16; have := u10.size; have := u15.size; have := u19.size; omega))) nm0) ?_
  refine WL.invX (v := .bool true) rfl rfl rfl rfl (fun w => mImpl _ w) rfl (fun w => xI_79 w) ?_
  refine WL.to (E' := [(0, .iface 79 (.int .i64 x)), (1, .iface 94 (.pointer (some ⟨tg, 0, none⟩))), (4, .bool false), (5, .pointer (some ⟨b13, 0, none⟩)), (7, .iface 180 (.agg #[.pointer (some ⟨3, 79, none⟩)])), (35, .bool false)]) 2 [0, 1, 4, 5, 7, 35] (by kernel_rfl) ?_
  refine WL.nil ?_
  refine hK28 _ _ _ ?_
  refine CW.condF rfl ?_
  refine CW.skip ?_
  refine hK27 _ _ _ ?_
  refine CW.seq fun K29 hK29 => ?_
  refine CW.region ?_
  refine WL.to (E' := [(4, .bool false), (5, .pointer (some ⟨b13, 0, none⟩)), (7, .iface 180 (.agg #[.pointer (some ⟨3, 79, none⟩)])), (37, .iface 79 (.int .i64 x)), (38, .iface 94 (.pointer (some ⟨tg, 0, none⟩)))]) 2 [4, 5, 7, 37, 38] (by kernel_rfl) ?_
  refine WL.loadN rfl agg141 siz141 rfl rfl h18 rfl rfl ?_
  refine WL.to (E' := [(4, .bool false), (37, .iface 79 (.int .i64 x)), (38, .iface 94 (.pointer (some ⟨tg, 0, none⟩))), (39, .agg #[.pointer (some ⟨3, 94, none⟩), .pointer (some ⟨b8, 0, none⟩), .int .u64 150]), (40, .iface 180 (.agg #[.pointer (some ⟨3, 79, none⟩)]))]) 1 [4, 37, 38, 39, 40] (by kernel_rfl) ?_
  have h30 := ((htg.keep u10 nm0).keep u15 nm0)
  have h31 := (h30.keep u19 (nmc (Blk.ne h30 h14 rfl) nm0))
  refine WL.call rfl rfl rfl rfl ent63 rfl (as_94 h25 h31) ?_
  rintro _ w32 ⟨rfl, h33, u34⟩
  refine WL.to (E' := [(4, .bool true)]) 1 [4] (by kernel_rfl) ?_
  refine WL.nil ?_
  refine hK29 _ _ _ ?_
  refine CW.ret fun a ha => ?_
  try simp (decide := true) only [Exit.inBlock, Exit.then, ↓reduceIte]
  exact fin ha.defers (res_tmp rfl ha rfl _) ⟨rfl, h33, ((((u10.trans u15).trans u19).trans u34).sub (by intro k hk hl; simp only [Value.ownBlock, Option.toList, List.mem_append, List.mem_cons, List.not_mem_nil, or_false, false_or] at hk ⊢; have := u10.size; have := u15.size; have := u19.size; have := u34.size; have := g16; omega))⟩

theorem class_of {w : World} {x : Int} (hE : ErrT w) :
    Ret Tryz.prog 10 #[.iface 79 (.int .i64 x)] w fun v w' => v = .int .i64 x ∧ Only [] w w' := by
  refine enterL (args := [.iface 79 (.int .i64 x)]) Tryz.func10 rfl rfl rfl ?_
  refine CW.seq fun K1 hK1 => ?_
  refine CW.region ?_
  refine WL.to (E' := [(0, .iface 79 (.int .i64 x)), (2, .int .i64 0)]) 1 [0, 2] (by kernel_rfl) ?_
  refine WL.nil ?_
  refine hK1 _ _ _ ?_
  refine CW.seq fun K2 hK2 => ?_
  refine CW.seq fun K3 hK3 => ?_
  refine CW.region ?_
  refine WL.to (E' := [(0, .iface 79 (.int .i64 x)), (2, .int .i64 0), (7, .bool false)]) 2 [0, 2, 7] (by kernel_rfl) ?_
  refine WL.nil ?_
  refine hK3 _ _ _ ?_
  refine CW.condF rfl ?_
  refine CW.skip ?_
  refine hK2 _ _ _ ?_
  refine CW.seq fun K4 hK4 => ?_
  refine CW.region ?_
  refine WL.alloc (cs := [.pointer none]) rfl rfl zer89 rfl ?_
  intro w5 b6 h7 u8 g9
  refine WL.sub [(0, .iface 79 (.int .i64 x)), (2, .int .i64 0), (3, .pointer (some ⟨b6, 0, none⟩))] ⟨rfl, rfl, rfl, trivial⟩ ?_
  refine WL.nil ?_
  refine hK4 _ _ _ ?_
  refine CW.seq fun K10 hK10 => ?_
  refine CW.seq fun K11 hK11 => ?_
  refine CW.region ?_
  refine WL.to (E' := [(0, .iface 79 (.int .i64 x)), (2, .int .i64 0), (3, .pointer (some ⟨b6, 0, none⟩)), (8, .iface 79 (.int .i64 x)), (9, .iface 91 (.pointer (some ⟨b6, 0, none⟩)))]) 2 [0, 2, 3, 8, 9] (by kernel_rfl) ?_
  refine WL.call rfl rfl rfl rfl ent35 rfl (As_91 (hE.keep ((u8.sub (by simp))) nm0)) ?_
  rintro _ w13 ⟨rfl, u12⟩
  refine WL.to (E' := [(0, .iface 79 (.int .i64 x)), (2, .int .i64 0), (14, .bool false)]) 4 [0, 2, 14] (by kernel_rfl) ?_
  refine WL.nil ?_
  refine hK11 _ _ _ ?_
  refine CW.condF rfl ?_
  refine CW.skip ?_
  refine hK10 _ _ _ ?_
  refine CW.seq fun K14 hK14 => ?_
  refine CW.region ?_
  refine WL.alloc (cs := [.pointer none]) rfl rfl zer92 rfl ?_
  intro w15 b16 h17 u18 g19
  refine WL.sub [(0, .iface 79 (.int .i64 x)), (2, .int .i64 0), (4, .pointer (some ⟨b16, 0, none⟩))] ⟨rfl, rfl, rfl, trivial⟩ ?_
  refine WL.nil ?_
  refine hK14 _ _ _ ?_
  refine CW.seq fun K20 hK20 => ?_
  refine CW.seq fun K21 hK21 => ?_
  refine CW.region ?_
  refine WL.to (E' := [(0, .iface 79 (.int .i64 x)), (2, .int .i64 0), (4, .pointer (some ⟨b16, 0, none⟩)), (15, .iface 79 (.int .i64 x)), (16, .iface 93 (.pointer (some ⟨b16, 0, none⟩)))]) 2 [0, 2, 4, 15, 16] (by kernel_rfl) ?_
  refine WL.call rfl rfl rfl rfl ent35 rfl (As_93 (hE.keep ((((u8.trans u12).trans u18).sub (by simp))) nm0)) ?_
  rintro _ w23 ⟨rfl, u22⟩
  refine WL.to (E' := [(0, .iface 79 (.int .i64 x)), (2, .int .i64 0), (21, .bool false)]) 4 [0, 2, 21] (by kernel_rfl) ?_
  refine WL.nil ?_
  refine hK21 _ _ _ ?_
  refine CW.condF rfl ?_
  refine CW.skip ?_
  refine hK20 _ _ _ ?_
  refine CW.seq fun K24 hK24 => ?_
  refine CW.region ?_
  refine WL.alloc (cs := [.int .i64 0]) rfl rfl zer79 rfl ?_
  intro w25 b26 h27 u28 g29
  refine WL.sub [(0, .iface 79 (.int .i64 x)), (2, .int .i64 0), (5, .pointer (some ⟨b26, 0, none⟩))] ⟨rfl, rfl, rfl, trivial⟩ ?_
  refine WL.nil ?_
  refine hK24 _ _ _ ?_
  refine CW.seq fun K30 hK30 => ?_
  refine CW.seq fun K31 hK31 => ?_
  refine CW.region ?_
  refine WL.to (E' := [(2, .int .i64 0), (5, .pointer (some ⟨b26, 0, none⟩)), (22, .iface 79 (.int .i64 x)), (23, .iface 94 (.pointer (some ⟨b26, 0, none⟩)))]) 2 [2, 5, 22, 23] (by kernel_rfl) ?_
  refine WL.call rfl rfl rfl rfl ent35 rfl (As_94 (hE.keep ((((((u8.trans u12).trans u18).trans u22).trans u28).sub (by simp))) nm0) h27) ?_
  rintro _ w32 ⟨rfl, h33, u34⟩
  refine WL.sub [(2, .int .i64 0), (5, .pointer (some ⟨b26, 0, none⟩)), (24, .bool true)] ⟨rfl, rfl, rfl, trivial⟩ ?_
  refine WL.nil ?_
  refine hK31 _ _ _ ?_
  refine CW.condT rfl ?_
  refine CW.seq fun K35 hK35 => ?_
  refine CW.region ?_
  refine WL.load1 rfl agg79 rfl rfl h33 rfl ?_
  refine WL.to (E' := [(2, .int .i64 x)]) 1 [2] (by kernel_rfl) ?_
  refine WL.nil ?_
  refine hK35 _ _ _ ?_
  refine CW.ret fun a ha => ?_
  try simp (decide := true) only [Exit.inBlock, Exit.then, ↓reduceIte]
  exact fin ha.defers (res_tmp rfl ha rfl _) ⟨rfl, ((((((u8.trans u12).trans u18).trans u22).trans u28).trans u34).sub (by intro k hk hl; simp only [Value.ownBlock, Option.toList, List.mem_append, List.mem_cons, List.not_mem_nil, or_false, false_or] at hk; have := g29; have := u8.size; have := u12.size; have := u18.size; have := u22.size; have := u28.size; have := u34.size; omega))⟩
end Go.K

namespace Go.K
open Go.Proofs
set_option maxRecDepth 8000
set_option maxHeartbeats 1000000
set_option linter.unusedSimpArgs false
set_option linter.unusedVariables false
theorem num_of {w : World} {x : Int} :
    Ret Tryz.prog 19 #[.int .i64 x] w fun v w' => v = .agg #[.int .i64 1, .int .i64 x, .string ByteArray.empty, .float .f64 0] ∧ Only [] w w' := by
  refine enterL (args := [.int .i64 x]) Tryz.func19 rfl rfl rfl ?_
  refine CW.seq fun K1 hK1 => ?_
  refine CW.region ?_
  refine WL.alloc (cs := [.int .i64 0, .int .i64 0, .string ByteArray.empty, .float .f64 0]) rfl rfl zer58 rfl ?_
  intro w2 b3 h4 u5 g6
  refine WL.nil ?_
  refine hK1 _ _ _ ?_
  refine CW.seq fun K7 hK7 => ?_
  refine CW.region ?_
  refine WL.to (E' := [(2, .pointer (some ⟨b3, 0, none⟩)), (3, .int .i64 x)]) 1 [2, 3] (by kernel_rfl) ?_
  refine WL.build (vs := [(0, .int .i64 1), (1, .int .i64 x)]) (v := .agg #[.int .i64 1, .int .i64 x, .string ByteArray.empty, .float .f64 0]) rfl rfl rfl (by kernel_rfl) ?_
  refine WL.storeN rfl siz58 rfl rfl rfl rfl h4 (Nat.le_of_ble_eq_true rfl) ?_
  intro w8 h9 u10 z11
  refine WL.sub [(2, .pointer (some ⟨b3, 0, none⟩))] ⟨rfl, trivial⟩ ?_
  refine WL.nil ?_
  refine hK7 _ _ _ ?_
  refine CW.ret fun a ha => ?_
  try simp (decide := true) only [Exit.inBlock, Exit.then, ↓reduceIte]
  exact fin ha.defers (res_cell rfl ha rfl agg58 siz58 h9 rfl rfl) ⟨rfl, ((u5.trans u10).sub (by intro k hk hl; simp only [Value.ownBlock, Option.toList, List.mem_append, List.mem_cons, List.not_mem_nil, or_false, false_or] at hk; have := g6; have := u5.size; have := u10.size; omega))⟩

theorem two_of {w : World} {x y : Int} :
    Ret Tryz.prog 15 #[.int .i64 x, .int .i64 y] w fun v w' => ∃ b, v = .slice (some ⟨b, 0, none⟩) 2 2 ∧ Blk w' b [.int .i64 1, .int .i64 x, .string ByteArray.empty, .float .f64 0, .int .i64 1, .int .i64 y, .string ByteArray.empty, .float .f64 0] 58 ∧ w.heap.size ≤ b ∧ Only [] w w' := by
  refine enterL (args := [.int .i64 x, .int .i64 y]) Tryz.func15 rfl rfl rfl ?_
  refine CW.seq fun K1 hK1 => ?_
  refine CW.region ?_
  refine WL.to (E' := [(0, .int .i64 x), (1, .int .i64 y), (4, .slice none 0 0)]) 1 [0, 1, 4] (by kernel_rfl) ?_
  refine WL.nil ?_
  refine hK1 _ _ _ ?_
  refine CW.seq fun K2 hK2 => ?_
  refine CW.region ?_
  refine WL.to (E' := [(1, .int .i64 y), (4, .slice none 0 0), (5, .int .i64 x)]) 1 [1, 4, 5] (by kernel_rfl) ?_
  refine WL.call rfl rfl rfl rfl ent19 rfl (num_of) ?_
  rintro _ w4 ⟨rfl, u3⟩
  refine WL.to (E' := [(4, .slice none 0 0), (6, .agg #[.int .i64 1, .int .i64 x, .string ByteArray.empty, .float .f64 0]), (7, .int .i64 y)]) 1 [4, 6, 7] (by kernel_rfl) ?_
  refine WL.call rfl rfl rfl rfl ent19 rfl (num_of) ?_
  rintro _ w6 ⟨rfl, u5⟩
  refine WL.buildSlice (vs := [(0, .agg #[.int .i64 1, .int .i64 x, .string ByteArray.empty, .float .f64 0]), (1, .agg #[.int .i64 1, .int .i64 y, .string ByteArray.empty, .float .f64 0])]) (cs := [.int .i64 1, .int .i64 x, .string ByteArray.empty, .float .f64 0, .int .i64 1, .int .i64 y, .string ByteArray.empty, .float .f64 0]) rfl rfl Tryz.underlying38 rfl (by kernel_rfl) ?_
  intro w7 b8 h9 u10 g11
  refine WL.to (E' := [(4, .slice (some ⟨b8, 0, none⟩) 2 2)]) 1 [4] (by kernel_rfl) ?_
  refine WL.nil ?_
  refine hK2 _ _ _ ?_
  refine CW.ret fun a ha => ?_
  try simp (decide := true) only [Exit.inBlock, Exit.then, ↓reduceIte]
  exact fin ha.defers (res_tmp rfl ha rfl _) ⟨b8, rfl, h9, (by have := g11; have := u3.size; have := u5.size; omega), (((u3.trans u5).trans u10).sub (by simp))⟩

theorem ints_of {w : World} :
    Ret Tryz.prog 9 #[] w fun v w' => ∃ b, v = .slice (some ⟨b, 0, none⟩) 2 2 ∧ Blk w' b [.string (⟨#[97]⟩), .int .i64 1, .string (⟨#[98]⟩), .int .i64 1] 51 ∧ w.heap.size ≤ b ∧ Only [] w w' := by
  refine enterL (args := []) Tryz.func9 rfl rfl rfl ?_
  refine CW.seq fun K1 hK1 => ?_
  refine CW.region ?_
  refine WL.to (E' := [(0, .slice none 0 0)]) 1 [0] (by kernel_rfl) ?_
  refine WL.nil ?_
  refine hK1 _ _ _ ?_
  refine CW.seq fun K2 hK2 => ?_
  refine CW.region ?_
  refine WL.build (vs := [(0, .string (⟨#[97]⟩)), (1, .int .i64 1)]) (v := .agg #[.string (⟨#[97]⟩), .int .i64 1]) rfl rfl rfl (by kernel_rfl) ?_
  refine WL.build (vs := [(0, .string (⟨#[98]⟩)), (1, .int .i64 1)]) (v := .agg #[.string (⟨#[98]⟩), .int .i64 1]) rfl rfl rfl (by kernel_rfl) ?_
  refine WL.buildSlice (vs := [(0, .agg #[.string (⟨#[97]⟩), .int .i64 1]), (1, .agg #[.string (⟨#[98]⟩), .int .i64 1])]) (cs := [.string (⟨#[97]⟩), .int .i64 1, .string (⟨#[98]⟩), .int .i64 1]) rfl rfl Tryz.underlying29 rfl (by kernel_rfl) ?_
  intro w3 b4 h5 u6 g7
  refine WL.to (E' := [(0, .slice (some ⟨b4, 0, none⟩) 2 2)]) 1 [0] (by kernel_rfl) ?_
  refine WL.nil ?_
  refine hK2 _ _ _ ?_
  refine CW.ret fun a ha => ?_
  try simp (decide := true) only [Exit.inBlock, Exit.then, ↓reduceIte]
  exact fin ha.defers (res_tmp rfl ha rfl _) ⟨b4, rfl, h5, (by have := g7; omega), (u6.sub (by simp))⟩

theorem extr_of {w : World} {x : Int} :
    Ret Tryz.prog 48 #[.int .i64 x, .pointer none] w fun v w' => ∃ b1 b2, v = .func (.func 90) #[] #[.pointer (some ⟨b1, 0, none⟩), .pointer (some ⟨b2, 0, none⟩)] ∧ Only [] w w' := by
  refine enterL (args := [.int .i64 x, .pointer none]) Tryz.func48 rfl rfl rfl ?_
  refine CW.seq fun K1 hK1 => ?_
  refine CW.region ?_
  refine WL.box (cs := [.int .i64 x]) rfl rfl rfl rfl ?_
  intro w2 b3 h4 u5 g6
  refine WL.box (cs := [.pointer none]) rfl rfl rfl rfl ?_
  intro w7 b8 h9 u10 g11
  refine WL.to (E' := [(2, .pointer (some ⟨b3, 0, none⟩)), (3, .pointer (some ⟨b8, 0, none⟩)), (4, .nilFunc)]) 1 [2, 3, 4] (by kernel_rfl) ?_
  refine WL.nil ?_
  refine hK1 _ _ _ ?_
  refine CW.seq fun K12 hK12 => ?_
  refine CW.region ?_
  refine WL.to (E' := [(4, .func (.func 90) #[] #[.pointer (some ⟨b8, 0, none⟩), .pointer (some ⟨b3, 0, none⟩)])]) 2 [4] (by kernel_rfl) ?_
  refine WL.nil ?_
  refine hK12 _ _ _ ?_
  refine CW.ret fun a ha => ?_
  try simp (decide := true) only [Exit.inBlock, Exit.then, ↓reduceIte]
  exact fin ha.defers (res_tmp rfl ha rfl _) ⟨b8, b3, rfl, ((u5.trans u10).sub (by simp))⟩

theorem comp_of {w : World} {x : Int} :
    Ret Tryz.prog 49 #[.int .i64 x, .pointer none] w fun v w' => ∃ b1 b2, v = .func (.func 93) #[] #[.pointer (some ⟨b1, 0, none⟩), .pointer (some ⟨b2, 0, none⟩)] ∧ Only [] w w' := by
  refine enterL (args := [.int .i64 x, .pointer none]) Tryz.func49 rfl rfl rfl ?_
  refine CW.seq fun K1 hK1 => ?_
  refine CW.region ?_
  refine WL.box (cs := [.int .i64 x]) rfl rfl rfl rfl ?_
  intro w2 b3 h4 u5 g6
  refine WL.box (cs := [.pointer none]) rfl rfl rfl rfl ?_
  intro w7 b8 h9 u10 g11
  refine WL.to (E' := [(2, .pointer (some ⟨b3, 0, none⟩)), (3, .pointer (some ⟨b8, 0, none⟩)), (4, .nilFunc)]) 1 [2, 3, 4] (by kernel_rfl) ?_
  refine WL.nil ?_
  refine hK1 _ _ _ ?_
  refine CW.seq fun K12 hK12 => ?_
  refine CW.region ?_
  refine WL.to (E' := [(4, .func (.func 93) #[] #[.pointer (some ⟨b8, 0, none⟩), .pointer (some ⟨b3, 0, none⟩)])]) 2 [4] (by kernel_rfl) ?_
  refine WL.nil ?_
  refine hK12 _ _ _ ?_
  refine CW.ret fun a ha => ?_
  try simp (decide := true) only [Exit.inBlock, Exit.then, ↓reduceIte]
  exact fin ha.defers (res_tmp rfl ha rfl _) ⟨b8, b3, rfl, ((u5.trans u10).sub (by simp))⟩

theorem hooks_of {w : World} :
    Ret Tryz.prog 17 #[.pointer none] w fun v w' => ∃ ea ec ca cc efs cfs, v = .agg #[.slice ea 5 ec, .slice ca 3 cc] ∧ Own w' (.slice ea 5 ec) 104 1 5 efs ∧ Own w' (.slice ca 3 cc) 107 1 3 cfs ∧ efs.all Value.oneCell' = true ∧ cfs.all Value.oneCell' = true ∧ Only [] w w' := by
  refine enterL (args := [.pointer none]) Tryz.func17 rfl rfl rfl ?_
  refine CW.seq fun K1 hK1 => ?_
  refine CW.region ?_
  refine WL.alloc (cs := [.slice none 0 0, .slice none 0 0]) rfl rfl zer34 rfl ?_
  intro w2 b3 h4 u5 g6
  refine WL.nil ?_
  refine hK1 _ _ _ ?_
  refine CW.seq fun K7 hK7 => ?_
  refine CW.region ?_
  refine WL.alloc (cs := [.slice none 0 0, .slice none 0 0]) rfl rfl zer34 rfl ?_
  intro w8 b9 h10 u11 g12
  refine WL.nil ?_
  refine hK7 _ _ _ ?_
  refine CW.seq fun K13 hK13 => ?_
  refine CW.seq fun K14 hK14 => ?_
  refine CW.region ?_
  refine WL.to (E' := [(0, .pointer none), (2, .pointer (some ⟨b3, 0, none⟩)), (3, .pointer (some ⟨b9, 0, none⟩)), (4, .int .i64 0)]) 1 [0, 2, 3, 4] (by kernel_rfl) ?_
  refine WL.nil ?_
  refine hK14 _ _ _ ?_
  refine CW.block ?_
  refine CW.round1 fun K15 hK15 => ?_
  refine CW.seq fun K16 hK16 => ?_
  refine CW.seq fun K17 hK17 => ?_
  refine CW.region ?_
  refine WL.to (E' := [(0, .pointer none), (2, .pointer (some ⟨b3, 0, none⟩)), (3, .pointer (some ⟨b9, 0, none⟩)), (4, .int .i64 0), (6, .int .i64 0), (7, .bool true)]) 2 [0, 2, 3, 4, 6, 7] (by kernel_rfl) ?_
  refine WL.nil ?_
  refine hK17 _ _ _ ?_
  refine CW.condT rfl ?_
  refine CW.skip ?_
  refine hK16 _ _ _ ?_
  refine CW.seq fun K18 hK18 => ?_
  refine CW.block ?_
  refine CW.mixed (by kernel_rfl) ?_
  intro w19 e21 u20
  refine MX.to (f := 6) (L' := #[true, false, true, true, false, false, false, false, false]) (E' := [(0, .pointer none), (2, .pointer (some ⟨b3, 0, none⟩)), (3, .pointer (some ⟨b9, 0, none⟩)), (4, .int .i64 0), (6, .int .i64 0), (7, .bool true), (10, .pointer (some ⟨b9, 0, none⟩)), (12, .int .i64 0), (13, .pointer none)]) [0, 2, 3] [0, 2, 3, 4, 6, 7, 10, 12, 13] rfl (by kernel_rfl) ?_
  have h22 := (h10.keep u20 nm0)
  refine MX.load1 (L' := #[true, true, true, true, false, false, false, false, false]) 1 (by kernel_rfl) rfl rfl rfl agg31 rfl rfl h22 rfl ?_
  refine MX.loud 4 (by kernel_rfl) rfl (fun K23 hK23 => ?_) rfl
  refine WL.call rfl rfl rfl rfl ent48 rfl (extr_of) ?_
  rintro _ w27 ⟨b24, b25, rfl, u26⟩
  refine WL.fin (L' := #[true, true, true, true, true, false, false, false, false]) hK23 (stN (fun q => (q.keep u26 nm0)) st0) ?_
  refine MX.loud 5 (by kernel_rfl) rfl (fun K28 hK28 => ?_) rfl
  refine WL.buildSlice (vs := [(0, .func (.func 90) #[] #[.pointer (some ⟨b24, 0, none⟩), .pointer (some ⟨b25, 0, none⟩)])]) (cs := [.func (.func 90) #[] #[.pointer (some ⟨b24, 0, none⟩), .pointer (some ⟨b25, 0, none⟩)]]) rfl rfl Tryz.underlying31 rfl (by kernel_rfl) ?_
  intro w29 b30 h31 u32 g33
  refine WL.fin (L' := #[true, true, true, true, true, true, false, false, false]) hK28 (stN (fun q => (q.keep u32 nm0)) st0) ?_
  refine MX.loud 6 (by kernel_rfl) rfl (fun K34 hK34 => ?_) rfl
  refine WL.appT (k := 0) (xs := []) rfl Tryz.underlying31 inf104 rfl rfl rfl rfl rfl Own.nil h31 rfl rfl rfl ⟨by decide, by decide⟩ ?_
  intro v39 w35 h36 u37 f38
  obtain ⟨ao40, cp41, rfl⟩ := h36.form
  refine WL.fin (L' := #[true, true, true, true, true, true, true, false, false]) hK34 (stY (by kernel_rfl) st0) ?_
  refine MX.to (f := 1) (L' := #[true, true, true, true, true, true, true, true, false]) (E' := [(0, .pointer none), (2, .pointer (some ⟨b3, 0, none⟩)), (3, .pointer (some ⟨b9, 0, none⟩)), (4, .int .i64 0), (6, .int .i64 0), (7, .bool true), (10, .pointer (some ⟨b9, 0, none⟩)), (12, .int .i64 0), (13, .pointer none), (11, .slice none 0 0), (14, .func (.func 90) #[] #[.pointer (some ⟨b24, 0, none⟩), .pointer (some ⟨b25, 0, none⟩)]), (15, .slice (some ⟨b30, 0, none⟩) 1 1), (16, .slice ao40 1 cp41), (17, .pointer (some ⟨b9, 0, none⟩))]) [7] [0, 2, 3, 4, 6, 7, 10, 12, 13, 11, 14, 15, 16, 17] rfl (by kernel_rfl) ?_
  refine MX.loud 8 (by kernel_rfl) rfl (fun K42 hK42 => ?_) rfl
  have h43 := (((h22.keep u26 nm0).keep u32 nm0).keep u37 nm0)
  refine WL.store1 rfl siz31 rfl rfl rfl h43 rfl ?_
  intro w44 h45 u46 z47
  refine WL.fin (L' := #[true, true, true, true, true, true, true, true, true]) hK42 (stY (by kernel_rfl) st0) ?_
  refine MX.done (by kernel_rfl) ?_
  refine hK18 _ _ _ ?_
  refine CW.region ?_
  refine WL.to (E' := [(0, .pointer none), (2, .pointer (some ⟨b3, 0, none⟩)), (3, .pointer (some ⟨b9, 0, none⟩)), (4, .int .i64 1), (6, .int .i64 0), (7, .bool true), (10, .pointer (some ⟨b9, 0, none⟩)), (12, .int .i64 0), (13, .pointer none), (11, .slice none 0 0), (14, .func (.func 90) #[] #[.pointer (some ⟨b24, 0, none⟩), .pointer (some ⟨b25, 0, none⟩)]), (15, .slice (some ⟨b30, 0, none⟩) 1 1), (16, .slice ao40 1 cp41), (17, .pointer (some ⟨b9, 0, none⟩)), (8, .int .i64 0), (9, .int .i64 1)]) 3 [0, 2, 3, 4, 6, 7, 10, 12, 13, 11, 14, 15, 16, 17, 8, 9] (by kernel_rfl) ?_
  refine WL.nil ?_
  refine hK15 _ _ ?_
  refine CL.round fun K48 hK48 => ?_
  refine CW.seq fun K49 hK49 => ?_
  refine CW.seq fun K50 hK50 => ?_
  refine CW.region ?_
  refine WL.to (E' := [(0, .pointer none), (2, .pointer (some ⟨b3, 0, none⟩)), (3, .pointer (some ⟨b9, 0, none⟩)), (4, .int .i64 1), (6, .int .i64 1), (7, .bool true), (10, .pointer (some ⟨b9, 0, none⟩)), (12, .int .i64 0), (13, .pointer none), (11, .slice none 0 0), (14, .func (.func 90) #[] #[.pointer (some ⟨b24, 0, none⟩), .pointer (some ⟨b25, 0, none⟩)]), (15, .slice (some ⟨b30, 0, none⟩) 1 1), (16, .slice ao40 1 cp41), (17, .pointer (some ⟨b9, 0, none⟩)), (8, .int .i64 0), (9, .int .i64 1)]) 2 [0, 2, 3, 4, 6, 7, 10, 12, 13, 11, 14, 15, 16, 17, 8, 9] (by kernel_rfl) ?_
  refine WL.nil ?_
  refine hK50 _ _ _ ?_
  refine CW.condT rfl ?_
  refine CW.skip ?_
  refine hK49 _ _ _ ?_
  refine CW.seq fun K51 hK51 => ?_
  refine CW.block ?_
  refine CW.mixed (by kernel_rfl) ?_
  intro w52 e54 u53
  refine MX.to (f := 6) (L' := #[true, false, true, true, false, false, false, false, false]) (E' := [(0, .pointer none), (2, .pointer (some ⟨b3, 0, none⟩)), (3, .pointer (some ⟨b9, 0, none⟩)), (4, .int .i64 1), (6, .int .i64 1), (7, .bool true), (10, .pointer (some ⟨b9, 0, none⟩)), (12, .int .i64 1), (13, .pointer none), (11, .slice none 0 0), (14, .func (.func 90) #[] #[.pointer (some ⟨b24, 0, none⟩), .pointer (some ⟨b25, 0, none⟩)]), (15, .slice (some ⟨b30, 0, none⟩) 1 1), (16, .slice ao40 1 cp41), (17, .pointer (some ⟨b9, 0, none⟩)), (8, .int .i64 0), (9, .int .i64 1)]) [0, 2, 3] [0, 2, 3, 4, 6, 7, 10, 12, 13, 11, 14, 15, 16, 17, 8, 9] rfl (by kernel_rfl) ?_
  have h55 := (h45.keep u53 nm0)
  refine MX.load1 (L' := #[true, true, true, true, false, false, false, false, false]) 1 (by kernel_rfl) rfl rfl rfl agg31 rfl rfl h55 rfl ?_
  refine MX.loud 4 (by kernel_rfl) rfl (fun K56 hK56 => ?_) rfl
  refine WL.call rfl rfl rfl rfl ent48 rfl (extr_of) ?_
  rintro _ w60 ⟨b57, b58, rfl, u59⟩
  refine WL.fin (L' := #[true, true, true, true, true, false, false, false, false]) hK56 (stN (fun q => (q.keep u59 nm0)) st0) ?_
  refine MX.loud 5 (by kernel_rfl) rfl (fun K61 hK61 => ?_) rfl
  refine WL.buildSlice (vs := [(0, .func (.func 90) #[] #[.pointer (some ⟨b57, 0, none⟩), .pointer (some ⟨b58, 0, none⟩)])]) (cs := [.func (.func 90) #[] #[.pointer (some ⟨b57, 0, none⟩), .pointer (some ⟨b58, 0, none⟩)]]) rfl rfl Tryz.underlying31 rfl (by kernel_rfl) ?_
  intro w62 b63 h64 u65 g66
  refine WL.fin (L' := #[true, true, true, true, true, true, false, false, false]) hK61 (stN (fun q => (q.keep u65 nm0)) st0) ?_
  refine MX.loud 6 (by kernel_rfl) rfl (fun K67 hK67 => ?_) rfl
  have h68 := ((((h36.keep' u46 (disc (Own.ne h36 h43 rfl) dis0)).keep' u53 dis0).keep' u59 dis0).keep' u65 dis0)
  refine WL.appT (k := 1) (xs := [.func (.func 90) #[] #[.pointer (some ⟨b24, 0, none⟩), .pointer (some ⟨b25, 0, none⟩)]]) rfl Tryz.underlying31 inf104 rfl rfl rfl rfl rfl h68 h64 rfl rfl rfl ⟨by decide, by decide⟩ ?_
  intro v73 w69 h70 u71 f72
  obtain ⟨ao74, cp75, rfl⟩ := h70.form
  refine WL.fin (L' := #[true, true, true, true, true, true, true, false, false]) hK67 (stY (by kernel_rfl) st0) ?_
  refine MX.to (f := 1) (L' := #[true, true, true, true, true, true, true, true, false]) (E' := [(0, .pointer none), (2, .pointer (some ⟨b3, 0, none⟩)), (3, .pointer (some ⟨b9, 0, none⟩)), (4, .int .i64 1), (6, .int .i64 1), (7, .bool true), (10, .pointer (some ⟨b9, 0, none⟩)), (12, .int .i64 1), (13, .pointer none), (11, .slice ao40 1 cp41), (14, .func (.func 90) #[] #[.pointer (some ⟨b57, 0, none⟩), .pointer (some ⟨b58, 0, none⟩)]), (15, .slice (some ⟨b63, 0, none⟩) 1 1), (16, .slice ao74 2 cp75), (17, .pointer (some ⟨b9, 0, none⟩)), (8, .int .i64 0), (9, .int .i64 1)]) [7] [0, 2, 3, 4, 6, 7, 10, 12, 13, 11, 14, 15, 16, 17, 8, 9] rfl (by kernel_rfl) ?_
  refine MX.loud 8 (by kernel_rfl) rfl (fun K76 hK76 => ?_) rfl
  have h77 := ((h55.keep u59 nm0).keep u65 nm0)
  have h78 := (h77.keep u71 (Own.ne h68 h77 rfl))
  refine WL.store1 rfl siz31 rfl rfl rfl h78 rfl ?_
  intro w79 h80 u81 z82
  refine WL.fin (L' := #[true, true, true, true, true, true, true, true, true]) hK76 (stY (by kernel_rfl) st0) ?_
  refine MX.done (by kernel_rfl) ?_
  refine hK51 _ _ _ ?_
  refine CW.region ?_
  refine WL.to (E' := [(0, .pointer none), (2, .pointer (some ⟨b3, 0, none⟩)), (3, .pointer (some ⟨b9, 0, none⟩)), (4, .int .i64 2), (6, .int .i64 1), (7, .bool true), (10, .pointer (some ⟨b9, 0, none⟩)), (12, .int .i64 1), (13, .pointer none), (11, .slice ao40 1 cp41), (14, .func (.func 90) #[] #[.pointer (some ⟨b57, 0, none⟩), .pointer (some ⟨b58, 0, none⟩)]), (15, .slice (some ⟨b63, 0, none⟩) 1 1), (16, .slice ao74 2 cp75), (17, .pointer (some ⟨b9, 0, none⟩)), (8, .int .i64 1), (9, .int .i64 2)]) 3 [0, 2, 3, 4, 6, 7, 10, 12, 13, 11, 14, 15, 16, 17, 8, 9] (by kernel_rfl) ?_
  refine WL.nil ?_
  refine hK48 _ _ ?_
  refine CL.round fun K83 hK83 => ?_
  refine CW.seq fun K84 hK84 => ?_
  refine CW.seq fun K85 hK85 => ?_
  refine CW.region ?_
  refine WL.to (E' := [(0, .pointer none), (2, .pointer (some ⟨b3, 0, none⟩)), (3, .pointer (some ⟨b9, 0, none⟩)), (4, .int .i64 2), (6, .int .i64 2), (7, .bool true), (10, .pointer (some ⟨b9, 0, none⟩)), (12, .int .i64 1), (13, .pointer none), (11, .slice ao40 1 cp41), (14, .func (.func 90) #[] #[.pointer (some ⟨b57, 0, none⟩), .pointer (some ⟨b58, 0, none⟩)]), (15, .slice (some ⟨b63, 0, none⟩) 1 1), (16, .slice ao74 2 cp75), (17, .pointer (some ⟨b9, 0, none⟩)), (8, .int .i64 1), (9, .int .i64 2)]) 2 [0, 2, 3, 4, 6, 7, 10, 12, 13, 11, 14, 15, 16, 17, 8, 9] (by kernel_rfl) ?_
  refine WL.nil ?_
  refine hK85 _ _ _ ?_
  refine CW.condT rfl ?_
  refine CW.skip ?_
  refine hK84 _ _ _ ?_
  refine CW.seq fun K86 hK86 => ?_
  refine CW.block ?_
  refine CW.mixed (by kernel_rfl) ?_
  intro w87 e89 u88
  refine MX.to (f := 6) (L' := #[true, false, true, true, false, false, false, false, false]) (E' := [(0, .pointer none), (2, .pointer (some ⟨b3, 0, none⟩)), (3, .pointer (some ⟨b9, 0, none⟩)), (4, .int .i64 2), (6, .int .i64 2), (7, .bool true), (10, .pointer (some ⟨b9, 0, none⟩)), (12, .int .i64 2), (13, .pointer none), (11, .slice ao40 1 cp41), (14, .func (.func 90) #[] #[.pointer (some ⟨b57, 0, none⟩), .pointer (some ⟨b58, 0, none⟩)]), (15, .slice (some ⟨b63, 0, none⟩) 1 1), (16, .slice ao74 2 cp75), (17, .pointer (some ⟨b9, 0, none⟩)), (8, .int .i64 1), (9, .int .i64 2)]) [0, 2, 3] [0, 2, 3, 4, 6, 7, 10, 12, 13, 11, 14, 15, 16, 17, 8, 9] rfl (by kernel_rfl) ?_
  have h90 := (h80.keep u88 nm0)
  refine MX.load1 (L' := #[true, true, true, true, false, false, false, false, false]) 1 (by kernel_rfl) rfl rfl rfl agg31 rfl rfl h90 rfl ?_
  refine MX.loud 4 (by kernel_rfl) rfl (fun K91 hK91 => ?_) rfl
  refine WL.call rfl rfl rfl rfl ent48 rfl (extr_of) ?_
  rintro _ w95 ⟨b92, b93, rfl, u94⟩
  refine WL.fin (L' := #[true, true, true, true, true, false, false, false, false]) hK91 (stN (fun q => (q.keep u94 nm0)) st0) ?_
  refine MX.loud 5 (by kernel_rfl) rfl (fun K96 hK96 => ?_) rfl
  refine WL.buildSlice (vs := [(0, .func (.func 90) #[] #[.pointer (some ⟨b92, 0, none⟩), .pointer (some ⟨b93, 0, none⟩)])]) (cs := [.func (.func 90) #[] #[.pointer (some ⟨b92, 0, none⟩), .pointer (some ⟨b93, 0, none⟩)]]) rfl rfl Tryz.underlying31 rfl (by kernel_rfl) ?_
  intro w97 b98 h99 u100 g101
  refine WL.fin (L' := #[true, true, true, true, true, true, false, false, false]) hK96 (stN (fun q => (q.keep u100 nm0)) st0) ?_
  refine MX.loud 6 (by kernel_rfl) rfl (fun K102 hK102 => ?_) rfl
  have h103 := ((((h70.keep' u81 (disc (Own.ne h70 h78 rfl) dis0)).keep' u88 dis0).keep' u94 dis0).keep' u100 dis0)
  refine WL.appT (k := 2) (xs := ([.func (.func 90) #[] #[.pointer (some ⟨b24, 0, none⟩), .pointer (some ⟨b25, 0, none⟩)]] ++ [.func (.func 90) #[] #[.pointer (some ⟨b57, 0, none⟩), .pointer (some ⟨b58, 0, none⟩)]])) rfl Tryz.underlying31 inf104 rfl rfl rfl rfl rfl h103 h99 rfl rfl rfl ⟨by decide, by decide⟩ ?_
  intro v108 w104 h105 u106 f107
  obtain ⟨ao109, cp110, rfl⟩ := h105.form
  refine WL.fin (L' := #[true, true, true, true, true, true, true, false, false]) hK102 (stY (by kernel_rfl) st0) ?_
  refine MX.to (f := 1) (L' := #[true, true, true, true, true, true, true, true, false]) (E' := [(0, .pointer none), (2, .pointer (some ⟨b3, 0, none⟩)), (3, .pointer (some ⟨b9, 0, none⟩)), (4, .int .i64 2), (6, .int .i64 2), (7, .bool true), (10, .pointer (some ⟨b9, 0, none⟩)), (12, .int .i64 2), (13, .pointer none), (11, .slice ao74 2 cp75), (14, .func (.func 90) #[] #[.pointer (some ⟨b92, 0, none⟩), .pointer (some ⟨b93, 0, none⟩)]), (15, .slice (some ⟨b98, 0, none⟩) 1 1), (16, .slice ao109 3 cp110), (17, .pointer (some ⟨b9, 0, none⟩)), (8, .int .i64 1), (9, .int .i64 2)]) [7] [0, 2, 3, 4, 6, 7, 10, 12, 13, 11, 14, 15, 16, 17, 8, 9] rfl (by kernel_rfl) ?_
  refine MX.loud 8 (by kernel_rfl) rfl (fun K111 hK111 => ?_) rfl
  have h112 := ((h90.keep u94 nm0).keep u100 nm0)
  have h113 := (h112.keep u106 (Own.ne h103 h112 rfl))
  refine WL.store1 rfl siz31 rfl rfl rfl h113 rfl ?_
  intro w114 h115 u116 z117
  refine WL.fin (L' := #[true, true, true, true, true, true, true, true, true]) hK111 (stY (by kernel_rfl) st0) ?_
  refine MX.done (by kernel_rfl) ?_
  refine hK86 _ _ _ ?_
  refine CW.region ?_
  refine WL.to (E' := [(0, .pointer none), (2, .pointer (some ⟨b3, 0, none⟩)), (3, .pointer (some ⟨b9, 0, none⟩)), (4, .int .i64 3), (6, .int .i64 2), (7, .bool true), (10, .pointer (some ⟨b9, 0, none⟩)), (12, .int .i64 2), (13, .pointer none), (11, .slice ao74 2 cp75), (14, .func (.func 90) #[] #[.pointer (some ⟨b92, 0, none⟩), .pointer (some ⟨b93, 0, none⟩)]), (15, .slice (some ⟨b98, 0, none⟩) 1 1), (16, .slice ao109 3 cp110), (17, .pointer (some ⟨b9, 0, none⟩)), (8, .int .i64 2), (9, .int .i64 3)]) 3 [0, 2, 3, 4, 6, 7, 10, 12, 13, 11, 14, 15, 16, 17, 8, 9] (by kernel_rfl) ?_
  refine WL.nil ?_
  refine hK83 _ _ ?_
  refine CL.round fun K118 hK118 => ?_
  refine CW.seq fun K119 hK119 => ?_
  refine CW.seq fun K120 hK120 => ?_
  refine CW.region ?_
  refine WL.to (E' := [(0, .pointer none), (2, .pointer (some ⟨b3, 0, none⟩)), (3, .pointer (some ⟨b9, 0, none⟩)), (4, .int .i64 3), (6, .int .i64 3), (7, .bool true), (10, .pointer (some ⟨b9, 0, none⟩)), (12, .int .i64 2), (13, .pointer none), (11, .slice ao74 2 cp75), (14, .func (.func 90) #[] #[.pointer (some ⟨b92, 0, none⟩), .pointer (some ⟨b93, 0, none⟩)]), (15, .slice (some ⟨b98, 0, none⟩) 1 1), (16, .slice ao109 3 cp110), (17, .pointer (some ⟨b9, 0, none⟩)), (8, .int .i64 2), (9, .int .i64 3)]) 2 [0, 2, 3, 4, 6, 7, 10, 12, 13, 11, 14, 15, 16, 17, 8, 9] (by kernel_rfl) ?_
  refine WL.nil ?_
  refine hK120 _ _ _ ?_
  refine CW.condT rfl ?_
  refine CW.skip ?_
  refine hK119 _ _ _ ?_
  refine CW.seq fun K121 hK121 => ?_
  refine CW.block ?_
  refine CW.mixed (by kernel_rfl) ?_
  intro w122 e124 u123
  refine MX.to (f := 6) (L' := #[true, false, true, true, false, false, false, false, false]) (E' := [(0, .pointer none), (2, .pointer (some ⟨b3, 0, none⟩)), (3, .pointer (some ⟨b9, 0, none⟩)), (4, .int .i64 3), (6, .int .i64 3), (7, .bool true), (10, .pointer (some ⟨b9, 0, none⟩)), (12, .int .i64 3), (13, .pointer none), (11, .slice ao74 2 cp75), (14, .func (.func 90) #[] #[.pointer (some ⟨b92, 0, none⟩), .pointer (some ⟨b93, 0, none⟩)]), (15, .slice (some ⟨b98, 0, none⟩) 1 1), (16, .slice ao109 3 cp110), (17, .pointer (some ⟨b9, 0, none⟩)), (8, .int .i64 2), (9, .int .i64 3)]) [0, 2, 3] [0, 2, 3, 4, 6, 7, 10, 12, 13, 11, 14, 15, 16, 17, 8, 9] rfl (by kernel_rfl) ?_
  have h125 := (h115.keep u123 nm0)
  refine MX.load1 (L' := #[true, true, true, true, false, false, false, false, false]) 1 (by kernel_rfl) rfl rfl rfl agg31 rfl rfl h125 rfl ?_
  refine MX.loud 4 (by kernel_rfl) rfl (fun K126 hK126 => ?_) rfl
  refine WL.call rfl rfl rfl rfl ent48 rfl (extr_of) ?_
  rintro _ w130 ⟨b127, b128, rfl, u129⟩
  refine WL.fin (L' := #[true, true, true, true, true, false, false, false, false]) hK126 (stN (fun q => (q.keep u129 nm0)) st0) ?_
  refine MX.loud 5 (by kernel_rfl) rfl (fun K131 hK131 => ?_) rfl
  refine WL.buildSlice (vs := [(0, .func (.func 90) #[] #[.pointer (some ⟨b127, 0, none⟩), .pointer (some ⟨b128, 0, none⟩)])]) (cs := [.func (.func 90) #[] #[.pointer (some ⟨b127, 0, none⟩), .pointer (some ⟨b128, 0, none⟩)]]) rfl rfl Tryz.underlying31 rfl (by kernel_rfl) ?_
  intro w132 b133 h134 u135 g136
  refine WL.fin (L' := #[true, true, true, true, true, true, false, false, false]) hK131 (stN (fun q => (q.keep u135 nm0)) st0) ?_
  refine MX.loud 6 (by kernel_rfl) rfl (fun K137 hK137 => ?_) rfl
  have h138 := ((((h105.keep' u116 (disc (Own.ne h105 h113 rfl) dis0)).keep' u123 dis0).keep' u129 dis0).keep' u135 dis0)
  refine WL.appT (k := 3) (xs := (([.func (.func 90) #[] #[.pointer (some ⟨b24, 0, none⟩), .pointer (some ⟨b25, 0, none⟩)]] ++ [.func (.func 90) #[] #[.pointer (some ⟨b57, 0, none⟩), .pointer (some ⟨b58, 0, none⟩)]]) ++ [.func (.func 90) #[] #[.pointer (some ⟨b92, 0, none⟩), .pointer (some ⟨b93, 0, none⟩)]])) rfl Tryz.underlying31 inf104 rfl rfl rfl rfl rfl h138 h134 rfl rfl rfl ⟨by decide, by decide⟩ ?_
  intro v143 w139 h140 u141 f142
  obtain ⟨ao144, cp145, rfl⟩ := h140.form
  refine WL.fin (L' := #[true, true, true, true, true, true, true, false, false]) hK137 (stY (by kernel_rfl) st0) ?_
  refine MX.to (f := 1) (L' := #[true, true, true, true, true, true, true, true, false]) (E' := [(0, .pointer none), (2, .pointer (some ⟨b3, 0, none⟩)), (3, .pointer (some ⟨b9, 0, none⟩)), (4, .int .i64 3), (6, .int .i64 3), (7, .bool true), (10, .pointer (some ⟨b9, 0, none⟩)), (12, .int .i64 3), (13, .pointer none), (11, .slice ao109 3 cp110), (14, .func (.func 90) #[] #[.pointer (some ⟨b127, 0, none⟩), .pointer (some ⟨b128, 0, none⟩)]), (15, .slice (some ⟨b133, 0, none⟩) 1 1), (16, .slice ao144 4 cp145), (17, .pointer (some ⟨b9, 0, none⟩)), (8, .int .i64 2), (9, .int .i64 3)]) [7] [0, 2, 3, 4, 6, 7, 10, 12, 13, 11, 14, 15, 16, 17, 8, 9] rfl (by kernel_rfl) ?_
  refine MX.loud 8 (by kernel_rfl) rfl (fun K146 hK146 => ?_) rfl
  have h147 := ((h125.keep u129 nm0).keep u135 nm0)
  have h148 := (h147.keep u141 (Own.ne h138 h147 rfl))
  refine WL.store1 rfl siz31 rfl rfl rfl h148 rfl ?_
  intro w149 h150 u151 z152
  refine WL.fin (L' := #[true, true, true, true, true, true, true, true, true]) hK146 (stY (by kernel_rfl) st0) ?_
  refine MX.done (by kernel_rfl) ?_
  refine hK121 _ _ _ ?_
  refine CW.region ?_
  refine WL.to (E' := [(0, .pointer none), (2, .pointer (some ⟨b3, 0, none⟩)), (3, .pointer (some ⟨b9, 0, none⟩)), (4, .int .i64 4), (6, .int .i64 3), (7, .bool true), (10, .pointer (some ⟨b9, 0, none⟩)), (12, .int .i64 3), (13, .pointer none), (11, .slice ao109 3 cp110), (14, .func (.func 90) #[] #[.pointer (some ⟨b127, 0, none⟩), .pointer (some ⟨b128, 0, none⟩)]), (15, .slice (some ⟨b133, 0, none⟩) 1 1), (16, .slice ao144 4 cp145), (17, .pointer (some ⟨b9, 0, none⟩)), (8, .int .i64 3), (9, .int .i64 4)]) 3 [0, 2, 3, 4, 6, 7, 10, 12, 13, 11, 14, 15, 16, 17, 8, 9] (by kernel_rfl) ?_
  refine WL.nil ?_
  refine hK118 _ _ ?_
  refine CL.round fun K153 hK153 => ?_
  refine CW.seq fun K154 hK154 => ?_
  refine CW.seq fun K155 hK155 => ?_
  refine CW.region ?_
  refine WL.to (E' := [(0, .pointer none), (2, .pointer (some ⟨b3, 0, none⟩)), (3, .pointer (some ⟨b9, 0, none⟩)), (4, .int .i64 4), (6, .int .i64 4), (7, .bool true), (10, .pointer (some ⟨b9, 0, none⟩)), (12, .int .i64 3), (13, .pointer none), (11, .slice ao109 3 cp110), (14, .func (.func 90) #[] #[.pointer (some ⟨b127, 0, none⟩), .pointer (some ⟨b128, 0, none⟩)]), (15, .slice (some ⟨b133, 0, none⟩) 1 1), (16, .slice ao144 4 cp145), (17, .pointer (some ⟨b9, 0, none⟩)), (8, .int .i64 3), (9, .int .i64 4)]) 2 [0, 2, 3, 4, 6, 7, 10, 12, 13, 11, 14, 15, 16, 17, 8, 9] (by kernel_rfl) ?_
  refine WL.nil ?_
  refine hK155 _ _ _ ?_
  refine CW.condT rfl ?_
  refine CW.skip ?_
  refine hK154 _ _ _ ?_
  refine CW.seq fun K156 hK156 => ?_
  refine CW.block ?_
  refine CW.mixed (by kernel_rfl) ?_
  intro w157 e159 u158
  refine MX.to (f := 6) (L' := #[true, false, true, true, false, false, false, false, false]) (E' := [(0, .pointer none), (2, .pointer (some ⟨b3, 0, none⟩)), (3, .pointer (some ⟨b9, 0, none⟩)), (4, .int .i64 4), (6, .int .i64 4), (7, .bool true), (10, .pointer (some ⟨b9, 0, none⟩)), (12, .int .i64 4), (13, .pointer none), (11, .slice ao109 3 cp110), (14, .func (.func 90) #[] #[.pointer (some ⟨b127, 0, none⟩), .pointer (some ⟨b128, 0, none⟩)]), (15, .slice (some ⟨b133, 0, none⟩) 1 1), (16, .slice ao144 4 cp145), (17, .pointer (some ⟨b9, 0, none⟩)), (8, .int .i64 3), (9, .int .i64 4)]) [0, 2, 3] [0, 2, 3, 4, 6, 7, 10, 12, 13, 11, 14, 15, 16, 17, 8, 9] rfl (by kernel_rfl) ?_
  have h160 := (h150.keep u158 nm0)
  refine MX.load1 (L' := #[true, true, true, true, false, false, false, false, false]) 1 (by kernel_rfl) rfl rfl rfl agg31 rfl rfl h160 rfl ?_
  refine MX.loud 4 (by kernel_rfl) rfl (fun K161 hK161 => ?_) rfl
  refine WL.call rfl rfl rfl rfl ent48 rfl (extr_of) ?_
  rintro _ w165 ⟨b162, b163, rfl, u164⟩
  refine WL.fin (L' := #[true, true, true, true, true, false, false, false, false]) hK161 (stN (fun q => (q.keep u164 nm0)) st0) ?_
  refine MX.loud 5 (by kernel_rfl) rfl (fun K166 hK166 => ?_) rfl
  refine WL.buildSlice (vs := [(0, .func (.func 90) #[] #[.pointer (some ⟨b162, 0, none⟩), .pointer (some ⟨b163, 0, none⟩)])]) (cs := [.func (.func 90) #[] #[.pointer (some ⟨b162, 0, none⟩), .pointer (some ⟨b163, 0, none⟩)]]) rfl rfl Tryz.underlying31 rfl (by kernel_rfl) ?_
  intro w167 b168 h169 u170 g171
  refine WL.fin (L' := #[true, true, true, true, true, true, false, false, false]) hK166 (stN (fun q => (q.keep u170 nm0)) st0) ?_
  refine MX.loud 6 (by kernel_rfl) rfl (fun K172 hK172 => ?_) rfl
  have h173 := ((((h140.keep' u151 (disc (Own.ne h140 h148 rfl) dis0)).keep' u158 dis0).keep' u164 dis0).keep' u170 dis0)
  refine WL.appT (k := 4) (xs := ((([.func (.func 90) #[] #[.pointer (some ⟨b24, 0, none⟩), .pointer (some ⟨b25, 0, none⟩)]] ++ [.func (.func 90) #[] #[.pointer (some ⟨b57, 0, none⟩), .pointer (some ⟨b58, 0, none⟩)]]) ++ [.func (.func 90) #[] #[.pointer (some ⟨b92, 0, none⟩), .pointer (some ⟨b93, 0, none⟩)]]) ++ [.func (.func 90) #[] #[.pointer (some ⟨b127, 0, none⟩), .pointer (some ⟨b128, 0, none⟩)]])) rfl Tryz.underlying31 inf104 rfl rfl rfl rfl rfl h173 h169 rfl rfl rfl ⟨by decide, by decide⟩ ?_
  intro v178 w174 h175 u176 f177
  obtain ⟨ao179, cp180, rfl⟩ := h175.form
  refine WL.fin (L' := #[true, true, true, true, true, true, true, false, false]) hK172 (stY (by kernel_rfl) st0) ?_
  refine MX.to (f := 1) (L' := #[true, true, true, true, true, true, true, true, false]) (E' := [(0, .pointer none), (2, .pointer (some ⟨b3, 0, none⟩)), (3, .pointer (some ⟨b9, 0, none⟩)), (4, .int .i64 4), (6, .int .i64 4), (7, .bool true), (10, .pointer (some ⟨b9, 0, none⟩)), (12, .int .i64 4), (13, .pointer none), (11, .slice ao144 4 cp145), (14, .func (.func 90) #[] #[.pointer (some ⟨b162, 0, none⟩), .pointer (some ⟨b163, 0, none⟩)]), (15, .slice (some ⟨b168, 0, none⟩) 1 1), (16, .slice ao179 5 cp180), (17, .pointer (some ⟨b9, 0, none⟩)), (8, .int .i64 3), (9, .int .i64 4)]) [7] [0, 2, 3, 4, 6, 7, 10, 12, 13, 11, 14, 15, 16, 17, 8, 9] rfl (by kernel_rfl) ?_
  refine MX.loud 8 (by kernel_rfl) rfl (fun K181 hK181 => ?_) rfl
  have h182 := ((h160.keep u164 nm0).keep u170 nm0)
  have h183 := (h182.keep u176 (Own.ne h173 h182 rfl))
  refine WL.store1 rfl siz31 rfl rfl rfl h183 rfl ?_
  intro w184 h185 u186 z187
  refine WL.fin (L' := #[true, true, true, true, true, true, true, true, true]) hK181 (stY (by kernel_rfl) st0) ?_
  refine MX.done (by kernel_rfl) ?_
  refine hK156 _ _ _ ?_
  refine CW.region ?_
  refine WL.to (E' := [(0, .pointer none), (2, .pointer (some ⟨b3, 0, none⟩)), (3, .pointer (some ⟨b9, 0, none⟩)), (4, .int .i64 5), (6, .int .i64 4), (7, .bool true), (10, .pointer (some ⟨b9, 0, none⟩)), (12, .int .i64 4), (13, .pointer none), (11, .slice ao144 4 cp145), (14, .func (.func 90) #[] #[.pointer (some ⟨b162, 0, none⟩), .pointer (some ⟨b163, 0, none⟩)]), (15, .slice (some ⟨b168, 0, none⟩) 1 1), (16, .slice ao179 5 cp180), (17, .pointer (some ⟨b9, 0, none⟩)), (8, .int .i64 4), (9, .int .i64 5)]) 3 [0, 2, 3, 4, 6, 7, 10, 12, 13, 11, 14, 15, 16, 17, 8, 9] (by kernel_rfl) ?_
  refine WL.nil ?_
  refine hK153 _ _ ?_
  refine CL.round fun K188 hK188 => ?_
  refine CW.seq fun K189 hK189 => ?_
  refine CW.seq fun K190 hK190 => ?_
  refine CW.region ?_
  refine WL.to (E' := [(0, .pointer none), (2, .pointer (some ⟨b3, 0, none⟩)), (3, .pointer (some ⟨b9, 0, none⟩)), (4, .int .i64 5), (6, .int .i64 5), (7, .bool false), (10, .pointer (some ⟨b9, 0, none⟩)), (12, .int .i64 4), (13, .pointer none), (11, .slice ao144 4 cp145), (14, .func (.func 90) #[] #[.pointer (some ⟨b162, 0, none⟩), .pointer (some ⟨b163, 0, none⟩)]), (15, .slice (some ⟨b168, 0, none⟩) 1 1), (16, .slice ao179 5 cp180), (17, .pointer (some ⟨b9, 0, none⟩)), (8, .int .i64 4), (9, .int .i64 5)]) 2 [0, 2, 3, 4, 6, 7, 10, 12, 13, 11, 14, 15, 16, 17, 8, 9] (by kernel_rfl) ?_
  refine WL.nil ?_
  refine hK190 _ _ _ ?_
  refine CW.condF rfl ?_
  refine CW.exit ?_
  refine hK13 _ _ _ ?_
  refine CW.seq fun K191 hK191 => ?_
  refine CW.seq fun K192 hK192 => ?_
  refine CW.region ?_
  refine WL.to (E' := [(0, .pointer none), (2, .pointer (some ⟨b3, 0, none⟩)), (3, .pointer (some ⟨b9, 0, none⟩)), (5, .int .i64 0)]) 1 [0, 2, 3, 5] (by kernel_rfl) ?_
  refine WL.nil ?_
  refine hK192 _ _ _ ?_
  refine CW.block ?_
  refine CW.round1 fun K193 hK193 => ?_
  refine CW.seq fun K194 hK194 => ?_
  refine CW.seq fun K195 hK195 => ?_
  refine CW.region ?_
  refine WL.to (E' := [(0, .pointer none), (2, .pointer (some ⟨b3, 0, none⟩)), (3, .pointer (some ⟨b9, 0, none⟩)), (5, .int .i64 0), (18, .int .i64 0), (19, .bool true)]) 2 [0, 2, 3, 5, 18, 19] (by kernel_rfl) ?_
  refine WL.nil ?_
  refine hK195 _ _ _ ?_
  refine CW.condT rfl ?_
  refine CW.skip ?_
  refine hK194 _ _ _ ?_
  refine CW.seq fun K196 hK196 => ?_
  refine CW.block ?_
  refine CW.mixed (by kernel_rfl) ?_
  intro w197 e199 u198
  refine MX.to (f := 6) (L' := #[true, false, true, true, false, false, false, false, false]) (E' := [(0, .pointer none), (2, .pointer (some ⟨b3, 0, none⟩)), (3, .pointer (some ⟨b9, 0, none⟩)), (5, .int .i64 0), (18, .int .i64 0), (19, .bool true), (22, .pointer (some ⟨b9, 1, none⟩)), (24, .int .i64 0), (25, .pointer none)]) [0, 2, 3] [0, 2, 3, 5, 18, 19, 22, 24, 25] rfl (by kernel_rfl) ?_
  have h200 := (h185.keep u198 nm0)
  refine MX.load1 (L' := #[true, true, true, true, false, false, false, false, false]) 1 (by kernel_rfl) rfl rfl rfl agg32 rfl rfl h200 rfl ?_
  refine MX.loud 4 (by kernel_rfl) rfl (fun K201 hK201 => ?_) rfl
  refine WL.call rfl rfl rfl rfl ent49 rfl (comp_of) ?_
  rintro _ w205 ⟨b202, b203, rfl, u204⟩
  refine WL.fin (L' := #[true, true, true, true, true, false, false, false, false]) hK201 (stN (fun q => (q.keep u204 nm0)) st0) ?_
  refine MX.loud 5 (by kernel_rfl) rfl (fun K206 hK206 => ?_) rfl
  refine WL.buildSlice (vs := [(0, .func (.func 93) #[] #[.pointer (some ⟨b202, 0, none⟩), .pointer (some ⟨b203, 0, none⟩)])]) (cs := [.func (.func 93) #[] #[.pointer (some ⟨b202, 0, none⟩), .pointer (some ⟨b203, 0, none⟩)]]) rfl rfl Tryz.underlying32 rfl (by kernel_rfl) ?_
  intro w207 b208 h209 u210 g211
  refine WL.fin (L' := #[true, true, true, true, true, true, false, false, false]) hK206 (stN (fun q => (q.keep u210 nm0)) st0) ?_
  refine MX.loud 6 (by kernel_rfl) rfl (fun K212 hK212 => ?_) rfl
  refine WL.appT (k := 0) (xs := []) rfl Tryz.underlying32 inf107 rfl rfl rfl rfl rfl Own.nil h209 rfl rfl rfl ⟨by decide, by decide⟩ ?_
  intro v217 w213 h214 u215 f216
  obtain ⟨ao218, cp219, rfl⟩ := h214.form
  refine WL.fin (L' := #[true, true, true, true, true, true, true, false, false]) hK212 (stY (by kernel_rfl) st0) ?_
  refine MX.to (f := 1) (L' := #[true, true, true, true, true, true, true, true, false]) (E' := [(0, .pointer none), (2, .pointer (some ⟨b3, 0, none⟩)), (3, .pointer (some ⟨b9, 0, none⟩)), (5, .int .i64 0), (18, .int .i64 0), (19, .bool true), (22, .pointer (some ⟨b9, 1, none⟩)), (24, .int .i64 0), (25, .pointer none), (23, .slice none 0 0), (26, .func (.func 93) #[] #[.pointer (some ⟨b202, 0, none⟩), .pointer (some ⟨b203, 0, none⟩)]), (27, .slice (some ⟨b208, 0, none⟩) 1 1), (28, .slice ao218 1 cp219), (29, .pointer (some ⟨b9, 1, none⟩))]) [7] [0, 2, 3, 5, 18, 19, 22, 24, 25, 23, 26, 27, 28, 29] rfl (by kernel_rfl) ?_
  refine MX.loud 8 (by kernel_rfl) rfl (fun K220 hK220 => ?_) rfl
  have h221 := (((h200.keep u204 nm0).keep u210 nm0).keep u215 nm0)
  refine WL.store1 rfl siz32 rfl rfl rfl h221 rfl ?_
  intro w222 h223 u224 z225
  refine WL.fin (L' := #[true, true, true, true, true, true, true, true, true]) hK220 (stY (by kernel_rfl) st0) ?_
  refine MX.done (by kernel_rfl) ?_
  refine hK196 _ _ _ ?_
  refine CW.region ?_
  refine WL.to (E' := [(0, .pointer none), (2, .pointer (some ⟨b3, 0, none⟩)), (3, .pointer (some ⟨b9, 0, none⟩)), (5, .int .i64 1), (18, .int .i64 0), (19, .bool true), (22, .pointer (some ⟨b9, 1, none⟩)), (24, .int .i64 0), (25, .pointer none), (23, .slice none 0 0), (26, .func (.func 93) #[] #[.pointer (some ⟨b202, 0, none⟩), .pointer (some ⟨b203, 0, none⟩)]), (27, .slice (some ⟨b208, 0, none⟩) 1 1), (28, .slice ao218 1 cp219), (29, .pointer (some ⟨b9, 1, none⟩)), (20, .int .i64 0), (21, .int .i64 1)]) 3 [0, 2, 3, 5, 18, 19, 22, 24, 25, 23, 26, 27, 28, 29, 20, 21] (by kernel_rfl) ?_
  refine WL.nil ?_
  refine hK193 _ _ ?_
  refine CL.round fun K226 hK226 => ?_
  refine CW.seq fun K227 hK227 => ?_
  refine CW.seq fun K228 hK228 => ?_
  refine CW.region ?_
  refine WL.to (E' := [(0, .pointer none), (2, .pointer (some ⟨b3, 0, none⟩)), (3, .pointer (some ⟨b9, 0, none⟩)), (5, .int .i64 1), (18, .int .i64 1), (19, .bool true), (22, .pointer (some ⟨b9, 1, none⟩)), (24, .int .i64 0), (25, .pointer none), (23, .slice none 0 0), (26, .func (.func 93) #[] #[.pointer (some ⟨b202, 0, none⟩), .pointer (some ⟨b203, 0, none⟩)]), (27, .slice (some ⟨b208, 0, none⟩) 1 1), (28, .slice ao218 1 cp219), (29, .pointer (some ⟨b9, 1, none⟩)), (20, .int .i64 0), (21, .int .i64 1)]) 2 [0, 2, 3, 5, 18, 19, 22, 24, 25, 23, 26, 27, 28, 29, 20, 21] (by kernel_rfl) ?_
  refine WL.nil ?_
  refine hK228 _ _ _ ?_
  refine CW.condT rfl ?_
  refine CW.skip ?_
  refine hK227 _ _ _ ?_
  refine CW.seq fun K229 hK229 => ?_
  refine CW.block ?_
  refine CW.mixed (by kernel_rfl) ?_
  intro w230 e232 u231
  refine MX.to (f := 6) (L' := #[true, false, true, true, false, false, false, false, false]) (E' := [(0, .pointer none), (2, .pointer (some ⟨b3, 0, none⟩)), (3, .pointer (some ⟨b9, 0, none⟩)), (5, .int .i64 1), (18, .int .i64 1), (19, .bool true), (22, .pointer (some ⟨b9, 1, none⟩)), (24, .int .i64 1), (25, .pointer none), (23, .slice none 0 0), (26, .func (.func 93) #[] #[.pointer (some ⟨b202, 0, none⟩), .pointer (some ⟨b203, 0, none⟩)]), (27, .slice (some ⟨b208, 0, none⟩) 1 1), (28, .slice ao218 1 cp219), (29, .pointer (some ⟨b9, 1, none⟩)), (20, .int .i64 0), (21, .int .i64 1)]) [0, 2, 3] [0, 2, 3, 5, 18, 19, 22, 24, 25, 23, 26, 27, 28, 29, 20, 21] rfl (by kernel_rfl) ?_
  have h233 := (h223.keep u231 nm0)
  refine MX.load1 (L' := #[true, true, true, true, false, false, false, false, false]) 1 (by kernel_rfl) rfl rfl rfl agg32 rfl rfl h233 rfl ?_
  refine MX.loud 4 (by kernel_rfl) rfl (fun K234 hK234 => ?_) rfl
  refine WL.call rfl rfl rfl rfl ent49 rfl (comp_of) ?_
  rintro _ w238 ⟨b235, b236, rfl, u237⟩
  refine WL.fin (L' := #[true, true, true, true, true, false, false, false, false]) hK234 (stN (fun q => (q.keep u237 nm0)) st0) ?_
  refine MX.loud 5 (by kernel_rfl) rfl (fun K239 hK239 => ?_) rfl
  refine WL.buildSlice (vs := [(0, .func (.func 93) #[] #[.pointer (some ⟨b235, 0, none⟩), .pointer (some ⟨b236, 0, none⟩)])]) (cs := [.func (.func 93) #[] #[.pointer (some ⟨b235, 0, none⟩), .pointer (some ⟨b236, 0, none⟩)]]) rfl rfl Tryz.underlying32 rfl (by kernel_rfl) ?_
  intro w240 b241 h242 u243 g244
  refine WL.fin (L' := #[true, true, true, true, true, true, false, false, false]) hK239 (stN (fun q => (q.keep u243 nm0)) st0) ?_
  refine MX.loud 6 (by kernel_rfl) rfl (fun K245 hK245 => ?_) rfl
  have h246 := ((((h214.keep' u224 (disc (Own.ne h214 h221 rfl) dis0)).keep' u231 dis0).keep' u237 dis0).keep' u243 dis0)
  refine WL.appT (k := 1) (xs := [.func (.func 93) #[] #[.pointer (some ⟨b202, 0, none⟩), .pointer (some ⟨b203, 0, none⟩)]]) rfl Tryz.underlying32 inf107 rfl rfl rfl rfl rfl h246 h242 rfl rfl rfl ⟨by decide, by decide⟩ ?_
  intro v251 w247 h248 u249 f250
  obtain ⟨ao252, cp253, rfl⟩ := h248.form
  refine WL.fin (L' := #[true, true, true, true, true, true, true, false, false]) hK245 (stY (by kernel_rfl) st0) ?_
  refine MX.to (f := 1) (L' := #[true, true, true, true, true, true, true, true, false]) (E' := [(0, .pointer none), (2, .pointer (some ⟨b3, 0, none⟩)), (3, .pointer (some ⟨b9, 0, none⟩)), (5, .int .i64 1), (18, .int .i64 1), (19, .bool true), (22, .pointer (some ⟨b9, 1, none⟩)), (24, .int .i64 1), (25, .pointer none), (23, .slice ao218 1 cp219), (26, .func (.func 93) #[] #[.pointer (some ⟨b235, 0, none⟩), .pointer (some ⟨b236, 0, none⟩)]), (27, .slice (some ⟨b241, 0, none⟩) 1 1), (28, .slice ao252 2 cp253), (29, .pointer (some ⟨b9, 1, none⟩)), (20, .int .i64 0), (21, .int .i64 1)]) [7] [0, 2, 3, 5, 18, 19, 22, 24, 25, 23, 26, 27, 28, 29, 20, 21] rfl (by kernel_rfl) ?_
  refine MX.loud 8 (by kernel_rfl) rfl (fun K254 hK254 => ?_) rfl
  have h255 := ((h233.keep u237 nm0).keep u243 nm0)
  have h256 := (h255.keep u249 (Own.ne h246 h255 rfl))
  refine WL.store1 rfl siz32 rfl rfl rfl h256 rfl ?_
  intro w257 h258 u259 z260
  refine WL.fin (L' := #[true, true, true, true, true, true, true, true, true]) hK254 (stY (by kernel_rfl) st0) ?_
  refine MX.done (by kernel_rfl) ?_
  refine hK229 _ _ _ ?_
  refine CW.region ?_
  refine WL.to (E' := [(0, .pointer none), (2, .pointer (some ⟨b3, 0, none⟩)), (3, .pointer (some ⟨b9, 0, none⟩)), (5, .int .i64 2), (18, .int .i64 1), (19, .bool true), (22, .pointer (some ⟨b9, 1, none⟩)), (24, .int .i64 1), (25, .pointer none), (23, .slice ao218 1 cp219), (26, .func (.func 93) #[] #[.pointer (some ⟨b235, 0, none⟩), .pointer (some ⟨b236, 0, none⟩)]), (27, .slice (some ⟨b241, 0, none⟩) 1 1), (28, .slice ao252 2 cp253), (29, .pointer (some ⟨b9, 1, none⟩)), (20, .int .i64 1), (21, .int .i64 2)]) 3 [0, 2, 3, 5, 18, 19, 22, 24, 25, 23, 26, 27, 28, 29, 20, 21] (by kernel_rfl) ?_
  refine WL.nil ?_
  refine hK226 _ _ ?_
  refine CL.round fun K261 hK261 => ?_
  refine CW.seq fun K262 hK262 => ?_
  refine CW.seq fun K263 hK263 => ?_
  refine CW.region ?_
  refine WL.to (E' := [(0, .pointer none), (2, .pointer (some ⟨b3, 0, none⟩)), (3, .pointer (some ⟨b9, 0, none⟩)), (5, .int .i64 2), (18, .int .i64 2), (19, .bool true), (22, .pointer (some ⟨b9, 1, none⟩)), (24, .int .i64 1), (25, .pointer none), (23, .slice ao218 1 cp219), (26, .func (.func 93) #[] #[.pointer (some ⟨b235, 0, none⟩), .pointer (some ⟨b236, 0, none⟩)]), (27, .slice (some ⟨b241, 0, none⟩) 1 1), (28, .slice ao252 2 cp253), (29, .pointer (some ⟨b9, 1, none⟩)), (20, .int .i64 1), (21, .int .i64 2)]) 2 [0, 2, 3, 5, 18, 19, 22, 24, 25, 23, 26, 27, 28, 29, 20, 21] (by kernel_rfl) ?_
  refine WL.nil ?_
  refine hK263 _ _ _ ?_
  refine CW.condT rfl ?_
  refine CW.skip ?_
  refine hK262 _ _ _ ?_
  refine CW.seq fun K264 hK264 => ?_
  refine CW.block ?_
  refine CW.mixed (by kernel_rfl) ?_
  intro w265 e267 u266
  refine MX.to (f := 6) (L' := #[true, false, true, true, false, false, false, false, false]) (E' := [(0, .pointer none), (2, .pointer (some ⟨b3, 0, none⟩)), (3, .pointer (some ⟨b9, 0, none⟩)), (5, .int .i64 2), (18, .int .i64 2), (19, .bool true), (22, .pointer (some ⟨b9, 1, none⟩)), (24, .int .i64 2), (25, .pointer none), (23, .slice ao218 1 cp219), (26, .func (.func 93) #[] #[.pointer (some ⟨b235, 0, none⟩), .pointer (some ⟨b236, 0, none⟩)]), (27, .slice (some ⟨b241, 0, none⟩) 1 1), (28, .slice ao252 2 cp253), (29, .pointer (some ⟨b9, 1, none⟩)), (20, .int .i64 1), (21, .int .i64 2)]) [0, 2, 3] [0, 2, 3, 5, 18, 19, 22, 24, 25, 23, 26, 27, 28, 29, 20, 21] rfl (by kernel_rfl) ?_
  have h268 := (h258.keep u266 nm0)
  refine MX.load1 (L' := #[true, true, true, true, false, false, false, false, false]) 1 (by kernel_rfl) rfl rfl rfl agg32 rfl rfl h268 rfl ?_
  refine MX.loud 4 (by kernel_rfl) rfl (fun K269 hK269 => ?_) rfl
  refine WL.call rfl rfl rfl rfl ent49 rfl (comp_of) ?_
  rintro _ w273 ⟨b270, b271, rfl, u272⟩
  refine WL.fin (L' := #[true, true, true, true, true, false, false, false, false]) hK269 (stN (fun q => (q.keep u272 nm0)) st0) ?_
  refine MX.loud 5 (by kernel_rfl) rfl (fun K274 hK274 => ?_) rfl
  refine WL.buildSlice (vs := [(0, .func (.func 93) #[] #[.pointer (some ⟨b270, 0, none⟩), .pointer (some ⟨b271, 0, none⟩)])]) (cs := [.func (.func 93) #[] #[.pointer (some ⟨b270, 0, none⟩), .pointer (some ⟨b271, 0, none⟩)]]) rfl rfl Tryz.underlying32 rfl (by kernel_rfl) ?_
  intro w275 b276 h277 u278 g279
  refine WL.fin (L' := #[true, true, true, true, true, true, false, false, false]) hK274 (stN (fun q => (q.keep u278 nm0)) st0) ?_
  refine MX.loud 6 (by kernel_rfl) rfl (fun K280 hK280 => ?_) rfl
  have h281 := ((((h248.keep' u259 (disc (Own.ne h248 h256 rfl) dis0)).keep' u266 dis0).keep' u272 dis0).keep' u278 dis0)
  refine WL.appT (k := 2) (xs := ([.func (.func 93) #[] #[.pointer (some ⟨b202, 0, none⟩), .pointer (some ⟨b203, 0, none⟩)]] ++ [.func (.func 93) #[] #[.pointer (some ⟨b235, 0, none⟩), .pointer (some ⟨b236, 0, none⟩)]])) rfl Tryz.underlying32 inf107 rfl rfl rfl rfl rfl h281 h277 rfl rfl rfl ⟨by decide, by decide⟩ ?_
  intro v286 w282 h283 u284 f285
  obtain ⟨ao287, cp288, rfl⟩ := h283.form
  refine WL.fin (L' := #[true, true, true, true, true, true, true, false, false]) hK280 (stY (by kernel_rfl) st0) ?_
  refine MX.to (f := 1) (L' := #[true, true, true, true, true, true, true, true, false]) (E' := [(0, .pointer none), (2, .pointer (some ⟨b3, 0, none⟩)), (3, .pointer (some ⟨b9, 0, none⟩)), (5, .int .i64 2), (18, .int .i64 2), (19, .bool true), (22, .pointer (some ⟨b9, 1, none⟩)), (24, .int .i64 2), (25, .pointer none), (23, .slice ao252 2 cp253), (26, .func (.func 93) #[] #[.pointer (some ⟨b270, 0, none⟩), .pointer (some ⟨b271, 0, none⟩)]), (27, .slice (some ⟨b276, 0, none⟩) 1 1), (28, .slice ao287 3 cp288), (29, .pointer (some ⟨b9, 1, none⟩)), (20, .int .i64 1), (21, .int .i64 2)]) [7] [0, 2, 3, 5, 18, 19, 22, 24, 25, 23, 26, 27, 28, 29, 20, 21] rfl (by kernel_rfl) ?_
  refine MX.loud 8 (by kernel_rfl) rfl (fun K289 hK289 => ?_) rfl
  have h290 := ((h268.keep u272 nm0).keep u278 nm0)
  have h291 := (h290.keep u284 (Own.ne h281 h290 rfl))
  refine WL.store1 rfl siz32 rfl rfl rfl h291 rfl ?_
  intro w292 h293 u294 z295
  refine WL.fin (L' := #[true, true, true, true, true, true, true, true, true]) hK289 (stY (by kernel_rfl) st0) ?_
  refine MX.done (by kernel_rfl) ?_
  refine hK264 _ _ _ ?_
  refine CW.region ?_
  refine WL.to (E' := [(0, .pointer none), (2, .pointer (some ⟨b3, 0, none⟩)), (3, .pointer (some ⟨b9, 0, none⟩)), (5, .int .i64 3), (18, .int .i64 2), (19, .bool true), (22, .pointer (some ⟨b9, 1, none⟩)), (24, .int .i64 2), (25, .pointer none), (23, .slice ao252 2 cp253), (26, .func (.func 93) #[] #[.pointer (some ⟨b270, 0, none⟩), .pointer (some ⟨b271, 0, none⟩)]), (27, .slice (some ⟨b276, 0, none⟩) 1 1), (28, .slice ao287 3 cp288), (29, .pointer (some ⟨b9, 1, none⟩)), (20, .int .i64 2), (21, .int .i64 3)]) 3 [0, 2, 3, 5, 18, 19, 22, 24, 25, 23, 26, 27, 28, 29, 20, 21] (by kernel_rfl) ?_
  refine WL.nil ?_
  refine hK261 _ _ ?_
  refine CL.round fun K296 hK296 => ?_
  refine CW.seq fun K297 hK297 => ?_
  refine CW.seq fun K298 hK298 => ?_
  refine CW.region ?_
  refine WL.to (E' := [(0, .pointer none), (2, .pointer (some ⟨b3, 0, none⟩)), (3, .pointer (some ⟨b9, 0, none⟩)), (5, .int .i64 3), (18, .int .i64 3), (19, .bool false), (22, .pointer (some ⟨b9, 1, none⟩)), (24, .int .i64 2), (25, .pointer none), (23, .slice ao252 2 cp253), (26, .func (.func 93) #[] #[.pointer (some ⟨b270, 0, none⟩), .pointer (some ⟨b271, 0, none⟩)]), (27, .slice (some ⟨b276, 0, none⟩) 1 1), (28, .slice ao287 3 cp288), (29, .pointer (some ⟨b9, 1, none⟩)), (20, .int .i64 2), (21, .int .i64 3)]) 2 [0, 2, 3, 5, 18, 19, 22, 24, 25, 23, 26, 27, 28, 29, 20, 21] (by kernel_rfl) ?_
  refine WL.nil ?_
  refine hK298 _ _ _ ?_
  refine CW.condF rfl ?_
  refine CW.exit ?_
  refine hK191 _ _ _ ?_
  refine CW.seq fun K299 hK299 => ?_
  refine CW.region ?_
  refine WL.loadN rfl agg34 siz34 rfl rfl h293 rfl rfl ?_
  have h300 := (((((h4.keep u11 nm0).keep u20 nm0).keep u26 nm0).keep u32 nm0).keep u37 nm0)
  have h301 := ((((h300.keep u46 (nmc (by have := h4.lt; have := g12; omega) nm0)).keep u53 nm0).keep u59 nm0).keep u65 nm0)
  have h302 := (h301.keep u71 (Own.ne h68 h301 rfl))
  have h303 := ((((h302.keep u81 (nmc (by have := h4.lt; have := g12; omega) nm0)).keep u88 nm0).keep u94 nm0).keep u100 nm0)
  have h304 := (h303.keep u106 (Own.ne h103 h303 rfl))
  have h305 := ((((h304.keep u116 (nmc (by have := h4.lt; have := g12; omega) nm0)).keep u123 nm0).keep u129 nm0).keep u135 nm0)
  have h306 := (h305.keep u141 (Own.ne h138 h305 rfl))
  have h307 := ((((h306.keep u151 (nmc (by have := h4.lt; have := g12; omega) nm0)).keep u158 nm0).keep u164 nm0).keep u170 nm0)
  have h308 := (h307.keep u176 (Own.ne h173 h307 rfl))
  have h309 := (((((h308.keep u186 (nmc (by have := h4.lt; have := g12; omega) nm0)).keep u198 nm0).keep u204 nm0).keep u210 nm0).keep u215 nm0)
  have h310 := ((((h309.keep u224 (nmc (by have := h4.lt; have := g12; omega) nm0)).keep u231 nm0).keep u237 nm0).keep u243 nm0)
  have h311 := (h310.keep u249 (Own.ne h246 h310 rfl))
  have h312 := ((((h311.keep u259 (nmc (by have := h4.lt; have := g12; omega) nm0)).keep u266 nm0).keep u272 nm0).keep u278 nm0)
  have h313 := (h312.keep u284 (Own.ne h281 h312 rfl))
  have h314 := (h313.keep u294 (nmc (by have := h4.lt; have := g12; omega) nm0))
  refine WL.storeN rfl siz34 rfl rfl rfl rfl h314 (Nat.le_of_ble_eq_true rfl) ?_
  intro w315 h316 u317 z318
  refine WL.sub [(2, .pointer (some ⟨b3, 0, none⟩))] ⟨rfl, trivial⟩ ?_
  refine WL.nil ?_
  refine hK299 _ _ _ ?_
  have h319 := (((((h175.keep' u186 (disc (Own.ne h175 h183 rfl) dis0)).keep' u198 dis0).keep' u204 dis0).keep' u210 dis0).keep' u215 dis0)
  have h320 := ((((h319.keep' u224 (disc (Own.ne h319 h221 rfl) dis0)).keep' u231 dis0).keep' u237 dis0).keep' u243 dis0)
  have h321 := (h320.keep' u249 (Own.neO h320 h246 rfl))
  have h322 := ((((h321.keep' u259 (disc (Own.ne h321 h256 rfl) dis0)).keep' u266 dis0).keep' u272 dis0).keep' u278 dis0)
  have h323 := (h322.keep' u284 (Own.neO h322 h281 rfl))
  have h324 := (h323.keep' u294 (disc (Own.ne h323 h291 rfl) dis0))
  have h325 := (h324.keep' u317 (disc (Own.ne h324 h314 rfl) dis0))
  have h326 := (h283.keep' u294 (disc (Own.ne h283 h291 rfl) dis0))
  have h327 := (h326.keep' u317 (disc (Own.ne h326 h314 rfl) dis0))
  refine CW.ret fun a ha => ?_
  try simp (decide := true) only [Exit.inBlock, Exit.then, ↓reduceIte]
  exact fin ha.defers (res_cell rfl ha rfl agg34 siz34 h316 rfl rfl) ⟨_, _, _, _, _, _, rfl, h325, h327, rfl, rfl, (((((((((((((((((((((((((((((((((((((((((((u5.trans u11).trans u20).trans u26).trans u32).trans u37).trans u46).trans u53).trans u59).trans u65).trans u71).trans u81).trans u88).trans u94).trans u100).trans u106).trans u116).trans u123).trans u129).trans u135).trans u141).trans u151).trans u158).trans u164).trans u170).trans u176).trans u186).trans u198).trans u204).trans u210).trans u215).trans u224).trans u231).trans u237).trans u243).trans u249).trans u259).trans u266).trans u272).trans u278).trans u284).trans u294).trans u317).sub (by intro k hk hl; simp only [Option.mem_toList, Option.mem_def, List.mem_append, List.mem_cons, List.not_mem_nil, or_false, false_or] at hk; have := u5.size; have := u11.size; have := u20.size; have := u26.size; have := u32.size; have := u37.size; have := u46.size; have := u53.size; have := u59.size; have := u65.size; have := u71.size; have := u81.size; have := u88.size; have := u94.size; have := u100.size; have := u106.size; have := u116.size; have := u123.size; have := u129.size; have := u135.size; have := u141.size; have := u151.size; have := u158.size; have := u164.size; have := u170.size; have := u176.size; have := u186.size; have := u198.size; have := u204.size; have := u210.size; have := u215.size; have := u224.size; have := u231.size; have := u237.size; have := u243.size; have := u249.size; have := u259.size; have := u266.size; have := u272.size; have := u278.size; have := u284.size; have := u294.size; have := u317.size; have := g12; have := g12; have := g12; have := g12; have := g12; have := g12; have := g12; have := g12; have := g6; have := f38; have := f72; have := f107; have := f142; have := f177; have := f216; have := f250; have := f285; grind [Value.ownBlock]))⟩

theorem get_of {w : World} {m_ pl lg wt p t hub base : Nat} {sv : Value} {plm : List (ByteArray × Value)} {nm : ByteArray} (hm_ : Blk w m_ [.map (some pl), .pointer (some ⟨lg, 0, none⟩), sv, .pointer (some ⟨wt, 0, none⟩), .bool false] 75) (hpl : KMap ks w pl plm) (hlk : look plm nm = some (.pointer (some ⟨p, 0, none⟩))) (hp : Blk w p [.pointer (some ⟨t, 0, none⟩), .pointer (some ⟨hub, 0, none⟩), .map (some base)] 87) :
    Ret Tryz.prog 21 #[.pointer (some ⟨m_, 0, none⟩), .string nm] w fun v w' => v = .tuple #[.pointer (some ⟨t, 0, none⟩), .bool true] ∧ Only [] w w' := by
  refine enterL (args := [.pointer (some ⟨m_, 0, none⟩), .string nm]) Tryz.func21 rfl rfl rfl ?_
  refine CW.seq fun K1 hK1 => ?_
  refine CW.region ?_
  refine WL.to (E' := [(0, .pointer (some ⟨m_, 0, none⟩)), (1, .string nm), (4, .pointer none), (5, .bool false)]) 2 [0, 1, 4, 5] (by kernel_rfl) ?_
  refine WL.nil ?_
  refine hK1 _ _ _ ?_
  refine CW.seq fun K2 hK2 => ?_
  refine CW.region ?_
  refine WL.to (E' := [(1, .string nm), (4, .pointer none), (5, .bool false), (11, .pointer (some ⟨m_, 0, none⟩))]) 3 [1, 4, 5, 11] (by kernel_rfl) ?_
  refine WL.load1 rfl agg69 rfl rfl hm_ rfl ?_
  refine WL.to (E' := [(4, .pointer none), (5, .bool false), (12, .map (some pl)), (13, .string nm)]) 1 [4, 5, 12, 13] (by kernel_rfl) ?_
  refine WL.lookB (κ := ks) (a := nm) true rfl rfl law_s Tryz.underlying69 Tryz.underlying9 zer77 rfl rfl hpl ?_
  refine WL.chg 14 (.tuple #[.pointer (some ⟨p, 0, none⟩), .bool true]) rfl (by rw [(hlk : look plm nm = some (.pointer (some ⟨p, 0, none⟩)))]; rfl) ?_
  refine WL.to (E' := [(4, .pointer none), (5, .bool false), (6, .pointer (some ⟨p, 0, none⟩)), (7, .bool true)]) 5 [4, 5, 6, 7] (by kernel_rfl) ?_
  refine WL.nil ?_
  refine hK2 _ _ _ ?_
  refine CW.seq fun K3 hK3 => ?_
  refine CW.seq fun K4 hK4 => ?_
  refine CW.region ?_
  refine WL.to (E' := [(4, .pointer none), (5, .bool false), (6, .pointer (some ⟨p, 0, none⟩)), (18, .bool false)]) 2 [4, 5, 6, 18] (by kernel_rfl) ?_
  refine WL.nil ?_
  refine hK4 _ _ _ ?_
  refine CW.condF rfl ?_
  refine CW.skip ?_
  refine hK3 _ _ _ ?_
  refine CW.seq fun K5 hK5 => ?_
  refine CW.region ?_
  refine WL.to (E' := [(4, .pointer none), (5, .bool false), (21, .pointer (some ⟨p, 0, none⟩))]) 3 [4, 5, 21] (by kernel_rfl) ?_
  refine WL.load1 rfl agg60 rfl rfl hp rfl ?_
  refine WL.to (E' := [(4, .pointer (some ⟨t, 0, none⟩)), (5, .bool true)]) 2 [4, 5] (by kernel_rfl) ?_
  refine WL.nil ?_
  refine hK5 _ _ _ ?_
  refine CW.ret fun a ha => ?_
  try simp (decide := true) only [Exit.inBlock, Exit.then, ↓reduceIte]
  exact fin ha.defers (res_tmp2 rfl ha rfl rfl _) ⟨rfl, ((Only.refl [] _).sub (by simp))⟩
end Go.K

namespace Go.K
open Go.Proofs
set_option maxRecDepth 8000
set_option maxHeartbeats 1000000
set_option linter.unusedSimpArgs false
set_option linter.unusedVariables false
theorem made_of {w : World} :
    Ret Tryz.prog 25 #[.pointer none] w fun v w' => ∃ m_ pl lg wt p hub base t S sat F sh cps h1 h2 rest', v = .pointer (some ⟨m_, 0, none⟩) ∧ Blk w' m_ [.map (some pl), .pointer (some ⟨lg, 0, none⟩), .slice none 0 0, .pointer (some ⟨wt, 0, none⟩), .bool false] 75 ∧ KMap ks w' pl [(⟨#[116]⟩, .pointer (some ⟨p, 0, none⟩))] ∧ Blk w' lg [.slice none 0 0] 126 ∧ Blk w' wt [.slice none 0 0, .int .i64 0] 129 ∧ Blk w' p [.pointer (some ⟨t, 0, none⟩), .pointer (some ⟨hub, 0, none⟩), .map (some base)] 87 ∧ Blk w' hub [.slice none 0 0] 137 ∧ KMap ki w' base [] ∧ Blk w' t [.slice (some ⟨sh, 0, none⟩) 2 cps, h1, h2, .pointer (some ⟨S, 0, none⟩), .int .i64 100, .slice none 0 0, .slice none 0 0] 116 ∧ Blk w' sh (.string (⟨#[97]⟩) :: .int .i64 1 :: .string (⟨#[98]⟩) :: .int .i64 1 :: rest') 51 ∧ 2 ≤ cps ∧ Blk w' S [.slice none 0 0, .map (some sat), .pointer (some ⟨F, 0, none⟩), .int .i64 100, .int .i64 1, .int .i64 0] 121 ∧ KMap ki w' sat [] ∧ Blk w' F [.slice none 0 0, .func (.func 135) #[] #[]] 246 ∧ (w.heap.size ≤ m_ ∧ w.heap.size ≤ pl ∧ w.heap.size ≤ lg ∧ w.heap.size ≤ wt ∧ w.heap.size ≤ p ∧ w.heap.size ≤ hub ∧ w.heap.size ≤ base ∧ w.heap.size ≤ t ∧ w.heap.size ≤ sh ∧ w.heap.size ≤ S ∧ w.heap.size ≤ sat ∧ w.heap.size ≤ F) ∧ sat ≠ base ∧ pl ≠ sat ∧ pl ≠ base ∧ Only [] w w' := by
  refine enterL (args := [.pointer none]) Tryz.func25 rfl rfl rfl ?_
  refine CW.seq fun K1 hK1 => ?_
  refine CW.region ?_
  refine WL.box (cs := [.pointer none]) rfl rfl rfl rfl ?_
  intro w2 b3 h4 u5 g6
  refine WL.to (E' := [(1, .pointer (some ⟨b3, 0, none⟩)), (2, .pointer none)]) 1 [1, 2] (by kernel_rfl) ?_
  refine WL.nil ?_
  refine hK1 _ _ _ ?_
  refine CW.seq fun K7 hK7 => ?_
  refine CW.region ?_
  refine WL.call rfl rfl rfl rfl ent7 rfl (newmarket) ?_
  rintro _ w21 ⟨m8, pl9, lg10, wt11, rfl, h12, h13, h14, h15, g16, g17, g18, g19, u20⟩
  refine WL.to (E' := [(1, .pointer (some ⟨b3, 0, none⟩)), (2, .pointer none), (3, .pointer (some ⟨m8, 0, none⟩))]) 1 [1, 2, 3] (by kernel_rfl) ?_
  refine WL.nil ?_
  refine hK7 _ _ _ ?_
  refine CW.seq fun K22 hK22 => ?_
  refine CW.seq fun K23 hK23 => ?_
  refine CW.region ?_
  refine WL.to (E' := [(1, .pointer (some ⟨b3, 0, none⟩)), (2, .pointer none), (3, .pointer (some ⟨m8, 0, none⟩)), (5, .pointer (some ⟨m8, 0, none⟩))]) 1 [1, 2, 3, 5] (by kernel_rfl) ?_
  refine WL.call rfl rfl rfl rfl ent9 rfl (ints_of) ?_
  rintro _ w28 ⟨b24, rfl, h25, g26, u27⟩
  refine WL.call rfl rfl rfl rfl ent17 rfl (hooks_of) ?_
  rintro _ w40 ⟨ea29, ec30, ca31, cc32, ef33, cf34, rfl, h35, h36, h37, h38, u39⟩
  have h41 := ((h12.keep u27 nm0).keep u39 nm0)
  have h42 := ((h13.keep u27 nm0).keep u39 nm0)
  have h43 := (h25.keep u39 nm0)
  refine WL.call rfl rfl rfl rfl ent8 rfl (table_2o (nc := 116) (rest := []) (by decide) h41 h42 rfl (by decide) (by omega) h35 h36 h37 h38 (by decide) (by decide) h43 (by decide)) ?_
  rintro _ w77 ⟨rfl, p44, hub45, base46, t47, S48, at49, F50, g51, cp52, v53, v54, rest55, h56, h57, h58, h59, h60, h61, h62, h63, h64, ⟨g65, g66, g67, g68, g69, g70, g71, g72⟩, ne73, h74, h75, u76⟩
  refine WL.to (E' := [(1, .pointer (some ⟨b3, 0, none⟩)), (2, .pointer none), (3, .pointer (some ⟨m8, 0, none⟩)), (9, .bool false)]) 1 [1, 2, 3, 9] (by kernel_rfl) ?_
  refine WL.nil ?_
  refine hK23 _ _ _ ?_
  refine CW.condF rfl ?_
  refine CW.skip ?_
  refine hK22 _ _ _ ?_
  refine CW.seq fun K78 hK78 => ?_
  refine CW.seq fun K79 hK79 => ?_
  refine CW.region ?_
  have h80 := (((h4.keep u20 nm0).keep u27 nm0).keep u39 nm0)
  have h81 := (h80.keep u76 (nmc (Blk.neK h80 h42) (nmc (Blk.ne h80 h41 rfl) nm0)))
  refine WL.load1 rfl agg122 rfl rfl h81 rfl ?_
  refine WL.to (E' := [(1, .pointer (some ⟨b3, 0, none⟩)), (2, .pointer none), (3, .pointer (some ⟨m8, 0, none⟩)), (11, .bool false)]) 1 [1, 2, 3, 11] (by kernel_rfl) ?_
  refine WL.nil ?_
  refine hK79 _ _ _ ?_
  refine CW.condF rfl ?_
  refine CW.skip ?_
  refine hK78 _ _ _ ?_
  refine CW.seq fun K82 hK82 => ?_
  refine CW.region ?_
  refine WL.to (E' := [(2, .pointer (some ⟨m8, 0, none⟩))]) 2 [2] (by kernel_rfl) ?_
  refine WL.nil ?_
  refine hK82 _ _ _ ?_
  have h83 := ((h14.keep u27 nm0).keep u39 nm0)
  have h84 := (h83.keep u76 (nmc (Blk.neK h83 h42) (nmc (Blk.ne h83 h41 rfl) nm0)))
  have h85 := ((h15.keep u27 nm0).keep u39 nm0)
  have h86 := (h85.keep u76 (nmc (Blk.neK h85 h42) (nmc (Blk.ne h85 h41 rfl) nm0)))
  refine CW.ret fun a ha => ?_
  try simp (decide := true) only [Exit.inBlock, Exit.then, ↓reduceIte]
  exact fin ha.defers (res_tmp rfl ha rfl _) ⟨m8, pl9, lg10, wt11, p44, hub45, base46, t47, S48, at49, F50, g51, cp52, v53, v54, rest55, rfl, h75, h74, h84, h86, h56, h57, h58, h59, h60, h61, h62, h63, h64, ⟨(by have := g16; have := u5.size; omega), (by have := g17; have := u5.size; omega), (by have := g18; have := u5.size; omega), (by have := g19; have := u5.size; omega), (by have := g65; have := u5.size; have := u20.size; have := u27.size; have := u39.size; omega), (by have := g66; have := u5.size; have := u20.size; have := u27.size; have := u39.size; omega), (by have := g67; have := u5.size; have := u20.size; have := u27.size; have := u39.size; omega), (by have := g68; have := u5.size; have := u20.size; have := u27.size; have := u39.size; omega), (by have := g69; have := u5.size; have := u20.size; have := u27.size; have := u39.size; omega), (by have := g70; have := u5.size; have := u20.size; have := u27.size; have := u39.size; omega), (by have := g71; have := u5.size; have := u20.size; have := u27.size; have := u39.size; omega), (by have := g72; have := u5.size; have := u20.size; have := u27.size; have := u39.size; omega)⟩, ne73, (by have := h13.lt; have := g71; have := u27.size; have := u39.size; omega), (by have := h13.lt; have := g67; have := u27.size; have := u39.size; omega), (((((u5.trans u20).trans u27).trans u39).trans u76).sub (by intro k hk hl; simp only [Value.ownBlock, Option.toList, List.mem_append, List.mem_cons, List.not_mem_nil, or_false, false_or] at hk; have := g17; have := g16; have := u5.size; have := u20.size; have := u27.size; have := u39.size; have := u76.size; omega))⟩
end Go.K

namespace Go.K
open Go.Proofs
set_option maxRecDepth 8000
set_option maxHeartbeats 1000000
set_option linter.unusedSimpArgs false
set_option linter.unusedVariables false
theorem tell_none {w : World} {wt cb k vcp cc : Nat} {vao : Option Addr} {nm : ByteArray} {id : Int} {rest : List Value} (hwt : Blk w wt [.slice none 0 0, .int .i64 0] 129) (hcb : Blk w cb (.string nm :: .int .i64 id :: .slice none 0 0 :: .slice vao k vcp :: rest) 40) :
    Ret Tryz.prog 89 #[.pointer (some ⟨wt, 0, none⟩), .slice (some ⟨cb, 0, none⟩) 1 cc] w fun v w' => v = .nilIface ∧ Only [] w w' := by
  refine enterL (args := [.pointer (some ⟨wt, 0, none⟩), .slice (some ⟨cb, 0, none⟩) 1 cc]) Tryz.func89 rfl rfl rfl ?_
  refine CW.seq fun K1 hK1 => ?_
  refine CW.region ?_
  refine WL.to (E' := [(0, .pointer (some ⟨wt, 0, none⟩)), (1, .slice (some ⟨cb, 0, none⟩) 1 cc), (4, .nilIface)]) 1 [0, 1, 4] (by kernel_rfl) ?_
  refine WL.nil ?_
  refine hK1 _ _ _ ?_
  refine CW.seq fun K2 hK2 => ?_
  refine CW.region ?_
  refine WL.to (E' := [(0, .pointer (some ⟨wt, 0, none⟩)), (1, .slice (some ⟨cb, 0, none⟩) 1 cc), (4, .nilIface), (5, .pointer none)]) 1 [0, 1, 4, 5] (by kernel_rfl) ?_
  refine WL.nil ?_
  refine hK2 _ _ _ ?_
  refine CW.seq fun K3 hK3 => ?_
  refine CW.region ?_
  refine WL.to (E' := [(1, .slice (some ⟨cb, 0, none⟩) 1 cc), (4, .nilIface), (5, .pointer none), (14, .pointer (some ⟨wt, 0, none⟩))]) 3 [1, 4, 5, 14] (by kernel_rfl) ?_
  refine WL.load1 rfl agg127 rfl rfl hwt rfl ?_
  refine WL.to (E' := [(1, .slice (some ⟨cb, 0, none⟩) 1 cc), (4, .nilIface), (5, .pointer none), (6, .slice none 0 0)]) 1 [1, 4, 5, 6] (by kernel_rfl) ?_
  refine WL.nil ?_
  refine hK3 _ _ _ ?_
  refine CW.seq fun K4 hK4 => ?_
  refine CW.seq fun K5 hK5 => ?_
  refine CW.region ?_
  refine WL.to (E' := [(4, .nilIface), (5, .pointer none), (6, .slice none 0 0), (16, .slice (some ⟨cb, 0, none⟩) 1 cc), (17, .int .i64 1), (18, .int .i64 0)]) 3 [4, 5, 6, 16, 17, 18] (by kernel_rfl) ?_
  refine WL.nil ?_
  refine hK5 _ _ _ ?_
  refine CW.block ?_
  refine CW.round1 fun K6 hK6 => ?_
  refine CW.seq fun K7 hK7 => ?_
  refine CW.region ?_
  refine WL.to (E' := [(4, .nilIface), (5, .pointer none), (6, .slice none 0 0), (16, .slice (some ⟨cb, 0, none⟩) 1 cc), (17, .int .i64 1), (18, .int .i64 0), (19, .bool true)]) 1 [4, 5, 6, 16, 17, 18, 19] (by kernel_rfl) ?_
  refine WL.nil ?_
  refine hK7 _ _ _ ?_
  refine CW.seq fun K8 hK8 => ?_
  refine CW.condT rfl ?_
  refine CW.skip ?_
  refine hK8 _ _ _ ?_
  refine CW.seq fun K9 hK9 => ?_
  refine CW.block ?_
  refine CW.seq fun K10 hK10 => ?_
  refine CW.region ?_
  refine WL.index rfl rfl Tryz.underlying36 siz40 rfl rfl (by decide) (by decide) ?_
  refine WL.loadN rfl agg40 siz40 rfl rfl hcb rfl rfl ?_
  refine WL.alloc (cs := [.string ByteArray.empty, .int .i64 0, .slice none 0 0, .slice none 0 0]) rfl rfl zer40 rfl ?_
  intro w11 b12 h13 u14 g15
  refine WL.storeN rfl siz40 rfl rfl rfl rfl h13 (Nat.le_of_ble_eq_true rfl) ?_
  intro w16 h17 u18 z19
  refine WL.nil ?_
  refine hK10 _ _ _ ?_
  refine CW.seq fun K20 hK20 => ?_
  refine CW.region ?_
  refine WL.to (E' := [(4, .nilIface), (5, .pointer none), (6, .slice none 0 0), (16, .slice (some ⟨cb, 0, none⟩) 1 cc), (17, .int .i64 1), (18, .int .i64 0), (19, .bool true), (20, .pointer (some ⟨cb, 0, none⟩)), (21, .agg #[.string nm, .int .i64 id, .slice none 0 0, .slice vao k vcp]), (8, .pointer (some ⟨b12, 0, none⟩)), (22, .slice none 0 0), (23, .int .i64 0), (24, .int .i64 0)]) 3 [4, 5, 6, 16, 17, 18, 19, 20, 21, 8, 22, 23, 24] (by kernel_rfl) ?_
  refine WL.nil ?_
  refine hK20 _ _ _ ?_
  refine CW.block ?_
  refine CW.round1 fun K21 hK21 => ?_
  refine CW.seq fun K22 hK22 => ?_
  refine CW.region ?_
  refine WL.to (E' := [(4, .nilIface), (5, .pointer none), (6, .slice none 0 0), (16, .slice (some ⟨cb, 0, none⟩) 1 cc), (17, .int .i64 1), (18, .int .i64 0), (19, .bool true), (20, .pointer (some ⟨cb, 0, none⟩)), (21, .agg #[.string nm, .int .i64 id, .slice none 0 0, .slice vao k vcp]), (8, .pointer (some ⟨b12, 0, none⟩)), (22, .slice none 0 0), (23, .int .i64 0), (24, .int .i64 0), (25, .bool false)]) 1 [4, 5, 6, 16, 17, 18, 19, 20, 21, 8, 22, 23, 24, 25] (by kernel_rfl) ?_
  refine WL.nil ?_
  refine hK22 _ _ _ ?_
  refine CW.seq fun K23 hK23 => ?_
  refine CW.condF rfl ?_
  refine CW.exit ?_
  refine hK9 _ _ _ ?_
  refine CW.region ?_
  refine WL.to (E' := [(4, .nilIface), (5, .pointer none), (6, .slice none 0 0), (16, .slice (some ⟨cb, 0, none⟩) 1 cc), (17, .int .i64 1), (18, .int .i64 1), (19, .bool true), (20, .pointer (some ⟨cb, 0, none⟩)), (21, .agg #[.string nm, .int .i64 id, .slice none 0 0, .slice vao k vcp]), (8, .pointer (some ⟨b12, 0, none⟩)), (22, .slice none 0 0), (23, .int .i64 0), (24, .int .i64 0), (25, .bool false), (40, .int .i64 1)]) 2 [4, 5, 6, 16, 17, 18, 19, 20, 21, 8, 22, 23, 24, 25, 40] (by kernel_rfl) ?_
  refine WL.nil ?_
  refine hK6 _ _ ?_
  refine CL.round fun K24 hK24 => ?_
  refine CW.seq fun K25 hK25 => ?_
  refine CW.region ?_
  refine WL.to (E' := [(4, .nilIface), (5, .pointer none), (6, .slice none 0 0), (16, .slice (some ⟨cb, 0, none⟩) 1 cc), (17, .int .i64 1), (18, .int .i64 1), (19, .bool false), (20, .pointer (some ⟨cb, 0, none⟩)), (21, .agg #[.string nm, .int .i64 id, .slice none 0 0, .slice vao k vcp]), (8, .pointer (some ⟨b12, 0, none⟩)), (22, .slice none 0 0), (23, .int .i64 0), (24, .int .i64 0), (25, .bool false), (40, .int .i64 1)]) 1 [4, 5, 6, 16, 17, 18, 19, 20, 21, 8, 22, 23, 24, 25, 40] (by kernel_rfl) ?_
  refine WL.nil ?_
  refine hK25 _ _ _ ?_
  refine CW.seq fun K26 hK26 => ?_
  refine CW.condF rfl ?_
  refine CW.exit ?_
  refine hK4 _ _ _ ?_
  refine CW.seq fun K27 hK27 => ?_
  refine CW.seq fun K28 hK28 => ?_
  refine CW.region ?_
  refine WL.to (E' := [(4, .nilIface), (5, .pointer none), (42, .bool true)]) 2 [4, 5, 42] (by kernel_rfl) ?_
  refine WL.nil ?_
  refine hK28 _ _ _ ?_
  refine CW.condT rfl ?_
  refine CW.seq fun K29 hK29 => ?_
  refine CW.region ?_
  refine WL.to (E' := [(4, .nilIface), (5, .pointer none)]) 1 [4, 5] (by kernel_rfl) ?_
  refine WL.nil ?_
  refine hK29 _ _ _ ?_
  refine CW.ret fun a ha => ?_
  try simp (decide := true) only [Exit.inBlock, Exit.then, ↓reduceIte]
  exact fin ha.defers (res_tmp rfl ha rfl _) ⟨rfl, ((u14.trans u18).sub (by intro k hk hl; simp only [Value.ownBlock, Option.toList, List.mem_append, List.mem_cons, List.not_mem_nil, or_false, false_or] at hk; have := g15; have := u14.size; have := u18.size; omega))⟩
end Go.K

namespace Go.K
open Go.Proofs
set_option maxRecDepth 8000
set_option maxHeartbeats 1000000
set_option linter.unusedSimpArgs false
set_option linter.unusedVariables false
theorem pilepop_of {w : World} {F g fc : Nat} {x0 : Int} {grest : List Value} (hF : Blk w F [.slice (some ⟨g, 0, none⟩) 1 fc, .func (.func 135) #[] #[]] 246) (hg : Blk w g (.int .i64 x0 :: grest) 3) :
    Ret Tryz.prog 441 #[.pointer (some ⟨F, 0, none⟩)] w fun v w' => v = .iface 3 (.int .i64 x0) ∧ Blk w' F [.slice (some ⟨g, 0, none⟩) 0 fc, .func (.func 135) #[] #[]] 246 ∧ Only [F] w w' := by
  refine enterL (args := [.pointer (some ⟨F, 0, none⟩)]) Tryz.func441 rfl rfl rfl ?_
  refine CW.seq fun K1 hK1 => ?_
  refine CW.region ?_
  refine WL.to (E' := [(0, .pointer (some ⟨F, 0, none⟩)), (2, .nilIface)]) 1 [0, 2] (by kernel_rfl) ?_
  refine WL.nil ?_
  refine hK1 _ _ _ ?_
  refine CW.seq fun K2 hK2 => ?_
  refine CW.region ?_
  refine WL.to (E' := [(0, .pointer (some ⟨F, 0, none⟩)), (2, .nilIface), (7, .pointer (some ⟨F, 0, none⟩))]) 3 [0, 2, 7] (by kernel_rfl) ?_
  refine WL.load1 rfl agg49 rfl rfl hF rfl ?_
  refine WL.to (E' := [(0, .pointer (some ⟨F, 0, none⟩)), (2, .nilIface), (3, .int .i64 0)]) 3 [0, 2, 3] (by kernel_rfl) ?_
  refine WL.nil ?_
  refine hK2 _ _ _ ?_
  refine CW.seq fun K3 hK3 => ?_
  refine CW.region ?_
  refine WL.to (E' := [(0, .pointer (some ⟨F, 0, none⟩)), (2, .nilIface), (3, .int .i64 0), (13, .pointer (some ⟨F, 0, none⟩))]) 3 [0, 2, 3, 13] (by kernel_rfl) ?_
  refine WL.load1 rfl agg49 rfl rfl hF rfl ?_
  refine WL.to (E' := [(0, .pointer (some ⟨F, 0, none⟩)), (2, .nilIface), (3, .int .i64 0), (14, .slice (some ⟨g, 0, none⟩) 1 fc), (15, .int .i64 0)]) 1 [0, 2, 3, 14, 15] (by kernel_rfl) ?_
  refine WL.index rfl rfl Tryz.underlying49 siz3 rfl rfl (by decide) (by decide) ?_
  refine WL.load1 rfl agg3 rfl rfl hg rfl ?_
  refine WL.to (E' := [(0, .pointer (some ⟨F, 0, none⟩)), (2, .nilIface), (3, .int .i64 0), (4, .int .i64 x0)]) 1 [0, 2, 3, 4] (by kernel_rfl) ?_
  refine WL.nil ?_
  refine hK3 _ _ _ ?_
  refine CW.seq fun K4 hK4 => ?_
  refine CW.region ?_
  refine WL.to (E' := [(2, .nilIface), (3, .int .i64 0), (4, .int .i64 x0), (18, .pointer (some ⟨F, 0, none⟩)), (21, .pointer (some ⟨F, 0, none⟩))]) 4 [2, 3, 4, 18, 21] (by kernel_rfl) ?_
  refine WL.load1 rfl agg49 rfl rfl hF rfl ?_
  refine WL.to (E' := [(2, .nilIface), (4, .int .i64 x0), (18, .pointer (some ⟨F, 0, none⟩)), (22, .slice (some ⟨g, 0, none⟩) 1 fc), (23, .int .i64 0)]) 1 [2, 4, 18, 22, 23] (by kernel_rfl) ?_
  refine WL.sliceHi rfl rfl Tryz.underlying49 siz3 rfl rfl (by decide) (by omega) ?_
  refine WL.to (E' := [(2, .nilIface), (4, .int .i64 x0), (24, .slice (some ⟨g, 0, none⟩) 0 fc), (26, .pointer (some ⟨F, 0, none⟩))]) 2 [2, 4, 24, 26] (by kernel_rfl) ?_
  refine WL.store1 rfl siz49 rfl rfl rfl hF rfl ?_
  intro w5 h6 u7 z8
  refine WL.sub [(2, .nilIface), (4, .int .i64 x0)] ⟨rfl, rfl, trivial⟩ ?_
  refine WL.nil ?_
  refine hK4 _ _ _ ?_
  refine CW.seq fun K9 hK9 => ?_
  refine CW.region ?_
  refine WL.to (E' := [(2, .iface 3 (.int .i64 x0))]) 3 [2] (by kernel_rfl) ?_
  refine WL.nil ?_
  refine hK9 _ _ _ ?_
  refine CW.ret fun a ha => ?_
  try simp (decide := true) only [Exit.inBlock, Exit.then, ↓reduceIte]
  exact fin ha.defers (res_tmp rfl ha rfl _) ⟨rfl, h6, (u7.sub (by intro k hk hl; simp only [Value.ownBlock, Option.toList, List.mem_append, List.mem_cons, List.not_mem_nil, or_false, false_or] at hk ⊢; have := u7.size; omega))⟩

theorem down0 {w : World} {v0 : Value} :
    Ret Tryz.prog 270 #[v0, .int .i64 0, .int .i64 0] w fun v w' => v = .bool false ∧ w' = w := by
  refine enterL (args := [v0, .int .i64 0, .int .i64 0]) Tryz.func270 rfl rfl rfl ?_
  refine CW.seq fun K1 hK1 => ?_
  refine CW.region ?_
  refine WL.to (E' := [(0, v0), (1, .int .i64 0), (2, .int .i64 0), (6, .bool false)]) 1 [0, 1, 2, 6] (by kernel_rfl) ?_
  refine WL.nil ?_
  refine hK1 _ _ _ ?_
  refine CW.seq fun K2 hK2 => ?_
  refine CW.region ?_
  refine WL.to (E' := [(0, v0), (1, .int .i64 0), (2, .int .i64 0), (6, .bool false), (7, .int .i64 0)]) 2 [0, 1, 2, 6, 7] (by kernel_rfl) ?_
  refine WL.nil ?_
  refine hK2 _ _ _ ?_
  refine CW.seq fun K3 hK3 => ?_
  refine CW.block ?_
  refine CW.round1 fun K4 hK4 => ?_
  refine CW.block ?_
  refine CW.seq fun K5 hK5 => ?_
  refine CW.region ?_
  refine WL.to (E' := [(0, v0), (1, .int .i64 0), (2, .int .i64 0), (6, .bool false), (7, .int .i64 0), (12, .int .i64 0), (13, .int .i64 0), (14, .int .i64 1), (8, .int .i64 1)]) 4 [0, 1, 2, 6, 7, 12, 13, 14, 8] (by kernel_rfl) ?_
  refine WL.nil ?_
  refine hK5 _ _ _ ?_
  refine CW.seq fun K6 hK6 => ?_
  refine CW.seq fun K7 hK7 => ?_
  refine CW.region ?_
  refine WL.to (E' := [(0, v0), (1, .int .i64 0), (2, .int .i64 0), (6, .bool false), (7, .int .i64 0), (12, .int .i64 0), (13, .int .i64 0), (14, .int .i64 1), (8, .int .i64 1), (15, .int .i64 1), (16, .int .i64 0), (17, .bool true), (18, .bool true), (19, undef), (20, undef), (21, .bool true)]) 7 [0, 1, 2, 6, 7, 12, 13, 14, 8, 15, 16, 17, 18, 19, 20, 21] (by kernel_rfl) ?_
  refine WL.nil ?_
  refine hK7 _ _ _ ?_
  refine CW.condT rfl ?_
  refine CW.exit ?_
  refine hK3 _ _ _ ?_
  refine CW.seq fun K8 hK8 => ?_
  refine CW.region ?_
  refine WL.to (E' := [(6, .bool false)]) 4 [6] (by kernel_rfl) ?_
  refine WL.nil ?_
  refine hK8 _ _ _ ?_
  refine CW.ret fun a ha => ?_
  try simp (decide := true) only [Exit.inBlock, Exit.then, ↓reduceIte]
  exact fin ha.defers (res_tmp rfl ha rfl _) ⟨rfl, rfl⟩

theorem heappop_of {w : World} {F g fc : Nat} {x0 : Int} {grest : List Value} (hF : Blk w F [.slice (some ⟨g, 0, none⟩) 1 fc, .func (.func 135) #[] #[]] 246) (hg : Blk w g (.int .i64 x0 :: grest) 3) :
    Ret Tryz.prog 215 #[.iface 273 (.pointer (some ⟨F, 0, none⟩))] w fun v w' => v = .iface 3 (.int .i64 x0) ∧ Blk w' F [.slice (some ⟨g, 0, none⟩) 0 fc, .func (.func 135) #[] #[]] 246 ∧ Blk w' g (.int .i64 x0 :: grest) 3 ∧ Only [F, g] w w' := by
  refine enterL (args := [.iface 273 (.pointer (some ⟨F, 0, none⟩))]) Tryz.func215 rfl rfl rfl ?_
  refine CW.seq fun K1 hK1 => ?_
  refine CW.region ?_
  refine WL.to (E' := [(0, .iface 273 (.pointer (some ⟨F, 0, none⟩))), (2, .nilIface)]) 1 [0, 2] (by kernel_rfl) ?_
  refine WL.nil ?_
  refine hK1 _ _ _ ?_
  refine CW.seq fun K2 hK2 => ?_
  refine CW.region ?_
  refine WL.to (E' := [(0, .iface 273 (.pointer (some ⟨F, 0, none⟩))), (2, .nilIface), (4, .iface 273 (.pointer (some ⟨F, 0, none⟩)))]) 1 [0, 2, 4] (by kernel_rfl) ?_
  refine WL.inv (f := 269) rfl rfl rfl rfl (fun _ => by kernel_rfl) ent269 rfl (pilelen_of hF) ?_
  rintro _ _ ⟨rfl, rfl⟩
  refine WL.to (E' := [(0, .iface 273 (.pointer (some ⟨F, 0, none⟩))), (2, .nilIface), (3, .int .i64 0)]) 2 [0, 2, 3] (by kernel_rfl) ?_
  refine WL.nil ?_
  refine hK2 _ _ _ ?_
  refine CW.seq fun K3 hK3 => ?_
  refine CW.region ?_
  refine WL.to (E' := [(0, .iface 273 (.pointer (some ⟨F, 0, none⟩))), (2, .nilIface), (3, .int .i64 0), (7, .iface 273 (.pointer (some ⟨F, 0, none⟩))), (8, .int .i64 0)]) 2 [0, 2, 3, 7, 8] (by kernel_rfl) ?_
  refine WL.inv (f := 443) rfl rfl rfl rfl (fun _ => by kernel_rfl) ent443 rfl (swap_of (i := 0) (j := 0) (l := [x0]) (rest := grest) hF hg (Nat.zero_lt_succ _) (Nat.zero_lt_succ _)) ?_
  rintro _ w5 ⟨rfl, h6, u4⟩
  refine WL.sub [(0, .iface 273 (.pointer (some ⟨F, 0, none⟩))), (2, .nilIface), (3, .int .i64 0)] ⟨rfl, rfl, rfl, trivial⟩ ?_
  refine WL.nil ?_
  refine hK3 _ _ _ ?_
  refine CW.seq fun K7 hK7 => ?_
  refine CW.region ?_
  refine WL.to (E' := [(0, .iface 273 (.pointer (some ⟨F, 0, none⟩))), (2, .nilIface), (10, .iface 273 (.pointer (some ⟨F, 0, none⟩))), (11, .int .i64 0)]) 2 [0, 2, 10, 11] (by kernel_rfl) ?_
  refine WL.callQ (v := .bool false) rfl rfl rfl rfl ent270 rfl (down0) ?_
  refine WL.sub [(0, .iface 273 (.pointer (some ⟨F, 0, none⟩))), (2, .nilIface)] ⟨rfl, rfl, trivial⟩ ?_
  refine WL.nil ?_
  refine hK7 _ _ _ ?_
  refine CW.seq fun K8 hK8 => ?_
  refine CW.region ?_
  refine WL.to (E' := [(2, .nilIface), (13, .iface 273 (.pointer (some ⟨F, 0, none⟩)))]) 1 [2, 13] (by kernel_rfl) ?_
  have h9 := (hF.keep u4 (nmc (Blk.ne hF hg rfl) nm0))
  refine WL.inv (f := 441) rfl rfl rfl rfl (fun _ => by kernel_rfl) ent441 rfl (pilepop_of h9 h6) ?_
  rintro _ w11 ⟨rfl, h12, u10⟩
  refine WL.to (E' := [(2, .iface 3 (.int .i64 x0))]) 1 [2] (by kernel_rfl) ?_
  refine WL.nil ?_
  refine hK8 _ _ _ ?_
  have h13 := (h6.keep u10 (nmc (Blk.ne h6 h9 rfl) nm0))
  refine CW.ret fun a ha => ?_
  try simp (decide := true) only [Exit.inBlock, Exit.then, ↓reduceIte]
  exact fin ha.defers (res_tmp rfl ha rfl _) ⟨rfl, h12, h13, ((u4.trans u10).sub (by intro k hk hl; simp only [Value.ownBlock, Option.toList, List.mem_append, List.mem_cons, List.not_mem_nil, or_false, false_or] at hk ⊢; have := u4.size; have := u10.size; omega))⟩

theorem take_one {w : World} {F g fc : Nat} {x0 : Int} {grest : List Value} (hF : Blk w F [.slice (some ⟨g, 0, none⟩) 1 fc, .func (.func 135) #[] #[]] 246) (hg : Blk w g (.int .i64 x0 :: grest) 3) :
    Ret Tryz.prog 157 #[.pointer (some ⟨F, 0, none⟩)] w fun v w' => v = .tuple #[.int .i64 x0, .bool true] ∧ Blk w' F [.slice (some ⟨g, 0, none⟩) 0 fc, .func (.func 135) #[] #[]] 246 ∧ Blk w' g (.int .i64 x0 :: grest) 3 ∧ Only [F, g] w w' := by
  refine enterL (args := [.pointer (some ⟨F, 0, none⟩)]) Tryz.func157 rfl rfl rfl ?_
  refine CW.seq fun K1 hK1 => ?_
  refine CW.region ?_
  refine WL.to (E' := [(0, .pointer (some ⟨F, 0, none⟩)), (2, .int .i64 0), (3, .bool false)]) 2 [0, 2, 3] (by kernel_rfl) ?_
  refine WL.nil ?_
  refine hK1 _ _ _ ?_
  refine CW.seq fun K2 hK2 => ?_
  refine CW.seq fun K3 hK3 => ?_
  refine CW.region ?_
  refine WL.to (E' := [(0, .pointer (some ⟨F, 0, none⟩)), (2, .int .i64 0), (3, .bool false), (4, .pointer (some ⟨F, 0, none⟩))]) 1 [0, 2, 3, 4] (by kernel_rfl) ?_
  refine WL.callQ (v := .int .i64 1) rfl rfl rfl rfl ent214 rfl (freelen_of hF) ?_
  refine WL.to (E' := [(0, .pointer (some ⟨F, 0, none⟩)), (2, .int .i64 0), (3, .bool false), (6, .bool false)]) 1 [0, 2, 3, 6] (by kernel_rfl) ?_
  refine WL.nil ?_
  refine hK3 _ _ _ ?_
  refine CW.condF rfl ?_
  refine CW.skip ?_
  refine hK2 _ _ _ ?_
  refine CW.seq fun K4 hK4 => ?_
  refine CW.region ?_
  refine WL.to (E' := [(2, .int .i64 0), (3, .bool false), (10, .iface 273 (.pointer (some ⟨F, 0, none⟩)))]) 4 [2, 3, 10] (by kernel_rfl) ?_
  refine WL.call rfl rfl rfl rfl ent215 rfl (heappop_of hF hg) ?_
  rintro _ w6 ⟨rfl, h7, h8, u5⟩
  refine WL.to (E' := [(2, .int .i64 x0), (3, .bool true)]) 3 [2, 3] (by kernel_rfl) ?_
  refine WL.nil ?_
  refine hK4 _ _ _ ?_
  refine CW.ret fun a ha => ?_
  try simp (decide := true) only [Exit.inBlock, Exit.then, ↓reduceIte]
  exact fin ha.defers (res_tmp2 rfl ha rfl rfl _) ⟨rfl, h7, h8, (u5.sub (by intro k hk hl; simp only [Value.ownBlock, Option.toList, List.mem_append, List.mem_cons, List.not_mem_nil, or_false, false_or] at hk ⊢; have := u5.size; omega))⟩
end Go.K

namespace Go.K
open Go.Proofs
set_option maxRecDepth 8000
set_option maxHeartbeats 1000000
set_option linter.unusedSimpArgs false
set_option linter.unusedVariables false
theorem adds1_of {w : World} {S F : Nat} {sat n scp : Nat} {sao : Option Addr} {smx nx wr : Int} {id ver : Int} (hS : Blk w S [.slice sao n scp, .map (some sat), .pointer (some ⟨F, 0, none⟩), .int .i64 smx, .int .i64 nx, .int .i64 wr] 121) {idx : List (Int × Value)} (hA : KMap ki w sat idx) {xs : List Value} (hO : Own w (.slice sao n scp) 214 3 n xs) {g fc j : Nat} {grest : List Value} (hF : Blk w F [.slice (some ⟨g, 0, none⟩) 1 fc, .func (.func 135) #[] #[]] 246) (hg : Blk w g (.int .i64 ((j : Nat) : Int) :: grest) 3) (hj : j < n) {vao : Option Addr} {k vcp : Nat} {fs : List Value} (h : Own w (.slice vao k vcp) 58 4 k fs) (h1 : fs.all Value.oneCell' = true) (hk : k ≤ 1000) (hnew : look idx id = none) (hroom : ((idx.length : Nat) : Int) < smx) (hn : n ≤ 100000) (hw : -1000000 ≤ wr ∧ wr ≤ 1000000) :
    Ret Tryz.prog 113 #[.pointer (some ⟨S, 0, none⟩), .agg #[.int .i64 id, .int .i64 ver, .slice vao k vcp]] w fun v w' => ∃ ao cp, v = .int .i64 0 ∧ Blk w' S [.slice sao n scp, .map (some sat), .pointer (some ⟨F, 0, none⟩), .int .i64 smx, .int .i64 nx, .int .i64 (wr + 1)] 121 ∧ KMap ki w' sat (idx ++ [(id, .int .i64 ((j : Nat) : Int))]) ∧ Own w' (.slice sao n scp) 214 3 n (setAll xs (j * 3) [.int .i64 id, .int .i64 ver, .slice ao k cp]) ∧ Own w' (.slice ao k cp) 58 4 k fs ∧ (∀ b, (Value.slice ao k cp).ownBlock = some b → w.heap.size ≤ b) ∧ Blk w' F [.slice (some ⟨g, 0, none⟩) 0 fc, .func (.func 135) #[] #[]] 246 ∧ Only ([S, sat, F, g] ++ (Value.slice sao n scp).ownBlock.toList) w w' := by
  refine enterL (args := [.pointer (some ⟨S, 0, none⟩), .agg #[.int .i64 id, .int .i64 ver, .slice vao k vcp]]) Tryz.func113 rfl rfl rfl ?_
  refine CW.seq fun K1 hK1 => ?_
  refine CW.region ?_
  refine WL.box (cs := [.int .i64 id, .int .i64 ver, .slice vao k vcp]) rfl rfl rfl rfl ?_
  intro w2 b3 h4 u5 g6
  refine WL.to (E' := [(0, .pointer (some ⟨S, 0, none⟩)), (3, .pointer (some ⟨b3, 0, none⟩)), (4, .int .i64 0)]) 1 [0, 3, 4] (by kernel_rfl) ?_
  refine WL.nil ?_
  refine hK1 _ _ _ ?_
  refine CW.seq fun K7 hK7 => ?_
  refine CW.seq fun K8 hK8 => ?_
  refine CW.still (by kernel_rfl) (by kernel_rfl) ?_
  intro w9 e11 u10
  refine ST.to (E' := [(0, .pointer (some ⟨S, 0, none⟩)), (3, .pointer (some ⟨b3, 0, none⟩)), (4, .int .i64 0), (7, .pointer (some ⟨S, 0, none⟩))]) 1 [0, 3, 4, 7] (by kernel_rfl) ?_
  have h12 := ((hS.keep u5 nm0).keep u10 nm0)
  have h13 := ((hA.keep u5 nm0).keep u10 nm0)
  refine ST.call (v := .int .i64 ((idx.length : Nat) : Int)) rfl rfl rfl rfl ent23 rfl (len_of h12 h13) ?_
  refine ST.to (E' := [(0, .pointer (some ⟨S, 0, none⟩)), (3, .pointer (some ⟨b3, 0, none⟩)), (4, .int .i64 0), (8, .int .i64 ((idx.length : Nat) : Int)), (11, .pointer (some ⟨S, 3, none⟩))]) 3 [0, 3, 4, 8, 11] (by kernel_rfl) ?_
  refine ST.load1 rfl agg3 rfl rfl h12 rfl ?_
  refine ST.to (E' := [(0, .pointer (some ⟨S, 0, none⟩)), (3, .pointer (some ⟨b3, 0, none⟩)), (4, .int .i64 0), (13, .bool (decide (((idx.length : Nat) : Int) ≥ smx)))]) 1 [0, 3, 4, 13] (by kernel_rfl) ?_
  refine ST.nil ?_
  refine hK8 _ _ _ ?_
  refine CW.no rfl (decide_eq_false (by omega)) ?_
  refine CW.skip ?_
  refine hK7 _ _ _ ?_
  refine CW.seq fun K14 hK14 => ?_
  refine CW.region ?_
  refine WL.to (E' := [(0, .pointer (some ⟨S, 0, none⟩)), (3, .pointer (some ⟨b3, 0, none⟩)), (4, .int .i64 0), (17, .pointer (some ⟨S, 2, none⟩))]) 3 [0, 3, 4, 17] (by kernel_rfl) ?_
  refine WL.load1 rfl agg119 rfl rfl h12 rfl ?_
  have h15 := ((hF.keep u5 nm0).keep u10 nm0)
  have h16 := ((hg.keep u5 nm0).keep u10 nm0)
  refine WL.call rfl rfl rfl rfl ent157 rfl (take_one h15 h16) ?_
  rintro _ w18 ⟨rfl, h19, h20, u17⟩
  refine WL.to (E' := [(0, .pointer (some ⟨S, 0, none⟩)), (3, .pointer (some ⟨b3, 0, none⟩)), (4, .int .i64 0), (5, .int .i64 ((j : Nat) : Int)), (6, .bool true)]) 5 [0, 3, 4, 5, 6] (by kernel_rfl) ?_
  refine WL.nil ?_
  refine hK14 _ _ _ ?_
  refine CW.seq fun K21 hK21 => ?_
  refine CW.seq fun K22 hK22 => ?_
  refine CW.region ?_
  refine WL.to (E' := [(0, .pointer (some ⟨S, 0, none⟩)), (3, .pointer (some ⟨b3, 0, none⟩)), (4, .int .i64 0), (5, .int .i64 ((j : Nat) : Int)), (23, .bool false)]) 2 [0, 3, 4, 5, 23] (by kernel_rfl) ?_
  refine WL.nil ?_
  refine hK22 _ _ _ ?_
  refine CW.condF rfl ?_
  refine CW.skip ?_
  refine hK21 _ _ _ ?_
  refine CW.seq fun K23 hK23 => ?_
  refine CW.tail 7 (by kernel_rfl) (by kernel_rfl) ?_
  intro w24 e26 u25
  refine ST.to (E' := [(0, .pointer (some ⟨S, 0, none⟩)), (3, .pointer (some ⟨b3, 0, none⟩)), (4, .int .i64 0), (5, .int .i64 ((j : Nat) : Int)), (41, .pointer (some ⟨S, 1, none⟩))]) 3 [0, 3, 4, 5, 41] (by kernel_rfl) ?_
  have h27 := ((h12.keep u17 (nmc (Blk.ne h12 h15 rfl) (nmc (Blk.ne h12 h16 rfl) nm0))).keep u25 nm0)
  refine ST.load1 rfl agg118 rfl rfl h27 rfl ?_
  refine ST.to (E' := [(0, .pointer (some ⟨S, 0, none⟩)), (3, .pointer (some ⟨b3, 0, none⟩)), (4, .int .i64 0), (5, .int .i64 ((j : Nat) : Int)), (42, .map (some sat)), (43, .pointer (some ⟨b3, 0, none⟩))]) 1 [0, 3, 4, 5, 42, 43] (by kernel_rfl) ?_
  have h28 := (h4.keep u10 nm0)
  have h29 := ((h28.keep u17 (nmc (Blk.ne h28 h15 rfl) (nmc (Blk.ne h28 h16 rfl) nm0))).keep u25 nm0)
  refine ST.load1 rfl agg2 rfl rfl h29 rfl ?_
  refine ST.to (E' := [(0, .pointer (some ⟨S, 0, none⟩)), (3, .pointer (some ⟨b3, 0, none⟩)), (4, .int .i64 0), (5, .int .i64 ((j : Nat) : Int)), (42, .map (some sat)), (44, .int .i64 id), (45, .int .i64 ((j : Nat) : Int))]) 1 [0, 3, 4, 5, 42, 44, 45] (by kernel_rfl) ?_
  refine ST.nil ?_
  change WL _ _ _ _ _ _ _ _
  have h30 := ((h13.keep u17 (nmc (Ne.symm (Blk.neK h15 h13)) (nmc (Ne.symm (Blk.neK h16 h13)) nm0))).keep u25 nm0)
  refine WL.putNew (κ := ki) (a := id) rfl law_i Tryz.underlying118 Tryz.underlying2 rfl rfl rfl h30 (hnew) ?_
  intro w31 h32 u33 z34
  refine WL.sub [(0, .pointer (some ⟨S, 0, none⟩)), (3, .pointer (some ⟨b3, 0, none⟩)), (4, .int .i64 0), (5, .int .i64 ((j : Nat) : Int))] ⟨rfl, rfl, rfl, rfl, trivial⟩ ?_
  refine WL.nil ?_
  refine hK23 _ _ _ ?_
  refine CW.seq fun K35 hK35 => ?_
  refine CW.region ?_
  refine WL.to (E' := [(3, .pointer (some ⟨b3, 0, none⟩)), (4, .int .i64 0), (46, .pointer (some ⟨S, 0, none⟩)), (47, .int .i64 ((j : Nat) : Int))]) 2 [3, 4, 46, 47] (by kernel_rfl) ?_
  have h36 := (h29.keep u33 (nmc (Blk.neK h29 h30) nm0))
  refine WL.loadN rfl agg214 siz214 rfl rfl h36 rfl rfl ?_
  have h37 := (h27.keep u33 (nmc (Blk.neK h27 h30) nm0))
  have h38 := ((hO.keep' u5 dis0).keep' u10 dis0)
  have h39 := ((h38.keep' u17 (disc (Own.ne h38 h15 rfl) (disc (Own.ne h38 h16 rfl) dis0))).keep' u25 dis0)
  have h40 := (h39.keep' u33 (disc (Own.neM h39 h30) dis0))
  have h45 := ((h.keep' u5 dis0).keep' u10 dis0)
  have h46 := ((h45.keep' u17 (disc (Own.ne h45 h15 rfl) (disc (Own.ne h45 h16 rfl) dis0))).keep' u25 dis0)
  have h47 := (h46.keep' u33 (disc (Own.neM h46 h30) dis0))
  refine WL.call rfl rfl rfl rfl ent114 rfl (write_own h37 h40 (by omega) (by omega) h47 h1 (by omega)) ?_
  rintro _ w41 ⟨ao48, cp49, h50, f51, rfl, h43, h44, u42⟩
  refine WL.sub [(4, .int .i64 0)] ⟨rfl, trivial⟩ ?_
  refine WL.nil ?_
  refine hK35 _ _ _ ?_
  refine CW.seq fun K52 hK52 => ?_
  refine CW.region ?_
  refine WL.to (E' := [(4, .int .i64 0)]) 1 [4] (by kernel_rfl) ?_
  refine WL.nil ?_
  refine hK52 _ _ _ ?_
  have h53 := (h32.keep u42 (nma (nmc (Ne.symm (Blk.neK h37 h32)) nm0) (Own.neM h40 h32)))
  have h54 := (h19.keep u25 nm0)
  have h55 := (h54.keep u33 (nmc (Blk.neK h54 h30) nm0))
  have h56 := (h55.keep u42 (nma (nmc (Blk.ne h55 h37 rfl) nm0) (Own.ne h40 h55 rfl)))
  refine CW.ret fun a ha => ?_
  try simp (decide := true) only [Exit.inBlock, Exit.then, ↓reduceIte]
  exact fin ha.defers (res_tmp rfl ha rfl _) ⟨_, _, rfl, h43, h53, h44, h50, (fun b hb => by have := f51 b hb; have := u5.size; have := u10.size; have := u17.size; have := u25.size; have := u33.size; omega), h56, ((((((u5.trans u10).trans u17).trans u25).trans u33).trans u42).sub (by intro k hk hl; simp only [Option.mem_toList, Option.mem_def, List.mem_append, List.mem_cons, List.not_mem_nil, or_false, false_or] at hk ⊢; have := u5.size; have := u10.size; have := u17.size; have := u25.size; have := u33.size; have := u42.size; grind))⟩

theorem insert1_of {w : World} {S F : Nat} {sat n scp : Nat} {sao : Option Addr} {smx nx wr : Int} (hS : Blk w S [.slice sao n scp, .map (some sat), .pointer (some ⟨F, 0, none⟩), .int .i64 smx, .int .i64 nx, .int .i64 wr] 121) {idx : List (Int × Value)} (hA : KMap ki w sat idx) {xs : List Value} (hO : Own w (.slice sao n scp) 214 3 n xs) {g fc j : Nat} {grest : List Value} (hF : Blk w F [.slice (some ⟨g, 0, none⟩) 1 fc, .func (.func 135) #[] #[]] 246) (hg : Blk w g (.int .i64 ((j : Nat) : Int) :: grest) 3) (hj : j < n) {vao : Option Addr} {k vcp : Nat} {fs : List Value} (h : Own w (.slice vao k vcp) 58 4 k fs) (h1 : fs.all Value.oneCell' = true) (hk : k ≤ 1000) (hnew : look idx nx = none) (hroom : ((idx.length : Nat) : Int) < smx) (hn : n ≤ 100000) (hw : -1000000 ≤ wr ∧ wr ≤ 1000000) (hx : -1000000 ≤ nx ∧ nx ≤ 1000000) :
    Ret Tryz.prog 78 #[.pointer (some ⟨S, 0, none⟩), .slice vao k vcp] w fun v w' => ∃ ao cp, v = .tuple #[.int .i64 nx, .int .i64 0] ∧ Blk w' S [.slice sao n scp, .map (some sat), .pointer (some ⟨F, 0, none⟩), .int .i64 smx, .int .i64 (nx + 1), .int .i64 (wr + 1)] 121 ∧ KMap ki w' sat (idx ++ [(nx, .int .i64 ((j : Nat) : Int))]) ∧ Own w' (.slice sao n scp) 214 3 n (setAll xs (j * 3) [.int .i64 nx, .int .i64 1, .slice ao k cp]) ∧ Own w' (.slice ao k cp) 58 4 k fs ∧ (∀ b, (Value.slice ao k cp).ownBlock = some b → w.heap.size ≤ b) ∧ Blk w' F [.slice (some ⟨g, 0, none⟩) 0 fc, .func (.func 135) #[] #[]] 246 ∧ Only ([S, sat, F, g] ++ (Value.slice sao n scp).ownBlock.toList) w w' := by
  refine enterL (args := [.pointer (some ⟨S, 0, none⟩), .slice vao k vcp]) Tryz.func78 rfl rfl rfl ?_
  refine CW.seq fun K1 hK1 => ?_
  refine CW.region ?_
  refine WL.to (E' := [(0, .pointer (some ⟨S, 0, none⟩)), (1, .slice vao k vcp), (4, .int .i64 0), (5, .int .i64 0)]) 2 [0, 1, 4, 5] (by kernel_rfl) ?_
  refine WL.nil ?_
  refine hK1 _ _ _ ?_
  refine CW.seq fun K2 hK2 => ?_
  refine CW.region ?_
  refine WL.to (E' := [(0, .pointer (some ⟨S, 0, none⟩)), (1, .slice vao k vcp), (4, .int .i64 0), (5, .int .i64 0), (10, .pointer (some ⟨S, 4, none⟩))]) 3 [0, 1, 4, 5, 10] (by kernel_rfl) ?_
  refine WL.load1 rfl agg2 rfl rfl hS rfl ?_
  refine WL.to (E' := [(0, .pointer (some ⟨S, 0, none⟩)), (1, .slice vao k vcp), (4, .int .i64 0), (5, .int .i64 0), (6, .int .i64 nx)]) 1 [0, 1, 4, 5, 6] (by kernel_rfl) ?_
  refine WL.nil ?_
  refine hK2 _ _ _ ?_
  refine CW.seq fun K3 hK3 => ?_
  refine CW.seq fun K4 hK4 => ?_
  refine CW.region ?_
  refine WL.to (E' := [(0, .pointer (some ⟨S, 0, none⟩)), (4, .int .i64 0), (5, .int .i64 0), (6, .int .i64 nx), (12, .pointer (some ⟨S, 0, none⟩)), (13, .int .i64 nx), (14, .slice vao k vcp)]) 3 [0, 4, 5, 6, 12, 13, 14] (by kernel_rfl) ?_
  refine WL.build (vs := [(0, .int .i64 nx), (1, .int .i64 1), (2, .slice vao k vcp)]) (v := .agg #[.int .i64 nx, .int .i64 1, .slice vao k vcp]) rfl rfl rfl (by kernel_rfl) ?_
  refine WL.call rfl rfl rfl rfl ent113 rfl (adds1_of hS hA hO hF hg hj h h1 (by omega) hnew (by omega) (by omega) (by omega)) ?_
  rintro _ w14 ⟨ao11, cp12, rfl, h5, h6, h7, h8, h9, h10, u13⟩
  refine WL.to (E' := [(0, .pointer (some ⟨S, 0, none⟩)), (4, .int .i64 0), (5, .int .i64 0), (6, .int .i64 nx), (7, .int .i64 0)]) 1 [0, 4, 5, 6, 7] (by kernel_rfl) ?_
  refine WL.nil ?_
  refine hK4 _ _ _ ?_
  refine CW.seq fun K15 hK15 => ?_
  refine CW.region ?_
  refine WL.to (E' := [(0, .pointer (some ⟨S, 0, none⟩)), (4, .int .i64 0), (5, .int .i64 0), (6, .int .i64 nx), (7, .int .i64 0), (18, .bool false)]) 2 [0, 4, 5, 6, 7, 18] (by kernel_rfl) ?_
  refine WL.nil ?_
  refine hK15 _ _ _ ?_
  refine CW.condF rfl ?_
  refine CW.skip ?_
  refine hK3 _ _ _ ?_
  refine CW.seq fun K16 hK16 => ?_
  refine CW.region ?_
  refine WL.to (E' := [(4, .int .i64 0), (5, .int .i64 0), (6, .int .i64 nx), (20, .pointer (some ⟨S, 0, none⟩)), (22, .pointer (some ⟨S, 4, none⟩))]) 3 [4, 5, 6, 20, 22] (by kernel_rfl) ?_
  refine WL.load1 rfl agg2 rfl rfl h5 rfl ?_
  refine WL.to (E' := [(4, .int .i64 0), (5, .int .i64 0), (6, .int .i64 nx), (20, .pointer (some ⟨S, 0, none⟩)), (24, .int .i64 (IntKind.i64.wrap (nx + 1)))]) 1 [4, 5, 6, 20, 24] (by kernel_rfl) ?_
  refine WL.chg 24 (.int .i64 (nx + 1)) rfl (congrArg (Value.int .i64) (i64_in _ (by omega))) ?_
  refine WL.to (E' := [(4, .int .i64 0), (5, .int .i64 0), (6, .int .i64 nx), (24, .int .i64 (nx + 1)), (26, .pointer (some ⟨S, 4, none⟩))]) 2 [4, 5, 6, 24, 26] (by kernel_rfl) ?_
  refine WL.store1 rfl siz2 rfl rfl rfl h5 rfl ?_
  intro w17 h18 u19 z20
  refine WL.sub [(4, .int .i64 0), (5, .int .i64 0), (6, .int .i64 nx)] ⟨rfl, rfl, rfl, trivial⟩ ?_
  refine WL.nil ?_
  refine hK16 _ _ _ ?_
  refine CW.seq fun K21 hK21 => ?_
  refine CW.region ?_
  refine WL.to (E' := [(4, .int .i64 nx), (5, .int .i64 0)]) 3 [4, 5] (by kernel_rfl) ?_
  refine WL.nil ?_
  refine hK21 _ _ _ ?_
  have h22 := (h6.keep u19 (nmc (Ne.symm (Blk.neK h5 h6)) nm0))
  have h23 := (h7.keep' u19 (disc (Own.ne h7 h5 rfl) dis0))
  have h24 := (h8.keep' u19 (disc (Own.ne h8 h5 rfl) dis0))
  have h25 := (h10.keep u19 (nmc (Blk.ne h10 h5 rfl) nm0))
  refine CW.ret fun a ha => ?_
  try simp (decide := true) only [Exit.inBlock, Exit.then, ↓reduceIte]
  exact fin ha.defers (res_tmp2 rfl ha rfl rfl _) ⟨_, _, rfl, h18, h22, h23, h24, (fun b hb => by have := h9 b hb; omega), h25, ((u13.trans u19).sub (by intro k hk hl; simp only [Option.mem_toList, Option.mem_def, List.mem_append, List.mem_cons, List.not_mem_nil, or_false, false_or] at hk ⊢; have := u13.size; have := u19.size; grind))⟩
end Go.K

namespace Go.K
open Go.Proofs
set_option maxRecDepth 8000
set_option maxHeartbeats 1000000
set_option linter.unusedSimpArgs false
set_option linter.unusedVariables false
theorem jins1_of {w : World} {t sh S k cps : Nat} {h1 h2 : Value} {mx : Int} {F : Nat} {sat n scp : Nat} {sao : Option Addr} {smx nx wr : Int} (ht : Blk w t [.slice (some ⟨sh, 0, none⟩) k cps, h1, h2, .pointer (some ⟨S, 0, none⟩), .int .i64 mx, .slice none 0 0, .slice none 0 0] 116) (hS : Blk w S [.slice sao n scp, .map (some sat), .pointer (some ⟨F, 0, none⟩), .int .i64 smx, .int .i64 nx, .int .i64 wr] 121) {idx : List (Int × Value)} (hA : KMap ki w sat idx) {xs : List Value} (hO : Own w (.slice sao n scp) 214 3 n xs) {g fc j : Nat} {grest : List Value} (hF : Blk w F [.slice (some ⟨g, 0, none⟩) 1 fc, .func (.func 135) #[] #[]] 246) (hg : Blk w g (.int .i64 ((j : Nat) : Int) :: grest) 3) (hj : j < n) {vao : Option Addr} {k vcp : Nat} {fs : List Value} (h : Own w (.slice vao k vcp) 58 4 k fs) (h1 : fs.all Value.oneCell' = true) (hk : k ≤ 1000) {lg : Nat} {lao : Option Addr} {m lcp : Nat} {fns : List Value} (hl : Blk w lg [.slice lao m lcp] 126) (hlo : Own w (.slice lao m lcp) 1 1 m fns) {bt bk bl bi br bv : Nat} (hbt : Blk w bt [.pointer (some ⟨t, 0, none⟩)] 60) (hbk : Blk w bk [.slice none 0 0] 155) (hbl : Blk w bl [.pointer (some ⟨lg, 0, none⟩)] 70) (hbi : Blk w bi [.int .i64 nx] 2) (hbr : Blk w br [.pointer (some ⟨S, 0, none⟩)] 63) (hbv : Blk w bv [.slice vao k vcp] 38) (hnew : look idx nx = none) (hroom : ((idx.length : Nat) : Int) < smx) (hn : n ≤ 100000) (hw : -1000000 ≤ wr ∧ wr ≤ 1000000) (hx : -1000000 ≤ nx ∧ nx ≤ 1000000) (hm : m ≤ 100000) :
    Ret Tryz.prog 74 #[.pointer (some ⟨bt, 0, none⟩), .pointer (some ⟨bk, 0, none⟩), .pointer (some ⟨bl, 0, none⟩), .pointer (some ⟨bi, 0, none⟩), .pointer (some ⟨br, 0, none⟩), .pointer (some ⟨bv, 0, none⟩)] w fun v w' => v = .nilIface ∧ ∃ ao cp lao' lcp', Blk w' S [.slice sao n scp, .map (some sat), .pointer (some ⟨F, 0, none⟩), .int .i64 smx, .int .i64 (nx + 1), .int .i64 (wr + 1)] 121 ∧ KMap ki w' sat (idx ++ [(nx, .int .i64 ((j : Nat) : Int))]) ∧ Own w' (.slice sao n scp) 214 3 n (setAll xs (j * 3) [.int .i64 nx, .int .i64 1, .slice ao k cp]) ∧ Own w' (.slice ao k cp) 58 4 k fs ∧ (∀ b, (Value.slice ao k cp).ownBlock = some b → w.heap.size ≤ b) ∧ Blk w' F [.slice (some ⟨g, 0, none⟩) 0 fc, .func (.func 135) #[] #[]] 246 ∧ Blk w' lg [.slice lao' (m + 1) lcp'] 126 ∧ Own w' (.slice lao' (m + 1) lcp') 1 1 (m + 1) (fns ++ [.func (.func 79) #[] #[.pointer (some ⟨br, 0, none⟩), .pointer (some ⟨bi, 0, none⟩)]]) ∧ (∀ b, (Value.slice lao' (m + 1) lcp').ownBlock = some b → (Value.slice lao m lcp).ownBlock = some b ∨ w.heap.size ≤ b) ∧ Only ([S, sat, lg, F, g] ++ (Value.slice sao n scp).ownBlock.toList ++ (Value.slice lao m lcp).ownBlock.toList) w w' := by
  refine enterL (args := [.pointer (some ⟨bt, 0, none⟩), .pointer (some ⟨bk, 0, none⟩), .pointer (some ⟨bl, 0, none⟩), .pointer (some ⟨bi, 0, none⟩), .pointer (some ⟨br, 0, none⟩), .pointer (some ⟨bv, 0, none⟩)]) Tryz.func74 rfl rfl rfl ?_
  refine CW.seq fun K1 hK1 => ?_
  refine CW.region ?_
  refine WL.to (E' := [(0, .pointer (some ⟨bt, 0, none⟩)), (1, .pointer (some ⟨bk, 0, none⟩)), (2, .pointer (some ⟨bl, 0, none⟩)), (3, .pointer (some ⟨bi, 0, none⟩)), (4, .pointer (some ⟨br, 0, none⟩)), (5, .pointer (some ⟨bv, 0, none⟩)), (6, .nilIface)]) 1 [0, 1, 2, 3, 4, 5, 6] (by kernel_rfl) ?_
  refine WL.nil ?_
  refine hK1 _ _ _ ?_
  refine CW.seq fun K2 hK2 => ?_
  refine CW.seq fun K3 hK3 => ?_
  refine CW.region ?_
  refine WL.load1 rfl agg60 rfl rfl hbt rfl ?_
  refine WL.load1 rfl agg155 rfl rfl hbk rfl ?_
  refine WL.to (E' := [(2, .pointer (some ⟨bl, 0, none⟩)), (3, .pointer (some ⟨bi, 0, none⟩)), (4, .pointer (some ⟨br, 0, none⟩)), (5, .pointer (some ⟨bv, 0, none⟩)), (6, .nilIface), (8, .pointer (some ⟨t, 0, none⟩)), (9, .slice none 0 0), (10, .func (.func 76) #[] #[.pointer (some ⟨bl, 0, none⟩), .pointer (some ⟨bi, 0, none⟩)])]) 1 [2, 3, 4, 5, 6, 8, 9, 10] (by kernel_rfl) ?_
  refine WL.callQ (v := .nilIface) rfl rfl rfl rfl ent75 rfl (applied_of ht) ?_
  refine WL.to (E' := [(2, .pointer (some ⟨bl, 0, none⟩)), (3, .pointer (some ⟨bi, 0, none⟩)), (4, .pointer (some ⟨br, 0, none⟩)), (5, .pointer (some ⟨bv, 0, none⟩)), (6, .nilIface), (7, .nilIface)]) 1 [2, 3, 4, 5, 6, 7] (by kernel_rfl) ?_
  refine WL.nil ?_
  refine hK3 _ _ _ ?_
  refine CW.seq fun K4 hK4 => ?_
  refine CW.region ?_
  refine WL.to (E' := [(2, .pointer (some ⟨bl, 0, none⟩)), (3, .pointer (some ⟨bi, 0, none⟩)), (4, .pointer (some ⟨br, 0, none⟩)), (5, .pointer (some ⟨bv, 0, none⟩)), (6, .nilIface), (7, .nilIface), (13, .bool false)]) 2 [2, 3, 4, 5, 6, 7, 13] (by kernel_rfl) ?_
  refine WL.nil ?_
  refine hK4 _ _ _ ?_
  refine CW.condF rfl ?_
  refine CW.skip ?_
  refine hK2 _ _ _ ?_
  refine CW.seq fun K5 hK5 => ?_
  refine CW.region ?_
  refine WL.load1 rfl agg63 rfl rfl hbr rfl ?_
  refine WL.load1 rfl agg38 rfl rfl hbv rfl ?_
  refine WL.call rfl rfl rfl rfl ent78 rfl (insert1_of hS hA hO hF hg hj h h1 (by omega) hnew (by omega) (by omega) (by omega) (by omega)) ?_
  rintro _ w15 ⟨ao12, cp13, rfl, h6, h7, h8, h9, h10, h11, u14⟩
  refine WL.sub [(2, .pointer (some ⟨bl, 0, none⟩)), (3, .pointer (some ⟨bi, 0, none⟩)), (4, .pointer (some ⟨br, 0, none⟩)), (6, .nilIface)] ⟨rfl, rfl, rfl, rfl, trivial⟩ ?_
  refine WL.nil ?_
  refine hK5 _ _ _ ?_
  refine CW.seq fun K16 hK16 => ?_
  refine CW.region ?_
  have h17 := (hbl.keep u14 (nma (nmc (Blk.ne hbl hS rfl) (nmc (Blk.neK hbl hA) (nmc (Blk.ne hbl hF rfl) (nmc (Blk.ne hbl hg rfl) nm0)))) (Own.ne hO hbl rfl)))
  refine WL.load1 rfl agg70 rfl rfl h17 rfl ?_
  refine WL.to (E' := [(6, .nilIface), (18, .pointer (some ⟨lg, 0, none⟩)), (19, .func (.func 79) #[] #[.pointer (some ⟨br, 0, none⟩), .pointer (some ⟨bi, 0, none⟩)])]) 1 [6, 18, 19] (by kernel_rfl) ?_
  have h18 := (hl.keep u14 (nma (nmc (Blk.ne hl hS rfl) (nmc (Blk.neK hl hA) (nmc (Blk.ne hl hF rfl) (nmc (Blk.ne hl hg rfl) nm0)))) (Own.ne hO hl rfl)))
  have h19 := (hlo.keep' u14 (disa (disc (Own.ne hlo hS rfl) (disc (Own.neM hlo hA) (disc (Own.ne hlo hF rfl) (disc (Own.ne hlo hg rfl) dis0)))) (Own.neO hlo hO rfl)))
  refine WL.call rfl rfl rfl rfl ent42 rfl (logadd_of (f := .func (.func 79) #[] #[.pointer (some ⟨br, 0, none⟩), .pointer (some ⟨bi, 0, none⟩)]) h18 h19 rfl (by omega)) ?_
  rintro _ w26 ⟨ao20, cp21, rfl, h22, h23, f24, u25⟩
  refine WL.sub [(6, .nilIface)] ⟨rfl, trivial⟩ ?_
  refine WL.nil ?_
  refine hK16 _ _ _ ?_
  refine CW.seq fun K27 hK27 => ?_
  refine CW.region ?_
  refine WL.to (E' := [(6, .nilIface)]) 1 [6] (by kernel_rfl) ?_
  refine WL.nil ?_
  refine hK27 _ _ _ ?_
  have h28 := (h6.keep u25 (nma (nmc (Blk.ne h6 h18 rfl) nm0) (Own.ne h19 h6 rfl)))
  have h29 := (h7.keep u25 (nma (nmc (Ne.symm (Blk.neK h18 h7)) nm0) (Own.neM h19 h7)))
  have h30 := (h8.keep' u25 (disa (disc (Own.ne h8 h18 rfl) dis0) (Own.neO h8 h19 rfl)))
  have h31 := (h9.keep' u25 (disa (disc (Own.ne h9 h18 rfl) dis0) (Own.neO h9 h19 rfl)))
  have h32 := (h11.keep u25 (nma (nmc (Blk.ne h11 h18 rfl) nm0) (Own.ne h19 h11 rfl)))
  refine CW.ret fun a ha => ?_
  try simp (decide := true) only [Exit.inBlock, Exit.then, ↓reduceIte]
  exact fin ha.defers (res_tmp rfl ha rfl _) ⟨rfl, _, _, _, _, h28, h29, h30, h31, (fun b hb => by have := h10 b hb; omega), h32, h22, h23, (fun b hb => (f24 b hb).imp_right (fun h => by have := u14.size; omega)), ((u14.trans u25).sub (by intro k hk hl; simp only [Option.mem_toList, Option.mem_def, List.mem_append, List.mem_cons, List.not_mem_nil, or_false, false_or] at hk ⊢; have := u14.size; have := u25.size; have := f24; grind))⟩

theorem jcins1 {w : World} {t sh S cps : Nat} {h1 h2 : Value} {mx : Int} {F : Nat} {sat n scp : Nat} {sao : Option Addr} {smx nx wr : Int} (ht : Blk w t [.slice (some ⟨sh, 0, none⟩) 1 cps, h1, h2, .pointer (some ⟨S, 0, none⟩), .int .i64 mx, .slice none 0 0, .slice none 0 0] 116) (hS : Blk w S [.slice sao n scp, .map (some sat), .pointer (some ⟨F, 0, none⟩), .int .i64 smx, .int .i64 nx, .int .i64 wr] 121) {idx : List (Int × Value)} (hA : KMap ki w sat idx) {xs : List Value} (hO : Own w (.slice sao n scp) 214 3 n xs) {g fc j : Nat} {grest : List Value} (hF : Blk w F [.slice (some ⟨g, 0, none⟩) 1 fc, .func (.func 135) #[] #[]] 246) (hg : Blk w g (.int .i64 ((j : Nat) : Int) :: grest) 3) (hj : j < n)  {lg : Nat} {lao : Option Addr} {m lcp : Nat} {fns : List Value} (hl : Blk w lg [.slice lao m lcp] 126) (hlo : Own w (.slice lao m lcp) 1 1 m fns) {vb : Nat} {x : Int} {rest : List Value} {c : UInt8} (hc : 97 ≤ c.toNat ∧ c.toNat ≤ 122) (hs : Blk w sh (.string (⟨#[c]⟩) :: .int .i64 1 :: rest) 51) (hv : Blk w vb [.int .i64 1, .int .i64 x, .string ByteArray.empty, .float .f64 0] 58) (hcp : 1 ≤ cps) (hfull : ((idx.length : Nat) : Int) < mx) (hnew : look idx nx = none) (hroom : ((idx.length : Nat) : Int) < smx) (hn : n ≤ 100000) (hw : -1000000 ≤ wr ∧ wr ≤ 1000000) (hx : -1000000 ≤ nx ∧ nx ≤ 1000000) (hm : m ≤ 100000) :
    Ret Tryz.prog 41 #[.pointer (some ⟨t, 0, none⟩), .pointer (some ⟨lg, 0, none⟩), .slice (some ⟨vb, 0, none⟩) 1 1] w fun v w' => ∃ br bi ao cp lao' lcp', v = .tuple #[.int .i64 nx, .nilIface] ∧ Blk w' br [.pointer (some ⟨S, 0, none⟩)] 63 ∧ Blk w' bi [.int .i64 nx] 2 ∧ w.heap.size ≤ bi ∧ Blk w' S [.slice sao n scp, .map (some sat), .pointer (some ⟨F, 0, none⟩), .int .i64 smx, .int .i64 (nx + 1), .int .i64 (wr + 1)] 121 ∧ KMap ki w' sat (idx ++ [(nx, .int .i64 ((j : Nat) : Int))]) ∧ Own w' (.slice sao n scp) 214 3 n (setAll xs (j * 3) [.int .i64 nx, .int .i64 1, .slice ao 1 cp]) ∧ Own w' (.slice ao 1 cp) 58 4 1 [.int .i64 1, .int .i64 x, .string ByteArray.empty, .float .f64 0] ∧ (∀ b, (Value.slice ao 1 cp).ownBlock = some b → w.heap.size ≤ b) ∧ Blk w' F [.slice (some ⟨g, 0, none⟩) 0 fc, .func (.func 135) #[] #[]] 246 ∧ Blk w' lg [.slice lao' (m + 1) lcp'] 126 ∧ Own w' (.slice lao' (m + 1) lcp') 1 1 (m + 1) (fns ++ [.func (.func 79) #[] #[.pointer (some ⟨br, 0, none⟩), .pointer (some ⟨bi, 0, none⟩)]]) ∧ (∀ b, (Value.slice lao' (m + 1) lcp').ownBlock = some b → (Value.slice lao m lcp).ownBlock = some b ∨ w.heap.size ≤ b) ∧ Only ([S, sat, lg, F, g] ++ (Value.slice sao n scp).ownBlock.toList ++ (Value.slice lao m lcp).ownBlock.toList) w w' := by
  refine enterL (args := [.pointer (some ⟨t, 0, none⟩), .pointer (some ⟨lg, 0, none⟩), .slice (some ⟨vb, 0, none⟩) 1 1]) Tryz.func41 rfl rfl rfl ?_
  refine CW.seq fun K1 hK1 => ?_
  refine CW.region ?_
  refine WL.box (cs := [.pointer (some ⟨t, 0, none⟩)]) rfl rfl rfl rfl ?_
  intro w2 b3 h4 u5 g6
  refine WL.box (cs := [.pointer (some ⟨lg, 0, none⟩)]) rfl rfl rfl rfl ?_
  intro w7 b8 h9 u10 g11
  refine WL.box (cs := [.slice (some ⟨vb, 0, none⟩) 1 1]) rfl rfl rfl rfl ?_
  intro w12 b13 h14 u15 g16
  refine WL.to (E' := [(3, .pointer (some ⟨b3, 0, none⟩)), (4, .pointer (some ⟨b8, 0, none⟩)), (5, .pointer (some ⟨b13, 0, none⟩)), (6, .int .i64 0), (7, .nilIface)]) 2 [3, 4, 5, 6, 7] (by kernel_rfl) ?_
  refine WL.nil ?_
  refine hK1 _ _ _ ?_
  refine CW.seq fun K17 hK17 => ?_
  refine CW.block ?_
  refine CW.seq fun K18 hK18 => ?_
  refine CW.mixed (by kernel_rfl) ?_
  intro w19 e21 u20
  have h22 := (((h4.keep u10 nm0).keep u15 nm0).keep u20 nm0)
  refine MX.load1 (L' := #[true, false, false, false, false, false]) 0 (by kernel_rfl) rfl rfl rfl agg60 rfl rfl h22 rfl ?_
  have h23 := (h14.keep u20 nm0)
  refine MX.load1 (L' := #[true, false, true, false, false, false]) 2 (by kernel_rfl) rfl rfl rfl agg38 rfl rfl h23 rfl ?_
  refine MX.loud 1 (by kernel_rfl) rfl (fun K24 hK24 => ?_) rfl
  have h25 := ((((ht.keep u5 nm0).keep u10 nm0).keep u15 nm0).keep u20 nm0)
  have h26 := ((((hs.keep u5 nm0).keep u10 nm0).keep u15 nm0).keep u20 nm0)
  refine WL.call rfl rfl rfl rfl ent70 rfl (shape_of (fs := [.string (⟨#[c]⟩), .int .i64 1]) (rest := rest) h25 h26 rfl rfl (by omega)) ?_
  rintro _ w32 ⟨ao27, cp28, rfl, h29, u30, f31⟩
  refine WL.fin (L' := #[true, true, true, false, false, false]) hK24 (stN (fun q => (q.keep u30 nm0)) (stY (by kernel_rfl) st0)) ?_
  refine MX.loud 3 (by kernel_rfl) rfl (fun K33 hK33 => ?_) rfl
  obtain ⟨g41, rest34, e35, h36, q37, q38, q39, q40⟩ := h29.open2 (by omega)
  subst e35
  have h42 := (((((hv.keep u5 nm0).keep u10 nm0).keep u15 nm0).keep u20 nm0).keep u30 nm0)
  refine WL.call rfl rfl rfl rfl ent69 rfl (check1 (c := c) hc (by omega) h36 (rest2 := []) h42) ?_
  rintro _ w44 ⟨rfl, u43⟩
  refine WL.fin (L' := #[true, true, true, true, false, false]) hK33 (stY (by kernel_rfl) (stN (fun q => (q.keep u43 nm0)) st0)) ?_
  refine MX.to (f := 0) (L' := #[true, true, true, true, true, true]) (E' := [(3, .pointer (some ⟨b3, 0, none⟩)), (4, .pointer (some ⟨b8, 0, none⟩)), (5, .pointer (some ⟨b13, 0, none⟩)), (6, .int .i64 0), (7, .nilIface), (12, .bool false)]) [4, 5] [3, 4, 5, 6, 7, 12] rfl (by kernel_rfl) ?_
  refine MX.done (by kernel_rfl) ?_
  refine hK18 _ _ _ ?_
  refine CW.condF rfl ?_
  refine CW.seq fun K45 hK45 => ?_
  refine CW.region ?_
  have h46 := ((h22.keep u30 nm0).keep u43 nm0)
  refine WL.load1 rfl agg60 rfl rfl h46 rfl ?_
  have h47 := ((h25.keep u30 nm0).keep u43 nm0)
  have h48 := ((((((hS.keep u5 nm0).keep u10 nm0).keep u15 nm0).keep u20 nm0).keep u30 nm0).keep u43 nm0)
  have h49 := ((((((hA.keep u5 nm0).keep u10 nm0).keep u15 nm0).keep u20 nm0).keep u30 nm0).keep u43 nm0)
  refine WL.call rfl rfl rfl rfl ent71 rfl (full_of h47 h48 h49) ?_
  rintro _ w51 ⟨rfl, u50⟩
  refine WL.to (E' := [(3, .pointer (some ⟨b3, 0, none⟩)), (4, .pointer (some ⟨b8, 0, none⟩)), (5, .pointer (some ⟨b13, 0, none⟩)), (6, .int .i64 0), (7, .nilIface), (19, .bool (decide (((idx.length : Nat) : Int) ≥ mx)))]) 1 [3, 4, 5, 6, 7, 19] (by kernel_rfl) ?_
  refine WL.nil ?_
  refine hK45 _ _ _ ?_
  refine CW.no rfl (decide_eq_false (by omega)) ?_
  refine CW.skip ?_
  refine hK17 _ _ _ ?_
  refine CW.seq fun K52 hK52 => ?_
  refine CW.region ?_
  have h53 := (h46.keep u50 nm0)
  refine WL.load1 rfl agg60 rfl rfl h53 rfl ?_
  have h54 := (h47.keep u50 nm0)
  refine WL.callQ (v := .pointer (some ⟨S, 0, none⟩)) rfl rfl rfl rfl ent22 rfl (rows_of h54) ?_
  refine WL.alloc (cs := [.pointer none]) rfl rfl zer63 rfl ?_
  intro w55 b56 h57 u58 g59
  refine WL.store1 rfl siz63 rfl rfl rfl h57 rfl ?_
  intro w60 h61 u62 z63
  refine WL.sub [(3, .pointer (some ⟨b3, 0, none⟩)), (4, .pointer (some ⟨b8, 0, none⟩)), (5, .pointer (some ⟨b13, 0, none⟩)), (6, .int .i64 0), (7, .nilIface), (8, .pointer (some ⟨b56, 0, none⟩))] ⟨rfl, rfl, rfl, rfl, rfl, rfl, trivial⟩ ?_
  refine WL.nil ?_
  refine hK52 _ _ _ ?_
  refine CW.seq fun K64 hK64 => ?_
  refine CW.region ?_
  refine WL.load1 rfl agg63 rfl rfl h61 rfl ?_
  have h65 := ((h48.keep u50 nm0).keep u58 nm0)
  have h66 := (h65.keep u62 (nmc (Blk.ne h65 h57 rfl) nm0))
  refine WL.callQ (v := .int .i64 nx) rfl rfl rfl rfl ent72 rfl (next_of h66) ?_
  refine WL.alloc (cs := [.int .i64 0]) rfl rfl zer2 rfl ?_
  intro w67 b68 h69 u70 g71
  refine WL.store1 rfl siz2 rfl rfl rfl h69 rfl ?_
  intro w72 h73 u74 z75
  refine WL.sub [(3, .pointer (some ⟨b3, 0, none⟩)), (4, .pointer (some ⟨b8, 0, none⟩)), (5, .pointer (some ⟨b13, 0, none⟩)), (6, .int .i64 0), (7, .nilIface), (8, .pointer (some ⟨b56, 0, none⟩)), (9, .pointer (some ⟨b68, 0, none⟩))] ⟨rfl, rfl, rfl, rfl, rfl, rfl, rfl, trivial⟩ ?_
  refine WL.nil ?_
  refine hK64 _ _ _ ?_
  refine CW.seq fun K76 hK76 => ?_
  refine CW.region ?_
  have h77 := (h53.keep u58 nm0)
  have h78 := ((h77.keep u62 (nmc (Blk.ne h77 h57 rfl) nm0)).keep u70 nm0)
  have h79 := (h78.keep u74 (nmc (Blk.ne h78 h69 rfl) nm0))
  refine WL.load1 rfl agg60 rfl rfl h79 rfl ?_
  have h80 := ((((h23.keep u30 nm0).keep u43 nm0).keep u50 nm0).keep u58 nm0)
  have h81 := ((h80.keep u62 (nmc (Blk.ne h80 h57 rfl) nm0)).keep u70 nm0)
  have h82 := (h81.keep u74 (nmc (Blk.ne h81 h69 rfl) nm0))
  refine WL.load1 rfl agg38 rfl rfl h82 rfl ?_
  refine WL.load1 rfl agg2 rfl rfl h73 rfl ?_
  have h83 := (h54.keep u58 nm0)
  have h84 := ((h83.keep u62 (nmc (Blk.ne h83 h57 rfl) nm0)).keep u70 nm0)
  have h85 := (h84.keep u74 (nmc (Blk.ne h84 h69 rfl) nm0))
  refine WL.callQ (v := .tuple #[.slice none 0 0, .nilIface]) rfl rfl rfl rfl ent73 rfl (checked_of h85) ?_
  refine WL.to (E' := [(3, .pointer (some ⟨b3, 0, none⟩)), (4, .pointer (some ⟨b8, 0, none⟩)), (5, .pointer (some ⟨b13, 0, none⟩)), (6, .int .i64 0), (7, .nilIface), (8, .pointer (some ⟨b56, 0, none⟩)), (9, .pointer (some ⟨b68, 0, none⟩)), (32, .slice none 0 0), (33, .nilIface)]) 3 [3, 4, 5, 6, 7, 8, 9, 32, 33] (by kernel_rfl) ?_
  refine WL.alloc (cs := [.slice none 0 0]) rfl rfl zer155 rfl ?_
  intro w86 b87 h88 u89 g90
  refine WL.store1 rfl siz155 rfl rfl rfl h88 rfl ?_
  intro w91 h92 u93 z94
  refine WL.to (E' := [(3, .pointer (some ⟨b3, 0, none⟩)), (4, .pointer (some ⟨b8, 0, none⟩)), (5, .pointer (some ⟨b13, 0, none⟩)), (6, .int .i64 0), (7, .nilIface), (8, .pointer (some ⟨b56, 0, none⟩)), (9, .pointer (some ⟨b68, 0, none⟩)), (10, .pointer (some ⟨b87, 0, none⟩)), (11, .nilIface)]) 1 [3, 4, 5, 6, 7, 8, 9, 10, 11] (by kernel_rfl) ?_
  refine WL.nil ?_
  refine hK76 _ _ _ ?_
  refine CW.seq fun K95 hK95 => ?_
  refine CW.seq fun K96 hK96 => ?_
  refine CW.region ?_
  refine WL.to (E' := [(3, .pointer (some ⟨b3, 0, none⟩)), (4, .pointer (some ⟨b8, 0, none⟩)), (5, .pointer (some ⟨b13, 0, none⟩)), (6, .int .i64 0), (7, .nilIface), (8, .pointer (some ⟨b56, 0, none⟩)), (9, .pointer (some ⟨b68, 0, none⟩)), (10, .pointer (some ⟨b87, 0, none⟩)), (11, .nilIface), (35, .bool false)]) 2 [3, 4, 5, 6, 7, 8, 9, 10, 11, 35] (by kernel_rfl) ?_
  refine WL.nil ?_
  refine hK96 _ _ _ ?_
  refine CW.condF rfl ?_
  refine CW.skip ?_
  refine hK95 _ _ _ ?_
  refine CW.seq fun K97 hK97 => ?_
  refine CW.region ?_
  have h98 := ((((((h9.keep u15 nm0).keep u20 nm0).keep u30 nm0).keep u43 nm0).keep u50 nm0).keep u58 nm0)
  have h99 := ((h98.keep u62 (nmc (Blk.ne h98 h57 rfl) nm0)).keep u70 nm0)
  have h100 := ((h99.keep u74 (nmc (Blk.ne h99 h69 rfl) nm0)).keep u89 nm0)
  have h101 := (h100.keep u93 (nmc (Blk.ne h100 h88 rfl) nm0))
  refine WL.load1 rfl agg70 rfl rfl h101 rfl ?_
  refine WL.to (E' := [(6, .int .i64 0), (7, .nilIface), (9, .pointer (some ⟨b68, 0, none⟩)), (11, .nilIface), (37, .pointer (some ⟨lg, 0, none⟩)), (38, .func (.func 74) #[] #[.pointer (some ⟨b3, 0, none⟩), .pointer (some ⟨b87, 0, none⟩), .pointer (some ⟨b8, 0, none⟩), .pointer (some ⟨b68, 0, none⟩), .pointer (some ⟨b56, 0, none⟩), .pointer (some ⟨b13, 0, none⟩)])]) 1 [6, 7, 9, 11, 37, 38] (by kernel_rfl) ?_
  have h102 := (h66.keep u70 nm0)
  have h103 := ((h102.keep u74 (nmc (Blk.ne h102 h69 rfl) nm0)).keep u89 nm0)
  have h104 := (h103.keep u93 (nmc (Blk.ne h103 h88 rfl) nm0))
  have h105 := ((h49.keep u50 nm0).keep u58 nm0)
  have h106 := ((h105.keep u62 (nmc (Ne.symm (Blk.neK h57 h105)) nm0)).keep u70 nm0)
  have h107 := ((h106.keep u74 (nmc (Ne.symm (Blk.neK h69 h106)) nm0)).keep u89 nm0)
  have h108 := (h107.keep u93 (nmc (Ne.symm (Blk.neK h88 h107)) nm0))
  have h109 := ((((((((hO.keep' u5 dis0).keep' u10 dis0).keep' u15 dis0).keep' u20 dis0).keep' u30 dis0).keep' u43 dis0).keep' u50 dis0).keep' u58 dis0)
  have h110 := ((h109.keep' u62 (disc (Own.ne h109 h57 rfl) dis0)).keep' u70 dis0)
  have h111 := ((h110.keep' u74 (disc (Own.ne h110 h69 rfl) dis0)).keep' u89 dis0)
  have h112 := (h111.keep' u93 (disc (Own.ne h111 h88 rfl) dis0))
  have h113 := ((((((((hF.keep u5 nm0).keep u10 nm0).keep u15 nm0).keep u20 nm0).keep u30 nm0).keep u43 nm0).keep u50 nm0).keep u58 nm0)
  have h114 := ((h113.keep u62 (nmc (Blk.ne h113 h57 rfl) nm0)).keep u70 nm0)
  have h115 := ((h114.keep u74 (nmc (Blk.ne h114 h69 rfl) nm0)).keep u89 nm0)
  have h116 := (h115.keep u93 (nmc (Blk.ne h115 h88 rfl) nm0))
  have h117 := ((((((((hg.keep u5 nm0).keep u10 nm0).keep u15 nm0).keep u20 nm0).keep u30 nm0).keep u43 nm0).keep u50 nm0).keep u58 nm0)
  have h118 := ((h117.keep u62 (nmc (Blk.ne h117 h57 rfl) nm0)).keep u70 nm0)
  have h119 := ((h118.keep u74 (nmc (Blk.ne h118 h69 rfl) nm0)).keep u89 nm0)
  have h120 := (h119.keep u93 (nmc (Blk.ne h119 h88 rfl) nm0))
  have h121 := ((((((((hl.keep u5 nm0).keep u10 nm0).keep u15 nm0).keep u20 nm0).keep u30 nm0).keep u43 nm0).keep u50 nm0).keep u58 nm0)
  have h122 := ((h121.keep u62 (nmc (Blk.ne h121 h57 rfl) nm0)).keep u70 nm0)
  have h123 := ((h122.keep u74 (nmc (Blk.ne h122 h69 rfl) nm0)).keep u89 nm0)
  have h124 := (h123.keep u93 (nmc (Blk.ne h123 h88 rfl) nm0))
  have h125 := ((((((((hlo.keep' u5 dis0).keep' u10 dis0).keep' u15 dis0).keep' u20 dis0).keep' u30 dis0).keep' u43 dis0).keep' u50 dis0).keep' u58 dis0)
  have h126 := ((h125.keep' u62 (disc (Own.ne h125 h57 rfl) dis0)).keep' u70 dis0)
  have h127 := ((h126.keep' u74 (disc (Own.ne h126 h69 rfl) dis0)).keep' u89 dis0)
  have h128 := (h127.keep' u93 (disc (Own.ne h127 h88 rfl) dis0))
  have h129 := (((h42.keep u43 nm0).keep u50 nm0).keep u58 nm0)
  have h130 := ((h129.keep u62 (nmc (Blk.ne h129 h57 rfl) nm0)).keep u70 nm0)
  have h131 := ((h130.keep u74 (nmc (Blk.ne h130 h69 rfl) nm0)).keep u89 nm0)
  have h132 := (h131.keep u93 (nmc (Blk.ne h131 h88 rfl) nm0))
  have h133 := (h85.keep u89 nm0)
  have h134 := (h133.keep u93 (nmc (Blk.ne h133 h88 rfl) nm0))
  have h135 := (h79.keep u89 nm0)
  have h136 := (h135.keep u93 (nmc (Blk.ne h135 h88 rfl) nm0))
  have h137 := (h73.keep u89 nm0)
  have h138 := (h137.keep u93 (nmc (Blk.ne h137 h88 rfl) nm0))
  have h139 := (h61.keep u70 nm0)
  have h140 := ((h139.keep u74 (nmc (Blk.ne h139 h69 rfl) nm0)).keep u89 nm0)
  have h141 := (h140.keep u93 (nmc (Blk.ne h140 h88 rfl) nm0))
  have h142 := (h82.keep u89 nm0)
  have h143 := (h142.keep u93 (nmc (Blk.ne h142 h88 rfl) nm0))
  refine WL.call rfl rfl rfl rfl ent67 rfl (do_of (S := ([S, sat, lg, F, g] ++ (.slice sao n scp : Value).ownBlock.toList ++ (.slice lao m lcp : Value).ownBlock.toList)) ent74 h124 (by intro b hb; simp only [List.mem_append, List.mem_cons, List.not_mem_nil, or_false, false_or] at hb; have := h104.lt; have := h108.lt; have := h124.lt; have := h116.lt; have := h120.lt; have := @Own.lt' _ _ _ _ _ b _ h112; have := @Own.lt' _ _ _ _ _ b _ h128; grind) (fun w1 u1 => jins1_of (h134.keep u1 nm0) (h104.keep u1 nm0) (h108.keep u1 nm0) (h112.keep' u1 dis0) (h116.keep u1 nm0) (h120.keep u1 nm0) hj ((Own.close (k := 1) (cap := 1) (sz := 4) (xs := [.int .i64 1, .int .i64 x, .string ByteArray.empty, .float .f64 0]) (rest := []) h132 (Nat.le_refl _) (by decide) rfl rfl).keep' u1 dis0) rfl (by omega) (h124.keep u1 nm0) (h128.keep' u1 dis0) (h136.keep u1 nm0) (h92.keep u1 nm0) (h101.keep u1 nm0) (h138.keep u1 nm0) (h141.keep u1 nm0) (h143.keep u1 nm0) hnew (by omega) (by omega) (by omega) (by omega) (by omega)) (by rintro w1 v w2 ⟨rfl, _, _, _, _, _, _, _, _, _, _, _, _, _, u⟩; exact ⟨rfl, u⟩)) ?_
  rintro _ w165 ⟨rfl, w158, w159, b160, u161, ⟨_, ao144, cp145, ao146, cp147, h148, h149, h150, h151, h152, h153, h154, h155, h156, u157⟩, h162, g163, u164⟩
  refine WL.to (E' := [(6, .int .i64 0), (7, .nilIface), (9, .pointer (some ⟨b68, 0, none⟩)), (11, .nilIface)]) 1 [6, 7, 9, 11] (by kernel_rfl) ?_
  refine WL.nil ?_
  refine hK97 _ _ _ ?_
  refine CW.seq fun K166 hK166 => ?_
  refine CW.seq fun K167 hK167 => ?_
  refine CW.region ?_
  refine WL.to (E' := [(6, .int .i64 0), (7, .nilIface), (9, .pointer (some ⟨b68, 0, none⟩)), (11, .nilIface), (41, .bool false)]) 2 [6, 7, 9, 11, 41] (by kernel_rfl) ?_
  refine WL.nil ?_
  refine hK167 _ _ _ ?_
  refine CW.condF rfl ?_
  refine CW.skip ?_
  refine hK166 _ _ _ ?_
  refine CW.seq fun K168 hK168 => ?_
  refine CW.region ?_
  have h169 := (h138.keep u161 nm0)
  have h170 := (h169.keep u157 (nma (nma (nmc (Blk.ne h169 (h104.keep u161 nm0) rfl) (nmc (Blk.neK h169 (h108.keep u161 nm0)) (nmc (Blk.ne h169 (h124.keep u161 nm0) rfl) (nmc (Blk.ne h169 (h116.keep u161 nm0) rfl) (nmc (Blk.ne h169 (h120.keep u161 nm0) rfl) nm0))))) (Own.ne (h112.keep' u161 dis0) h169 rfl)) (Own.ne (h128.keep' u161 dis0) h169 rfl)))
  have h171 := (h170.keep u164 (nmc (Blk.ne h170 h162 rfl) nm0))
  refine WL.load1 rfl agg2 rfl rfl h171 rfl ?_
  refine WL.to (E' := [(6, .int .i64 nx), (7, .nilIface)]) 2 [6, 7] (by kernel_rfl) ?_
  refine WL.nil ?_
  refine hK168 _ _ _ ?_
  have h172 := (h154.keep u164 (nmc (Blk.ne h154 h162 rfl) nm0))
  have h173 := (h155.keep' u164 (disc (Own.ne h155 h162 rfl) dis0))
  have h174 := (h148.keep u164 (nmc (Blk.ne h148 h162 rfl) nm0))
  have h175 := (h149.keep u164 (nmc (Ne.symm (Blk.neK h162 h149)) nm0))
  have h176 := (h150.keep' u164 (disc (Own.ne h150 h162 rfl) dis0))
  have h177 := (h151.keep' u164 (disc (Own.ne h151 h162 rfl) dis0))
  have h178 := (h153.keep u164 (nmc (Blk.ne h153 h162 rfl) nm0))
  have h179 := (h141.keep u161 nm0)
  have h180 := (h179.keep u157 (nma (nma (nmc (Blk.ne h179 (h104.keep u161 nm0) rfl) (nmc (Blk.neK h179 (h108.keep u161 nm0)) (nmc (Blk.ne h179 (h124.keep u161 nm0) rfl) (nmc (Blk.ne h179 (h116.keep u161 nm0) rfl) (nmc (Blk.ne h179 (h120.keep u161 nm0) rfl) nm0))))) (Own.ne (h112.keep' u161 dis0) h179 rfl)) (Own.ne (h128.keep' u161 dis0) h179 rfl)))
  have h181 := (h180.keep u164 (nmc (Blk.ne h180 h162 rfl) nm0))
  refine CW.ret fun a ha => ?_
  try simp (decide := true) only [Exit.inBlock, Exit.then, ↓reduceIte]
  exact fin ha.defers (res_tmp2 rfl ha rfl rfl _) ⟨b56, b68, _, _, _, _, rfl, h181, h171, (by have := g71; have := u5.size; have := u10.size; have := u15.size; have := u20.size; have := u30.size; have := u43.size; have := u50.size; have := u58.size; have := u62.size; omega), h174, h175, h176, h177, (fun b hb => by have := h152 b hb; have := u5.size; have := u10.size; have := u15.size; have := u20.size; have := u30.size; have := u43.size; have := u50.size; have := u58.size; have := u62.size; have := u70.size; have := u74.size; have := u89.size; have := u93.size; have := u161.size; omega), h178, h172, h173, (fun b hb => (h156 b hb).imp_right (fun h => by have := u5.size; have := u10.size; have := u15.size; have := u20.size; have := u30.size; have := u43.size; have := u50.size; have := u58.size; have := u62.size; have := u70.size; have := u74.size; have := u89.size; have := u93.size; have := u161.size; omega)), ((((((((((((((((u5.trans u10).trans u15).trans u20).trans u30).trans u43).trans u50).trans u58).trans u62).trans u70).trans u74).trans u89).trans u93).trans u161).trans u157).trans u164).sub (by intro k hk hl; simp only [Option.mem_toList, Option.mem_def, List.mem_append, List.mem_cons, List.not_mem_nil, or_false, false_or] at hk ⊢; have := u5.size; have := u10.size; have := u15.size; have := u20.size; have := u30.size; have := u43.size; have := u50.size; have := u58.size; have := u62.size; have := u70.size; have := u74.size; have := u89.size; have := u93.size; have := u161.size; have := u157.size; have := u164.size; have := g59; have := g71; have := g90; have := g163; have := h156; grind))⟩
end Go.K

