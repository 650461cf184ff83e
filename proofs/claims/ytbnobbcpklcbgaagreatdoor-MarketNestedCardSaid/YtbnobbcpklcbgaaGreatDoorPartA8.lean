/-
  Part 9 of the texts that lead to the theorem marketNested_card_holds: contracts of the functions that the law reaches.
-/
import Derived.Test.YtbnobbcpklcbgaaGreatDoorPartA7
set_option linter.all false
set_option autoImplicit true
set_option relaxedAutoImplicit true
namespace Go.K
open Go.Proofs
set_option maxRecDepth 8000
set_option maxHeartbeats 1000000
set_option linter.unusedSimpArgs false
set_option linter.unusedVariables false
theorem mins1 {w : World} {t sh S cps : Nat} {h1 h2 : Value} {mx : Int} {sat F n scp : Nat} {sao : Option Addr} {smx nx wr : Int} (ht : Blk w t [.slice (some ⟨sh, 0, none⟩) 1 cps, h1, h2, .pointer (some ⟨S, 0, none⟩), .int .i64 mx, .slice none 0 0, .slice none 0 0] 116) (hS : Blk w S [.slice sao n scp, .map (some sat), .pointer (some ⟨F, 0, none⟩), .int .i64 smx, .int .i64 nx, .int .i64 wr] 121) {idx : List (Int × Value)} (hA : KMap ki w sat idx) {xs : List Value} (hO : Own w (.slice sao n scp) 214 3 n xs) {fa : Option Addr} {fc : Nat} {fb : Value} (hF : Blk w F [.slice fa 0 fc, fb] 246)  {lg : Nat} {lao : Option Addr} {m lcp : Nat} {fns : List Value} (hl : Blk w lg [.slice lao m lcp] 126) (hlo : Own w (.slice lao m lcp) 1 1 m fns) {vb : Nat} {x : Int} {rest : List Value} {c : UInt8} (hc : 97 ≤ c.toNat ∧ c.toNat ≤ 122) (hs : Blk w sh (.string (⟨#[c]⟩) :: .int .i64 1 :: rest) 51) (hv : Blk w vb [.int .i64 1, .int .i64 x, .string ByteArray.empty, .float .f64 0] 58) (hcp : 1 ≤ cps) (hfull : ((idx.length : Nat) : Int) < mx) {p hub base m_ wt pl bm bv bid : Nat} {msv : Value} {iv : Int} (hp : Blk w p [.pointer (some ⟨t, 0, none⟩), .pointer (some ⟨hub, 0, none⟩), .map (some base)] 87) (hm_ : Blk w m_ [.map (some pl), .pointer (some ⟨lg, 0, none⟩), msv, .pointer (some ⟨wt, 0, none⟩), .bool true] 75) (hbm : Blk w bm [.pointer (some ⟨m_, 0, none⟩)] 24) (hbv : Blk w bv [.slice (some ⟨vb, 0, none⟩) 1 1] 38) (hbid : Blk w bid [.int .i64 iv] 2) (hnew : look idx nx = none) (hroom : ((idx.length : Nat) : Int) < smx) (hn : n ≤ 100000) (hw : -1000000 ≤ wr ∧ wr ≤ 1000000) (hx : -1000000 ≤ nx ∧ nx ≤ 1000000) (hm : m ≤ 90000) :
    Ret Tryz.prog 40 #[.pointer (some ⟨p, 0, none⟩), .pointer (some ⟨bm, 0, none⟩), .pointer (some ⟨bv, 0, none⟩), .pointer (some ⟨bid, 0, none⟩)] w fun v w' => v = .nilIface ∧ ∃ br bi bp brw sao' scp' ao cp lao' lcp', Blk w' br [.pointer (some ⟨S, 0, none⟩)] 63 ∧ Blk w' bi [.int .i64 nx] 2 ∧ w.heap.size ≤ bi ∧ Blk w' bp [.pointer (some ⟨p, 0, none⟩)] 77 ∧ Blk w' brw [.int .i64 nx] 2 ∧ w.heap.size ≤ brw ∧ Blk w' bid [.int .i64 nx] 2 ∧ Blk w' S [.slice sao' (n + 1) scp', .map (some sat), .pointer (some ⟨F, 0, none⟩), .int .i64 smx, .int .i64 (nx + 1), .int .i64 (wr + 1)] 121 ∧ KMap ki w' sat (idx ++ [(nx, .int .i64 ((n : Nat) : Int))]) ∧ Own w' (.slice sao' (n + 1) scp') 214 3 (n + 1) (setAll (xs ++ [.int .i64 0, .int .i64 0, .slice none 0 0]) (n * 3) [.int .i64 nx, .int .i64 1, .slice ao 1 cp]) ∧ Own w' (.slice ao 1 cp) 58 4 1 [.int .i64 1, .int .i64 x, .string ByteArray.empty, .float .f64 0] ∧ (∀ b, (Value.slice ao 1 cp).ownBlock = some b → w.heap.size ≤ b) ∧ (∀ b, (Value.slice sao' (n + 1) scp').ownBlock = some b → (Value.slice sao n scp).ownBlock = some b ∨ w.heap.size ≤ b) ∧ Blk w' lg [.slice lao' (m + 1 + 1) lcp'] 126 ∧ Own w' (.slice lao' (m + 1 + 1) lcp') 1 1 (m + 1 + 1) (fns ++ [.func (.func 79) #[] #[.pointer (some ⟨br, 0, none⟩), .pointer (some ⟨bi, 0, none⟩)]] ++ [.func (.func 43) #[] #[.pointer (some ⟨bp, 0, none⟩), .pointer (some ⟨brw, 0, none⟩)]]) ∧ (∀ b, (Value.slice lao' (m + 1 + 1) lcp').ownBlock = some b → (Value.slice lao m lcp).ownBlock = some b ∨ w.heap.size ≤ b) ∧ Only ([S, sat, lg, bid] ++ (Value.slice sao n scp).ownBlock.toList ++ (Value.slice lao m lcp).ownBlock.toList) w w' := by
  refine enterL (args := [.pointer (some ⟨p, 0, none⟩), .pointer (some ⟨bm, 0, none⟩), .pointer (some ⟨bv, 0, none⟩), .pointer (some ⟨bid, 0, none⟩)]) Tryz.func40 rfl rfl rfl ?_
  refine CW.seq fun K1 hK1 => ?_
  refine CW.region ?_
  refine WL.box (cs := [.pointer (some ⟨p, 0, none⟩)]) rfl rfl rfl rfl ?_
  intro w2 b3 h4 u5 g6
  refine WL.to (E' := [(1, .pointer (some ⟨bm, 0, none⟩)), (2, .pointer (some ⟨bv, 0, none⟩)), (3, .pointer (some ⟨bid, 0, none⟩)), (4, .pointer (some ⟨b3, 0, none⟩)), (5, .nilIface)]) 1 [1, 2, 3, 4, 5] (by kernel_rfl) ?_
  refine WL.nil ?_
  refine hK1 _ _ _ ?_
  refine CW.seq fun K7 hK7 => ?_
  refine CW.mixed (by kernel_rfl) ?_
  intro w8 e10 u9
  have h11 := (h4.keep u9 nm0)
  refine MX.load1 (L' := #[true, false, false, false, false, false, false, false, false, false, false, false, false, false, false]) 0 (by kernel_rfl) rfl rfl rfl agg77 rfl rfl h11 rfl ?_
  refine MX.to (f := 12) (L' := #[true, true, true, false, false, false, false, false, false, false, false, false, false, false, false]) (E' := [(1, .pointer (some ⟨bm, 0, none⟩)), (2, .pointer (some ⟨bv, 0, none⟩)), (3, .pointer (some ⟨bid, 0, none⟩)), (4, .pointer (some ⟨b3, 0, none⟩)), (5, .nilIface), (10, .pointer (some ⟨p, 0, none⟩))]) [1, 2] [1, 2, 3, 4, 5, 10] rfl (by kernel_rfl) ?_
  have h12 := ((hp.keep u5 nm0).keep u9 nm0)
  refine MX.load1 (L' := #[true, true, true, true, false, false, false, false, false, false, false, false, false, false, false]) 3 (by kernel_rfl) rfl rfl rfl agg60 rfl rfl h12 rfl ?_
  have h13 := ((hbm.keep u5 nm0).keep u9 nm0)
  refine MX.load1 (L' := #[true, true, true, true, true, false, false, false, false, false, false, false, false, false, false]) 4 (by kernel_rfl) rfl rfl rfl agg24 rfl rfl h13 rfl ?_
  refine MX.to (f := 8) (L' := #[true, true, true, true, true, true, true, false, false, false, false, false, false, false, false]) (E' := [(1, .pointer (some ⟨bm, 0, none⟩)), (2, .pointer (some ⟨bv, 0, none⟩)), (3, .pointer (some ⟨bid, 0, none⟩)), (4, .pointer (some ⟨b3, 0, none⟩)), (5, .nilIface), (11, .pointer (some ⟨t, 0, none⟩)), (14, .pointer (some ⟨m_, 1, none⟩))]) [5, 6] [1, 2, 3, 4, 5, 11, 14] rfl (by kernel_rfl) ?_
  have h14 := ((hm_.keep u5 nm0).keep u9 nm0)
  refine MX.load1 (L' := #[true, true, true, true, true, true, true, true, false, false, false, false, false, false, false]) 7 (by kernel_rfl) rfl rfl rfl agg70 rfl rfl h14 rfl ?_
  have h15 := ((hbv.keep u5 nm0).keep u9 nm0)
  refine MX.load1 (L' := #[true, true, true, true, true, true, true, true, true, false, false, false, false, false, false]) 8 (by kernel_rfl) rfl rfl rfl agg38 rfl rfl h15 rfl ?_
  refine MX.loud 9 (by kernel_rfl) rfl (fun K16 hK16 => ?_) rfl
  have h17 := ((hS.keep u5 nm0).keep u9 nm0)
  have h18 := ((hA.keep u5 nm0).keep u9 nm0)
  have h19 := ((hO.keep' u5 dis0).keep' u9 dis0)
  have h20 := ((hF.keep u5 nm0).keep u9 nm0)
  have h21 := ((hl.keep u5 nm0).keep u9 nm0)
  have h22 := ((hlo.keep' u5 dis0).keep' u9 dis0)
  have h23 := ((ht.keep u5 nm0).keep u9 nm0)
  have h24 := ((hs.keep u5 nm0).keep u9 nm0)
  have h25 := ((hv.keep u5 nm0).keep u9 nm0)
  refine WL.call rfl rfl rfl rfl ent41 rfl (cins1 h23 h17 h18 h19 h20 h21 h22 hc h24 h25 (by omega) (by omega) hnew (by omega) (by omega) (by omega) (by omega) (by omega)) ?_
  rintro _ w47 ⟨br26, bi27, ao31, cp32, ao33, cp34, ao35, cp36, rfl, h28, h29, g30, h37, h38, h39, h40, h41, h42, h43, h44, h45, u46⟩
  refine WL.fin (L' := #[true, true, true, true, true, true, true, true, true, true, false, false, false, false, false]) hK16 (stY (by kernel_rfl) (stY (by kernel_rfl) (stN (fun q => (q.keep u46 (nma (nma (nmc (Blk.ne q h17 rfl) (nmc (Blk.neK q h18) (nmc (Blk.ne q h21 rfl) nm0))) (Own.ne h19 q rfl)) (Own.ne h22 q rfl)))) (stY (by kernel_rfl) (stN (fun q => (q.keep u46 (nma (nma (nmc (Blk.ne q h17 rfl) (nmc (Blk.neK q h18) (nmc (Blk.ne q h21 rfl) nm0))) (Own.ne h19 q rfl)) (Own.ne h22 q rfl)))) st0))))) ?_
  refine MX.to (f := 2) (L' := #[true, true, true, true, true, true, true, true, true, true, true, true, true, false, false]) (E' := [(1, .pointer (some ⟨bm, 0, none⟩)), (3, .pointer (some ⟨bid, 0, none⟩)), (4, .pointer (some ⟨b3, 0, none⟩)), (5, .nilIface), (18, .int .i64 nx), (19, .nilIface)]) [10, 11, 12] [1, 3, 4, 5, 18, 19] rfl (by kernel_rfl) ?_
  refine MX.loud 13 (by kernel_rfl) rfl (fun K48 hK48 => ?_) rfl
  have h49 := ((hbid.keep u5 nm0).keep u9 nm0)
  have h50 := (h49.keep u46 (nma (nma (nmc (Blk.ne h49 h17 rfl) (nmc (Blk.neK h49 h18) (nmc (Blk.ne h49 h21 rfl) nm0))) (Own.ne h19 h49 rfl)) (Own.ne h22 h49 rfl)))
  refine WL.store1 rfl siz2 rfl rfl rfl h50 rfl ?_
  intro w51 h52 u53 z54
  refine WL.fin (L' := #[true, true, true, true, true, true, true, true, true, true, true, true, true, true, false]) hK48 (stY (by kernel_rfl) (stY (by kernel_rfl) (stY (by kernel_rfl) (stY (by kernel_rfl) (stY (by kernel_rfl) st0))))) ?_
  refine MX.to (f := 0) (L' := #[true, true, true, true, true, true, true, true, true, true, true, true, true, true, true]) (E' := [(1, .pointer (some ⟨bm, 0, none⟩)), (3, .pointer (some ⟨bid, 0, none⟩)), (4, .pointer (some ⟨b3, 0, none⟩)), (5, .nilIface)]) [14] [1, 3, 4, 5] rfl (by kernel_rfl) ?_
  refine MX.done (by kernel_rfl) ?_
  refine hK7 _ _ _ ?_
  refine CW.seq fun K55 hK55 => ?_
  refine CW.seq fun K56 hK56 => ?_
  refine CW.region ?_
  refine WL.to (E' := [(1, .pointer (some ⟨bm, 0, none⟩)), (3, .pointer (some ⟨bid, 0, none⟩)), (4, .pointer (some ⟨b3, 0, none⟩)), (5, .nilIface), (21, .bool true)]) 2 [1, 3, 4, 5, 21] (by kernel_rfl) ?_
  refine WL.nil ?_
  refine hK56 _ _ _ ?_
  refine CW.condT rfl ?_
  refine CW.seq fun K57 hK57 => ?_
  refine CW.region ?_
  refine WL.load1 rfl agg2 rfl rfl h52 rfl ?_
  refine WL.alloc (cs := [.int .i64 0]) rfl rfl zer2 rfl ?_
  intro w58 b59 h60 u61 g62
  refine WL.store1 rfl siz2 rfl rfl rfl h60 rfl ?_
  intro w63 h64 u65 z66
  refine WL.sub [(1, .pointer (some ⟨bm, 0, none⟩)), (4, .pointer (some ⟨b3, 0, none⟩)), (5, .nilIface), (6, .pointer (some ⟨b59, 0, none⟩))] ⟨rfl, rfl, rfl, rfl, trivial⟩ ?_
  refine WL.nil ?_
  refine hK57 _ _ _ ?_
  refine CW.region ?_
  have h67 := (h13.keep u46 (nma (nma (nmc (Blk.ne h13 h17 rfl) (nmc (Blk.neK h13 h18) (nmc (Blk.ne h13 h21 rfl) nm0))) (Own.ne h19 h13 rfl)) (Own.ne h22 h13 rfl)))
  have h68 := ((h67.keep u53 (nmc (Blk.ne h67 h50 rfl) nm0)).keep u61 nm0)
  have h69 := (h68.keep u65 (nmc (Blk.ne h68 h60 rfl) nm0))
  refine WL.load1 rfl agg24 rfl rfl h69 rfl ?_
  refine WL.to (E' := [(4, .pointer (some ⟨b3, 0, none⟩)), (5, .nilIface), (6, .pointer (some ⟨b59, 0, none⟩)), (25, .pointer (some ⟨m_, 1, none⟩))]) 2 [4, 5, 6, 25] (by kernel_rfl) ?_
  have h70 := (h14.keep u46 (nma (nma (nmc (Blk.ne h14 h17 rfl) (nmc (Blk.neK h14 h18) (nmc (Blk.ne h14 h21 rfl) nm0))) (Own.ne h19 h14 rfl)) (Own.ne h22 h14 rfl)))
  have h71 := ((h70.keep u53 (nmc (Blk.ne h70 h50 rfl) nm0)).keep u61 nm0)
  have h72 := (h71.keep u65 (nmc (Blk.ne h71 h60 rfl) nm0))
  refine WL.load1 rfl agg70 rfl rfl h72 rfl ?_
  refine WL.to (E' := [(5, .nilIface), (26, .pointer (some ⟨lg, 0, none⟩)), (27, .func (.func 43) #[] #[.pointer (some ⟨b3, 0, none⟩), .pointer (some ⟨b59, 0, none⟩)])]) 1 [5, 26, 27] (by kernel_rfl) ?_
  have h73 := ((h43.keep u53 (nmc (Blk.ne h43 h50 rfl) nm0)).keep u61 nm0)
  have h74 := (h73.keep u65 (nmc (Blk.ne h73 h60 rfl) nm0))
  have h75 := ((h44.keep' u53 (disc (Own.ne h44 h50 rfl) dis0)).keep' u61 dis0)
  have h76 := (h75.keep' u65 (disc (Own.ne h75 h60 rfl) dis0))
  refine WL.call rfl rfl rfl rfl ent42 rfl (logadd_of (f := .func (.func 43) #[] #[.pointer (some ⟨b3, 0, none⟩), .pointer (some ⟨b59, 0, none⟩)]) h74 h76 rfl (by omega)) ?_
  rintro _ w83 ⟨ao77, cp78, rfl, h79, h80, f81, u82⟩
  refine WL.sub [(5, .nilIface)] ⟨rfl, trivial⟩ ?_
  refine WL.nil ?_
  refine hK55 _ _ _ ?_
  refine CW.seq fun K84 hK84 => ?_
  refine CW.region ?_
  refine WL.to (E' := [(5, .nilIface)]) 2 [5] (by kernel_rfl) ?_
  refine WL.nil ?_
  refine hK84 _ _ _ ?_
  have h85 := ((h37.keep u53 (nmc (Blk.ne h37 h50 rfl) nm0)).keep u61 nm0)
  have h86 := (h85.keep u65 (nmc (Blk.ne h85 h60 rfl) nm0))
  have h87 := (h86.keep u82 (nma (nmc (Blk.ne h86 h74 rfl) nm0) (Own.ne h76 h86 rfl)))
  have h88 := ((h38.keep u53 (nmc (Ne.symm (Blk.neK h50 h38)) nm0)).keep u61 nm0)
  have h89 := (h88.keep u65 (nmc (Ne.symm (Blk.neK h60 h88)) nm0))
  have h90 := (h89.keep u82 (nma (nmc (Ne.symm (Blk.neK h74 h89)) nm0) (Own.neM h76 h89)))
  have h91 := ((h39.keep' u53 (disc (Own.ne h39 h50 rfl) dis0)).keep' u61 dis0)
  have h92 := (h91.keep' u65 (disc (Own.ne h91 h60 rfl) dis0))
  have h93 := (h92.keep' u82 (disa (disc (Own.ne h92 h74 rfl) dis0) (Own.neO h92 h76 rfl)))
  have h94 := ((h40.keep' u53 (disc (Own.ne h40 h50 rfl) dis0)).keep' u61 dis0)
  have h95 := (h94.keep' u65 (disc (Own.ne h94 h60 rfl) dis0))
  have h96 := (h95.keep' u82 (disa (disc (Own.ne h95 h74 rfl) dis0) (Own.neO h95 h76 rfl)))
  have h97 := ((h28.keep u53 (nmc (Blk.ne h28 h50 rfl) nm0)).keep u61 nm0)
  have h98 := (h97.keep u65 (nmc (Blk.ne h97 h60 rfl) nm0))
  have h99 := (h98.keep u82 (nma (nmc (Blk.ne h98 h74 rfl) nm0) (Own.ne h76 h98 rfl)))
  have h100 := ((h29.keep u53 (nmc (Ne.symm (by have := hbid.lt; have := g30; have := u5.size; have := u9.size; omega)) nm0)).keep u61 nm0)
  have h101 := (h100.keep u65 (nmc (by have := h29.lt; have := g62; have := u53.size; omega) nm0))
  have h102 := (h101.keep u82 (nma (nmc (Blk.ne h101 h74 rfl) nm0) (Own.ne h76 h101 rfl)))
  have h103 := (h11.keep u46 (nma (nma (nmc (Blk.ne h11 h17 rfl) (nmc (Blk.neK h11 h18) (nmc (Blk.ne h11 h21 rfl) nm0))) (Own.ne h19 h11 rfl)) (Own.ne h22 h11 rfl)))
  have h104 := ((h103.keep u53 (nmc (Blk.ne h103 h50 rfl) nm0)).keep u61 nm0)
  have h105 := (h104.keep u65 (nmc (Blk.ne h104 h60 rfl) nm0))
  have h106 := (h105.keep u82 (nma (nmc (Blk.ne h105 h74 rfl) nm0) (Own.ne h76 h105 rfl)))
  have h107 := (h64.keep u82 (nma (nmc (Blk.ne h64 h74 rfl) nm0) (Own.ne h76 h64 rfl)))
  have h108 := (h52.keep u61 nm0)
  have h109 := (h108.keep u65 (nmc (by have := hbid.lt; have := g62; have := u5.size; have := u9.size; have := u46.size; have := u53.size; omega) nm0))
  have h110 := (h109.keep u82 (nma (nmc (Blk.ne h109 h74 rfl) nm0) (Own.ne h76 h109 rfl)))
  refine CW.ret fun a ha => ?_
  try simp (decide := true) only [Exit.inBlock, Exit.then, ↓reduceIte]
  exact fin ha.defers (res_tmp rfl ha rfl _) ⟨rfl, br26, bi27, b3, b59, _, _, _, _, _, _, h99, h102, (by have := g30; have := u5.size; have := u9.size; omega), h106, h107, (by have := g62; have := u5.size; have := u9.size; have := u46.size; have := u53.size; omega), h110, h87, h90, h93, h96, (fun b hb => by have := h41 b hb; have := u5.size; have := u9.size; omega), (fun b hb => (h42 b hb).imp_right (fun h => by have := u5.size; have := u9.size; omega)), h79, h80, (fun b hb => (f81 b hb).elim (fun h => (h45 b h).imp_right (fun h => by have := u5.size; have := u9.size; omega)) (fun h => .inr (by have := u5.size; have := u9.size; have := u46.size; have := u53.size; have := u61.size; have := u65.size; omega))), (((((((u5.trans u9).trans u46).trans u53).trans u61).trans u65).trans u82).sub (by intro k hk hl; simp only [Option.mem_toList, Option.mem_def, List.mem_append, List.mem_cons, List.not_mem_nil, or_false, false_or] at hk ⊢; have := u5.size; have := u9.size; have := u46.size; have := u53.size; have := u61.size; have := u65.size; have := u82.size; have := g62; have := h42; have := h45; have := f81; grind))⟩

theorem mins2 {w : World} {t sh S cps : Nat} {h1 h2 : Value} {mx : Int} {sat F n scp : Nat} {sao : Option Addr} {smx nx wr : Int} (ht : Blk w t [.slice (some ⟨sh, 0, none⟩) 2 cps, h1, h2, .pointer (some ⟨S, 0, none⟩), .int .i64 mx, .slice none 0 0, .slice none 0 0] 116) (hS : Blk w S [.slice sao n scp, .map (some sat), .pointer (some ⟨F, 0, none⟩), .int .i64 smx, .int .i64 nx, .int .i64 wr] 121) {idx : List (Int × Value)} (hA : KMap ki w sat idx) {xs : List Value} (hO : Own w (.slice sao n scp) 214 3 n xs) {fa : Option Addr} {fc : Nat} {fb : Value} (hF : Blk w F [.slice fa 0 fc, fb] 246)  {lg : Nat} {lao : Option Addr} {m lcp : Nat} {fns : List Value} (hl : Blk w lg [.slice lao m lcp] 126) (hlo : Own w (.slice lao m lcp) 1 1 m fns) {vb : Nat} {x y : Int} {rest : List Value} (hs : Blk w sh (.string (⟨#[97]⟩) :: .int .i64 1 :: .string (⟨#[98]⟩) :: .int .i64 1 :: rest) 51) (hv : Blk w vb [.int .i64 1, .int .i64 x, .string ByteArray.empty, .float .f64 0, .int .i64 1, .int .i64 y, .string ByteArray.empty, .float .f64 0] 58) (hcp : 2 ≤ cps) (hfull : ((idx.length : Nat) : Int) < mx) {p hub base m_ wt pl bm bv bid : Nat} {msv : Value} {iv : Int} (hp : Blk w p [.pointer (some ⟨t, 0, none⟩), .pointer (some ⟨hub, 0, none⟩), .map (some base)] 87) (hm_ : Blk w m_ [.map (some pl), .pointer (some ⟨lg, 0, none⟩), msv, .pointer (some ⟨wt, 0, none⟩), .bool true] 75) (hbm : Blk w bm [.pointer (some ⟨m_, 0, none⟩)] 24) (hbv : Blk w bv [.slice (some ⟨vb, 0, none⟩) 2 2] 38) (hbid : Blk w bid [.int .i64 iv] 2) (hnew : look idx nx = none) (hroom : ((idx.length : Nat) : Int) < smx) (hn : n ≤ 100000) (hw : -1000000 ≤ wr ∧ wr ≤ 1000000) (hx : -1000000 ≤ nx ∧ nx ≤ 1000000) (hm : m ≤ 90000) :
    Ret Tryz.prog 40 #[.pointer (some ⟨p, 0, none⟩), .pointer (some ⟨bm, 0, none⟩), .pointer (some ⟨bv, 0, none⟩), .pointer (some ⟨bid, 0, none⟩)] w fun v w' => v = .nilIface ∧ ∃ br bi bp brw sao' scp' ao cp lao' lcp', Blk w' br [.pointer (some ⟨S, 0, none⟩)] 63 ∧ Blk w' bi [.int .i64 nx] 2 ∧ w.heap.size ≤ bi ∧ Blk w' bp [.pointer (some ⟨p, 0, none⟩)] 77 ∧ Blk w' brw [.int .i64 nx] 2 ∧ w.heap.size ≤ brw ∧ Blk w' bid [.int .i64 nx] 2 ∧ Blk w' S [.slice sao' (n + 1) scp', .map (some sat), .pointer (some ⟨F, 0, none⟩), .int .i64 smx, .int .i64 (nx + 1), .int .i64 (wr + 1)] 121 ∧ KMap ki w' sat (idx ++ [(nx, .int .i64 ((n : Nat) : Int))]) ∧ Own w' (.slice sao' (n + 1) scp') 214 3 (n + 1) (setAll (xs ++ [.int .i64 0, .int .i64 0, .slice none 0 0]) (n * 3) [.int .i64 nx, .int .i64 1, .slice ao 2 cp]) ∧ Own w' (.slice ao 2 cp) 58 4 2 [.int .i64 1, .int .i64 x, .string ByteArray.empty, .float .f64 0, .int .i64 1, .int .i64 y, .string ByteArray.empty, .float .f64 0] ∧ (∀ b, (Value.slice ao 2 cp).ownBlock = some b → w.heap.size ≤ b) ∧ (∀ b, (Value.slice sao' (n + 1) scp').ownBlock = some b → (Value.slice sao n scp).ownBlock = some b ∨ w.heap.size ≤ b) ∧ Blk w' lg [.slice lao' (m + 1 + 1) lcp'] 126 ∧ Own w' (.slice lao' (m + 1 + 1) lcp') 1 1 (m + 1 + 1) (fns ++ [.func (.func 79) #[] #[.pointer (some ⟨br, 0, none⟩), .pointer (some ⟨bi, 0, none⟩)]] ++ [.func (.func 43) #[] #[.pointer (some ⟨bp, 0, none⟩), .pointer (some ⟨brw, 0, none⟩)]]) ∧ (∀ b, (Value.slice lao' (m + 1 + 1) lcp').ownBlock = some b → (Value.slice lao m lcp).ownBlock = some b ∨ w.heap.size ≤ b) ∧ Only ([S, sat, lg, bid] ++ (Value.slice sao n scp).ownBlock.toList ++ (Value.slice lao m lcp).ownBlock.toList) w w' := by
  refine enterL (args := [.pointer (some ⟨p, 0, none⟩), .pointer (some ⟨bm, 0, none⟩), .pointer (some ⟨bv, 0, none⟩), .pointer (some ⟨bid, 0, none⟩)]) Tryz.func40 rfl rfl rfl ?_
  refine CW.seq fun K1 hK1 => ?_
  refine CW.region ?_
  refine WL.box (cs := [.pointer (some ⟨p, 0, none⟩)]) rfl rfl rfl rfl ?_
  intro w2 b3 h4 u5 g6
  refine WL.to (E' := [(1, .pointer (some ⟨bm, 0, none⟩)), (2, .pointer (some ⟨bv, 0, none⟩)), (3, .pointer (some ⟨bid, 0, none⟩)), (4, .pointer (some ⟨b3, 0, none⟩)), (5, .nilIface)]) 1 [1, 2, 3, 4, 5] (by kernel_rfl) ?_
  refine WL.nil ?_
  refine hK1 _ _ _ ?_
  refine CW.seq fun K7 hK7 => ?_
  refine CW.mixed (by kernel_rfl) ?_
  intro w8 e10 u9
  have h11 := (h4.keep u9 nm0)
  refine MX.load1 (L' := #[true, false, false, false, false, false, false, false, false, false, false, false, false, false, false]) 0 (by kernel_rfl) rfl rfl rfl agg77 rfl rfl h11 rfl ?_
  refine MX.to (f := 12) (L' := #[true, true, true, false, false, false, false, false, false, false, false, false, false, false, false]) (E' := [(1, .pointer (some ⟨bm, 0, none⟩)), (2, .pointer (some ⟨bv, 0, none⟩)), (3, .pointer (some ⟨bid, 0, none⟩)), (4, .pointer (some ⟨b3, 0, none⟩)), (5, .nilIface), (10, .pointer (some ⟨p, 0, none⟩))]) [1, 2] [1, 2, 3, 4, 5, 10] rfl (by kernel_rfl) ?_
  have h12 := ((hp.keep u5 nm0).keep u9 nm0)
  refine MX.load1 (L' := #[true, true, true, true, false, false, false, false, false, false, false, false, false, false, false]) 3 (by kernel_rfl) rfl rfl rfl agg60 rfl rfl h12 rfl ?_
  have h13 := ((hbm.keep u5 nm0).keep u9 nm0)
  refine MX.load1 (L' := #[true, true, true, true, true, false, false, false, false, false, false, false, false, false, false]) 4 (by kernel_rfl) rfl rfl rfl agg24 rfl rfl h13 rfl ?_
  refine MX.to (f := 8) (L' := #[true, true, true, true, true, true, true, false, false, false, false, false, false, false, false]) (E' := [(1, .pointer (some ⟨bm, 0, none⟩)), (2, .pointer (some ⟨bv, 0, none⟩)), (3, .pointer (some ⟨bid, 0, none⟩)), (4, .pointer (some ⟨b3, 0, none⟩)), (5, .nilIface), (11, .pointer (some ⟨t, 0, none⟩)), (14, .pointer (some ⟨m_, 1, none⟩))]) [5, 6] [1, 2, 3, 4, 5, 11, 14] rfl (by kernel_rfl) ?_
  have h14 := ((hm_.keep u5 nm0).keep u9 nm0)
  refine MX.load1 (L' := #[true, true, true, true, true, true, true, true, false, false, false, false, false, false, false]) 7 (by kernel_rfl) rfl rfl rfl agg70 rfl rfl h14 rfl ?_
  have h15 := ((hbv.keep u5 nm0).keep u9 nm0)
  refine MX.load1 (L' := #[true, true, true, true, true, true, true, true, true, false, false, false, false, false, false]) 8 (by kernel_rfl) rfl rfl rfl agg38 rfl rfl h15 rfl ?_
  refine MX.loud 9 (by kernel_rfl) rfl (fun K16 hK16 => ?_) rfl
  have h17 := ((hS.keep u5 nm0).keep u9 nm0)
  have h18 := ((hA.keep u5 nm0).keep u9 nm0)
  have h19 := ((hO.keep' u5 dis0).keep' u9 dis0)
  have h20 := ((hF.keep u5 nm0).keep u9 nm0)
  have h21 := ((hl.keep u5 nm0).keep u9 nm0)
  have h22 := ((hlo.keep' u5 dis0).keep' u9 dis0)
  have h23 := ((ht.keep u5 nm0).keep u9 nm0)
  have h24 := ((hs.keep u5 nm0).keep u9 nm0)
  have h25 := ((hv.keep u5 nm0).keep u9 nm0)
  refine WL.call rfl rfl rfl rfl ent41 rfl (cins2 h23 h17 h18 h19 h20 h21 h22 h24 h25 (by omega) (by omega) hnew (by omega) (by omega) (by omega) (by omega) (by omega)) ?_
  rintro _ w47 ⟨br26, bi27, ao31, cp32, ao33, cp34, ao35, cp36, rfl, h28, h29, g30, h37, h38, h39, h40, h41, h42, h43, h44, h45, u46⟩
  refine WL.fin (L' := #[true, true, true, true, true, true, true, true, true, true, false, false, false, false, false]) hK16 (stY (by kernel_rfl) (stY (by kernel_rfl) (stN (fun q => (q.keep u46 (nma (nma (nmc (Blk.ne q h17 rfl) (nmc (Blk.neK q h18) (nmc (Blk.ne q h21 rfl) nm0))) (Own.ne h19 q rfl)) (Own.ne h22 q rfl)))) (stY (by kernel_rfl) (stN (fun q => (q.keep u46 (nma (nma (nmc (Blk.ne q h17 rfl) (nmc (Blk.neK q h18) (nmc (Blk.ne q h21 rfl) nm0))) (Own.ne h19 q rfl)) (Own.ne h22 q rfl)))) st0))))) ?_
  refine MX.to (f := 2) (L' := #[true, true, true, true, true, true, true, true, true, true, true, true, true, false, false]) (E' := [(1, .pointer (some ⟨bm, 0, none⟩)), (3, .pointer (some ⟨bid, 0, none⟩)), (4, .pointer (some ⟨b3, 0, none⟩)), (5, .nilIface), (18, .int .i64 nx), (19, .nilIface)]) [10, 11, 12] [1, 3, 4, 5, 18, 19] rfl (by kernel_rfl) ?_
  refine MX.loud 13 (by kernel_rfl) rfl (fun K48 hK48 => ?_) rfl
  have h49 := ((hbid.keep u5 nm0).keep u9 nm0)
  have h50 := (h49.keep u46 (nma (nma (nmc (Blk.ne h49 h17 rfl) (nmc (Blk.neK h49 h18) (nmc (Blk.ne h49 h21 rfl) nm0))) (Own.ne h19 h49 rfl)) (Own.ne h22 h49 rfl)))
  refine WL.store1 rfl siz2 rfl rfl rfl h50 rfl ?_
  intro w51 h52 u53 z54
  refine WL.fin (L' := #[true, true, true, true, true, true, true, true, true, true, true, true, true, true, false]) hK48 (stY (by kernel_rfl) (stY (by kernel_rfl) (stY (by kernel_rfl) (stY (by kernel_rfl) (stY (by kernel_rfl) st0))))) ?_
  refine MX.to (f := 0) (L' := #[true, true, true, true, true, true, true, true, true, true, true, true, true, true, true]) (E' := [(1, .pointer (some ⟨bm, 0, none⟩)), (3, .pointer (some ⟨bid, 0, none⟩)), (4, .pointer (some ⟨b3, 0, none⟩)), (5, .nilIface)]) [14] [1, 3, 4, 5] rfl (by kernel_rfl) ?_
  refine MX.done (by kernel_rfl) ?_
  refine hK7 _ _ _ ?_
  refine CW.seq fun K55 hK55 => ?_
  refine CW.seq fun K56 hK56 => ?_
  refine CW.region ?_
  refine WL.to (E' := [(1, .pointer (some ⟨bm, 0, none⟩)), (3, .pointer (some ⟨bid, 0, none⟩)), (4, .pointer (some ⟨b3, 0, none⟩)), (5, .nilIface), (21, .bool true)]) 2 [1, 3, 4, 5, 21] (by kernel_rfl) ?_
  refine WL.nil ?_
  refine hK56 _ _ _ ?_
  refine CW.condT rfl ?_
  refine CW.seq fun K57 hK57 => ?_
  refine CW.region ?_
  refine WL.load1 rfl agg2 rfl rfl h52 rfl ?_
  refine WL.alloc (cs := [.int .i64 0]) rfl rfl zer2 rfl ?_
  intro w58 b59 h60 u61 g62
  refine WL.store1 rfl siz2 rfl rfl rfl h60 rfl ?_
  intro w63 h64 u65 z66
  refine WL.sub [(1, .pointer (some ⟨bm, 0, none⟩)), (4, .pointer (some ⟨b3, 0, none⟩)), (5, .nilIface), (6, .pointer (some ⟨b59, 0, none⟩))] ⟨rfl, rfl, rfl, rfl, trivial⟩ ?_
  refine WL.nil ?_
  refine hK57 _ _ _ ?_
  refine CW.region ?_
  have h67 := (h13.keep u46 (nma (nma (nmc (Blk.ne h13 h17 rfl) (nmc (Blk.neK h13 h18) (nmc (Blk.ne h13 h21 rfl) nm0))) (Own.ne h19 h13 rfl)) (Own.ne h22 h13 rfl)))
  have h68 := ((h67.keep u53 (nmc (Blk.ne h67 h50 rfl) nm0)).keep u61 nm0)
  have h69 := (h68.keep u65 (nmc (Blk.ne h68 h60 rfl) nm0))
  refine WL.load1 rfl agg24 rfl rfl h69 rfl ?_
  refine WL.to (E' := [(4, .pointer (some ⟨b3, 0, none⟩)), (5, .nilIface), (6, .pointer (some ⟨b59, 0, none⟩)), (25, .pointer (some ⟨m_, 1, none⟩))]) 2 [4, 5, 6, 25] (by kernel_rfl) ?_
  have h70 := (h14.keep u46 (nma (nma (nmc (Blk.ne h14 h17 rfl) (nmc (Blk.neK h14 h18) (nmc (Blk.ne h14 h21 rfl) nm0))) (Own.ne h19 h14 rfl)) (Own.ne h22 h14 rfl)))
  have h71 := ((h70.keep u53 (nmc (Blk.ne h70 h50 rfl) nm0)).keep u61 nm0)
  have h72 := (h71.keep u65 (nmc (Blk.ne h71 h60 rfl) nm0))
  refine WL.load1 rfl agg70 rfl rfl h72 rfl ?_
  refine WL.to (E' := [(5, .nilIface), (26, .pointer (some ⟨lg, 0, none⟩)), (27, .func (.func 43) #[] #[.pointer (some ⟨b3, 0, none⟩), .pointer (some ⟨b59, 0, none⟩)])]) 1 [5, 26, 27] (by kernel_rfl) ?_
  have h73 := ((h43.keep u53 (nmc (Blk.ne h43 h50 rfl) nm0)).keep u61 nm0)
  have h74 := (h73.keep u65 (nmc (Blk.ne h73 h60 rfl) nm0))
  have h75 := ((h44.keep' u53 (disc (Own.ne h44 h50 rfl) dis0)).keep' u61 dis0)
  have h76 := (h75.keep' u65 (disc (Own.ne h75 h60 rfl) dis0))
  refine WL.call rfl rfl rfl rfl ent42 rfl (logadd_of (f := .func (.func 43) #[] #[.pointer (some ⟨b3, 0, none⟩), .pointer (some ⟨b59, 0, none⟩)]) h74 h76 rfl (by omega)) ?_
  rintro _ w83 ⟨ao77, cp78, rfl, h79, h80, f81, u82⟩
  refine WL.sub [(5, .nilIface)] ⟨rfl, trivial⟩ ?_
  refine WL.nil ?_
  refine hK55 _ _ _ ?_
  refine CW.seq fun K84 hK84 => ?_
  refine CW.region ?_
  refine WL.to (E' := [(5, .nilIface)]) 2 [5] (by kernel_rfl) ?_
  refine WL.nil ?_
  refine hK84 _ _ _ ?_
  have h85 := ((h37.keep u53 (nmc (Blk.ne h37 h50 rfl) nm0)).keep u61 nm0)
  have h86 := (h85.keep u65 (nmc (Blk.ne h85 h60 rfl) nm0))
  have h87 := (h86.keep u82 (nma (nmc (Blk.ne h86 h74 rfl) nm0) (Own.ne h76 h86 rfl)))
  have h88 := ((h38.keep u53 (nmc (Ne.symm (Blk.neK h50 h38)) nm0)).keep u61 nm0)
  have h89 := (h88.keep u65 (nmc (Ne.symm (Blk.neK h60 h88)) nm0))
  have h90 := (h89.keep u82 (nma (nmc (Ne.symm (Blk.neK h74 h89)) nm0) (Own.neM h76 h89)))
  have h91 := ((h39.keep' u53 (disc (Own.ne h39 h50 rfl) dis0)).keep' u61 dis0)
  have h92 := (h91.keep' u65 (disc (Own.ne h91 h60 rfl) dis0))
  have h93 := (h92.keep' u82 (disa (disc (Own.ne h92 h74 rfl) dis0) (Own.neO h92 h76 rfl)))
  have h94 := ((h40.keep' u53 (disc (Own.ne h40 h50 rfl) dis0)).keep' u61 dis0)
  have h95 := (h94.keep' u65 (disc (Own.ne h94 h60 rfl) dis0))
  have h96 := (h95.keep' u82 (disa (disc (Own.ne h95 h74 rfl) dis0) (Own.neO h95 h76 rfl)))
  have h97 := ((h28.keep u53 (nmc (Blk.ne h28 h50 rfl) nm0)).keep u61 nm0)
  have h98 := (h97.keep u65 (nmc (Blk.ne h97 h60 rfl) nm0))
  have h99 := (h98.keep u82 (nma (nmc (Blk.ne h98 h74 rfl) nm0) (Own.ne h76 h98 rfl)))
  have h100 := ((h29.keep u53 (nmc (Ne.symm (by have := hbid.lt; have := g30; have := u5.size; have := u9.size; omega)) nm0)).keep u61 nm0)
  have h101 := (h100.keep u65 (nmc (by have := h29.lt; have := g62; have := u53.size; omega) nm0))
  have h102 := (h101.keep u82 (nma (nmc (Blk.ne h101 h74 rfl) nm0) (Own.ne h76 h101 rfl)))
  have h103 := (h11.keep u46 (nma (nma (nmc (Blk.ne h11 h17 rfl) (nmc (Blk.neK h11 h18) (nmc (Blk.ne h11 h21 rfl) nm0))) (Own.ne h19 h11 rfl)) (Own.ne h22 h11 rfl)))
  have h104 := ((h103.keep u53 (nmc (Blk.ne h103 h50 rfl) nm0)).keep u61 nm0)
  have h105 := (h104.keep u65 (nmc (Blk.ne h104 h60 rfl) nm0))
  have h106 := (h105.keep u82 (nma (nmc (Blk.ne h105 h74 rfl) nm0) (Own.ne h76 h105 rfl)))
  have h107 := (h64.keep u82 (nma (nmc (Blk.ne h64 h74 rfl) nm0) (Own.ne h76 h64 rfl)))
  have h108 := (h52.keep u61 nm0)
  have h109 := (h108.keep u65 (nmc (by have := hbid.lt; have := g62; have := u5.size; have := u9.size; have := u46.size; have := u53.size; omega) nm0))
  have h110 := (h109.keep u82 (nma (nmc (Blk.ne h109 h74 rfl) nm0) (Own.ne h76 h109 rfl)))
  refine CW.ret fun a ha => ?_
  try simp (decide := true) only [Exit.inBlock, Exit.then, ↓reduceIte]
  exact fin ha.defers (res_tmp rfl ha rfl _) ⟨rfl, br26, bi27, b3, b59, _, _, _, _, _, _, h99, h102, (by have := g30; have := u5.size; have := u9.size; omega), h106, h107, (by have := g62; have := u5.size; have := u9.size; have := u46.size; have := u53.size; omega), h110, h87, h90, h93, h96, (fun b hb => by have := h41 b hb; have := u5.size; have := u9.size; omega), (fun b hb => (h42 b hb).imp_right (fun h => by have := u5.size; have := u9.size; omega)), h79, h80, (fun b hb => (f81 b hb).elim (fun h => (h45 b h).imp_right (fun h => by have := u5.size; have := u9.size; omega)) (fun h => .inr (by have := u5.size; have := u9.size; have := u46.size; have := u53.size; have := u61.size; have := u65.size; omega))), (((((((u5.trans u9).trans u46).trans u53).trans u61).trans u65).trans u82).sub (by intro k hk hl; simp only [Option.mem_toList, Option.mem_def, List.mem_append, List.mem_cons, List.not_mem_nil, or_false, false_or] at hk ⊢; have := u5.size; have := u9.size; have := u46.size; have := u53.size; have := u61.size; have := u65.size; have := u82.size; have := g62; have := h42; have := h45; have := f81; grind))⟩

theorem commits_open {w : World} {pl lg msk mscp wt m_ : Nat} {msao : Option Addr} {bz : Bool} (hm_ : Blk w m_ [.map (some pl), .pointer (some ⟨lg, 0, none⟩), .slice msao msk mscp, .pointer (some ⟨wt, 0, none⟩), .bool bz] 75) (hd : 0 < msk) :
    Ret Tryz.prog 47 #[.pointer (some ⟨m_, 0, none⟩)] w fun v w' => v = .nilIface ∧ w' = w := by
  refine enterL (args := [.pointer (some ⟨m_, 0, none⟩)]) Tryz.func47 rfl rfl rfl ?_
  refine CW.seq fun K1 hK1 => ?_
  refine CW.region ?_
  refine WL.to (E' := [(0, .pointer (some ⟨m_, 0, none⟩)), (2, .nilIface)]) 1 [0, 2] (by kernel_rfl) ?_
  refine WL.nil ?_
  refine hK1 _ _ _ ?_
  refine CW.seq fun K2 hK2 => ?_
  refine CW.seq fun K3 hK3 => ?_
  refine CW.region ?_
  refine WL.to (E' := [(0, .pointer (some ⟨m_, 0, none⟩)), (2, .nilIface), (6, .pointer (some ⟨m_, 0, none⟩))]) 1 [0, 2, 6] (by kernel_rfl) ?_
  refine WL.callQ (v := .int .i64 ((msk : Nat) : Int)) rfl rfl rfl rfl ent26 rfl (depth_of hm_) ?_
  refine WL.to (E' := [(0, .pointer (some ⟨m_, 0, none⟩)), (2, .nilIface), (8, .bool (decide (((msk : Nat) : Int) > 0)))]) 1 [0, 2, 8] (by kernel_rfl) ?_
  refine WL.nil ?_
  refine hK3 _ _ _ ?_
  refine CW.yes rfl (decide_eq_true (by omega)) ?_
  refine CW.seq fun K4 hK4 => ?_
  refine CW.region ?_
  refine WL.to (E' := [(0, .pointer (some ⟨m_, 0, none⟩)), (2, .nilIface)]) 1 [0, 2] (by kernel_rfl) ?_
  refine WL.nil ?_
  refine hK4 _ _ _ ?_
  refine CW.ret fun a ha => ?_
  try simp (decide := true) only [Exit.inBlock, Exit.then, ↓reduceIte]
  exact fin ha.defers (res_tmp rfl ha rfl _) ⟨rfl, rfl⟩

theorem mins68_1 {w : World} {t sh S cps : Nat} {h1 h2 : Value} {mx : Int} {sat F n scp : Nat} {sao : Option Addr} {smx nx wr : Int} (ht : Blk w t [.slice (some ⟨sh, 0, none⟩) 1 cps, h1, h2, .pointer (some ⟨S, 0, none⟩), .int .i64 mx, .slice none 0 0, .slice none 0 0] 116) (hS : Blk w S [.slice sao n scp, .map (some sat), .pointer (some ⟨F, 0, none⟩), .int .i64 smx, .int .i64 nx, .int .i64 wr] 121) {idx : List (Int × Value)} (hA : KMap ki w sat idx) {xs : List Value} (hO : Own w (.slice sao n scp) 214 3 n xs) {fa : Option Addr} {fc : Nat} {fb : Value} (hF : Blk w F [.slice fa 0 fc, fb] 246)  {lg : Nat} {lao : Option Addr} {m lcp : Nat} {fns : List Value} (hl : Blk w lg [.slice lao m lcp] 126) (hlo : Own w (.slice lao m lcp) 1 1 m fns) {vb : Nat} {x : Int} {rest : List Value} {c : UInt8} (hc : 97 ≤ c.toNat ∧ c.toNat ≤ 122) (hs : Blk w sh (.string (⟨#[c]⟩) :: .int .i64 1 :: rest) 51) (hv : Blk w vb [.int .i64 1, .int .i64 x, .string ByteArray.empty, .float .f64 0] 58) (hcp : 1 ≤ cps) (hfull : ((idx.length : Nat) : Int) < mx) {p hub base m_ wt pl bm bv bid : Nat} {msao : Option Addr} {msk mscp : Nat} {iv : Int} (hp : Blk w p [.pointer (some ⟨t, 0, none⟩), .pointer (some ⟨hub, 0, none⟩), .map (some base)] 87) (hm_ : Blk w m_ [.map (some pl), .pointer (some ⟨lg, 0, none⟩), .slice msao msk mscp, .pointer (some ⟨wt, 0, none⟩), .bool true] 75) (hbm : Blk w bm [.pointer (some ⟨m_, 0, none⟩)] 24) (hbv : Blk w bv [.slice (some ⟨vb, 0, none⟩) 1 1] 38) (hbid : Blk w bid [.int .i64 iv] 2) {bf bp2 : Nat} (hbf : Blk w bf [.func (.func 40) #[] #[.pointer (some ⟨bm, 0, none⟩), .pointer (some ⟨bv, 0, none⟩), .pointer (some ⟨bid, 0, none⟩)]] 100) (hbp2 : Blk w bp2 [.pointer (some ⟨p, 0, none⟩)] 77) (hnew : look idx nx = none) (hroom : ((idx.length : Nat) : Int) < smx) (hn : n ≤ 100000) (hw : -1000000 ≤ wr ∧ wr ≤ 1000000) (hx : -1000000 ≤ nx ∧ nx ≤ 1000000) (hm : m ≤ 90000) :
    Ret Tryz.prog 68 #[.pointer (some ⟨bf, 0, none⟩), .pointer (some ⟨bp2, 0, none⟩)] w fun v w' => v = .nilIface ∧ ∃ br bi bp brw sao' scp' ao cp lao' lcp', Blk w' br [.pointer (some ⟨S, 0, none⟩)] 63 ∧ Blk w' bi [.int .i64 nx] 2 ∧ w.heap.size ≤ bi ∧ Blk w' bp [.pointer (some ⟨p, 0, none⟩)] 77 ∧ Blk w' brw [.int .i64 nx] 2 ∧ w.heap.size ≤ brw ∧ Blk w' bid [.int .i64 nx] 2 ∧ Blk w' S [.slice sao' (n + 1) scp', .map (some sat), .pointer (some ⟨F, 0, none⟩), .int .i64 smx, .int .i64 (nx + 1), .int .i64 (wr + 1)] 121 ∧ KMap ki w' sat (idx ++ [(nx, .int .i64 ((n : Nat) : Int))]) ∧ Own w' (.slice sao' (n + 1) scp') 214 3 (n + 1) (setAll (xs ++ [.int .i64 0, .int .i64 0, .slice none 0 0]) (n * 3) [.int .i64 nx, .int .i64 1, .slice ao 1 cp]) ∧ Own w' (.slice ao 1 cp) 58 4 1 [.int .i64 1, .int .i64 x, .string ByteArray.empty, .float .f64 0] ∧ (∀ b, (Value.slice ao 1 cp).ownBlock = some b → w.heap.size ≤ b) ∧ (∀ b, (Value.slice sao' (n + 1) scp').ownBlock = some b → (Value.slice sao n scp).ownBlock = some b ∨ w.heap.size ≤ b) ∧ Blk w' lg [.slice lao' (m + 1 + 1) lcp'] 126 ∧ Own w' (.slice lao' (m + 1 + 1) lcp') 1 1 (m + 1 + 1) (fns ++ [.func (.func 79) #[] #[.pointer (some ⟨br, 0, none⟩), .pointer (some ⟨bi, 0, none⟩)]] ++ [.func (.func 43) #[] #[.pointer (some ⟨bp, 0, none⟩), .pointer (some ⟨brw, 0, none⟩)]]) ∧ (∀ b, (Value.slice lao' (m + 1 + 1) lcp').ownBlock = some b → (Value.slice lao m lcp).ownBlock = some b ∨ w.heap.size ≤ b) ∧ Only ([S, sat, lg, bid] ++ (Value.slice sao n scp).ownBlock.toList ++ (Value.slice lao m lcp).ownBlock.toList) w w' := by
  refine enterL (args := [.pointer (some ⟨bf, 0, none⟩), .pointer (some ⟨bp2, 0, none⟩)]) Tryz.func68 rfl rfl rfl ?_
  refine CW.seq fun K1 hK1 => ?_
  refine CW.region ?_
  refine WL.to (E' := [(0, .pointer (some ⟨bf, 0, none⟩)), (1, .pointer (some ⟨bp2, 0, none⟩)), (2, .nilIface)]) 1 [0, 1, 2] (by kernel_rfl) ?_
  refine WL.nil ?_
  refine hK1 _ _ _ ?_
  refine CW.seq fun K2 hK2 => ?_
  refine CW.region ?_
  refine WL.load1 rfl agg100 rfl rfl hbf rfl ?_
  refine WL.load1 rfl agg77 rfl rfl hbp2 rfl ?_
  refine WL.call rfl rfl rfl rfl ent40 rfl (mins1 ht hS hA hO hF hl hlo hc hs hv (by omega) (by omega) hp hm_ hbm hbv hbid hnew (by omega) (by omega) (by omega) (by omega) (by omega)) ?_
  rintro _ w3 ⟨rfl, br4, bi5, bp6, brw7, ao15, cp16, ao17, cp18, ao19, cp20, h8, h9, g10, h11, h12, g13, h14, h21, h22, h23, h24, h25, h26, h27, h28, h29, u30⟩
  refine WL.to (E' := [(2, .nilIface)]) 1 [2] (by kernel_rfl) ?_
  refine WL.nil ?_
  refine hK2 _ _ _ ?_
  refine CW.ret fun a ha => ?_
  try simp (decide := true) only [Exit.inBlock, Exit.then, ↓reduceIte]
  exact fin ha.defers (res_tmp rfl ha rfl _) ⟨rfl, br4, bi5, bp6, brw7, _, _, _, _, _, _, h8, h9, (by have := g10; omega), h11, h12, (by have := g13; omega), h14, h21, h22, h23, h24, (fun b hb => by have := h25 b hb; omega), (fun b hb => (h26 b hb).imp_right (fun h => by omega)), h27, h28, (fun b hb => (h29 b hb).imp_right (fun h => by omega)), (u30.sub (by intro k hk hl; simp only [Option.mem_toList, Option.mem_def, List.mem_append, List.mem_cons, List.not_mem_nil, or_false, false_or] at hk ⊢; have := u30.size; grind))⟩

theorem mins66_1 {w : World} {t sh S cps : Nat} {h1 h2 : Value} {mx : Int} {sat F n scp : Nat} {sao : Option Addr} {smx nx wr : Int} (ht : Blk w t [.slice (some ⟨sh, 0, none⟩) 1 cps, h1, h2, .pointer (some ⟨S, 0, none⟩), .int .i64 mx, .slice none 0 0, .slice none 0 0] 116) (hS : Blk w S [.slice sao n scp, .map (some sat), .pointer (some ⟨F, 0, none⟩), .int .i64 smx, .int .i64 nx, .int .i64 wr] 121) {idx : List (Int × Value)} (hA : KMap ki w sat idx) {xs : List Value} (hO : Own w (.slice sao n scp) 214 3 n xs) {fa : Option Addr} {fc : Nat} {fb : Value} (hF : Blk w F [.slice fa 0 fc, fb] 246)  {lg : Nat} {lao : Option Addr} {m lcp : Nat} {fns : List Value} (hl : Blk w lg [.slice lao m lcp] 126) (hlo : Own w (.slice lao m lcp) 1 1 m fns) {vb : Nat} {x : Int} {rest : List Value} {c : UInt8} (hc : 97 ≤ c.toNat ∧ c.toNat ≤ 122) (hs : Blk w sh (.string (⟨#[c]⟩) :: .int .i64 1 :: rest) 51) (hv : Blk w vb [.int .i64 1, .int .i64 x, .string ByteArray.empty, .float .f64 0] 58) (hcp : 1 ≤ cps) (hfull : ((idx.length : Nat) : Int) < mx) {p hub base m_ wt pl bm bv bid : Nat} {msao : Option Addr} {msk mscp : Nat} {iv : Int} (hp : Blk w p [.pointer (some ⟨t, 0, none⟩), .pointer (some ⟨hub, 0, none⟩), .map (some base)] 87) (hm_ : Blk w m_ [.map (some pl), .pointer (some ⟨lg, 0, none⟩), .slice msao msk mscp, .pointer (some ⟨wt, 0, none⟩), .bool true] 75) (hbm : Blk w bm [.pointer (some ⟨m_, 0, none⟩)] 24) (hbv : Blk w bv [.slice (some ⟨vb, 0, none⟩) 1 1] 38) (hbid : Blk w bid [.int .i64 iv] 2) {bf bm3 : Nat} (hbf : Blk w bf [.func (.func 40) #[] #[.pointer (some ⟨bm, 0, none⟩), .pointer (some ⟨bv, 0, none⟩), .pointer (some ⟨bid, 0, none⟩)]] 100) (hbm3 : Blk w bm3 [.pointer (some ⟨m_, 0, none⟩)] 24) (hmsk : 0 < msk) (hnew : look idx nx = none) (hroom : ((idx.length : Nat) : Int) < smx) (hn : n ≤ 100000) (hw : -1000000 ≤ wr ∧ wr ≤ 1000000) (hx : -1000000 ≤ nx ∧ nx ≤ 1000000) (hm : m ≤ 90000) :
    Ret Tryz.prog 66 #[.pointer (some ⟨p, 0, none⟩), .pointer (some ⟨bm3, 0, none⟩), .pointer (some ⟨bf, 0, none⟩)] w fun v w' => v = .nilIface ∧ ∃ br bi bp brw sao' scp' ao cp lao' lcp', Blk w' br [.pointer (some ⟨S, 0, none⟩)] 63 ∧ Blk w' bi [.int .i64 nx] 2 ∧ w.heap.size ≤ bi ∧ Blk w' bp [.pointer (some ⟨p, 0, none⟩)] 77 ∧ Blk w' brw [.int .i64 nx] 2 ∧ w.heap.size ≤ brw ∧ Blk w' bid [.int .i64 nx] 2 ∧ Blk w' S [.slice sao' (n + 1) scp', .map (some sat), .pointer (some ⟨F, 0, none⟩), .int .i64 smx, .int .i64 (nx + 1), .int .i64 (wr + 1)] 121 ∧ KMap ki w' sat (idx ++ [(nx, .int .i64 ((n : Nat) : Int))]) ∧ Own w' (.slice sao' (n + 1) scp') 214 3 (n + 1) (setAll (xs ++ [.int .i64 0, .int .i64 0, .slice none 0 0]) (n * 3) [.int .i64 nx, .int .i64 1, .slice ao 1 cp]) ∧ Own w' (.slice ao 1 cp) 58 4 1 [.int .i64 1, .int .i64 x, .string ByteArray.empty, .float .f64 0] ∧ (∀ b, (Value.slice ao 1 cp).ownBlock = some b → w.heap.size ≤ b) ∧ (∀ b, (Value.slice sao' (n + 1) scp').ownBlock = some b → (Value.slice sao n scp).ownBlock = some b ∨ w.heap.size ≤ b) ∧ Blk w' lg [.slice lao' (m + 1 + 1) lcp'] 126 ∧ Own w' (.slice lao' (m + 1 + 1) lcp') 1 1 (m + 1 + 1) (fns ++ [.func (.func 79) #[] #[.pointer (some ⟨br, 0, none⟩), .pointer (some ⟨bi, 0, none⟩)]] ++ [.func (.func 43) #[] #[.pointer (some ⟨bp, 0, none⟩), .pointer (some ⟨brw, 0, none⟩)]]) ∧ (∀ b, (Value.slice lao' (m + 1 + 1) lcp').ownBlock = some b → (Value.slice lao m lcp).ownBlock = some b ∨ w.heap.size ≤ b) ∧ Only ([S, sat, lg, bid] ++ (Value.slice sao n scp).ownBlock.toList ++ (Value.slice lao m lcp).ownBlock.toList) w w' := by
  refine enterL (args := [.pointer (some ⟨p, 0, none⟩), .pointer (some ⟨bm3, 0, none⟩), .pointer (some ⟨bf, 0, none⟩)]) Tryz.func66 rfl rfl rfl ?_
  refine CW.seq fun K1 hK1 => ?_
  refine CW.region ?_
  refine WL.box (cs := [.pointer (some ⟨p, 0, none⟩)]) rfl rfl rfl rfl ?_
  intro w2 b3 h4 u5 g6
  refine WL.to (E' := [(1, .pointer (some ⟨bm3, 0, none⟩)), (2, .pointer (some ⟨bf, 0, none⟩)), (3, .pointer (some ⟨b3, 0, none⟩)), (4, .nilIface)]) 1 [1, 2, 3, 4] (by kernel_rfl) ?_
  refine WL.nil ?_
  refine hK1 _ _ _ ?_
  refine CW.seq fun K7 hK7 => ?_
  refine CW.seq fun K8 hK8 => ?_
  refine CW.region ?_
  have h9 := (hbm3.keep u5 nm0)
  refine WL.load1 rfl agg24 rfl rfl h9 rfl ?_
  refine WL.to (E' := [(1, .pointer (some ⟨bm3, 0, none⟩)), (2, .pointer (some ⟨bf, 0, none⟩)), (3, .pointer (some ⟨b3, 0, none⟩)), (4, .nilIface), (8, .pointer (some ⟨m_, 1, none⟩))]) 2 [1, 2, 3, 4, 8] (by kernel_rfl) ?_
  have h10 := (hm_.keep u5 nm0)
  refine WL.load1 rfl agg70 rfl rfl h10 rfl ?_
  refine WL.to (E' := [(1, .pointer (some ⟨bm3, 0, none⟩)), (4, .nilIface), (9, .pointer (some ⟨lg, 0, none⟩)), (10, .func (.func 68) #[] #[.pointer (some ⟨bf, 0, none⟩), .pointer (some ⟨b3, 0, none⟩)])]) 1 [1, 4, 9, 10] (by kernel_rfl) ?_
  have h11 := (hS.keep u5 nm0)
  have h12 := (hA.keep u5 nm0)
  have h13 := (hO.keep' u5 dis0)
  have h14 := (hF.keep u5 nm0)
  have h15 := (hl.keep u5 nm0)
  have h16 := (hlo.keep' u5 dis0)
  have h17 := (ht.keep u5 nm0)
  have h18 := (hs.keep u5 nm0)
  have h19 := (hv.keep u5 nm0)
  have h20 := (hp.keep u5 nm0)
  have h21 := (hbm.keep u5 nm0)
  have h22 := (hbv.keep u5 nm0)
  have h23 := (hbid.keep u5 nm0)
  have h24 := (hbf.keep u5 nm0)
  refine WL.call rfl rfl rfl rfl ent67 rfl (do_of (S := ([S, sat, lg, bid] ++ (.slice sao n scp : Value).ownBlock.toList ++ (.slice lao m lcp : Value).ownBlock.toList)) ent68 h15 (by intro b hb; simp only [List.mem_append, List.mem_cons, List.not_mem_nil, or_false, false_or] at hb; have := h11.lt; have := h12.lt; have := h15.lt; have := h23.lt; have := @Own.lt' _ _ _ _ _ b _ h13; have := @Own.lt' _ _ _ _ _ b _ h16; grind) (fun w1 u1 => mins68_1 (h17.keep u1 nm0) (h11.keep u1 nm0) (h12.keep u1 nm0) (h13.keep' u1 dis0) (h14.keep u1 nm0) (h15.keep u1 nm0) (h16.keep' u1 dis0) hc (h18.keep u1 nm0) (h19.keep u1 nm0) (by omega) (by omega) (h20.keep u1 nm0) (h10.keep u1 nm0) (h21.keep u1 nm0) (h22.keep u1 nm0) (h23.keep u1 nm0) (h24.keep u1 nm0) (h4.keep u1 nm0) hnew (by omega) (by omega) (by omega) (by omega) (by omega)) (by rintro w1 v w2 ⟨rfl, _, _, _, _, _, _, _, _, _, _, _, _, _, _, _, _, _, _, _, _, _, _, _, _, _, _, u⟩; exact ⟨rfl, u⟩)) ?_
  rintro _ w59 ⟨rfl, w52, w53, b54, u55, ⟨_, br25, bi26, bp27, brw28, ao36, cp37, ao38, cp39, ao40, cp41, h29, h30, g31, h32, h33, g34, h35, h42, h43, h44, h45, h46, h47, h48, h49, h50, u51⟩, h56, g57, u58⟩
  refine WL.to (E' := [(1, .pointer (some ⟨bm3, 0, none⟩)), (4, .nilIface), (5, .nilIface)]) 1 [1, 4, 5] (by kernel_rfl) ?_
  refine WL.nil ?_
  refine hK8 _ _ _ ?_
  refine CW.seq fun K60 hK60 => ?_
  refine CW.region ?_
  refine WL.to (E' := [(1, .pointer (some ⟨bm3, 0, none⟩)), (4, .nilIface), (5, .nilIface), (13, .bool false)]) 2 [1, 4, 5, 13] (by kernel_rfl) ?_
  refine WL.nil ?_
  refine hK60 _ _ _ ?_
  refine CW.condF rfl ?_
  refine CW.skip ?_
  refine hK7 _ _ _ ?_
  refine CW.seq fun K61 hK61 => ?_
  refine CW.region ?_
  have h62 := (h9.keep u55 nm0)
  have h63 := (h62.keep u51 (nma (nma (nmc (Blk.ne h62 (h11.keep u55 nm0) rfl) (nmc (Blk.neK h62 (h12.keep u55 nm0)) (nmc (Blk.ne h62 (h15.keep u55 nm0) rfl) (nmc (Blk.ne h62 (h23.keep u55 nm0) rfl) nm0)))) (Own.ne (h13.keep' u55 dis0) h62 rfl)) (Own.ne (h16.keep' u55 dis0) h62 rfl)))
  have h64 := (h63.keep u58 (nmc (Blk.ne h63 h56 rfl) nm0))
  refine WL.load1 rfl agg24 rfl rfl h64 rfl ?_
  have h65 := (h10.keep u55 nm0)
  have h66 := (h65.keep u51 (nma (nma (nmc (Blk.ne h65 (h11.keep u55 nm0) rfl) (nmc (Blk.neK h65 (h12.keep u55 nm0)) (nmc (Blk.ne h65 (h15.keep u55 nm0) rfl) (nmc (Blk.ne h65 (h23.keep u55 nm0) rfl) nm0)))) (Own.ne (h13.keep' u55 dis0) h65 rfl)) (Own.ne (h16.keep' u55 dis0) h65 rfl)))
  have h67 := (h66.keep u58 (nmc (Blk.ne h66 h56 rfl) nm0))
  refine WL.callQ (v := .nilIface) rfl rfl rfl rfl ent47 rfl (commits_open h67 (by omega)) ?_
  refine WL.to (E' := [(4, .nilIface)]) 1 [4] (by kernel_rfl) ?_
  refine WL.nil ?_
  refine hK61 _ _ _ ?_
  have h68 := (h42.keep u58 (nmc (Blk.ne h42 h56 rfl) nm0))
  have h69 := (h43.keep u58 (nmc (Ne.symm (Blk.neK h56 h43)) nm0))
  have h70 := (h44.keep' u58 (disc (Own.ne h44 h56 rfl) dis0))
  have h71 := (h45.keep' u58 (disc (Own.ne h45 h56 rfl) dis0))
  have h72 := (h48.keep u58 (nmc (Blk.ne h48 h56 rfl) nm0))
  have h73 := (h49.keep' u58 (disc (Own.ne h49 h56 rfl) dis0))
  have h74 := (h29.keep u58 (nmc (Blk.ne h29 h56 rfl) nm0))
  have h75 := (h30.keep u58 (nmc (Blk.ne h30 h56 rfl) nm0))
  have h76 := (h32.keep u58 (nmc (Blk.ne h32 h56 rfl) nm0))
  have h77 := (h33.keep u58 (nmc (Blk.ne h33 h56 rfl) nm0))
  have h78 := (h35.keep u58 (nmc (Blk.ne h35 h56 rfl) nm0))
  refine CW.ret fun a ha => ?_
  try simp (decide := true) only [Exit.inBlock, Exit.then, ↓reduceIte]
  exact fin ha.defers (res_tmp rfl ha rfl _) ⟨rfl, br25, bi26, bp27, brw28, _, _, _, _, _, _, h74, h75, (by have := g31; have := u5.size; have := u55.size; omega), h76, h77, (by have := g34; have := u5.size; have := u55.size; omega), h78, h68, h69, h70, h71, (fun b hb => by have := h46 b hb; have := u5.size; have := u55.size; omega), (fun b hb => (h47 b hb).imp_right (fun h => by have := u5.size; have := u55.size; omega)), h72, h73, (fun b hb => (h50 b hb).imp_right (fun h => by have := u5.size; have := u55.size; omega)), ((((u5.trans u55).trans u51).trans u58).sub (by intro k hk hl; simp only [Option.mem_toList, Option.mem_def, List.mem_append, List.mem_cons, List.not_mem_nil, or_false, false_or] at hk ⊢; have := u5.size; have := u55.size; have := u51.size; have := u58.size; have := g57; grind))⟩

theorem mins68_2 {w : World} {t sh S cps : Nat} {h1 h2 : Value} {mx : Int} {sat F n scp : Nat} {sao : Option Addr} {smx nx wr : Int} (ht : Blk w t [.slice (some ⟨sh, 0, none⟩) 2 cps, h1, h2, .pointer (some ⟨S, 0, none⟩), .int .i64 mx, .slice none 0 0, .slice none 0 0] 116) (hS : Blk w S [.slice sao n scp, .map (some sat), .pointer (some ⟨F, 0, none⟩), .int .i64 smx, .int .i64 nx, .int .i64 wr] 121) {idx : List (Int × Value)} (hA : KMap ki w sat idx) {xs : List Value} (hO : Own w (.slice sao n scp) 214 3 n xs) {fa : Option Addr} {fc : Nat} {fb : Value} (hF : Blk w F [.slice fa 0 fc, fb] 246)  {lg : Nat} {lao : Option Addr} {m lcp : Nat} {fns : List Value} (hl : Blk w lg [.slice lao m lcp] 126) (hlo : Own w (.slice lao m lcp) 1 1 m fns) {vb : Nat} {x y : Int} {rest : List Value} (hs : Blk w sh (.string (⟨#[97]⟩) :: .int .i64 1 :: .string (⟨#[98]⟩) :: .int .i64 1 :: rest) 51) (hv : Blk w vb [.int .i64 1, .int .i64 x, .string ByteArray.empty, .float .f64 0, .int .i64 1, .int .i64 y, .string ByteArray.empty, .float .f64 0] 58) (hcp : 2 ≤ cps) (hfull : ((idx.length : Nat) : Int) < mx) {p hub base m_ wt pl bm bv bid : Nat} {msao : Option Addr} {msk mscp : Nat} {iv : Int} (hp : Blk w p [.pointer (some ⟨t, 0, none⟩), .pointer (some ⟨hub, 0, none⟩), .map (some base)] 87) (hm_ : Blk w m_ [.map (some pl), .pointer (some ⟨lg, 0, none⟩), .slice msao msk mscp, .pointer (some ⟨wt, 0, none⟩), .bool true] 75) (hbm : Blk w bm [.pointer (some ⟨m_, 0, none⟩)] 24) (hbv : Blk w bv [.slice (some ⟨vb, 0, none⟩) 2 2] 38) (hbid : Blk w bid [.int .i64 iv] 2) {bf bp2 : Nat} (hbf : Blk w bf [.func (.func 40) #[] #[.pointer (some ⟨bm, 0, none⟩), .pointer (some ⟨bv, 0, none⟩), .pointer (some ⟨bid, 0, none⟩)]] 100) (hbp2 : Blk w bp2 [.pointer (some ⟨p, 0, none⟩)] 77) (hnew : look idx nx = none) (hroom : ((idx.length : Nat) : Int) < smx) (hn : n ≤ 100000) (hw : -1000000 ≤ wr ∧ wr ≤ 1000000) (hx : -1000000 ≤ nx ∧ nx ≤ 1000000) (hm : m ≤ 90000) :
    Ret Tryz.prog 68 #[.pointer (some ⟨bf, 0, none⟩), .pointer (some ⟨bp2, 0, none⟩)] w fun v w' => v = .nilIface ∧ ∃ br bi bp brw sao' scp' ao cp lao' lcp', Blk w' br [.pointer (some ⟨S, 0, none⟩)] 63 ∧ Blk w' bi [.int .i64 nx] 2 ∧ w.heap.size ≤ bi ∧ Blk w' bp [.pointer (some ⟨p, 0, none⟩)] 77 ∧ Blk w' brw [.int .i64 nx] 2 ∧ w.heap.size ≤ brw ∧ Blk w' bid [.int .i64 nx] 2 ∧ Blk w' S [.slice sao' (n + 1) scp', .map (some sat), .pointer (some ⟨F, 0, none⟩), .int .i64 smx, .int .i64 (nx + 1), .int .i64 (wr + 1)] 121 ∧ KMap ki w' sat (idx ++ [(nx, .int .i64 ((n : Nat) : Int))]) ∧ Own w' (.slice sao' (n + 1) scp') 214 3 (n + 1) (setAll (xs ++ [.int .i64 0, .int .i64 0, .slice none 0 0]) (n * 3) [.int .i64 nx, .int .i64 1, .slice ao 2 cp]) ∧ Own w' (.slice ao 2 cp) 58 4 2 [.int .i64 1, .int .i64 x, .string ByteArray.empty, .float .f64 0, .int .i64 1, .int .i64 y, .string ByteArray.empty, .float .f64 0] ∧ (∀ b, (Value.slice ao 2 cp).ownBlock = some b → w.heap.size ≤ b) ∧ (∀ b, (Value.slice sao' (n + 1) scp').ownBlock = some b → (Value.slice sao n scp).ownBlock = some b ∨ w.heap.size ≤ b) ∧ Blk w' lg [.slice lao' (m + 1 + 1) lcp'] 126 ∧ Own w' (.slice lao' (m + 1 + 1) lcp') 1 1 (m + 1 + 1) (fns ++ [.func (.func 79) #[] #[.pointer (some ⟨br, 0, none⟩), .pointer (some ⟨bi, 0, none⟩)]] ++ [.func (.func 43) #[] #[.pointer (some ⟨bp, 0, none⟩), .pointer (some ⟨brw, 0, none⟩)]]) ∧ (∀ b, (Value.slice lao' (m + 1 + 1) lcp').ownBlock = some b → (Value.slice lao m lcp).ownBlock = some b ∨ w.heap.size ≤ b) ∧ Only ([S, sat, lg, bid] ++ (Value.slice sao n scp).ownBlock.toList ++ (Value.slice lao m lcp).ownBlock.toList) w w' := by
  refine enterL (args := [.pointer (some ⟨bf, 0, none⟩), .pointer (some ⟨bp2, 0, none⟩)]) Tryz.func68 rfl rfl rfl ?_
  refine CW.seq fun K1 hK1 => ?_
  refine CW.region ?_
  refine WL.to (E' := [(0, .pointer (some ⟨bf, 0, none⟩)), (1, .pointer (some ⟨bp2, 0, none⟩)), (2, .nilIface)]) 1 [0, 1, 2] (by kernel_rfl) ?_
  refine WL.nil ?_
  refine hK1 _ _ _ ?_
  refine CW.seq fun K2 hK2 => ?_
  refine CW.region ?_
  refine WL.load1 rfl agg100 rfl rfl hbf rfl ?_
  refine WL.load1 rfl agg77 rfl rfl hbp2 rfl ?_
  refine WL.call rfl rfl rfl rfl ent40 rfl (mins2 ht hS hA hO hF hl hlo hs hv (by omega) (by omega) hp hm_ hbm hbv hbid hnew (by omega) (by omega) (by omega) (by omega) (by omega)) ?_
  rintro _ w3 ⟨rfl, br4, bi5, bp6, brw7, ao15, cp16, ao17, cp18, ao19, cp20, h8, h9, g10, h11, h12, g13, h14, h21, h22, h23, h24, h25, h26, h27, h28, h29, u30⟩
  refine WL.to (E' := [(2, .nilIface)]) 1 [2] (by kernel_rfl) ?_
  refine WL.nil ?_
  refine hK2 _ _ _ ?_
  refine CW.ret fun a ha => ?_
  try simp (decide := true) only [Exit.inBlock, Exit.then, ↓reduceIte]
  exact fin ha.defers (res_tmp rfl ha rfl _) ⟨rfl, br4, bi5, bp6, brw7, _, _, _, _, _, _, h8, h9, (by have := g10; omega), h11, h12, (by have := g13; omega), h14, h21, h22, h23, h24, (fun b hb => by have := h25 b hb; omega), (fun b hb => (h26 b hb).imp_right (fun h => by omega)), h27, h28, (fun b hb => (h29 b hb).imp_right (fun h => by omega)), (u30.sub (by intro k hk hl; simp only [Option.mem_toList, Option.mem_def, List.mem_append, List.mem_cons, List.not_mem_nil, or_false, false_or] at hk ⊢; have := u30.size; grind))⟩

theorem mins66_2 {w : World} {t sh S cps : Nat} {h1 h2 : Value} {mx : Int} {sat F n scp : Nat} {sao : Option Addr} {smx nx wr : Int} (ht : Blk w t [.slice (some ⟨sh, 0, none⟩) 2 cps, h1, h2, .pointer (some ⟨S, 0, none⟩), .int .i64 mx, .slice none 0 0, .slice none 0 0] 116) (hS : Blk w S [.slice sao n scp, .map (some sat), .pointer (some ⟨F, 0, none⟩), .int .i64 smx, .int .i64 nx, .int .i64 wr] 121) {idx : List (Int × Value)} (hA : KMap ki w sat idx) {xs : List Value} (hO : Own w (.slice sao n scp) 214 3 n xs) {fa : Option Addr} {fc : Nat} {fb : Value} (hF : Blk w F [.slice fa 0 fc, fb] 246)  {lg : Nat} {lao : Option Addr} {m lcp : Nat} {fns : List Value} (hl : Blk w lg [.slice lao m lcp] 126) (hlo : Own w (.slice lao m lcp) 1 1 m fns) {vb : Nat} {x y : Int} {rest : List Value} (hs : Blk w sh (.string (⟨#[97]⟩) :: .int .i64 1 :: .string (⟨#[98]⟩) :: .int .i64 1 :: rest) 51) (hv : Blk w vb [.int .i64 1, .int .i64 x, .string ByteArray.empty, .float .f64 0, .int .i64 1, .int .i64 y, .string ByteArray.empty, .float .f64 0] 58) (hcp : 2 ≤ cps) (hfull : ((idx.length : Nat) : Int) < mx) {p hub base m_ wt pl bm bv bid : Nat} {msao : Option Addr} {msk mscp : Nat} {iv : Int} (hp : Blk w p [.pointer (some ⟨t, 0, none⟩), .pointer (some ⟨hub, 0, none⟩), .map (some base)] 87) (hm_ : Blk w m_ [.map (some pl), .pointer (some ⟨lg, 0, none⟩), .slice msao msk mscp, .pointer (some ⟨wt, 0, none⟩), .bool true] 75) (hbm : Blk w bm [.pointer (some ⟨m_, 0, none⟩)] 24) (hbv : Blk w bv [.slice (some ⟨vb, 0, none⟩) 2 2] 38) (hbid : Blk w bid [.int .i64 iv] 2) {bf bm3 : Nat} (hbf : Blk w bf [.func (.func 40) #[] #[.pointer (some ⟨bm, 0, none⟩), .pointer (some ⟨bv, 0, none⟩), .pointer (some ⟨bid, 0, none⟩)]] 100) (hbm3 : Blk w bm3 [.pointer (some ⟨m_, 0, none⟩)] 24) (hmsk : 0 < msk) (hnew : look idx nx = none) (hroom : ((idx.length : Nat) : Int) < smx) (hn : n ≤ 100000) (hw : -1000000 ≤ wr ∧ wr ≤ 1000000) (hx : -1000000 ≤ nx ∧ nx ≤ 1000000) (hm : m ≤ 90000) :
    Ret Tryz.prog 66 #[.pointer (some ⟨p, 0, none⟩), .pointer (some ⟨bm3, 0, none⟩), .pointer (some ⟨bf, 0, none⟩)] w fun v w' => v = .nilIface ∧ ∃ br bi bp brw sao' scp' ao cp lao' lcp', Blk w' br [.pointer (some ⟨S, 0, none⟩)] 63 ∧ Blk w' bi [.int .i64 nx] 2 ∧ w.heap.size ≤ bi ∧ Blk w' bp [.pointer (some ⟨p, 0, none⟩)] 77 ∧ Blk w' brw [.int .i64 nx] 2 ∧ w.heap.size ≤ brw ∧ Blk w' bid [.int .i64 nx] 2 ∧ Blk w' S [.slice sao' (n + 1) scp', .map (some sat), .pointer (some ⟨F, 0, none⟩), .int .i64 smx, .int .i64 (nx + 1), .int .i64 (wr + 1)] 121 ∧ KMap ki w' sat (idx ++ [(nx, .int .i64 ((n : Nat) : Int))]) ∧ Own w' (.slice sao' (n + 1) scp') 214 3 (n + 1) (setAll (xs ++ [.int .i64 0, .int .i64 0, .slice none 0 0]) (n * 3) [.int .i64 nx, .int .i64 1, .slice ao 2 cp]) ∧ Own w' (.slice ao 2 cp) 58 4 2 [.int .i64 1, .int .i64 x, .string ByteArray.empty, .float .f64 0, .int .i64 1, .int .i64 y, .string ByteArray.empty, .float .f64 0] ∧ (∀ b, (Value.slice ao 2 cp).ownBlock = some b → w.heap.size ≤ b) ∧ (∀ b, (Value.slice sao' (n + 1) scp').ownBlock = some b → (Value.slice sao n scp).ownBlock = some b ∨ w.heap.size ≤ b) ∧ Blk w' lg [.slice lao' (m + 1 + 1) lcp'] 126 ∧ Own w' (.slice lao' (m + 1 + 1) lcp') 1 1 (m + 1 + 1) (fns ++ [.func (.func 79) #[] #[.pointer (some ⟨br, 0, none⟩), .pointer (some ⟨bi, 0, none⟩)]] ++ [.func (.func 43) #[] #[.pointer (some ⟨bp, 0, none⟩), .pointer (some ⟨brw, 0, none⟩)]]) ∧ (∀ b, (Value.slice lao' (m + 1 + 1) lcp').ownBlock = some b → (Value.slice lao m lcp).ownBlock = some b ∨ w.heap.size ≤ b) ∧ Only ([S, sat, lg, bid] ++ (Value.slice sao n scp).ownBlock.toList ++ (Value.slice lao m lcp).ownBlock.toList) w w' := by
  refine enterL (args := [.pointer (some ⟨p, 0, none⟩), .pointer (some ⟨bm3, 0, none⟩), .pointer (some ⟨bf, 0, none⟩)]) Tryz.func66 rfl rfl rfl ?_
  refine CW.seq fun K1 hK1 => ?_
  refine CW.region ?_
  refine WL.box (cs := [.pointer (some ⟨p, 0, none⟩)]) rfl rfl rfl rfl ?_
  intro w2 b3 h4 u5 g6
  refine WL.to (E' := [(1, .pointer (some ⟨bm3, 0, none⟩)), (2, .pointer (some ⟨bf, 0, none⟩)), (3, .pointer (some ⟨b3, 0, none⟩)), (4, .nilIface)]) 1 [1, 2, 3, 4] (by kernel_rfl) ?_
  refine WL.nil ?_
  refine hK1 _ _ _ ?_
  refine CW.seq fun K7 hK7 => ?_
  refine CW.seq fun K8 hK8 => ?_
  refine CW.region ?_
  have h9 := (hbm3.keep u5 nm0)
  refine WL.load1 rfl agg24 rfl rfl h9 rfl ?_
  refine WL.to (E' := [(1, .pointer (some ⟨bm3, 0, none⟩)), (2, .pointer (some ⟨bf, 0, none⟩)), (3, .pointer (some ⟨b3, 0, none⟩)), (4, .nilIface), (8, .pointer (some ⟨m_, 1, none⟩))]) 2 [1, 2, 3, 4, 8] (by kernel_rfl) ?_
  have h10 := (hm_.keep u5 nm0)
  refine WL.load1 rfl agg70 rfl rfl h10 rfl ?_
  refine WL.to (E' := [(1, .pointer (some ⟨bm3, 0, none⟩)), (4, .nilIface), (9, .pointer (some ⟨lg, 0, none⟩)), (10, .func (.func 68) #[] #[.pointer (some ⟨bf, 0, none⟩), .pointer (some ⟨b3, 0, none⟩)])]) 1 [1, 4, 9, 10] (by kernel_rfl) ?_
  have h11 := (hS.keep u5 nm0)
  have h12 := (hA.keep u5 nm0)
  have h13 := (hO.keep' u5 dis0)
  have h14 := (hF.keep u5 nm0)
  have h15 := (hl.keep u5 nm0)
  have h16 := (hlo.keep' u5 dis0)
  have h17 := (ht.keep u5 nm0)
  have h18 := (hs.keep u5 nm0)
  have h19 := (hv.keep u5 nm0)
  have h20 := (hp.keep u5 nm0)
  have h21 := (hbm.keep u5 nm0)
  have h22 := (hbv.keep u5 nm0)
  have h23 := (hbid.keep u5 nm0)
  have h24 := (hbf.keep u5 nm0)
  refine WL.call rfl rfl rfl rfl ent67 rfl (do_of (S := ([S, sat, lg, bid] ++ (.slice sao n scp : Value).ownBlock.toList ++ (.slice lao m lcp : Value).ownBlock.toList)) ent68 h15 (by intro b hb; simp only [List.mem_append, List.mem_cons, List.not_mem_nil, or_false, false_or] at hb; have := h11.lt; have := h12.lt; have := h15.lt; have := h23.lt; have := @Own.lt' _ _ _ _ _ b _ h13; have := @Own.lt' _ _ _ _ _ b _ h16; grind) (fun w1 u1 => mins68_2 (h17.keep u1 nm0) (h11.keep u1 nm0) (h12.keep u1 nm0) (h13.keep' u1 dis0) (h14.keep u1 nm0) (h15.keep u1 nm0) (h16.keep' u1 dis0) (h18.keep u1 nm0) (h19.keep u1 nm0) (by omega) (by omega) (h20.keep u1 nm0) (h10.keep u1 nm0) (h21.keep u1 nm0) (h22.keep u1 nm0) (h23.keep u1 nm0) (h24.keep u1 nm0) (h4.keep u1 nm0) hnew (by omega) (by omega) (by omega) (by omega) (by omega)) (by rintro w1 v w2 ⟨rfl, _, _, _, _, _, _, _, _, _, _, _, _, _, _, _, _, _, _, _, _, _, _, _, _, _, _, u⟩; exact ⟨rfl, u⟩)) ?_
  rintro _ w59 ⟨rfl, w52, w53, b54, u55, ⟨_, br25, bi26, bp27, brw28, ao36, cp37, ao38, cp39, ao40, cp41, h29, h30, g31, h32, h33, g34, h35, h42, h43, h44, h45, h46, h47, h48, h49, h50, u51⟩, h56, g57, u58⟩
  refine WL.to (E' := [(1, .pointer (some ⟨bm3, 0, none⟩)), (4, .nilIface), (5, .nilIface)]) 1 [1, 4, 5] (by kernel_rfl) ?_
  refine WL.nil ?_
  refine hK8 _ _ _ ?_
  refine CW.seq fun K60 hK60 => ?_
  refine CW.region ?_
  refine WL.to (E' := [(1, .pointer (some ⟨bm3, 0, none⟩)), (4, .nilIface), (5, .nilIface), (13, .bool false)]) 2 [1, 4, 5, 13] (by kernel_rfl) ?_
  refine WL.nil ?_
  refine hK60 _ _ _ ?_
  refine CW.condF rfl ?_
  refine CW.skip ?_
  refine hK7 _ _ _ ?_
  refine CW.seq fun K61 hK61 => ?_
  refine CW.region ?_
  have h62 := (h9.keep u55 nm0)
  have h63 := (h62.keep u51 (nma (nma (nmc (Blk.ne h62 (h11.keep u55 nm0) rfl) (nmc (Blk.neK h62 (h12.keep u55 nm0)) (nmc (Blk.ne h62 (h15.keep u55 nm0) rfl) (nmc (Blk.ne h62 (h23.keep u55 nm0) rfl) nm0)))) (Own.ne (h13.keep' u55 dis0) h62 rfl)) (Own.ne (h16.keep' u55 dis0) h62 rfl)))
  have h64 := (h63.keep u58 (nmc (Blk.ne h63 h56 rfl) nm0))
  refine WL.load1 rfl agg24 rfl rfl h64 rfl ?_
  have h65 := (h10.keep u55 nm0)
  have h66 := (h65.keep u51 (nma (nma (nmc (Blk.ne h65 (h11.keep u55 nm0) rfl) (nmc (Blk.neK h65 (h12.keep u55 nm0)) (nmc (Blk.ne h65 (h15.keep u55 nm0) rfl) (nmc (Blk.ne h65 (h23.keep u55 nm0) rfl) nm0)))) (Own.ne (h13.keep' u55 dis0) h65 rfl)) (Own.ne (h16.keep' u55 dis0) h65 rfl)))
  have h67 := (h66.keep u58 (nmc (Blk.ne h66 h56 rfl) nm0))
  refine WL.callQ (v := .nilIface) rfl rfl rfl rfl ent47 rfl (commits_open h67 (by omega)) ?_
  refine WL.to (E' := [(4, .nilIface)]) 1 [4] (by kernel_rfl) ?_
  refine WL.nil ?_
  refine hK61 _ _ _ ?_
  have h68 := (h42.keep u58 (nmc (Blk.ne h42 h56 rfl) nm0))
  have h69 := (h43.keep u58 (nmc (Ne.symm (Blk.neK h56 h43)) nm0))
  have h70 := (h44.keep' u58 (disc (Own.ne h44 h56 rfl) dis0))
  have h71 := (h45.keep' u58 (disc (Own.ne h45 h56 rfl) dis0))
  have h72 := (h48.keep u58 (nmc (Blk.ne h48 h56 rfl) nm0))
  have h73 := (h49.keep' u58 (disc (Own.ne h49 h56 rfl) dis0))
  have h74 := (h29.keep u58 (nmc (Blk.ne h29 h56 rfl) nm0))
  have h75 := (h30.keep u58 (nmc (Blk.ne h30 h56 rfl) nm0))
  have h76 := (h32.keep u58 (nmc (Blk.ne h32 h56 rfl) nm0))
  have h77 := (h33.keep u58 (nmc (Blk.ne h33 h56 rfl) nm0))
  have h78 := (h35.keep u58 (nmc (Blk.ne h35 h56 rfl) nm0))
  refine CW.ret fun a ha => ?_
  try simp (decide := true) only [Exit.inBlock, Exit.then, ↓reduceIte]
  exact fin ha.defers (res_tmp rfl ha rfl _) ⟨rfl, br25, bi26, bp27, brw28, _, _, _, _, _, _, h74, h75, (by have := g31; have := u5.size; have := u55.size; omega), h76, h77, (by have := g34; have := u5.size; have := u55.size; omega), h78, h68, h69, h70, h71, (fun b hb => by have := h46 b hb; have := u5.size; have := u55.size; omega), (fun b hb => (h47 b hb).imp_right (fun h => by have := u5.size; have := u55.size; omega)), h72, h73, (fun b hb => (h50 b hb).imp_right (fun h => by have := u5.size; have := u55.size; omega)), ((((u5.trans u55).trans u51).trans u58).sub (by intro k hk hl; simp only [Option.mem_toList, Option.mem_def, List.mem_append, List.mem_cons, List.not_mem_nil, or_false, false_or] at hk ⊢; have := u5.size; have := u55.size; have := u51.size; have := u58.size; have := g57; grind))⟩
end Go.K

namespace Go.K
open Go.Proofs
set_option maxRecDepth 8000
set_option maxHeartbeats 1000000
set_option linter.unusedSimpArgs false
set_option linter.unusedVariables false
theorem mins103_1 {w : World} {t sh S cps : Nat} {h1 h2 : Value} {mx : Int} {sat F n scp : Nat} {sao : Option Addr} {smx nx wr : Int} (ht : Blk w t [.slice (some ⟨sh, 0, none⟩) 1 cps, h1, h2, .pointer (some ⟨S, 0, none⟩), .int .i64 mx, .slice none 0 0, .slice none 0 0] 116) (hS : Blk w S [.slice sao n scp, .map (some sat), .pointer (some ⟨F, 0, none⟩), .int .i64 smx, .int .i64 nx, .int .i64 wr] 121) {idx : List (Int × Value)} (hA : KMap ki w sat idx) {xs : List Value} (hO : Own w (.slice sao n scp) 214 3 n xs) {fa : Option Addr} {fc : Nat} {fb : Value} (hF : Blk w F [.slice fa 0 fc, fb] 246)  {lg : Nat} {lao : Option Addr} {m lcp : Nat} {fns : List Value} (hl : Blk w lg [.slice lao m lcp] 126) (hlo : Own w (.slice lao m lcp) 1 1 m fns) {vb : Nat} {x : Int} {rest : List Value} {c : UInt8} (hc : 97 ≤ c.toNat ∧ c.toNat ≤ 122) (hs : Blk w sh (.string (⟨#[c]⟩) :: .int .i64 1 :: rest) 51) (hv : Blk w vb [.int .i64 1, .int .i64 x, .string ByteArray.empty, .float .f64 0] 58) (hcp : 1 ≤ cps) (hfull : ((idx.length : Nat) : Int) < mx) {p hub base m_ wt pl bm bv bid : Nat} {msao : Option Addr} {msk mscp : Nat} {iv : Int} (hp : Blk w p [.pointer (some ⟨t, 0, none⟩), .pointer (some ⟨hub, 0, none⟩), .map (some base)] 87) (hm_ : Blk w m_ [.map (some pl), .pointer (some ⟨lg, 0, none⟩), .slice msao msk mscp, .pointer (some ⟨wt, 0, none⟩), .bool true] 75) (hbm : Blk w bm [.pointer (some ⟨m_, 0, none⟩)] 24) (hbv : Blk w bv [.slice (some ⟨vb, 0, none⟩) 1 1] 38) (hbid : Blk w bid [.int .i64 iv] 2) {bf bm3 : Nat} (hbf : Blk w bf [.func (.func 40) #[] #[.pointer (some ⟨bm, 0, none⟩), .pointer (some ⟨bv, 0, none⟩), .pointer (some ⟨bid, 0, none⟩)]] 100) (hbm3 : Blk w bm3 [.pointer (some ⟨m_, 0, none⟩)] 24) (hmsk : 0 < msk) {plm : List (ByteArray × Value)} {nm : ByteArray} (hpl : KMap ks w pl plm) (hlk : look plm nm = some (.pointer (some ⟨p, 0, none⟩))) {bm4 bnm bf66 : Nat} (hbm4 : Blk w bm4 [.pointer (some ⟨m_, 0, none⟩)] 24) (hbnm : Blk w bnm [.string nm] 9) (hbf66 : Blk w bf66 [.func (.func 66) #[] #[.pointer (some ⟨bm3, 0, none⟩), .pointer (some ⟨bf, 0, none⟩)]] 100) (hnew : look idx nx = none) (hroom : ((idx.length : Nat) : Int) < smx) (hn : n ≤ 100000) (hw : -1000000 ≤ wr ∧ wr ≤ 1000000) (hx : -1000000 ≤ nx ∧ nx ≤ 1000000) (hm : m ≤ 90000) :
    Ret Tryz.prog 103 #[.pointer (some ⟨bm4, 0, none⟩), .pointer (some ⟨bnm, 0, none⟩), .pointer (some ⟨bf66, 0, none⟩)] w fun v w' => v = .nilIface ∧ ∃ br bi bp brw sao' scp' ao cp lao' lcp', Blk w' br [.pointer (some ⟨S, 0, none⟩)] 63 ∧ Blk w' bi [.int .i64 nx] 2 ∧ w.heap.size ≤ bi ∧ Blk w' bp [.pointer (some ⟨p, 0, none⟩)] 77 ∧ Blk w' brw [.int .i64 nx] 2 ∧ w.heap.size ≤ brw ∧ Blk w' bid [.int .i64 nx] 2 ∧ Blk w' m_ [.map (some pl), .pointer (some ⟨lg, 0, none⟩), .slice msao msk mscp, .pointer (some ⟨wt, 0, none⟩), .bool true] 75 ∧ Blk w' S [.slice sao' (n + 1) scp', .map (some sat), .pointer (some ⟨F, 0, none⟩), .int .i64 smx, .int .i64 (nx + 1), .int .i64 (wr + 1)] 121 ∧ KMap ki w' sat (idx ++ [(nx, .int .i64 ((n : Nat) : Int))]) ∧ Own w' (.slice sao' (n + 1) scp') 214 3 (n + 1) (setAll (xs ++ [.int .i64 0, .int .i64 0, .slice none 0 0]) (n * 3) [.int .i64 nx, .int .i64 1, .slice ao 1 cp]) ∧ Own w' (.slice ao 1 cp) 58 4 1 [.int .i64 1, .int .i64 x, .string ByteArray.empty, .float .f64 0] ∧ (∀ b, (Value.slice ao 1 cp).ownBlock = some b → w.heap.size ≤ b) ∧ (∀ b, (Value.slice sao' (n + 1) scp').ownBlock = some b → (Value.slice sao n scp).ownBlock = some b ∨ w.heap.size ≤ b) ∧ Blk w' lg [.slice lao' (m + 1 + 1) lcp'] 126 ∧ Own w' (.slice lao' (m + 1 + 1) lcp') 1 1 (m + 1 + 1) (fns ++ [.func (.func 79) #[] #[.pointer (some ⟨br, 0, none⟩), .pointer (some ⟨bi, 0, none⟩)]] ++ [.func (.func 43) #[] #[.pointer (some ⟨bp, 0, none⟩), .pointer (some ⟨brw, 0, none⟩)]]) ∧ (∀ b, (Value.slice lao' (m + 1 + 1) lcp').ownBlock = some b → (Value.slice lao m lcp).ownBlock = some b ∨ w.heap.size ≤ b) ∧ Only ([S, sat, lg, bid] ++ (Value.slice sao n scp).ownBlock.toList ++ (Value.slice lao m lcp).ownBlock.toList) w w' := by
  refine enterL (args := [.pointer (some ⟨bm4, 0, none⟩), .pointer (some ⟨bnm, 0, none⟩), .pointer (some ⟨bf66, 0, none⟩)]) Tryz.func103 rfl rfl rfl ?_
  refine CW.seq fun K1 hK1 => ?_
  refine CW.region ?_
  refine WL.to (E' := [(0, .pointer (some ⟨bm4, 0, none⟩)), (1, .pointer (some ⟨bnm, 0, none⟩)), (2, .pointer (some ⟨bf66, 0, none⟩)), (3, .nilIface)]) 1 [0, 1, 2, 3] (by kernel_rfl) ?_
  refine WL.nil ?_
  refine hK1 _ _ _ ?_
  refine CW.seq fun K2 hK2 => ?_
  refine CW.still (by kernel_rfl) (by kernel_rfl) ?_
  intro w3 e5 u4
  have h6 := (hbm4.keep u4 nm0)
  refine ST.load1 rfl agg24 rfl rfl h6 rfl ?_
  refine ST.to (E' := [(1, .pointer (some ⟨bnm, 0, none⟩)), (2, .pointer (some ⟨bf66, 0, none⟩)), (3, .nilIface), (9, .pointer (some ⟨m_, 0, none⟩))]) 2 [1, 2, 3, 9] (by kernel_rfl) ?_
  have h7 := (hm_.keep u4 nm0)
  refine ST.load1 rfl agg69 rfl rfl h7 rfl ?_
  have h8 := (hbnm.keep u4 nm0)
  refine ST.load1 rfl agg9 rfl rfl h8 rfl ?_
  have h9 := (hpl.keep u4 nm0)
  refine ST.lookB (κ := ks) (a := nm) true rfl rfl law_s Tryz.underlying69 Tryz.underlying9 zer77 rfl rfl h9 ?_
  refine ST.chg 12 (.tuple #[.pointer (some ⟨p, 0, none⟩), .bool true]) rfl (by rw [(hlk : look plm nm = some (.pointer (some ⟨p, 0, none⟩)))]; rfl) ?_
  refine ST.to (E' := [(2, .pointer (some ⟨bf66, 0, none⟩)), (3, .nilIface), (4, .pointer (some ⟨p, 0, none⟩)), (5, .bool true)]) 5 [2, 3, 4, 5] (by kernel_rfl) ?_
  refine ST.nil ?_
  refine hK2 _ _ _ ?_
  refine CW.seq fun K10 hK10 => ?_
  refine CW.seq fun K11 hK11 => ?_
  refine CW.region ?_
  refine WL.to (E' := [(2, .pointer (some ⟨bf66, 0, none⟩)), (3, .nilIface), (4, .pointer (some ⟨p, 0, none⟩)), (16, .bool false)]) 2 [2, 3, 4, 16] (by kernel_rfl) ?_
  refine WL.nil ?_
  refine hK11 _ _ _ ?_
  refine CW.condF rfl ?_
  refine CW.skip ?_
  refine hK10 _ _ _ ?_
  refine CW.seq fun K12 hK12 => ?_
  refine CW.region ?_
  have h13 := (hbf66.keep u4 nm0)
  refine WL.load1 rfl agg100 rfl rfl h13 rfl ?_
  refine WL.to (E' := [(3, .nilIface), (18, .func (.func 66) #[] #[.pointer (some ⟨bm3, 0, none⟩), .pointer (some ⟨bf, 0, none⟩)]), (19, .pointer (some ⟨p, 0, none⟩))]) 1 [3, 18, 19] (by kernel_rfl) ?_
  have h14 := (hS.keep u4 nm0)
  have h15 := (hA.keep u4 nm0)
  have h16 := (hO.keep' u4 dis0)
  have h17 := (hF.keep u4 nm0)
  have h18 := (hl.keep u4 nm0)
  have h19 := (hlo.keep' u4 dis0)
  have h20 := (ht.keep u4 nm0)
  have h21 := (hs.keep u4 nm0)
  have h22 := (hv.keep u4 nm0)
  have h23 := (hp.keep u4 nm0)
  have h24 := (hbm.keep u4 nm0)
  have h25 := (hbv.keep u4 nm0)
  have h26 := (hbid.keep u4 nm0)
  have h27 := (hbf.keep u4 nm0)
  have h28 := (hbm3.keep u4 nm0)
  refine WL.call rfl rfl rfl rfl ent66 rfl (mins66_1 h20 h14 h15 h16 h17 h18 h19 hc h21 h22 (by omega) (by omega) h23 h7 h24 h25 h26 h27 h28 (by omega) hnew (by omega) (by omega) (by omega) (by omega) (by omega)) ?_
  rintro _ w29 ⟨rfl, br30, bi31, bp32, brw33, ao41, cp42, ao43, cp44, ao45, cp46, h34, h35, g36, h37, h38, g39, h40, h47, h48, h49, h50, h51, h52, h53, h54, h55, u56⟩
  refine WL.to (E' := [(3, .nilIface)]) 1 [3] (by kernel_rfl) ?_
  refine WL.nil ?_
  refine hK12 _ _ _ ?_
  have h57 := (h7.keep u56 (nma (nma (nmc (Blk.ne h7 h14 rfl) (nmc (Blk.neK h7 h15) (nmc (Blk.ne h7 h18 rfl) (nmc (Blk.ne h7 h26 rfl) nm0)))) (Own.ne h16 h7 rfl)) (Own.ne h19 h7 rfl)))
  refine CW.ret fun a ha => ?_
  try simp (decide := true) only [Exit.inBlock, Exit.then, ↓reduceIte]
  exact fin ha.defers (res_tmp rfl ha rfl _) ⟨rfl, br30, bi31, bp32, brw33, _, _, _, _, _, _, h34, h35, (by have := g36; have := u4.size; omega), h37, h38, (by have := g39; have := u4.size; omega), h40, h57, h47, h48, h49, h50, (fun b hb => by have := h51 b hb; have := u4.size; omega), (fun b hb => (h52 b hb).imp_right (fun h => by have := u4.size; omega)), h53, h54, (fun b hb => (h55 b hb).imp_right (fun h => by have := u4.size; omega)), ((u4.trans u56).sub (by intro k hk hl; simp only [Option.mem_toList, Option.mem_def, List.mem_append, List.mem_cons, List.not_mem_nil, or_false, false_or] at hk ⊢; have := u4.size; have := u56.size; grind))⟩

theorem mins65_1 {w : World} {t sh S cps : Nat} {h1 h2 : Value} {mx : Int} {sat F n scp : Nat} {sao : Option Addr} {smx nx wr : Int} (ht : Blk w t [.slice (some ⟨sh, 0, none⟩) 1 cps, h1, h2, .pointer (some ⟨S, 0, none⟩), .int .i64 mx, .slice none 0 0, .slice none 0 0] 116) (hS : Blk w S [.slice sao n scp, .map (some sat), .pointer (some ⟨F, 0, none⟩), .int .i64 smx, .int .i64 nx, .int .i64 wr] 121) {idx : List (Int × Value)} (hA : KMap ki w sat idx) {xs : List Value} (hO : Own w (.slice sao n scp) 214 3 n xs) {fa : Option Addr} {fc : Nat} {fb : Value} (hF : Blk w F [.slice fa 0 fc, fb] 246)  {lg : Nat} {lao : Option Addr} {m lcp : Nat} {fns : List Value} (hl : Blk w lg [.slice lao m lcp] 126) (hlo : Own w (.slice lao m lcp) 1 1 m fns) {vb : Nat} {x : Int} {rest : List Value} {c : UInt8} (hc : 97 ≤ c.toNat ∧ c.toNat ≤ 122) (hs : Blk w sh (.string (⟨#[c]⟩) :: .int .i64 1 :: rest) 51) (hv : Blk w vb [.int .i64 1, .int .i64 x, .string ByteArray.empty, .float .f64 0] 58) (hcp : 1 ≤ cps) (hfull : ((idx.length : Nat) : Int) < mx) {p hub base m_ wt pl bm bv bid : Nat} {msao : Option Addr} {msk mscp : Nat} {iv : Int} (hp : Blk w p [.pointer (some ⟨t, 0, none⟩), .pointer (some ⟨hub, 0, none⟩), .map (some base)] 87) (hm_ : Blk w m_ [.map (some pl), .pointer (some ⟨lg, 0, none⟩), .slice msao msk mscp, .pointer (some ⟨wt, 0, none⟩), .bool false] 75) (hbm : Blk w bm [.pointer (some ⟨m_, 0, none⟩)] 24) (hbv : Blk w bv [.slice (some ⟨vb, 0, none⟩) 1 1] 38) (hbid : Blk w bid [.int .i64 iv] 2) {bf bm3 : Nat} (hbf : Blk w bf [.func (.func 40) #[] #[.pointer (some ⟨bm, 0, none⟩), .pointer (some ⟨bv, 0, none⟩), .pointer (some ⟨bid, 0, none⟩)]] 100) (hbm3 : Blk w bm3 [.pointer (some ⟨m_, 0, none⟩)] 24) (hmsk : 0 < msk) {plm : List (ByteArray × Value)} {nm : ByteArray} (hpl : KMap ks w pl plm) (hlk : look plm nm = some (.pointer (some ⟨p, 0, none⟩))) (hnew : look idx nx = none) (hroom : ((idx.length : Nat) : Int) < smx) (hn : n ≤ 100000) (hw : -1000000 ≤ wr ∧ wr ≤ 1000000) (hx : -1000000 ≤ nx ∧ nx ≤ 1000000) (hm : m ≤ 90000) :
    Ret Tryz.prog 65 #[.pointer (some ⟨m_, 0, none⟩), .string nm, .func (.func 66) #[] #[.pointer (some ⟨bm3, 0, none⟩), .pointer (some ⟨bf, 0, none⟩)]] w fun v w' => v = .nilIface ∧ ∃ br bi bp brw sao' scp' ao cp lao' lcp', Blk w' br [.pointer (some ⟨S, 0, none⟩)] 63 ∧ Blk w' bi [.int .i64 nx] 2 ∧ w.heap.size ≤ bi ∧ Blk w' bp [.pointer (some ⟨p, 0, none⟩)] 77 ∧ Blk w' brw [.int .i64 nx] 2 ∧ w.heap.size ≤ brw ∧ Blk w' bid [.int .i64 nx] 2 ∧ Blk w' m_ [.map (some pl), .pointer (some ⟨lg, 0, none⟩), .slice msao msk mscp, .pointer (some ⟨wt, 0, none⟩), .bool false] 75 ∧ Blk w' S [.slice sao' (n + 1) scp', .map (some sat), .pointer (some ⟨F, 0, none⟩), .int .i64 smx, .int .i64 (nx + 1), .int .i64 (wr + 1)] 121 ∧ KMap ki w' sat (idx ++ [(nx, .int .i64 ((n : Nat) : Int))]) ∧ Own w' (.slice sao' (n + 1) scp') 214 3 (n + 1) (setAll (xs ++ [.int .i64 0, .int .i64 0, .slice none 0 0]) (n * 3) [.int .i64 nx, .int .i64 1, .slice ao 1 cp]) ∧ Own w' (.slice ao 1 cp) 58 4 1 [.int .i64 1, .int .i64 x, .string ByteArray.empty, .float .f64 0] ∧ (∀ b, (Value.slice ao 1 cp).ownBlock = some b → w.heap.size ≤ b) ∧ (∀ b, (Value.slice sao' (n + 1) scp').ownBlock = some b → (Value.slice sao n scp).ownBlock = some b ∨ w.heap.size ≤ b) ∧ Blk w' lg [.slice lao' (m + 1 + 1) lcp'] 126 ∧ Own w' (.slice lao' (m + 1 + 1) lcp') 1 1 (m + 1 + 1) (fns ++ [.func (.func 79) #[] #[.pointer (some ⟨br, 0, none⟩), .pointer (some ⟨bi, 0, none⟩)]] ++ [.func (.func 43) #[] #[.pointer (some ⟨bp, 0, none⟩), .pointer (some ⟨brw, 0, none⟩)]]) ∧ (∀ b, (Value.slice lao' (m + 1 + 1) lcp').ownBlock = some b → (Value.slice lao m lcp).ownBlock = some b ∨ w.heap.size ≤ b) ∧ Only ([S, sat, lg, bid, m_] ++ (Value.slice sao n scp).ownBlock.toList ++ (Value.slice lao m lcp).ownBlock.toList) w w' := by
  refine enterL (args := [.pointer (some ⟨m_, 0, none⟩), .string nm, .func (.func 66) #[] #[.pointer (some ⟨bm3, 0, none⟩), .pointer (some ⟨bf, 0, none⟩)]]) Tryz.func65 rfl rfl rfl ?_
  refine CW.seq fun K1 hK1 => ?_
  refine CW.region ?_
  refine WL.box (cs := [.pointer (some ⟨m_, 0, none⟩)]) rfl rfl rfl rfl ?_
  intro w2 b3 h4 u5 g6
  refine WL.box (cs := [.string nm]) rfl rfl rfl rfl ?_
  intro w7 b8 h9 u10 g11
  refine WL.box (cs := [.func (.func 66) #[] #[.pointer (some ⟨bm3, 0, none⟩), .pointer (some ⟨bf, 0, none⟩)]]) rfl rfl rfl rfl ?_
  intro w12 b13 h14 u15 g16
  refine WL.to (E' := [(3, .pointer (some ⟨b3, 0, none⟩)), (4, .pointer (some ⟨b8, 0, none⟩)), (5, .pointer (some ⟨b13, 0, none⟩)), (6, .nilIface)]) 1 [3, 4, 5, 6] (by kernel_rfl) ?_
  refine WL.nil ?_
  refine hK1 _ _ _ ?_
  refine CW.seq fun K17 hK17 => ?_
  refine CW.region ?_
  have h18 := ((h4.keep u10 nm0).keep u15 nm0)
  refine WL.load1 rfl agg24 rfl rfl h18 rfl ?_
  refine WL.to (E' := [(6, .nilIface), (7, .pointer (some ⟨m_, 0, none⟩)), (8, .func (.func 103) #[] #[.pointer (some ⟨b3, 0, none⟩), .pointer (some ⟨b8, 0, none⟩), .pointer (some ⟨b13, 0, none⟩)])]) 1 [6, 7, 8] (by kernel_rfl) ?_
  have h19 := (((hS.keep u5 nm0).keep u10 nm0).keep u15 nm0)
  have h20 := (((hA.keep u5 nm0).keep u10 nm0).keep u15 nm0)
  have h21 := (((hO.keep' u5 dis0).keep' u10 dis0).keep' u15 dis0)
  have h22 := (((hF.keep u5 nm0).keep u10 nm0).keep u15 nm0)
  have h23 := (((hl.keep u5 nm0).keep u10 nm0).keep u15 nm0)
  have h24 := (((hlo.keep' u5 dis0).keep' u10 dis0).keep' u15 dis0)
  have h25 := (((ht.keep u5 nm0).keep u10 nm0).keep u15 nm0)
  have h26 := (((hs.keep u5 nm0).keep u10 nm0).keep u15 nm0)
  have h27 := (((hv.keep u5 nm0).keep u10 nm0).keep u15 nm0)
  have h28 := (((hp.keep u5 nm0).keep u10 nm0).keep u15 nm0)
  have h29 := (((hm_.keep u5 nm0).keep u10 nm0).keep u15 nm0)
  have h30 := (((hbm.keep u5 nm0).keep u10 nm0).keep u15 nm0)
  have h31 := (((hbv.keep u5 nm0).keep u10 nm0).keep u15 nm0)
  have h32 := (((hbid.keep u5 nm0).keep u10 nm0).keep u15 nm0)
  have h33 := (((hbf.keep u5 nm0).keep u10 nm0).keep u15 nm0)
  have h34 := (((hbm3.keep u5 nm0).keep u10 nm0).keep u15 nm0)
  have h35 := (((hpl.keep u5 nm0).keep u10 nm0).keep u15 nm0)
  have h36 := (h9.keep u15 nm0)
  refine WL.call rfl rfl rfl rfl ent30 rfl (alone_of (S := ([S, sat, lg, bid] ++ (.slice sao n scp : Value).ownBlock.toList ++ (.slice lao m lcp : Value).ownBlock.toList)) ent103 h29 (by intro b hb; simp only [List.mem_append, List.mem_cons, List.not_mem_nil, or_false, false_or] at hb; have := h19.lt; have := h20.lt; have := h23.lt; have := h32.lt; have := @Own.lt' _ _ _ _ _ b _ h21; have := @Own.lt' _ _ _ _ _ b _ h24; grind) (fun w1 u1 hm1 => mins103_1 (h25.keep u1 (nmc (Blk.ne h25 h29 rfl) nm0)) (h19.keep u1 (nmc (Blk.ne h19 h29 rfl) nm0)) (h20.keep u1 (nmc (Ne.symm (Blk.neK h29 h20)) nm0)) (h21.keep' u1 (disc (Own.ne h21 h29 rfl) dis0)) (h22.keep u1 (nmc (Blk.ne h22 h29 rfl) nm0)) (h23.keep u1 (nmc (Blk.ne h23 h29 rfl) nm0)) (h24.keep' u1 (disc (Own.ne h24 h29 rfl) dis0)) hc (h26.keep u1 (nmc (Blk.ne h26 h29 rfl) nm0)) (h27.keep u1 (nmc (Blk.ne h27 h29 rfl) nm0)) (by omega) (by omega) (h28.keep u1 (nmc (Blk.ne h28 h29 rfl) nm0)) hm1 (h30.keep u1 (nmc (Blk.ne h30 h29 rfl) nm0)) (h31.keep u1 (nmc (Blk.ne h31 h29 rfl) nm0)) (h32.keep u1 (nmc (Blk.ne h32 h29 rfl) nm0)) (h33.keep u1 (nmc (Blk.ne h33 h29 rfl) nm0)) (h34.keep u1 (nmc (Blk.ne h34 h29 rfl) nm0)) (by omega) (h35.keep u1 (nmc (Ne.symm (Blk.neK h29 h35)) nm0)) hlk (h18.keep u1 (nmc (Blk.ne h18 h29 rfl) nm0)) (h36.keep u1 (nmc (Blk.ne h36 h29 rfl) nm0)) (h14.keep u1 (nmc (Blk.ne h14 h29 rfl) nm0)) hnew (by omega) (by omega) (by omega) (by omega) (by omega)) (by rintro w1 v w2 ⟨rfl, _, _, _, _, _, _, _, _, _, _, _, _, _, _, _, _, _, hm2, _, _, _, _, _, _, _, _, _, u⟩; exact ⟨_, _, _, _, hm2, u⟩)) ?_
  rintro _ w71 ⟨w65, w66, x74, x75, x76, x77, u67, h73, ⟨rfl, br37, bi38, bp39, brw40, ao49, cp50, ao51, cp52, ao53, cp54, h41, h42, g43, h44, h45, g46, h47, h48, h55, h56, h57, h58, h59, h60, h61, h62, h63, u64⟩, h68, h69, u70⟩
  have e72 := Blk.inj h68 h48
  cases e72
  refine WL.to (E' := [(6, .nilIface)]) 1 [6] (by kernel_rfl) ?_
  refine WL.nil ?_
  refine hK17 _ _ _ ?_
  have h78 := (h55.keep u70 (nmc (Blk.ne h55 h68 rfl) nm0))
  have h79 := (h56.keep u70 (nmc (Ne.symm (Blk.neK h68 h56)) nm0))
  have h80 := (h57.keep' u70 (disc (Own.ne h57 h68 rfl) dis0))
  have h81 := (h58.keep' u70 (disc (Own.ne h58 h68 rfl) dis0))
  have h82 := (h61.keep u70 (nmc (Blk.ne h61 h68 rfl) nm0))
  have h83 := (h62.keep' u70 (disc (Own.ne h62 h68 rfl) dis0))
  have h84 := (h41.keep u70 (nmc (Blk.ne h41 h68 rfl) nm0))
  have h85 := (h42.keep u70 (nmc (Blk.ne h42 h68 rfl) nm0))
  have h86 := (h44.keep u70 (nmc (Blk.ne h44 h68 rfl) nm0))
  have h87 := (h45.keep u70 (nmc (Blk.ne h45 h68 rfl) nm0))
  have h88 := (h47.keep u70 (nmc (Blk.ne h47 h68 rfl) nm0))
  refine CW.ret fun a ha => ?_
  try simp (decide := true) only [Exit.inBlock, Exit.then, ↓reduceIte]
  exact fin ha.defers (res_tmp rfl ha rfl _) ⟨rfl, br37, bi38, bp39, brw40, _, _, _, _, _, _, h84, h85, (by have := g43; have := u5.size; have := u10.size; have := u15.size; have := u67.size; omega), h86, h87, (by have := g46; have := u5.size; have := u10.size; have := u15.size; have := u67.size; omega), h88, h69, h78, h79, h80, h81, (fun b hb => by have := h59 b hb; have := u5.size; have := u10.size; have := u15.size; have := u67.size; omega), (fun b hb => (h60 b hb).imp_right (fun h => by have := u5.size; have := u10.size; have := u15.size; have := u67.size; omega)), h82, h83, (fun b hb => (h63 b hb).imp_right (fun h => by have := u5.size; have := u10.size; have := u15.size; have := u67.size; omega)), ((((((u5.trans u10).trans u15).trans u67).trans u64).trans u70).sub (by intro k hk hl; simp only [Option.mem_toList, Option.mem_def, List.mem_append, List.mem_cons, List.not_mem_nil, or_false, false_or] at hk ⊢; have := u5.size; have := u10.size; have := u15.size; have := u67.size; have := u64.size; have := u70.size; grind))⟩

theorem mins39_1 {w : World} {t sh S cps : Nat} {h1 h2 : Value} {mx : Int} {sat F n scp : Nat} {sao : Option Addr} {smx nx wr : Int} (ht : Blk w t [.slice (some ⟨sh, 0, none⟩) 1 cps, h1, h2, .pointer (some ⟨S, 0, none⟩), .int .i64 mx, .slice none 0 0, .slice none 0 0] 116) (hS : Blk w S [.slice sao n scp, .map (some sat), .pointer (some ⟨F, 0, none⟩), .int .i64 smx, .int .i64 nx, .int .i64 wr] 121) {idx : List (Int × Value)} (hA : KMap ki w sat idx) {xs : List Value} (hO : Own w (.slice sao n scp) 214 3 n xs) {fa : Option Addr} {fc : Nat} {fb : Value} (hF : Blk w F [.slice fa 0 fc, fb] 246)  {lg : Nat} {lao : Option Addr} {m lcp : Nat} {fns : List Value} (hl : Blk w lg [.slice lao m lcp] 126) (hlo : Own w (.slice lao m lcp) 1 1 m fns) {vb : Nat} {x : Int} {rest : List Value} {c : UInt8} (hc : 97 ≤ c.toNat ∧ c.toNat ≤ 122) (hs : Blk w sh (.string (⟨#[c]⟩) :: .int .i64 1 :: rest) 51) (hv : Blk w vb [.int .i64 1, .int .i64 x, .string ByteArray.empty, .float .f64 0] 58) (hcp : 1 ≤ cps) (hfull : ((idx.length : Nat) : Int) < mx) {p hub base m_ wt pl bm bv bid : Nat} {msao : Option Addr} {msk mscp : Nat} {iv : Int} (hp : Blk w p [.pointer (some ⟨t, 0, none⟩), .pointer (some ⟨hub, 0, none⟩), .map (some base)] 87) (hm_ : Blk w m_ [.map (some pl), .pointer (some ⟨lg, 0, none⟩), .slice msao msk mscp, .pointer (some ⟨wt, 0, none⟩), .bool false] 75) (hbm : Blk w bm [.pointer (some ⟨m_, 0, none⟩)] 24) (hbv : Blk w bv [.slice (some ⟨vb, 0, none⟩) 1 1] 38) (hbid : Blk w bid [.int .i64 iv] 2) (hmsk : 0 < msk) {plm : List (ByteArray × Value)} {nm : ByteArray} (hpl : KMap ks w pl plm) (hlk : look plm nm = some (.pointer (some ⟨p, 0, none⟩))) (hnew : look idx nx = none) (hroom : ((idx.length : Nat) : Int) < smx) (hn : n ≤ 100000) (hw : -1000000 ≤ wr ∧ wr ≤ 1000000) (hx : -1000000 ≤ nx ∧ nx ≤ 1000000) (hm : m ≤ 90000) :
    Ret Tryz.prog 39 #[.pointer (some ⟨m_, 0, none⟩), .string nm, .func (.func 40) #[] #[.pointer (some ⟨bm, 0, none⟩), .pointer (some ⟨bv, 0, none⟩), .pointer (some ⟨bid, 0, none⟩)]] w fun v w' => v = .nilIface ∧ ∃ br bi bp brw sao' scp' ao cp lao' lcp', Blk w' br [.pointer (some ⟨S, 0, none⟩)] 63 ∧ Blk w' bi [.int .i64 nx] 2 ∧ w.heap.size ≤ bi ∧ Blk w' bp [.pointer (some ⟨p, 0, none⟩)] 77 ∧ Blk w' brw [.int .i64 nx] 2 ∧ w.heap.size ≤ brw ∧ Blk w' bid [.int .i64 nx] 2 ∧ Blk w' m_ [.map (some pl), .pointer (some ⟨lg, 0, none⟩), .slice msao msk mscp, .pointer (some ⟨wt, 0, none⟩), .bool false] 75 ∧ Blk w' S [.slice sao' (n + 1) scp', .map (some sat), .pointer (some ⟨F, 0, none⟩), .int .i64 smx, .int .i64 (nx + 1), .int .i64 (wr + 1)] 121 ∧ KMap ki w' sat (idx ++ [(nx, .int .i64 ((n : Nat) : Int))]) ∧ Own w' (.slice sao' (n + 1) scp') 214 3 (n + 1) (setAll (xs ++ [.int .i64 0, .int .i64 0, .slice none 0 0]) (n * 3) [.int .i64 nx, .int .i64 1, .slice ao 1 cp]) ∧ Own w' (.slice ao 1 cp) 58 4 1 [.int .i64 1, .int .i64 x, .string ByteArray.empty, .float .f64 0] ∧ (∀ b, (Value.slice ao 1 cp).ownBlock = some b → w.heap.size ≤ b) ∧ (∀ b, (Value.slice sao' (n + 1) scp').ownBlock = some b → (Value.slice sao n scp).ownBlock = some b ∨ w.heap.size ≤ b) ∧ Blk w' lg [.slice lao' (m + 1 + 1) lcp'] 126 ∧ Own w' (.slice lao' (m + 1 + 1) lcp') 1 1 (m + 1 + 1) (fns ++ [.func (.func 79) #[] #[.pointer (some ⟨br, 0, none⟩), .pointer (some ⟨bi, 0, none⟩)]] ++ [.func (.func 43) #[] #[.pointer (some ⟨bp, 0, none⟩), .pointer (some ⟨brw, 0, none⟩)]]) ∧ (∀ b, (Value.slice lao' (m + 1 + 1) lcp').ownBlock = some b → (Value.slice lao m lcp).ownBlock = some b ∨ w.heap.size ≤ b) ∧ Only ([S, sat, lg, bid, m_] ++ (Value.slice sao n scp).ownBlock.toList ++ (Value.slice lao m lcp).ownBlock.toList) w w' := by
  refine enterL (args := [.pointer (some ⟨m_, 0, none⟩), .string nm, .func (.func 40) #[] #[.pointer (some ⟨bm, 0, none⟩), .pointer (some ⟨bv, 0, none⟩), .pointer (some ⟨bid, 0, none⟩)]]) Tryz.func39 rfl rfl rfl ?_
  refine CW.seq fun K1 hK1 => ?_
  refine CW.region ?_
  refine WL.box (cs := [.pointer (some ⟨m_, 0, none⟩)]) rfl rfl rfl rfl ?_
  intro w2 b3 h4 u5 g6
  refine WL.box (cs := [.func (.func 40) #[] #[.pointer (some ⟨bm, 0, none⟩), .pointer (some ⟨bv, 0, none⟩), .pointer (some ⟨bid, 0, none⟩)]]) rfl rfl rfl rfl ?_
  intro w7 b8 h9 u10 g11
  refine WL.to (E' := [(1, .string nm), (3, .pointer (some ⟨b3, 0, none⟩)), (5, .pointer (some ⟨b8, 0, none⟩)), (6, .nilIface)]) 1 [1, 3, 5, 6] (by kernel_rfl) ?_
  refine WL.nil ?_
  refine hK1 _ _ _ ?_
  refine CW.seq fun K12 hK12 => ?_
  refine CW.region ?_
  have h13 := (h4.keep u10 nm0)
  refine WL.load1 rfl agg24 rfl rfl h13 rfl ?_
  refine WL.to (E' := [(6, .nilIface), (7, .pointer (some ⟨m_, 0, none⟩)), (8, .string nm), (9, .func (.func 66) #[] #[.pointer (some ⟨b3, 0, none⟩), .pointer (some ⟨b8, 0, none⟩)])]) 2 [6, 7, 8, 9] (by kernel_rfl) ?_
  have h14 := ((hS.keep u5 nm0).keep u10 nm0)
  have h15 := ((hA.keep u5 nm0).keep u10 nm0)
  have h16 := ((hO.keep' u5 dis0).keep' u10 dis0)
  have h17 := ((hF.keep u5 nm0).keep u10 nm0)
  have h18 := ((hl.keep u5 nm0).keep u10 nm0)
  have h19 := ((hlo.keep' u5 dis0).keep' u10 dis0)
  have h20 := ((ht.keep u5 nm0).keep u10 nm0)
  have h21 := ((hs.keep u5 nm0).keep u10 nm0)
  have h22 := ((hv.keep u5 nm0).keep u10 nm0)
  have h23 := ((hp.keep u5 nm0).keep u10 nm0)
  have h24 := ((hm_.keep u5 nm0).keep u10 nm0)
  have h25 := ((hbm.keep u5 nm0).keep u10 nm0)
  have h26 := ((hbv.keep u5 nm0).keep u10 nm0)
  have h27 := ((hbid.keep u5 nm0).keep u10 nm0)
  have h28 := ((hpl.keep u5 nm0).keep u10 nm0)
  refine WL.call rfl rfl rfl rfl ent65 rfl (mins65_1 h20 h14 h15 h16 h17 h18 h19 hc h21 h22 (by omega) (by omega) h23 h24 h25 h26 h27 h9 h13 (by omega) h28 hlk hnew (by omega) (by omega) (by omega) (by omega) (by omega)) ?_
  rintro _ w29 ⟨rfl, br30, bi31, bp32, brw33, ao42, cp43, ao44, cp45, ao46, cp47, h34, h35, g36, h37, h38, g39, h40, h41, h48, h49, h50, h51, h52, h53, h54, h55, h56, u57⟩
  refine WL.to (E' := [(6, .nilIface)]) 1 [6] (by kernel_rfl) ?_
  refine WL.nil ?_
  refine hK12 _ _ _ ?_
  refine CW.ret fun a ha => ?_
  try simp (decide := true) only [Exit.inBlock, Exit.then, ↓reduceIte]
  exact fin ha.defers (res_tmp rfl ha rfl _) ⟨rfl, br30, bi31, bp32, brw33, _, _, _, _, _, _, h34, h35, (by have := g36; have := u5.size; have := u10.size; omega), h37, h38, (by have := g39; have := u5.size; have := u10.size; omega), h40, h41, h48, h49, h50, h51, (fun b hb => by have := h52 b hb; have := u5.size; have := u10.size; omega), (fun b hb => (h53 b hb).imp_right (fun h => by have := u5.size; have := u10.size; omega)), h54, h55, (fun b hb => (h56 b hb).imp_right (fun h => by have := u5.size; have := u10.size; omega)), (((u5.trans u10).trans u57).sub (by intro k hk hl; simp only [Option.mem_toList, Option.mem_def, List.mem_append, List.mem_cons, List.not_mem_nil, or_false, false_or] at hk ⊢; have := u5.size; have := u10.size; have := u57.size; grind))⟩

theorem mins103_2 {w : World} {t sh S cps : Nat} {h1 h2 : Value} {mx : Int} {sat F n scp : Nat} {sao : Option Addr} {smx nx wr : Int} (ht : Blk w t [.slice (some ⟨sh, 0, none⟩) 2 cps, h1, h2, .pointer (some ⟨S, 0, none⟩), .int .i64 mx, .slice none 0 0, .slice none 0 0] 116) (hS : Blk w S [.slice sao n scp, .map (some sat), .pointer (some ⟨F, 0, none⟩), .int .i64 smx, .int .i64 nx, .int .i64 wr] 121) {idx : List (Int × Value)} (hA : KMap ki w sat idx) {xs : List Value} (hO : Own w (.slice sao n scp) 214 3 n xs) {fa : Option Addr} {fc : Nat} {fb : Value} (hF : Blk w F [.slice fa 0 fc, fb] 246)  {lg : Nat} {lao : Option Addr} {m lcp : Nat} {fns : List Value} (hl : Blk w lg [.slice lao m lcp] 126) (hlo : Own w (.slice lao m lcp) 1 1 m fns) {vb : Nat} {x y : Int} {rest : List Value} (hs : Blk w sh (.string (⟨#[97]⟩) :: .int .i64 1 :: .string (⟨#[98]⟩) :: .int .i64 1 :: rest) 51) (hv : Blk w vb [.int .i64 1, .int .i64 x, .string ByteArray.empty, .float .f64 0, .int .i64 1, .int .i64 y, .string ByteArray.empty, .float .f64 0] 58) (hcp : 2 ≤ cps) (hfull : ((idx.length : Nat) : Int) < mx) {p hub base m_ wt pl bm bv bid : Nat} {msao : Option Addr} {msk mscp : Nat} {iv : Int} (hp : Blk w p [.pointer (some ⟨t, 0, none⟩), .pointer (some ⟨hub, 0, none⟩), .map (some base)] 87) (hm_ : Blk w m_ [.map (some pl), .pointer (some ⟨lg, 0, none⟩), .slice msao msk mscp, .pointer (some ⟨wt, 0, none⟩), .bool true] 75) (hbm : Blk w bm [.pointer (some ⟨m_, 0, none⟩)] 24) (hbv : Blk w bv [.slice (some ⟨vb, 0, none⟩) 2 2] 38) (hbid : Blk w bid [.int .i64 iv] 2) {bf bm3 : Nat} (hbf : Blk w bf [.func (.func 40) #[] #[.pointer (some ⟨bm, 0, none⟩), .pointer (some ⟨bv, 0, none⟩), .pointer (some ⟨bid, 0, none⟩)]] 100) (hbm3 : Blk w bm3 [.pointer (some ⟨m_, 0, none⟩)] 24) (hmsk : 0 < msk) {plm : List (ByteArray × Value)} {nm : ByteArray} (hpl : KMap ks w pl plm) (hlk : look plm nm = some (.pointer (some ⟨p, 0, none⟩))) {bm4 bnm bf66 : Nat} (hbm4 : Blk w bm4 [.pointer (some ⟨m_, 0, none⟩)] 24) (hbnm : Blk w bnm [.string nm] 9) (hbf66 : Blk w bf66 [.func (.func 66) #[] #[.pointer (some ⟨bm3, 0, none⟩), .pointer (some ⟨bf, 0, none⟩)]] 100) (hnew : look idx nx = none) (hroom : ((idx.length : Nat) : Int) < smx) (hn : n ≤ 100000) (hw : -1000000 ≤ wr ∧ wr ≤ 1000000) (hx : -1000000 ≤ nx ∧ nx ≤ 1000000) (hm : m ≤ 90000) :
    Ret Tryz.prog 103 #[.pointer (some ⟨bm4, 0, none⟩), .pointer (some ⟨bnm, 0, none⟩), .pointer (some ⟨bf66, 0, none⟩)] w fun v w' => v = .nilIface ∧ ∃ br bi bp brw sao' scp' ao cp lao' lcp', Blk w' br [.pointer (some ⟨S, 0, none⟩)] 63 ∧ Blk w' bi [.int .i64 nx] 2 ∧ w.heap.size ≤ bi ∧ Blk w' bp [.pointer (some ⟨p, 0, none⟩)] 77 ∧ Blk w' brw [.int .i64 nx] 2 ∧ w.heap.size ≤ brw ∧ Blk w' bid [.int .i64 nx] 2 ∧ Blk w' m_ [.map (some pl), .pointer (some ⟨lg, 0, none⟩), .slice msao msk mscp, .pointer (some ⟨wt, 0, none⟩), .bool true] 75 ∧ Blk w' S [.slice sao' (n + 1) scp', .map (some sat), .pointer (some ⟨F, 0, none⟩), .int .i64 smx, .int .i64 (nx + 1), .int .i64 (wr + 1)] 121 ∧ KMap ki w' sat (idx ++ [(nx, .int .i64 ((n : Nat) : Int))]) ∧ Own w' (.slice sao' (n + 1) scp') 214 3 (n + 1) (setAll (xs ++ [.int .i64 0, .int .i64 0, .slice none 0 0]) (n * 3) [.int .i64 nx, .int .i64 1, .slice ao 2 cp]) ∧ Own w' (.slice ao 2 cp) 58 4 2 [.int .i64 1, .int .i64 x, .string ByteArray.empty, .float .f64 0, .int .i64 1, .int .i64 y, .string ByteArray.empty, .float .f64 0] ∧ (∀ b, (Value.slice ao 2 cp).ownBlock = some b → w.heap.size ≤ b) ∧ (∀ b, (Value.slice sao' (n + 1) scp').ownBlock = some b → (Value.slice sao n scp).ownBlock = some b ∨ w.heap.size ≤ b) ∧ Blk w' lg [.slice lao' (m + 1 + 1) lcp'] 126 ∧ Own w' (.slice lao' (m + 1 + 1) lcp') 1 1 (m + 1 + 1) (fns ++ [.func (.func 79) #[] #[.pointer (some ⟨br, 0, none⟩), .pointer (some ⟨bi, 0, none⟩)]] ++ [.func (.func 43) #[] #[.pointer (some ⟨bp, 0, none⟩), .pointer (some ⟨brw, 0, none⟩)]]) ∧ (∀ b, (Value.slice lao' (m + 1 + 1) lcp').ownBlock = some b → (Value.slice lao m lcp).ownBlock = some b ∨ w.heap.size ≤ b) ∧ Only ([S, sat, lg, bid] ++ (Value.slice sao n scp).ownBlock.toList ++ (Value.slice lao m lcp).ownBlock.toList) w w' := by
  refine enterL (args := [.pointer (some ⟨bm4, 0, none⟩), .pointer (some ⟨bnm, 0, none⟩), .pointer (some ⟨bf66, 0, none⟩)]) Tryz.func103 rfl rfl rfl ?_
  refine CW.seq fun K1 hK1 => ?_
  refine CW.region ?_
  refine WL.to (E' := [(0, .pointer (some ⟨bm4, 0, none⟩)), (1, .pointer (some ⟨bnm, 0, none⟩)), (2, .pointer (some ⟨bf66, 0, none⟩)), (3, .nilIface)]) 1 [0, 1, 2, 3] (by kernel_rfl) ?_
  refine WL.nil ?_
  refine hK1 _ _ _ ?_
  refine CW.seq fun K2 hK2 => ?_
  refine CW.still (by kernel_rfl) (by kernel_rfl) ?_
  intro w3 e5 u4
  have h6 := (hbm4.keep u4 nm0)
  refine ST.load1 rfl agg24 rfl rfl h6 rfl ?_
  refine ST.to (E' := [(1, .pointer (some ⟨bnm, 0, none⟩)), (2, .pointer (some ⟨bf66, 0, none⟩)), (3, .nilIface), (9, .pointer (some ⟨m_, 0, none⟩))]) 2 [1, 2, 3, 9] (by kernel_rfl) ?_
  have h7 := (hm_.keep u4 nm0)
  refine ST.load1 rfl agg69 rfl rfl h7 rfl ?_
  have h8 := (hbnm.keep u4 nm0)
  refine ST.load1 rfl agg9 rfl rfl h8 rfl ?_
  have h9 := (hpl.keep u4 nm0)
  refine ST.lookB (κ := ks) (a := nm) true rfl rfl law_s Tryz.underlying69 Tryz.underlying9 zer77 rfl rfl h9 ?_
  refine ST.chg 12 (.tuple #[.pointer (some ⟨p, 0, none⟩), .bool true]) rfl (by rw [(hlk : look plm nm = some (.pointer (some ⟨p, 0, none⟩)))]; rfl) ?_
  refine ST.to (E' := [(2, .pointer (some ⟨bf66, 0, none⟩)), (3, .nilIface), (4, .pointer (some ⟨p, 0, none⟩)), (5, .bool true)]) 5 [2, 3, 4, 5] (by kernel_rfl) ?_
  refine ST.nil ?_
  refine hK2 _ _ _ ?_
  refine CW.seq fun K10 hK10 => ?_
  refine CW.seq fun K11 hK11 => ?_
  refine CW.region ?_
  refine WL.to (E' := [(2, .pointer (some ⟨bf66, 0, none⟩)), (3, .nilIface), (4, .pointer (some ⟨p, 0, none⟩)), (16, .bool false)]) 2 [2, 3, 4, 16] (by kernel_rfl) ?_
  refine WL.nil ?_
  refine hK11 _ _ _ ?_
  refine CW.condF rfl ?_
  refine CW.skip ?_
  refine hK10 _ _ _ ?_
  refine CW.seq fun K12 hK12 => ?_
  refine CW.region ?_
  have h13 := (hbf66.keep u4 nm0)
  refine WL.load1 rfl agg100 rfl rfl h13 rfl ?_
  refine WL.to (E' := [(3, .nilIface), (18, .func (.func 66) #[] #[.pointer (some ⟨bm3, 0, none⟩), .pointer (some ⟨bf, 0, none⟩)]), (19, .pointer (some ⟨p, 0, none⟩))]) 1 [3, 18, 19] (by kernel_rfl) ?_
  have h14 := (hS.keep u4 nm0)
  have h15 := (hA.keep u4 nm0)
  have h16 := (hO.keep' u4 dis0)
  have h17 := (hF.keep u4 nm0)
  have h18 := (hl.keep u4 nm0)
  have h19 := (hlo.keep' u4 dis0)
  have h20 := (ht.keep u4 nm0)
  have h21 := (hs.keep u4 nm0)
  have h22 := (hv.keep u4 nm0)
  have h23 := (hp.keep u4 nm0)
  have h24 := (hbm.keep u4 nm0)
  have h25 := (hbv.keep u4 nm0)
  have h26 := (hbid.keep u4 nm0)
  have h27 := (hbf.keep u4 nm0)
  have h28 := (hbm3.keep u4 nm0)
  refine WL.call rfl rfl rfl rfl ent66 rfl (mins66_2 h20 h14 h15 h16 h17 h18 h19 h21 h22 (by omega) (by omega) h23 h7 h24 h25 h26 h27 h28 (by omega) hnew (by omega) (by omega) (by omega) (by omega) (by omega)) ?_
  rintro _ w29 ⟨rfl, br30, bi31, bp32, brw33, ao41, cp42, ao43, cp44, ao45, cp46, h34, h35, g36, h37, h38, g39, h40, h47, h48, h49, h50, h51, h52, h53, h54, h55, u56⟩
  refine WL.to (E' := [(3, .nilIface)]) 1 [3] (by kernel_rfl) ?_
  refine WL.nil ?_
  refine hK12 _ _ _ ?_
  have h57 := (h7.keep u56 (nma (nma (nmc (Blk.ne h7 h14 rfl) (nmc (Blk.neK h7 h15) (nmc (Blk.ne h7 h18 rfl) (nmc (Blk.ne h7 h26 rfl) nm0)))) (Own.ne h16 h7 rfl)) (Own.ne h19 h7 rfl)))
  refine CW.ret fun a ha => ?_
  try simp (decide := true) only [Exit.inBlock, Exit.then, ↓reduceIte]
  exact fin ha.defers (res_tmp rfl ha rfl _) ⟨rfl, br30, bi31, bp32, brw33, _, _, _, _, _, _, h34, h35, (by have := g36; have := u4.size; omega), h37, h38, (by have := g39; have := u4.size; omega), h40, h57, h47, h48, h49, h50, (fun b hb => by have := h51 b hb; have := u4.size; omega), (fun b hb => (h52 b hb).imp_right (fun h => by have := u4.size; omega)), h53, h54, (fun b hb => (h55 b hb).imp_right (fun h => by have := u4.size; omega)), ((u4.trans u56).sub (by intro k hk hl; simp only [Option.mem_toList, Option.mem_def, List.mem_append, List.mem_cons, List.not_mem_nil, or_false, false_or] at hk ⊢; have := u4.size; have := u56.size; grind))⟩

theorem mins65_2 {w : World} {t sh S cps : Nat} {h1 h2 : Value} {mx : Int} {sat F n scp : Nat} {sao : Option Addr} {smx nx wr : Int} (ht : Blk w t [.slice (some ⟨sh, 0, none⟩) 2 cps, h1, h2, .pointer (some ⟨S, 0, none⟩), .int .i64 mx, .slice none 0 0, .slice none 0 0] 116) (hS : Blk w S [.slice sao n scp, .map (some sat), .pointer (some ⟨F, 0, none⟩), .int .i64 smx, .int .i64 nx, .int .i64 wr] 121) {idx : List (Int × Value)} (hA : KMap ki w sat idx) {xs : List Value} (hO : Own w (.slice sao n scp) 214 3 n xs) {fa : Option Addr} {fc : Nat} {fb : Value} (hF : Blk w F [.slice fa 0 fc, fb] 246)  {lg : Nat} {lao : Option Addr} {m lcp : Nat} {fns : List Value} (hl : Blk w lg [.slice lao m lcp] 126) (hlo : Own w (.slice lao m lcp) 1 1 m fns) {vb : Nat} {x y : Int} {rest : List Value} (hs : Blk w sh (.string (⟨#[97]⟩) :: .int .i64 1 :: .string (⟨#[98]⟩) :: .int .i64 1 :: rest) 51) (hv : Blk w vb [.int .i64 1, .int .i64 x, .string ByteArray.empty, .float .f64 0, .int .i64 1, .int .i64 y, .string ByteArray.empty, .float .f64 0] 58) (hcp : 2 ≤ cps) (hfull : ((idx.length : Nat) : Int) < mx) {p hub base m_ wt pl bm bv bid : Nat} {msao : Option Addr} {msk mscp : Nat} {iv : Int} (hp : Blk w p [.pointer (some ⟨t, 0, none⟩), .pointer (some ⟨hub, 0, none⟩), .map (some base)] 87) (hm_ : Blk w m_ [.map (some pl), .pointer (some ⟨lg, 0, none⟩), .slice msao msk mscp, .pointer (some ⟨wt, 0, none⟩), .bool false] 75) (hbm : Blk w bm [.pointer (some ⟨m_, 0, none⟩)] 24) (hbv : Blk w bv [.slice (some ⟨vb, 0, none⟩) 2 2] 38) (hbid : Blk w bid [.int .i64 iv] 2) {bf bm3 : Nat} (hbf : Blk w bf [.func (.func 40) #[] #[.pointer (some ⟨bm, 0, none⟩), .pointer (some ⟨bv, 0, none⟩), .pointer (some ⟨bid, 0, none⟩)]] 100) (hbm3 : Blk w bm3 [.pointer (some ⟨m_, 0, none⟩)] 24) (hmsk : 0 < msk) {plm : List (ByteArray × Value)} {nm : ByteArray} (hpl : KMap ks w pl plm) (hlk : look plm nm = some (.pointer (some ⟨p, 0, none⟩))) (hnew : look idx nx = none) (hroom : ((idx.length : Nat) : Int) < smx) (hn : n ≤ 100000) (hw : -1000000 ≤ wr ∧ wr ≤ 1000000) (hx : -1000000 ≤ nx ∧ nx ≤ 1000000) (hm : m ≤ 90000) :
    Ret Tryz.prog 65 #[.pointer (some ⟨m_, 0, none⟩), .string nm, .func (.func 66) #[] #[.pointer (some ⟨bm3, 0, none⟩), .pointer (some ⟨bf, 0, none⟩)]] w fun v w' => v = .nilIface ∧ ∃ br bi bp brw sao' scp' ao cp lao' lcp', Blk w' br [.pointer (some ⟨S, 0, none⟩)] 63 ∧ Blk w' bi [.int .i64 nx] 2 ∧ w.heap.size ≤ bi ∧ Blk w' bp [.pointer (some ⟨p, 0, none⟩)] 77 ∧ Blk w' brw [.int .i64 nx] 2 ∧ w.heap.size ≤ brw ∧ Blk w' bid [.int .i64 nx] 2 ∧ Blk w' m_ [.map (some pl), .pointer (some ⟨lg, 0, none⟩), .slice msao msk mscp, .pointer (some ⟨wt, 0, none⟩), .bool false] 75 ∧ Blk w' S [.slice sao' (n + 1) scp', .map (some sat), .pointer (some ⟨F, 0, none⟩), .int .i64 smx, .int .i64 (nx + 1), .int .i64 (wr + 1)] 121 ∧ KMap ki w' sat (idx ++ [(nx, .int .i64 ((n : Nat) : Int))]) ∧ Own w' (.slice sao' (n + 1) scp') 214 3 (n + 1) (setAll (xs ++ [.int .i64 0, .int .i64 0, .slice none 0 0]) (n * 3) [.int .i64 nx, .int .i64 1, .slice ao 2 cp]) ∧ Own w' (.slice ao 2 cp) 58 4 2 [.int .i64 1, .int .i64 x, .string ByteArray.empty, .float .f64 0, .int .i64 1, .int .i64 y, .string ByteArray.empty, .float .f64 0] ∧ (∀ b, (Value.slice ao 2 cp).ownBlock = some b → w.heap.size ≤ b) ∧ (∀ b, (Value.slice sao' (n + 1) scp').ownBlock = some b → (Value.slice sao n scp).ownBlock = some b ∨ w.heap.size ≤ b) ∧ Blk w' lg [.slice lao' (m + 1 + 1) lcp'] 126 ∧ Own w' (.slice lao' (m + 1 + 1) lcp') 1 1 (m + 1 + 1) (fns ++ [.func (.func 79) #[] #[.pointer (some ⟨br, 0, none⟩), .pointer (some ⟨bi, 0, none⟩)]] ++ [.func (.func 43) #[] #[.pointer (some ⟨bp, 0, none⟩), .pointer (some ⟨brw, 0, none⟩)]]) ∧ (∀ b, (Value.slice lao' (m + 1 + 1) lcp').ownBlock = some b → (Value.slice lao m lcp).ownBlock = some b ∨ w.heap.size ≤ b) ∧ Only ([S, sat, lg, bid, m_] ++ (Value.slice sao n scp).ownBlock.toList ++ (Value.slice lao m lcp).ownBlock.toList) w w' := by
  refine enterL (args := [.pointer (some ⟨m_, 0, none⟩), .string nm, .func (.func 66) #[] #[.pointer (some ⟨bm3, 0, none⟩), .pointer (some ⟨bf, 0, none⟩)]]) Tryz.func65 rfl rfl rfl ?_
  refine CW.seq fun K1 hK1 => ?_
  refine CW.region ?_
  refine WL.box (cs := [.pointer (some ⟨m_, 0, none⟩)]) rfl rfl rfl rfl ?_
  intro w2 b3 h4 u5 g6
  refine WL.box (cs := [.string nm]) rfl rfl rfl rfl ?_
  intro w7 b8 h9 u10 g11
  refine WL.box (cs := [.func (.func 66) #[] #[.pointer (some ⟨bm3, 0, none⟩), .pointer (some ⟨bf, 0, none⟩)]]) rfl rfl rfl rfl ?_
  intro w12 b13 h14 u15 g16
  refine WL.to (E' := [(3, .pointer (some ⟨b3, 0, none⟩)), (4, .pointer (some ⟨b8, 0, none⟩)), (5, .pointer (some ⟨b13, 0, none⟩)), (6, .nilIface)]) 1 [3, 4, 5, 6] (by kernel_rfl) ?_
  refine WL.nil ?_
  refine hK1 _ _ _ ?_
  refine CW.seq fun K17 hK17 => ?_
  refine CW.region ?_
  have h18 := ((h4.keep u10 nm0).keep u15 nm0)
  refine WL.load1 rfl agg24 rfl rfl h18 rfl ?_
  refine WL.to (E' := [(6, .nilIface), (7, .pointer (some ⟨m_, 0, none⟩)), (8, .func (.func 103) #[] #[.pointer (some ⟨b3, 0, none⟩), .pointer (some ⟨b8, 0, none⟩), .pointer (some ⟨b13, 0, none⟩)])]) 1 [6, 7, 8] (by kernel_rfl) ?_
  have h19 := (((hS.keep u5 nm0).keep u10 nm0).keep u15 nm0)
  have h20 := (((hA.keep u5 nm0).keep u10 nm0).keep u15 nm0)
  have h21 := (((hO.keep' u5 dis0).keep' u10 dis0).keep' u15 dis0)
  have h22 := (((hF.keep u5 nm0).keep u10 nm0).keep u15 nm0)
  have h23 := (((hl.keep u5 nm0).keep u10 nm0).keep u15 nm0)
  have h24 := (((hlo.keep' u5 dis0).keep' u10 dis0).keep' u15 dis0)
  have h25 := (((ht.keep u5 nm0).keep u10 nm0).keep u15 nm0)
  have h26 := (((hs.keep u5 nm0).keep u10 nm0).keep u15 nm0)
  have h27 := (((hv.keep u5 nm0).keep u10 nm0).keep u15 nm0)
  have h28 := (((hp.keep u5 nm0).keep u10 nm0).keep u15 nm0)
  have h29 := (((hm_.keep u5 nm0).keep u10 nm0).keep u15 nm0)
  have h30 := (((hbm.keep u5 nm0).keep u10 nm0).keep u15 nm0)
  have h31 := (((hbv.keep u5 nm0).keep u10 nm0).keep u15 nm0)
  have h32 := (((hbid.keep u5 nm0).keep u10 nm0).keep u15 nm0)
  have h33 := (((hbf.keep u5 nm0).keep u10 nm0).keep u15 nm0)
  have h34 := (((hbm3.keep u5 nm0).keep u10 nm0).keep u15 nm0)
  have h35 := (((hpl.keep u5 nm0).keep u10 nm0).keep u15 nm0)
  have h36 := (h9.keep u15 nm0)
  refine WL.call rfl rfl rfl rfl ent30 rfl (alone_of (S := ([S, sat, lg, bid] ++ (.slice sao n scp : Value).ownBlock.toList ++ (.slice lao m lcp : Value).ownBlock.toList)) ent103 h29 (by intro b hb; simp only [List.mem_append, List.mem_cons, List.not_mem_nil, or_false, false_or] at hb; have := h19.lt; have := h20.lt; have := h23.lt; have := h32.lt; have := @Own.lt' _ _ _ _ _ b _ h21; have := @Own.lt' _ _ _ _ _ b _ h24; grind) (fun w1 u1 hm1 => mins103_2 (h25.keep u1 (nmc (Blk.ne h25 h29 rfl) nm0)) (h19.keep u1 (nmc (Blk.ne h19 h29 rfl) nm0)) (h20.keep u1 (nmc (Ne.symm (Blk.neK h29 h20)) nm0)) (h21.keep' u1 (disc (Own.ne h21 h29 rfl) dis0)) (h22.keep u1 (nmc (Blk.ne h22 h29 rfl) nm0)) (h23.keep u1 (nmc (Blk.ne h23 h29 rfl) nm0)) (h24.keep' u1 (disc (Own.ne h24 h29 rfl) dis0)) (h26.keep u1 (nmc (Blk.ne h26 h29 rfl) nm0)) (h27.keep u1 (nmc (Blk.ne h27 h29 rfl) nm0)) (by omega) (by omega) (h28.keep u1 (nmc (Blk.ne h28 h29 rfl) nm0)) hm1 (h30.keep u1 (nmc (Blk.ne h30 h29 rfl) nm0)) (h31.keep u1 (nmc (Blk.ne h31 h29 rfl) nm0)) (h32.keep u1 (nmc (Blk.ne h32 h29 rfl) nm0)) (h33.keep u1 (nmc (Blk.ne h33 h29 rfl) nm0)) (h34.keep u1 (nmc (Blk.ne h34 h29 rfl) nm0)) (by omega) (h35.keep u1 (nmc (Ne.symm (Blk.neK h29 h35)) nm0)) hlk (h18.keep u1 (nmc (Blk.ne h18 h29 rfl) nm0)) (h36.keep u1 (nmc (Blk.ne h36 h29 rfl) nm0)) (h14.keep u1 (nmc (Blk.ne h14 h29 rfl) nm0)) hnew (by omega) (by omega) (by omega) (by omega) (by omega)) (by rintro w1 v w2 ⟨rfl, _, _, _, _, _, _, _, _, _, _, _, _, _, _, _, _, _, hm2, _, _, _, _, _, _, _, _, _, u⟩; exact ⟨_, _, _, _, hm2, u⟩)) ?_
  rintro _ w71 ⟨w65, w66, x74, x75, x76, x77, u67, h73, ⟨rfl, br37, bi38, bp39, brw40, ao49, cp50, ao51, cp52, ao53, cp54, h41, h42, g43, h44, h45, g46, h47, h48, h55, h56, h57, h58, h59, h60, h61, h62, h63, u64⟩, h68, h69, u70⟩
  have e72 := Blk.inj h68 h48
  cases e72
  refine WL.to (E' := [(6, .nilIface)]) 1 [6] (by kernel_rfl) ?_
  refine WL.nil ?_
  refine hK17 _ _ _ ?_
  have h78 := (h55.keep u70 (nmc (Blk.ne h55 h68 rfl) nm0))
  have h79 := (h56.keep u70 (nmc (Ne.symm (Blk.neK h68 h56)) nm0))
  have h80 := (h57.keep' u70 (disc (Own.ne h57 h68 rfl) dis0))
  have h81 := (h58.keep' u70 (disc (Own.ne h58 h68 rfl) dis0))
  have h82 := (h61.keep u70 (nmc (Blk.ne h61 h68 rfl) nm0))
  have h83 := (h62.keep' u70 (disc (Own.ne h62 h68 rfl) dis0))
  have h84 := (h41.keep u70 (nmc (Blk.ne h41 h68 rfl) nm0))
  have h85 := (h42.keep u70 (nmc (Blk.ne h42 h68 rfl) nm0))
  have h86 := (h44.keep u70 (nmc (Blk.ne h44 h68 rfl) nm0))
  have h87 := (h45.keep u70 (nmc (Blk.ne h45 h68 rfl) nm0))
  have h88 := (h47.keep u70 (nmc (Blk.ne h47 h68 rfl) nm0))
  refine CW.ret fun a ha => ?_
  try simp (decide := true) only [Exit.inBlock, Exit.then, ↓reduceIte]
  exact fin ha.defers (res_tmp rfl ha rfl _) ⟨rfl, br37, bi38, bp39, brw40, _, _, _, _, _, _, h84, h85, (by have := g43; have := u5.size; have := u10.size; have := u15.size; have := u67.size; omega), h86, h87, (by have := g46; have := u5.size; have := u10.size; have := u15.size; have := u67.size; omega), h88, h69, h78, h79, h80, h81, (fun b hb => by have := h59 b hb; have := u5.size; have := u10.size; have := u15.size; have := u67.size; omega), (fun b hb => (h60 b hb).imp_right (fun h => by have := u5.size; have := u10.size; have := u15.size; have := u67.size; omega)), h82, h83, (fun b hb => (h63 b hb).imp_right (fun h => by have := u5.size; have := u10.size; have := u15.size; have := u67.size; omega)), ((((((u5.trans u10).trans u15).trans u67).trans u64).trans u70).sub (by intro k hk hl; simp only [Option.mem_toList, Option.mem_def, List.mem_append, List.mem_cons, List.not_mem_nil, or_false, false_or] at hk ⊢; have := u5.size; have := u10.size; have := u15.size; have := u67.size; have := u64.size; have := u70.size; grind))⟩

theorem mins39_2 {w : World} {t sh S cps : Nat} {h1 h2 : Value} {mx : Int} {sat F n scp : Nat} {sao : Option Addr} {smx nx wr : Int} (ht : Blk w t [.slice (some ⟨sh, 0, none⟩) 2 cps, h1, h2, .pointer (some ⟨S, 0, none⟩), .int .i64 mx, .slice none 0 0, .slice none 0 0] 116) (hS : Blk w S [.slice sao n scp, .map (some sat), .pointer (some ⟨F, 0, none⟩), .int .i64 smx, .int .i64 nx, .int .i64 wr] 121) {idx : List (Int × Value)} (hA : KMap ki w sat idx) {xs : List Value} (hO : Own w (.slice sao n scp) 214 3 n xs) {fa : Option Addr} {fc : Nat} {fb : Value} (hF : Blk w F [.slice fa 0 fc, fb] 246)  {lg : Nat} {lao : Option Addr} {m lcp : Nat} {fns : List Value} (hl : Blk w lg [.slice lao m lcp] 126) (hlo : Own w (.slice lao m lcp) 1 1 m fns) {vb : Nat} {x y : Int} {rest : List Value} (hs : Blk w sh (.string (⟨#[97]⟩) :: .int .i64 1 :: .string (⟨#[98]⟩) :: .int .i64 1 :: rest) 51) (hv : Blk w vb [.int .i64 1, .int .i64 x, .string ByteArray.empty, .float .f64 0, .int .i64 1, .int .i64 y, .string ByteArray.empty, .float .f64 0] 58) (hcp : 2 ≤ cps) (hfull : ((idx.length : Nat) : Int) < mx) {p hub base m_ wt pl bm bv bid : Nat} {msao : Option Addr} {msk mscp : Nat} {iv : Int} (hp : Blk w p [.pointer (some ⟨t, 0, none⟩), .pointer (some ⟨hub, 0, none⟩), .map (some base)] 87) (hm_ : Blk w m_ [.map (some pl), .pointer (some ⟨lg, 0, none⟩), .slice msao msk mscp, .pointer (some ⟨wt, 0, none⟩), .bool false] 75) (hbm : Blk w bm [.pointer (some ⟨m_, 0, none⟩)] 24) (hbv : Blk w bv [.slice (some ⟨vb, 0, none⟩) 2 2] 38) (hbid : Blk w bid [.int .i64 iv] 2) (hmsk : 0 < msk) {plm : List (ByteArray × Value)} {nm : ByteArray} (hpl : KMap ks w pl plm) (hlk : look plm nm = some (.pointer (some ⟨p, 0, none⟩))) (hnew : look idx nx = none) (hroom : ((idx.length : Nat) : Int) < smx) (hn : n ≤ 100000) (hw : -1000000 ≤ wr ∧ wr ≤ 1000000) (hx : -1000000 ≤ nx ∧ nx ≤ 1000000) (hm : m ≤ 90000) :
    Ret Tryz.prog 39 #[.pointer (some ⟨m_, 0, none⟩), .string nm, .func (.func 40) #[] #[.pointer (some ⟨bm, 0, none⟩), .pointer (some ⟨bv, 0, none⟩), .pointer (some ⟨bid, 0, none⟩)]] w fun v w' => v = .nilIface ∧ ∃ br bi bp brw sao' scp' ao cp lao' lcp', Blk w' br [.pointer (some ⟨S, 0, none⟩)] 63 ∧ Blk w' bi [.int .i64 nx] 2 ∧ w.heap.size ≤ bi ∧ Blk w' bp [.pointer (some ⟨p, 0, none⟩)] 77 ∧ Blk w' brw [.int .i64 nx] 2 ∧ w.heap.size ≤ brw ∧ Blk w' bid [.int .i64 nx] 2 ∧ Blk w' m_ [.map (some pl), .pointer (some ⟨lg, 0, none⟩), .slice msao msk mscp, .pointer (some ⟨wt, 0, none⟩), .bool false] 75 ∧ Blk w' S [.slice sao' (n + 1) scp', .map (some sat), .pointer (some ⟨F, 0, none⟩), .int .i64 smx, .int .i64 (nx + 1), .int .i64 (wr + 1)] 121 ∧ KMap ki w' sat (idx ++ [(nx, .int .i64 ((n : Nat) : Int))]) ∧ Own w' (.slice sao' (n + 1) scp') 214 3 (n + 1) (setAll (xs ++ [.int .i64 0, .int .i64 0, .slice none 0 0]) (n * 3) [.int .i64 nx, .int .i64 1, .slice ao 2 cp]) ∧ Own w' (.slice ao 2 cp) 58 4 2 [.int .i64 1, .int .i64 x, .string ByteArray.empty, .float .f64 0, .int .i64 1, .int .i64 y, .string ByteArray.empty, .float .f64 0] ∧ (∀ b, (Value.slice ao 2 cp).ownBlock = some b → w.heap.size ≤ b) ∧ (∀ b, (Value.slice sao' (n + 1) scp').ownBlock = some b → (Value.slice sao n scp).ownBlock = some b ∨ w.heap.size ≤ b) ∧ Blk w' lg [.slice lao' (m + 1 + 1) lcp'] 126 ∧ Own w' (.slice lao' (m + 1 + 1) lcp') 1 1 (m + 1 + 1) (fns ++ [.func (.func 79) #[] #[.pointer (some ⟨br, 0, none⟩), .pointer (some ⟨bi, 0, none⟩)]] ++ [.func (.func 43) #[] #[.pointer (some ⟨bp, 0, none⟩), .pointer (some ⟨brw, 0, none⟩)]]) ∧ (∀ b, (Value.slice lao' (m + 1 + 1) lcp').ownBlock = some b → (Value.slice lao m lcp).ownBlock = some b ∨ w.heap.size ≤ b) ∧ Only ([S, sat, lg, bid, m_] ++ (Value.slice sao n scp).ownBlock.toList ++ (Value.slice lao m lcp).ownBlock.toList) w w' := by
  refine enterL (args := [.pointer (some ⟨m_, 0, none⟩), .string nm, .func (.func 40) #[] #[.pointer (some ⟨bm, 0, none⟩), .pointer (some ⟨bv, 0, none⟩), .pointer (some ⟨bid, 0, none⟩)]]) Tryz.func39 rfl rfl rfl ?_
  refine CW.seq fun K1 hK1 => ?_
  refine CW.region ?_
  refine WL.box (cs := [.pointer (some ⟨m_, 0, none⟩)]) rfl rfl rfl rfl ?_
  intro w2 b3 h4 u5 g6
  refine WL.box (cs := [.func (.func 40) #[] #[.pointer (some ⟨bm, 0, none⟩), .pointer (some ⟨bv, 0, none⟩), .pointer (some ⟨bid, 0, none⟩)]]) rfl rfl rfl rfl ?_
  intro w7 b8 h9 u10 g11
  refine WL.to (E' := [(1, .string nm), (3, .pointer (some ⟨b3, 0, none⟩)), (5, .pointer (some ⟨b8, 0, none⟩)), (6, .nilIface)]) 1 [1, 3, 5, 6] (by kernel_rfl) ?_
  refine WL.nil ?_
  refine hK1 _ _ _ ?_
  refine CW.seq fun K12 hK12 => ?_
  refine CW.region ?_
  have h13 := (h4.keep u10 nm0)
  refine WL.load1 rfl agg24 rfl rfl h13 rfl ?_
  refine WL.to (E' := [(6, .nilIface), (7, .pointer (some ⟨m_, 0, none⟩)), (8, .string nm), (9, .func (.func 66) #[] #[.pointer (some ⟨b3, 0, none⟩), .pointer (some ⟨b8, 0, none⟩)])]) 2 [6, 7, 8, 9] (by kernel_rfl) ?_
  have h14 := ((hS.keep u5 nm0).keep u10 nm0)
  have h15 := ((hA.keep u5 nm0).keep u10 nm0)
  have h16 := ((hO.keep' u5 dis0).keep' u10 dis0)
  have h17 := ((hF.keep u5 nm0).keep u10 nm0)
  have h18 := ((hl.keep u5 nm0).keep u10 nm0)
  have h19 := ((hlo.keep' u5 dis0).keep' u10 dis0)
  have h20 := ((ht.keep u5 nm0).keep u10 nm0)
  have h21 := ((hs.keep u5 nm0).keep u10 nm0)
  have h22 := ((hv.keep u5 nm0).keep u10 nm0)
  have h23 := ((hp.keep u5 nm0).keep u10 nm0)
  have h24 := ((hm_.keep u5 nm0).keep u10 nm0)
  have h25 := ((hbm.keep u5 nm0).keep u10 nm0)
  have h26 := ((hbv.keep u5 nm0).keep u10 nm0)
  have h27 := ((hbid.keep u5 nm0).keep u10 nm0)
  have h28 := ((hpl.keep u5 nm0).keep u10 nm0)
  refine WL.call rfl rfl rfl rfl ent65 rfl (mins65_2 h20 h14 h15 h16 h17 h18 h19 h21 h22 (by omega) (by omega) h23 h24 h25 h26 h27 h9 h13 (by omega) h28 hlk hnew (by omega) (by omega) (by omega) (by omega) (by omega)) ?_
  rintro _ w29 ⟨rfl, br30, bi31, bp32, brw33, ao42, cp43, ao44, cp45, ao46, cp47, h34, h35, g36, h37, h38, g39, h40, h41, h48, h49, h50, h51, h52, h53, h54, h55, h56, u57⟩
  refine WL.to (E' := [(6, .nilIface)]) 1 [6] (by kernel_rfl) ?_
  refine WL.nil ?_
  refine hK12 _ _ _ ?_
  refine CW.ret fun a ha => ?_
  try simp (decide := true) only [Exit.inBlock, Exit.then, ↓reduceIte]
  exact fin ha.defers (res_tmp rfl ha rfl _) ⟨rfl, br30, bi31, bp32, brw33, _, _, _, _, _, _, h34, h35, (by have := g36; have := u5.size; have := u10.size; omega), h37, h38, (by have := g39; have := u5.size; have := u10.size; omega), h40, h41, h48, h49, h50, h51, (fun b hb => by have := h52 b hb; have := u5.size; have := u10.size; omega), (fun b hb => (h53 b hb).imp_right (fun h => by have := u5.size; have := u10.size; omega)), h54, h55, (fun b hb => (h56 b hb).imp_right (fun h => by have := u5.size; have := u10.size; omega)), (((u5.trans u10).trans u57).sub (by intro k hk hl; simp only [Option.mem_toList, Option.mem_def, List.mem_append, List.mem_cons, List.not_mem_nil, or_false, false_or] at hk ⊢; have := u5.size; have := u10.size; have := u57.size; grind))⟩
end Go.K

namespace Go.K
open Go.Proofs
set_option maxRecDepth 8000
set_option maxHeartbeats 1000000
set_option linter.unusedSimpArgs false
set_option linter.unusedVariables false
theorem mins14_1 {w : World} {t sh S cps : Nat} {h1 h2 : Value} {mx : Int} {sat F n scp : Nat} {sao : Option Addr} {smx nx wr : Int} (ht : Blk w t [.slice (some ⟨sh, 0, none⟩) 1 cps, h1, h2, .pointer (some ⟨S, 0, none⟩), .int .i64 mx, .slice none 0 0, .slice none 0 0] 116) (hS : Blk w S [.slice sao n scp, .map (some sat), .pointer (some ⟨F, 0, none⟩), .int .i64 smx, .int .i64 nx, .int .i64 wr] 121) {idx : List (Int × Value)} (hA : KMap ki w sat idx) {xs : List Value} (hO : Own w (.slice sao n scp) 214 3 n xs) {fa : Option Addr} {fc : Nat} {fb : Value} (hF : Blk w F [.slice fa 0 fc, fb] 246)  {lg : Nat} {lao : Option Addr} {m lcp : Nat} {fns : List Value} (hl : Blk w lg [.slice lao m lcp] 126) (hlo : Own w (.slice lao m lcp) 1 1 m fns) {vb : Nat} {x : Int} {rest : List Value} {c : UInt8} (hc : 97 ≤ c.toNat ∧ c.toNat ≤ 122) (hs : Blk w sh (.string (⟨#[c]⟩) :: .int .i64 1 :: rest) 51) (hv : Blk w vb [.int .i64 1, .int .i64 x, .string ByteArray.empty, .float .f64 0] 58) (hcp : 1 ≤ cps) (hfull : ((idx.length : Nat) : Int) < mx) {p hub base m_ wt pl : Nat} {msao : Option Addr} {msk mscp : Nat} (hp : Blk w p [.pointer (some ⟨t, 0, none⟩), .pointer (some ⟨hub, 0, none⟩), .map (some base)] 87) (hm_ : Blk w m_ [.map (some pl), .pointer (some ⟨lg, 0, none⟩), .slice msao msk mscp, .pointer (some ⟨wt, 0, none⟩), .bool false] 75) (hmsk : 0 < msk) {plm : List (ByteArray × Value)} {nm : ByteArray} (hpl : KMap ks w pl plm) (hlk : look plm nm = some (.pointer (some ⟨p, 0, none⟩))) (hnew : look idx nx = none) (hroom : ((idx.length : Nat) : Int) < smx) (hn : n ≤ 100000) (hw : -1000000 ≤ wr ∧ wr ≤ 1000000) (hx : -1000000 ≤ nx ∧ nx ≤ 1000000) (hm : m ≤ 90000) :
    Ret Tryz.prog 14 #[.pointer (some ⟨m_, 0, none⟩), .string nm, .slice (some ⟨vb, 0, none⟩) 1 1] w fun v w' => v = .tuple #[.int .i64 nx, .nilIface] ∧ ∃ br bi bp brw sao' scp' ao cp lao' lcp', Blk w' br [.pointer (some ⟨S, 0, none⟩)] 63 ∧ Blk w' bi [.int .i64 nx] 2 ∧ w.heap.size ≤ bi ∧ Blk w' bp [.pointer (some ⟨p, 0, none⟩)] 77 ∧ Blk w' brw [.int .i64 nx] 2 ∧ w.heap.size ≤ brw ∧ Blk w' m_ [.map (some pl), .pointer (some ⟨lg, 0, none⟩), .slice msao msk mscp, .pointer (some ⟨wt, 0, none⟩), .bool false] 75 ∧ Blk w' S [.slice sao' (n + 1) scp', .map (some sat), .pointer (some ⟨F, 0, none⟩), .int .i64 smx, .int .i64 (nx + 1), .int .i64 (wr + 1)] 121 ∧ KMap ki w' sat (idx ++ [(nx, .int .i64 ((n : Nat) : Int))]) ∧ Own w' (.slice sao' (n + 1) scp') 214 3 (n + 1) (setAll (xs ++ [.int .i64 0, .int .i64 0, .slice none 0 0]) (n * 3) [.int .i64 nx, .int .i64 1, .slice ao 1 cp]) ∧ Own w' (.slice ao 1 cp) 58 4 1 [.int .i64 1, .int .i64 x, .string ByteArray.empty, .float .f64 0] ∧ (∀ b, (Value.slice ao 1 cp).ownBlock = some b → w.heap.size ≤ b) ∧ (∀ b, (Value.slice sao' (n + 1) scp').ownBlock = some b → (Value.slice sao n scp).ownBlock = some b ∨ w.heap.size ≤ b) ∧ Blk w' lg [.slice lao' (m + 1 + 1) lcp'] 126 ∧ Own w' (.slice lao' (m + 1 + 1) lcp') 1 1 (m + 1 + 1) (fns ++ [.func (.func 79) #[] #[.pointer (some ⟨br, 0, none⟩), .pointer (some ⟨bi, 0, none⟩)]] ++ [.func (.func 43) #[] #[.pointer (some ⟨bp, 0, none⟩), .pointer (some ⟨brw, 0, none⟩)]]) ∧ (∀ b, (Value.slice lao' (m + 1 + 1) lcp').ownBlock = some b → (Value.slice lao m lcp).ownBlock = some b ∨ w.heap.size ≤ b) ∧ Only ([S, sat, lg, m_] ++ (Value.slice sao n scp).ownBlock.toList ++ (Value.slice lao m lcp).ownBlock.toList) w w' := by
  refine enterL (args := [.pointer (some ⟨m_, 0, none⟩), .string nm, .slice (some ⟨vb, 0, none⟩) 1 1]) Tryz.func14 rfl rfl rfl ?_
  refine CW.seq fun K1 hK1 => ?_
  refine CW.region ?_
  refine WL.box (cs := [.pointer (some ⟨m_, 0, none⟩)]) rfl rfl rfl rfl ?_
  intro w2 b3 h4 u5 g6
  refine WL.box (cs := [.slice (some ⟨vb, 0, none⟩) 1 1]) rfl rfl rfl rfl ?_
  intro w7 b8 h9 u10 g11
  refine WL.to (E' := [(1, .string nm), (3, .pointer (some ⟨b3, 0, none⟩)), (5, .pointer (some ⟨b8, 0, none⟩)), (6, .int .i64 0), (7, .nilIface)]) 2 [1, 3, 5, 6, 7] (by kernel_rfl) ?_
  refine WL.nil ?_
  refine hK1 _ _ _ ?_
  refine CW.seq fun K12 hK12 => ?_
  refine CW.region ?_
  refine WL.alloc (cs := [.int .i64 0]) rfl rfl zer2 rfl ?_
  intro w13 b14 h15 u16 g17
  refine WL.store1 rfl siz2 rfl rfl rfl h15 rfl ?_
  intro w18 h19 u20 z21
  refine WL.nil ?_
  refine hK12 _ _ _ ?_
  refine CW.seq fun K22 hK22 => ?_
  refine CW.region ?_
  have h23 := ((h4.keep u10 nm0).keep u16 nm0)
  have h24 := (h23.keep u20 (nmc (Blk.ne h23 h15 rfl) nm0))
  refine WL.load1 rfl agg24 rfl rfl h24 rfl ?_
  refine WL.to (E' := [(6, .int .i64 0), (7, .nilIface), (8, .pointer (some ⟨b14, 0, none⟩)), (10, .pointer (some ⟨m_, 0, none⟩)), (11, .string nm), (12, .func (.func 40) #[] #[.pointer (some ⟨b3, 0, none⟩), .pointer (some ⟨b8, 0, none⟩), .pointer (some ⟨b14, 0, none⟩)])]) 2 [6, 7, 8, 10, 11, 12] (by kernel_rfl) ?_
  have h25 := (((hS.keep u5 nm0).keep u10 nm0).keep u16 nm0)
  have h26 := (h25.keep u20 (nmc (Blk.ne h25 h15 rfl) nm0))
  have h27 := (((hA.keep u5 nm0).keep u10 nm0).keep u16 nm0)
  have h28 := (h27.keep u20 (nmc (Ne.symm (Blk.neK h15 h27)) nm0))
  have h29 := (((hO.keep' u5 dis0).keep' u10 dis0).keep' u16 dis0)
  have h30 := (h29.keep' u20 (disc (Own.ne h29 h15 rfl) dis0))
  have h31 := (((hF.keep u5 nm0).keep u10 nm0).keep u16 nm0)
  have h32 := (h31.keep u20 (nmc (Blk.ne h31 h15 rfl) nm0))
  have h33 := (((hl.keep u5 nm0).keep u10 nm0).keep u16 nm0)
  have h34 := (h33.keep u20 (nmc (Blk.ne h33 h15 rfl) nm0))
  have h35 := (((hlo.keep' u5 dis0).keep' u10 dis0).keep' u16 dis0)
  have h36 := (h35.keep' u20 (disc (Own.ne h35 h15 rfl) dis0))
  have h37 := (((ht.keep u5 nm0).keep u10 nm0).keep u16 nm0)
  have h38 := (h37.keep u20 (nmc (Blk.ne h37 h15 rfl) nm0))
  have h39 := (((hs.keep u5 nm0).keep u10 nm0).keep u16 nm0)
  have h40 := (h39.keep u20 (nmc (Blk.ne h39 h15 rfl) nm0))
  have h41 := (((hv.keep u5 nm0).keep u10 nm0).keep u16 nm0)
  have h42 := (h41.keep u20 (nmc (Blk.ne h41 h15 rfl) nm0))
  have h43 := (((hp.keep u5 nm0).keep u10 nm0).keep u16 nm0)
  have h44 := (h43.keep u20 (nmc (Blk.ne h43 h15 rfl) nm0))
  have h45 := (((hm_.keep u5 nm0).keep u10 nm0).keep u16 nm0)
  have h46 := (h45.keep u20 (nmc (Blk.ne h45 h15 rfl) nm0))
  have h47 := (h9.keep u16 nm0)
  have h48 := (h47.keep u20 (nmc (Blk.ne h47 h15 rfl) nm0))
  have h49 := (((hpl.keep u5 nm0).keep u10 nm0).keep u16 nm0)
  have h50 := (h49.keep u20 (nmc (Ne.symm (Blk.neK h15 h49)) nm0))
  refine WL.call rfl rfl rfl rfl ent39 rfl (mins39_1 h38 h26 h28 h30 h32 h34 h36 hc h40 h42 (by omega) (by omega) h44 h46 h24 h48 h19 (by omega) h50 hlk hnew (by omega) (by omega) (by omega) (by omega) (by omega)) ?_
  rintro _ w51 ⟨rfl, br52, bi53, bp54, brw55, ao64, cp65, ao66, cp67, ao68, cp69, h56, h57, g58, h59, h60, g61, h62, h63, h70, h71, h72, h73, h74, h75, h76, h77, h78, u79⟩
  refine WL.to (E' := [(6, .int .i64 0), (7, .nilIface), (8, .pointer (some ⟨b14, 0, none⟩)), (9, .nilIface)]) 1 [6, 7, 8, 9] (by kernel_rfl) ?_
  refine WL.nil ?_
  refine hK22 _ _ _ ?_
  refine CW.seq fun K80 hK80 => ?_
  refine CW.region ?_
  refine WL.load1 rfl agg2 rfl rfl h62 rfl ?_
  refine WL.to (E' := [(6, .int .i64 nx), (7, .nilIface)]) 3 [6, 7] (by kernel_rfl) ?_
  refine WL.nil ?_
  refine hK80 _ _ _ ?_
  refine CW.ret fun a ha => ?_
  try simp (decide := true) only [Exit.inBlock, Exit.then, ↓reduceIte]
  exact fin ha.defers (res_tmp2 rfl ha rfl rfl _) ⟨rfl, br52, bi53, bp54, brw55, _, _, _, _, _, _, h56, h57, (by have := g58; have := u5.size; have := u10.size; have := u16.size; have := u20.size; omega), h59, h60, (by have := g61; have := u5.size; have := u10.size; have := u16.size; have := u20.size; omega), h63, h70, h71, h72, h73, (fun b hb => by have := h74 b hb; have := u5.size; have := u10.size; have := u16.size; have := u20.size; omega), (fun b hb => (h75 b hb).imp_right (fun h => by have := u5.size; have := u10.size; have := u16.size; have := u20.size; omega)), h76, h77, (fun b hb => (h78 b hb).imp_right (fun h => by have := u5.size; have := u10.size; have := u16.size; have := u20.size; omega)), (((((u5.trans u10).trans u16).trans u20).trans u79).sub (by intro k hk hl; simp only [Option.mem_toList, Option.mem_def, List.mem_append, List.mem_cons, List.not_mem_nil, or_false, false_or] at hk ⊢; have := u5.size; have := u10.size; have := u16.size; have := u20.size; have := u79.size; have := g17; grind))⟩

theorem mins14_2 {w : World} {t sh S cps : Nat} {h1 h2 : Value} {mx : Int} {sat F n scp : Nat} {sao : Option Addr} {smx nx wr : Int} (ht : Blk w t [.slice (some ⟨sh, 0, none⟩) 2 cps, h1, h2, .pointer (some ⟨S, 0, none⟩), .int .i64 mx, .slice none 0 0, .slice none 0 0] 116) (hS : Blk w S [.slice sao n scp, .map (some sat), .pointer (some ⟨F, 0, none⟩), .int .i64 smx, .int .i64 nx, .int .i64 wr] 121) {idx : List (Int × Value)} (hA : KMap ki w sat idx) {xs : List Value} (hO : Own w (.slice sao n scp) 214 3 n xs) {fa : Option Addr} {fc : Nat} {fb : Value} (hF : Blk w F [.slice fa 0 fc, fb] 246)  {lg : Nat} {lao : Option Addr} {m lcp : Nat} {fns : List Value} (hl : Blk w lg [.slice lao m lcp] 126) (hlo : Own w (.slice lao m lcp) 1 1 m fns) {vb : Nat} {x y : Int} {rest : List Value} (hs : Blk w sh (.string (⟨#[97]⟩) :: .int .i64 1 :: .string (⟨#[98]⟩) :: .int .i64 1 :: rest) 51) (hv : Blk w vb [.int .i64 1, .int .i64 x, .string ByteArray.empty, .float .f64 0, .int .i64 1, .int .i64 y, .string ByteArray.empty, .float .f64 0] 58) (hcp : 2 ≤ cps) (hfull : ((idx.length : Nat) : Int) < mx) {p hub base m_ wt pl : Nat} {msao : Option Addr} {msk mscp : Nat} (hp : Blk w p [.pointer (some ⟨t, 0, none⟩), .pointer (some ⟨hub, 0, none⟩), .map (some base)] 87) (hm_ : Blk w m_ [.map (some pl), .pointer (some ⟨lg, 0, none⟩), .slice msao msk mscp, .pointer (some ⟨wt, 0, none⟩), .bool false] 75) (hmsk : 0 < msk) {plm : List (ByteArray × Value)} {nm : ByteArray} (hpl : KMap ks w pl plm) (hlk : look plm nm = some (.pointer (some ⟨p, 0, none⟩))) (hnew : look idx nx = none) (hroom : ((idx.length : Nat) : Int) < smx) (hn : n ≤ 100000) (hw : -1000000 ≤ wr ∧ wr ≤ 1000000) (hx : -1000000 ≤ nx ∧ nx ≤ 1000000) (hm : m ≤ 90000) :
    Ret Tryz.prog 14 #[.pointer (some ⟨m_, 0, none⟩), .string nm, .slice (some ⟨vb, 0, none⟩) 2 2] w fun v w' => v = .tuple #[.int .i64 nx, .nilIface] ∧ ∃ br bi bp brw sao' scp' ao cp lao' lcp', Blk w' br [.pointer (some ⟨S, 0, none⟩)] 63 ∧ Blk w' bi [.int .i64 nx] 2 ∧ w.heap.size ≤ bi ∧ Blk w' bp [.pointer (some ⟨p, 0, none⟩)] 77 ∧ Blk w' brw [.int .i64 nx] 2 ∧ w.heap.size ≤ brw ∧ Blk w' m_ [.map (some pl), .pointer (some ⟨lg, 0, none⟩), .slice msao msk mscp, .pointer (some ⟨wt, 0, none⟩), .bool false] 75 ∧ Blk w' S [.slice sao' (n + 1) scp', .map (some sat), .pointer (some ⟨F, 0, none⟩), .int .i64 smx, .int .i64 (nx + 1), .int .i64 (wr + 1)] 121 ∧ KMap ki w' sat (idx ++ [(nx, .int .i64 ((n : Nat) : Int))]) ∧ Own w' (.slice sao' (n + 1) scp') 214 3 (n + 1) (setAll (xs ++ [.int .i64 0, .int .i64 0, .slice none 0 0]) (n * 3) [.int .i64 nx, .int .i64 1, .slice ao 2 cp]) ∧ Own w' (.slice ao 2 cp) 58 4 2 [.int .i64 1, .int .i64 x, .string ByteArray.empty, .float .f64 0, .int .i64 1, .int .i64 y, .string ByteArray.empty, .float .f64 0] ∧ (∀ b, (Value.slice ao 2 cp).ownBlock = some b → w.heap.size ≤ b) ∧ (∀ b, (Value.slice sao' (n + 1) scp').ownBlock = some b → (Value.slice sao n scp).ownBlock = some b ∨ w.heap.size ≤ b) ∧ Blk w' lg [.slice lao' (m + 1 + 1) lcp'] 126 ∧ Own w' (.slice lao' (m + 1 + 1) lcp') 1 1 (m + 1 + 1) (fns ++ [.func (.func 79) #[] #[.pointer (some ⟨br, 0, none⟩), .pointer (some ⟨bi, 0, none⟩)]] ++ [.func (.func 43) #[] #[.pointer (some ⟨bp, 0, none⟩), .pointer (some ⟨brw, 0, none⟩)]]) ∧ (∀ b, (Value.slice lao' (m + 1 + 1) lcp').ownBlock = some b → (Value.slice lao m lcp).ownBlock = some b ∨ w.heap.size ≤ b) ∧ Only ([S, sat, lg, m_] ++ (Value.slice sao n scp).ownBlock.toList ++ (Value.slice lao m lcp).ownBlock.toList) w w' := by
  refine enterL (args := [.pointer (some ⟨m_, 0, none⟩), .string nm, .slice (some ⟨vb, 0, none⟩) 2 2]) Tryz.func14 rfl rfl rfl ?_
  refine CW.seq fun K1 hK1 => ?_
  refine CW.region ?_
  refine WL.box (cs := [.pointer (some ⟨m_, 0, none⟩)]) rfl rfl rfl rfl ?_
  intro w2 b3 h4 u5 g6
  refine WL.box (cs := [.slice (some ⟨vb, 0, none⟩) 2 2]) rfl rfl rfl rfl ?_
  intro w7 b8 h9 u10 g11
  refine WL.to (E' := [(1, .string nm), (3, .pointer (some ⟨b3, 0, none⟩)), (5, .pointer (some ⟨b8, 0, none⟩)), (6, .int .i64 0), (7, .nilIface)]) 2 [1, 3, 5, 6, 7] (by kernel_rfl) ?_
  refine WL.nil ?_
  refine hK1 _ _ _ ?_
  refine CW.seq fun K12 hK12 => ?_
  refine CW.region ?_
  refine WL.alloc (cs := [.int .i64 0]) rfl rfl zer2 rfl ?_
  intro w13 b14 h15 u16 g17
  refine WL.store1 rfl siz2 rfl rfl rfl h15 rfl ?_
  intro w18 h19 u20 z21
  refine WL.nil ?_
  refine hK12 _ _ _ ?_
  refine CW.seq fun K22 hK22 => ?_
  refine CW.region ?_
  have h23 := ((h4.keep u10 nm0).keep u16 nm0)
  have h24 := (h23.keep u20 (nmc (Blk.ne h23 h15 rfl) nm0))
  refine WL.load1 rfl agg24 rfl rfl h24 rfl ?_
  refine WL.to (E' := [(6, .int .i64 0), (7, .nilIface), (8, .pointer (some ⟨b14, 0, none⟩)), (10, .pointer (some ⟨m_, 0, none⟩)), (11, .string nm), (12, .func (.func 40) #[] #[.pointer (some ⟨b3, 0, none⟩), .pointer (some ⟨b8, 0, none⟩), .pointer (some ⟨b14, 0, none⟩)])]) 2 [6, 7, 8, 10, 11, 12] (by kernel_rfl) ?_
  have h25 := (((hS.keep u5 nm0).keep u10 nm0).keep u16 nm0)
  have h26 := (h25.keep u20 (nmc (Blk.ne h25 h15 rfl) nm0))
  have h27 := (((hA.keep u5 nm0).keep u10 nm0).keep u16 nm0)
  have h28 := (h27.keep u20 (nmc (Ne.symm (Blk.neK h15 h27)) nm0))
  have h29 := (((hO.keep' u5 dis0).keep' u10 dis0).keep' u16 dis0)
  have h30 := (h29.keep' u20 (disc (Own.ne h29 h15 rfl) dis0))
  have h31 := (((hF.keep u5 nm0).keep u10 nm0).keep u16 nm0)
  have h32 := (h31.keep u20 (nmc (Blk.ne h31 h15 rfl) nm0))
  have h33 := (((hl.keep u5 nm0).keep u10 nm0).keep u16 nm0)
  have h34 := (h33.keep u20 (nmc (Blk.ne h33 h15 rfl) nm0))
  have h35 := (((hlo.keep' u5 dis0).keep' u10 dis0).keep' u16 dis0)
  have h36 := (h35.keep' u20 (disc (Own.ne h35 h15 rfl) dis0))
  have h37 := (((ht.keep u5 nm0).keep u10 nm0).keep u16 nm0)
  have h38 := (h37.keep u20 (nmc (Blk.ne h37 h15 rfl) nm0))
  have h39 := (((hs.keep u5 nm0).keep u10 nm0).keep u16 nm0)
  have h40 := (h39.keep u20 (nmc (Blk.ne h39 h15 rfl) nm0))
  have h41 := (((hv.keep u5 nm0).keep u10 nm0).keep u16 nm0)
  have h42 := (h41.keep u20 (nmc (Blk.ne h41 h15 rfl) nm0))
  have h43 := (((hp.keep u5 nm0).keep u10 nm0).keep u16 nm0)
  have h44 := (h43.keep u20 (nmc (Blk.ne h43 h15 rfl) nm0))
  have h45 := (((hm_.keep u5 nm0).keep u10 nm0).keep u16 nm0)
  have h46 := (h45.keep u20 (nmc (Blk.ne h45 h15 rfl) nm0))
  have h47 := (h9.keep u16 nm0)
  have h48 := (h47.keep u20 (nmc (Blk.ne h47 h15 rfl) nm0))
  have h49 := (((hpl.keep u5 nm0).keep u10 nm0).keep u16 nm0)
  have h50 := (h49.keep u20 (nmc (Ne.symm (Blk.neK h15 h49)) nm0))
  refine WL.call rfl rfl rfl rfl ent39 rfl (mins39_2 h38 h26 h28 h30 h32 h34 h36 h40 h42 (by omega) (by omega) h44 h46 h24 h48 h19 (by omega) h50 hlk hnew (by omega) (by omega) (by omega) (by omega) (by omega)) ?_
  rintro _ w51 ⟨rfl, br52, bi53, bp54, brw55, ao64, cp65, ao66, cp67, ao68, cp69, h56, h57, g58, h59, h60, g61, h62, h63, h70, h71, h72, h73, h74, h75, h76, h77, h78, u79⟩
  refine WL.to (E' := [(6, .int .i64 0), (7, .nilIface), (8, .pointer (some ⟨b14, 0, none⟩)), (9, .nilIface)]) 1 [6, 7, 8, 9] (by kernel_rfl) ?_
  refine WL.nil ?_
  refine hK22 _ _ _ ?_
  refine CW.seq fun K80 hK80 => ?_
  refine CW.region ?_
  refine WL.load1 rfl agg2 rfl rfl h62 rfl ?_
  refine WL.to (E' := [(6, .int .i64 nx), (7, .nilIface)]) 3 [6, 7] (by kernel_rfl) ?_
  refine WL.nil ?_
  refine hK80 _ _ _ ?_
  refine CW.ret fun a ha => ?_
  try simp (decide := true) only [Exit.inBlock, Exit.then, ↓reduceIte]
  exact fin ha.defers (res_tmp2 rfl ha rfl rfl _) ⟨rfl, br52, bi53, bp54, brw55, _, _, _, _, _, _, h56, h57, (by have := g58; have := u5.size; have := u10.size; have := u16.size; have := u20.size; omega), h59, h60, (by have := g61; have := u5.size; have := u10.size; have := u16.size; have := u20.size; omega), h63, h70, h71, h72, h73, (fun b hb => by have := h74 b hb; have := u5.size; have := u10.size; have := u16.size; have := u20.size; omega), (fun b hb => (h75 b hb).imp_right (fun h => by have := u5.size; have := u10.size; have := u16.size; have := u20.size; omega)), h76, h77, (fun b hb => (h78 b hb).imp_right (fun h => by have := u5.size; have := u10.size; have := u16.size; have := u20.size; omega)), (((((u5.trans u10).trans u16).trans u20).trans u79).sub (by intro k hk hl; simp only [Option.mem_toList, Option.mem_def, List.mem_append, List.mem_cons, List.not_mem_nil, or_false, false_or] at hk ⊢; have := u5.size; have := u10.size; have := u16.size; have := u20.size; have := u79.size; have := g17; grind))⟩

theorem save1_ok {w : World} {m_ lg pl wt bm m lcp msk mscp : Nat} {lao msao : Option Addr} (hm_ : Blk w m_ [.map (some pl), .pointer (some ⟨lg, 0, none⟩), .slice msao msk mscp, .pointer (some ⟨wt, 0, none⟩), .bool true] 75) (hl : Blk w lg [.slice lao m lcp] 126) {svs : List Value} (hms : Own w (.slice msao msk mscp) 3 1 msk svs) (hbm : Blk w bm [.pointer (some ⟨m_, 0, none⟩)] 24) (h6 : msk < 6) (hm : m ≤ 100000) :
    Ret Tryz.prog 37 #[.pointer (some ⟨bm, 0, none⟩)] w fun v w' => v = .nilIface ∧ ∃ msao' mscp', Blk w' m_ [.map (some pl), .pointer (some ⟨lg, 0, none⟩), .slice msao' (msk + 1) mscp', .pointer (some ⟨wt, 0, none⟩), .bool true] 75 ∧ Own w' (.slice msao' (msk + 1) mscp') 3 1 (msk + 1) (svs ++ [.int .i64 ((m : Nat) : Int)]) ∧ (∀ b, (Value.slice msao' (msk + 1) mscp').ownBlock = some b → (Value.slice msao msk mscp).ownBlock = some b ∨ w.heap.size ≤ b) ∧ Only ([m_] ++ (Value.slice msao msk mscp).ownBlock.toList) w w' := by
  refine enterL (args := [.pointer (some ⟨bm, 0, none⟩)]) Tryz.func37 rfl rfl rfl ?_
  refine CW.seq fun K1 hK1 => ?_
  refine CW.region ?_
  refine WL.to (E' := [(0, .pointer (some ⟨bm, 0, none⟩)), (1, .nilIface)]) 1 [0, 1] (by kernel_rfl) ?_
  refine WL.nil ?_
  refine hK1 _ _ _ ?_
  refine CW.seq fun K2 hK2 => ?_
  refine CW.seq fun K3 hK3 => ?_
  refine CW.region ?_
  refine WL.load1 rfl agg24 rfl rfl hbm rfl ?_
  refine WL.callQ (v := .int .i64 ((msk : Nat) : Int)) rfl rfl rfl rfl ent26 rfl (depth_of hm_) ?_
  refine WL.to (E' := [(0, .pointer (some ⟨bm, 0, none⟩)), (1, .nilIface), (4, .bool (decide (((msk : Nat) : Int) ≥ 6)))]) 1 [0, 1, 4] (by kernel_rfl) ?_
  refine WL.nil ?_
  refine hK3 _ _ _ ?_
  refine CW.no rfl (decide_eq_false (by omega)) ?_
  refine CW.skip ?_
  refine hK2 _ _ _ ?_
  refine CW.seq fun K4 hK4 => ?_
  refine CW.mixed (by kernel_rfl) ?_
  intro w5 e7 u6
  have h8 := (hbm.keep u6 nm0)
  refine MX.load1 (L' := #[true, false, false, false, false, false, false, false, false, false, false, false, false, false, false]) 0 (by kernel_rfl) rfl rfl rfl agg24 rfl rfl h8 rfl ?_
  refine MX.load1 (L' := #[true, true, false, false, false, false, false, false, false, false, false, false, false, false, false]) 1 (by kernel_rfl) rfl rfl rfl agg24 rfl rfl h8 rfl ?_
  refine MX.to (f := 11) (L' := #[true, true, true, true, false, false, false, false, false, false, false, false, false, false, false]) (E' := [(0, .pointer (some ⟨bm, 0, none⟩)), (1, .nilIface), (6, .pointer (some ⟨m_, 0, none⟩)), (9, .pointer (some ⟨m_, 2, none⟩))]) [2, 3] [0, 1, 6, 9] rfl (by kernel_rfl) ?_
  have h9 := (hm_.keep u6 nm0)
  refine MX.load1 (L' := #[true, true, true, true, true, false, false, false, false, false, false, false, false, false, false]) 4 (by kernel_rfl) rfl rfl rfl agg49 rfl rfl h9 rfl ?_
  refine MX.load1 (L' := #[true, true, true, true, true, true, false, false, false, false, false, false, false, false, false]) 5 (by kernel_rfl) rfl rfl rfl agg24 rfl rfl h8 rfl ?_
  refine MX.to (f := 7) (L' := #[true, true, true, true, true, true, true, true, false, false, false, false, false, false, false]) (E' := [(1, .nilIface), (6, .pointer (some ⟨m_, 0, none⟩)), (10, .slice msao msk mscp), (13, .pointer (some ⟨m_, 1, none⟩))]) [6, 7] [1, 6, 10, 13] rfl (by kernel_rfl) ?_
  refine MX.load1 (L' := #[true, true, true, true, true, true, true, true, true, false, false, false, false, false, false]) 8 (by kernel_rfl) rfl rfl rfl agg70 rfl rfl h9 rfl ?_
  have h10 := (hl.keep u6 nm0)
  refine MX.call (L' := #[true, true, true, true, true, true, true, true, true, true, false, false, false, false, false]) (v := .int .i64 ((m : Nat) : Int)) (fun w => Blk w lg [.slice lao m lcp] 126) 9 (by kernel_rfl) rfl rfl rfl rfl rfl rfl ent38 rfl h10 (fun w' q0 => mark_of q0) ?_
  refine MX.loud 10 (by kernel_rfl) rfl (fun K11 hK11 => ?_) rfl
  refine WL.buildSlice (vs := [(0, .int .i64 ((m : Nat) : Int))]) (cs := [.int .i64 ((m : Nat) : Int)]) rfl rfl Tryz.underlying49 rfl (by kernel_rfl) ?_
  intro w12 b13 h14 u15 g16
  refine WL.fin (L' := #[true, true, true, true, true, true, true, true, true, true, true, false, false, false, false]) hK11 (stY (by kernel_rfl) (stN (fun q => (q.keep u15 nm0)) (stN (fun q => (q.keep u15 nm0)) (stN (fun q => (q.keep u15 nm0)) (stN (fun q => (q.keep u15 nm0)) (stN (fun q => (q.keep u15 nm0)) st0)))))) ?_
  refine MX.loud 11 (by kernel_rfl) rfl (fun K17 hK17 => ?_) rfl
  have h18 := ((hms.keep' u6 dis0).keep' u15 dis0)
  refine WL.appT (k := msk) (xs := svs) rfl Tryz.underlying49 inf3 rfl rfl rfl rfl rfl h18 h14 rfl rfl rfl ⟨by omega, by omega⟩ ?_
  intro v23 w19 h20 u21 f22
  obtain ⟨ao24, cp25, rfl⟩ := h20.form
  refine WL.fin (L' := #[true, true, true, true, true, true, true, true, true, true, true, true, false, false, false]) hK17 (stY (by kernel_rfl) (stN (fun q => (q.keep u21 (Own.ne h18 q rfl))) (stN (fun q => (q.keep u21 (Own.ne h18 q rfl))) (stY (by kernel_rfl) (stN (fun q => (q.keep u21 (Own.ne h18 q rfl))) (stN (fun q => (q.keep u21 (Own.ne h18 q rfl))) st0)))))) ?_
  refine MX.to (f := 1) (L' := #[true, true, true, true, true, true, true, true, true, true, true, true, true, true, false]) (E' := [(1, .nilIface), (17, .slice ao24 (msk + 1) cp25), (19, .pointer (some ⟨m_, 2, none⟩))]) [12, 13] [1, 17, 19] rfl (by kernel_rfl) ?_
  refine MX.loud 14 (by kernel_rfl) rfl (fun K26 hK26 => ?_) rfl
  have h27 := (h9.keep u15 nm0)
  have h28 := (h27.keep u21 (Own.ne h18 h27 rfl))
  refine WL.store1 rfl siz49 rfl rfl rfl h28 rfl ?_
  intro w29 h30 u31 z32
  refine WL.fin (L' := #[true, true, true, true, true, true, true, true, true, true, true, true, true, true, true]) hK26 (stY (by kernel_rfl) (stY (by kernel_rfl) (stY (by kernel_rfl) (stY (by kernel_rfl) (stY (by kernel_rfl) (stY (by kernel_rfl) st0)))))) ?_
  refine MX.done (by kernel_rfl) ?_
  refine hK4 _ _ _ ?_
  refine CW.seq fun K33 hK33 => ?_
  refine CW.region ?_
  refine WL.to (E' := [(1, .nilIface)]) 1 [1] (by kernel_rfl) ?_
  refine WL.nil ?_
  refine hK33 _ _ _ ?_
  have h34 := (h20.keep' u31 (disc (Own.ne h20 h28 rfl) dis0))
  refine CW.ret fun a ha => ?_
  try simp (decide := true) only [Exit.inBlock, Exit.then, ↓reduceIte]
  exact fin ha.defers (res_tmp rfl ha rfl _) ⟨rfl, _, _, h30, h34, (fun b hb => (f22 b hb).imp_right (fun h => by have := u6.size; have := u15.size; omega)), ((((u6.trans u15).trans u21).trans u31).sub (by intro k hk hl; simp only [Option.mem_toList, Option.mem_def, List.mem_append, List.mem_cons, List.not_mem_nil, or_false, false_or] at hk ⊢; have := u6.size; have := u15.size; have := u21.size; have := u31.size; have := f22; grind))⟩

theorem save1_full {w : World} {m_ lg pl wt bm msk mscp : Nat} {msao : Option Addr} (hm_ : Blk w m_ [.map (some pl), .pointer (some ⟨lg, 0, none⟩), .slice msao msk mscp, .pointer (some ⟨wt, 0, none⟩), .bool true] 75) (hbm : Blk w bm [.pointer (some ⟨m_, 0, none⟩)] 24) (h6 : 6 ≤ msk) :
    Ret Tryz.prog 37 #[.pointer (some ⟨bm, 0, none⟩)] w fun v w' => v = .iface 79 (.int .i64 101) ∧ w' = w := by
  refine enterL (args := [.pointer (some ⟨bm, 0, none⟩)]) Tryz.func37 rfl rfl rfl ?_
  refine CW.seq fun K1 hK1 => ?_
  refine CW.region ?_
  refine WL.to (E' := [(0, .pointer (some ⟨bm, 0, none⟩)), (1, .nilIface)]) 1 [0, 1] (by kernel_rfl) ?_
  refine WL.nil ?_
  refine hK1 _ _ _ ?_
  refine CW.seq fun K2 hK2 => ?_
  refine CW.seq fun K3 hK3 => ?_
  refine CW.region ?_
  refine WL.load1 rfl agg24 rfl rfl hbm rfl ?_
  refine WL.callQ (v := .int .i64 ((msk : Nat) : Int)) rfl rfl rfl rfl ent26 rfl (depth_of hm_) ?_
  refine WL.to (E' := [(0, .pointer (some ⟨bm, 0, none⟩)), (1, .nilIface), (4, .bool (decide (((msk : Nat) : Int) ≥ 6)))]) 1 [0, 1, 4] (by kernel_rfl) ?_
  refine WL.nil ?_
  refine hK3 _ _ _ ?_
  refine CW.yes rfl (decide_eq_true (by omega)) ?_
  refine CW.seq fun K4 hK4 => ?_
  refine CW.region ?_
  refine WL.to (E' := [(0, .pointer (some ⟨bm, 0, none⟩)), (1, .iface 79 (.int .i64 101))]) 2 [0, 1] (by kernel_rfl) ?_
  refine WL.nil ?_
  refine hK4 _ _ _ ?_
  refine CW.ret fun a ha => ?_
  try simp (decide := true) only [Exit.inBlock, Exit.then, ↓reduceIte]
  exact fin ha.defers (res_tmp rfl ha rfl _) ⟨rfl, rfl⟩

theorem save_ok {w : World} {m_ lg pl wt m lcp msk mscp : Nat} {lao msao : Option Addr} (hm_ : Blk w m_ [.map (some pl), .pointer (some ⟨lg, 0, none⟩), .slice msao msk mscp, .pointer (some ⟨wt, 0, none⟩), .bool false] 75) (hl : Blk w lg [.slice lao m lcp] 126) {svs : List Value} (hms : Own w (.slice msao msk mscp) 3 1 msk svs) (h6 : msk < 6) (hm : m ≤ 100000) :
    Ret Tryz.prog 13 #[.pointer (some ⟨m_, 0, none⟩)] w fun v w' => v = .tuple #[.int .i64 ((msk + 1 : Nat) : Int), .nilIface] ∧ ∃ msao' mscp', Blk w' m_ [.map (some pl), .pointer (some ⟨lg, 0, none⟩), .slice msao' (msk + 1) mscp', .pointer (some ⟨wt, 0, none⟩), .bool false] 75 ∧ Own w' (.slice msao' (msk + 1) mscp') 3 1 (msk + 1) (svs ++ [.int .i64 ((m : Nat) : Int)]) ∧ (∀ b, (Value.slice msao' (msk + 1) mscp').ownBlock = some b → (Value.slice msao msk mscp).ownBlock = some b ∨ w.heap.size ≤ b) ∧ Only ([m_] ++ (Value.slice msao msk mscp).ownBlock.toList) w w' := by
  refine enterL (args := [.pointer (some ⟨m_, 0, none⟩)]) Tryz.func13 rfl rfl rfl ?_
  refine CW.seq fun K1 hK1 => ?_
  refine CW.region ?_
  refine WL.box (cs := [.pointer (some ⟨m_, 0, none⟩)]) rfl rfl rfl rfl ?_
  intro w2 b3 h4 u5 g6
  refine WL.to (E' := [(1, .pointer (some ⟨b3, 0, none⟩)), (2, .int .i64 0), (3, .nilIface)]) 2 [1, 2, 3] (by kernel_rfl) ?_
  refine WL.nil ?_
  refine hK1 _ _ _ ?_
  refine CW.seq fun K7 hK7 => ?_
  refine CW.region ?_
  refine WL.load1 rfl agg24 rfl rfl h4 rfl ?_
  refine WL.to (E' := [(1, .pointer (some ⟨b3, 0, none⟩)), (2, .int .i64 0), (3, .nilIface), (5, .pointer (some ⟨m_, 0, none⟩)), (6, .func (.func 37) #[] #[.pointer (some ⟨b3, 0, none⟩)])]) 1 [1, 2, 3, 5, 6] (by kernel_rfl) ?_
  have h8 := (hm_.keep u5 nm0)
  have h9 := (hms.keep' u5 dis0)
  have h10 := (hl.keep u5 nm0)
  refine WL.call rfl rfl rfl rfl ent30 rfl (alone_of (S := ([m_] ++ (.slice msao msk mscp : Value).ownBlock.toList)) ent37 h8 (by intro b hb; simp only [List.mem_append, List.mem_cons, List.not_mem_nil, or_false, false_or] at hb; have := h8.lt; have := @Own.lt' _ _ _ _ _ b _ h9; grind) (fun w1 u1 hm1 => save1_ok hm1 (h10.keep u1 (nmc (Blk.ne h10 h8 rfl) nm0)) (h9.keep' u1 (disc (Own.ne h9 h8 rfl) dis0)) (h4.keep u1 (nmc (Blk.ne h4 h8 rfl) nm0)) (by omega) (by omega)) (by rintro w1 v w2 ⟨rfl, _, _, hm2, _, _, u⟩; exact ⟨_, _, _, _, hm2, u⟩)) ?_
  rintro _ w23 ⟨w17, w18, x26, x27, x28, x29, u19, h25, ⟨rfl, ao11, cp12, h13, h14, f15, u16⟩, h20, h21, u22⟩
  have e24 := Blk.inj h20 h13
  cases e24
  refine WL.to (E' := [(1, .pointer (some ⟨b3, 0, none⟩)), (2, .int .i64 0), (3, .nilIface), (4, .nilIface)]) 1 [1, 2, 3, 4] (by kernel_rfl) ?_
  refine WL.nil ?_
  refine hK7 _ _ _ ?_
  refine CW.seq fun K30 hK30 => ?_
  refine CW.seq fun K31 hK31 => ?_
  refine CW.region ?_
  refine WL.to (E' := [(1, .pointer (some ⟨b3, 0, none⟩)), (2, .int .i64 0), (3, .nilIface), (4, .nilIface), (9, .bool false)]) 2 [1, 2, 3, 4, 9] (by kernel_rfl) ?_
  refine WL.nil ?_
  refine hK31 _ _ _ ?_
  refine CW.condF rfl ?_
  refine CW.skip ?_
  refine hK30 _ _ _ ?_
  refine CW.seq fun K32 hK32 => ?_
  refine CW.region ?_
  have h33 := (h4.keep u19 (nmc (Blk.ne h4 h8 rfl) nm0))
  have h34 := (h33.keep u16 (nma (nmc (Blk.ne h33 h25 rfl) nm0) (Own.ne (h9.keep' u19 (disc (Own.ne h9 h8 rfl) dis0)) h33 rfl)))
  have h35 := (h34.keep u22 (nmc (Blk.ne h34 h20 rfl) nm0))
  refine WL.load1 rfl agg24 rfl rfl h35 rfl ?_
  refine WL.callQ (v := .int .i64 ((msk + 1 : Nat) : Int)) rfl rfl rfl rfl ent26 rfl (depth_of h21) ?_
  refine WL.to (E' := [(2, .int .i64 ((msk + 1 : Nat) : Int)), (3, .nilIface)]) 2 [2, 3] (by kernel_rfl) ?_
  refine WL.nil ?_
  refine hK32 _ _ _ ?_
  have h36 := (h14.keep' u22 (disc (Own.ne h14 h20 rfl) dis0))
  refine CW.ret fun a ha => ?_
  try simp (decide := true) only [Exit.inBlock, Exit.then, ↓reduceIte]
  exact fin ha.defers (res_tmp2 rfl ha rfl rfl _) ⟨rfl, _, _, h21, h36, (fun b hb => (f15 b hb).imp_right (fun h => by have := u5.size; have := u19.size; omega)), ((((u5.trans u19).trans u16).trans u22).sub (by intro k hk hl; simp only [Option.mem_toList, Option.mem_def, List.mem_append, List.mem_cons, List.not_mem_nil, or_false, false_or] at hk ⊢; have := u5.size; have := u19.size; have := u16.size; have := u22.size; grind))⟩

theorem save_full {w : World} {m_ lg pl wt msk mscp : Nat} {msao : Option Addr} (hm_ : Blk w m_ [.map (some pl), .pointer (some ⟨lg, 0, none⟩), .slice msao msk mscp, .pointer (some ⟨wt, 0, none⟩), .bool false] 75) (h6 : 6 ≤ msk) :
    Ret Tryz.prog 13 #[.pointer (some ⟨m_, 0, none⟩)] w fun v w' => v = .tuple #[.int .i64 0, .iface 79 (.int .i64 101)] ∧ Blk w' m_ [.map (some pl), .pointer (some ⟨lg, 0, none⟩), .slice msao msk mscp, .pointer (some ⟨wt, 0, none⟩), .bool false] 75 ∧ Only [m_] w w' := by
  refine enterL (args := [.pointer (some ⟨m_, 0, none⟩)]) Tryz.func13 rfl rfl rfl ?_
  refine CW.seq fun K1 hK1 => ?_
  refine CW.region ?_
  refine WL.box (cs := [.pointer (some ⟨m_, 0, none⟩)]) rfl rfl rfl rfl ?_
  intro w2 b3 h4 u5 g6
  refine WL.to (E' := [(1, .pointer (some ⟨b3, 0, none⟩)), (2, .int .i64 0), (3, .nilIface)]) 2 [1, 2, 3] (by kernel_rfl) ?_
  refine WL.nil ?_
  refine hK1 _ _ _ ?_
  refine CW.seq fun K7 hK7 => ?_
  refine CW.region ?_
  refine WL.load1 rfl agg24 rfl rfl h4 rfl ?_
  refine WL.to (E' := [(1, .pointer (some ⟨b3, 0, none⟩)), (2, .int .i64 0), (3, .nilIface), (5, .pointer (some ⟨m_, 0, none⟩)), (6, .func (.func 37) #[] #[.pointer (some ⟨b3, 0, none⟩)])]) 1 [1, 2, 3, 5, 6] (by kernel_rfl) ?_
  have h8 := (hm_.keep u5 nm0)
  refine WL.call rfl rfl rfl rfl ent30 rfl (alone_of (S := []) ent37 h8 (by simp) (fun w1 u1 hm1 => Ret.mono (R' := fun v w2 => v = .iface 79 (.int .i64 101) ∧ Blk w2 m_ [.map (some pl), .pointer (some ⟨lg, 0, none⟩), .slice msao msk mscp, .pointer (some ⟨wt, 0, none⟩), .bool true] 75 ∧ Only [] w1 w2) (save1_full hm1 (h4.keep u1 (nmc (Blk.ne h4 h8 rfl) nm0)) (by omega)) (by rintro v w' ⟨rfl, rfl⟩; exact ⟨rfl, hm1, Only.refl _ _⟩)) (by rintro w1 v w2 ⟨rfl, hm2, u⟩; exact ⟨_, _, _, _, hm2, u⟩)) ?_
  rintro _ w18 ⟨w12, w13, x21, x22, x23, x24, u14, h20, ⟨rfl, h11, u10⟩, h15, h16, u17⟩
  have e19 := Blk.inj h15 h11
  cases e19
  refine WL.to (E' := [(1, .pointer (some ⟨b3, 0, none⟩)), (2, .int .i64 0), (3, .nilIface), (4, .iface 79 (.int .i64 101))]) 1 [1, 2, 3, 4] (by kernel_rfl) ?_
  refine WL.nil ?_
  refine hK7 _ _ _ ?_
  refine CW.seq fun K25 hK25 => ?_
  refine CW.seq fun K26 hK26 => ?_
  refine CW.region ?_
  refine WL.to (E' := [(1, .pointer (some ⟨b3, 0, none⟩)), (2, .int .i64 0), (3, .nilIface), (4, .iface 79 (.int .i64 101)), (9, .bool true)]) 2 [1, 2, 3, 4, 9] (by kernel_rfl) ?_
  refine WL.nil ?_
  refine hK26 _ _ _ ?_
  refine CW.condT rfl ?_
  refine CW.seq fun K27 hK27 => ?_
  refine CW.region ?_
  refine WL.to (E' := [(1, .pointer (some ⟨b3, 0, none⟩)), (2, .int .i64 0), (3, .iface 79 (.int .i64 101))]) 3 [1, 2, 3] (by kernel_rfl) ?_
  refine WL.nil ?_
  refine hK27 _ _ _ ?_
  refine CW.ret fun a ha => ?_
  try simp (decide := true) only [Exit.inBlock, Exit.then, ↓reduceIte]
  exact fin ha.defers (res_tmp2 rfl ha rfl rfl _) ⟨rfl, h16, ((((u5.trans u14).trans u10).trans u17).sub (by intro k hk hl; simp only [Value.ownBlock, Option.toList, List.mem_append, List.mem_cons, List.not_mem_nil, or_false, false_or] at hk ⊢; have := u5.size; have := u14.size; have := u10.size; have := u17.size; omega))⟩
end Go.K

namespace Go.K
open Go.Proofs
set_option maxRecDepth 8000
set_option maxHeartbeats 1000000
set_option linter.unusedSimpArgs false
set_option linter.unusedVariables false
theorem getD_of {l : List Int} {i : Nat} (h : i < l.length) : l[i]? = some (l.getD i 0) := by simp [h]
theorem half (j : Nat) (h : j ≤ 1000000000) : IntKind.i64.wrap (Int.tdiv (((j + 1 : Nat) : Int) - 1) 2) = ((j / 2 : Nat) : Int) := by
  have e : (((j + 1 : Nat) : Int) - 1) = ((j : Nat) : Int) := by omega
  rw [e, i64_in _ (by rw [Int.tdiv_eq_ediv_of_nonneg (by omega)]; omega), Int.tdiv_eq_ediv_of_nonneg (by omega)]
  omega

theorem less135 {w : World} {a b : Int} :
    Ret Tryz.prog 135 #[.int .i64 a, .int .i64 b] w fun v w' => v = .bool (decide (a < b)) ∧ w' = w := by
  refine enterL (args := [.int .i64 a, .int .i64 b]) Tryz.func135 rfl rfl rfl ?_
  refine CW.seq fun K1 hK1 => ?_
  refine CW.region ?_
  refine WL.to (E' := [(0, .int .i64 a), (1, .int .i64 b), (4, .bool false)]) 1 [0, 1, 4] (by kernel_rfl) ?_
  refine WL.nil ?_
  refine hK1 _ _ _ ?_
  refine CW.seq fun K2 hK2 => ?_
  refine CW.region ?_
  refine WL.to (E' := [(4, .bool (decide (a < b)))]) 4 [4] (by kernel_rfl) ?_
  refine WL.nil ?_
  refine hK2 _ _ _ ?_
  refine CW.ret fun a ha => ?_
  try simp (decide := true) only [Exit.inBlock, Exit.then, ↓reduceIte]
  exact fin ha.defers (res_tmp rfl ha rfl _) ⟨rfl, rfl⟩

theorem less_of {w : World} {i j : Nat} {F g cap : Nat} {l : List Int} {rest : List Value} (hF : Blk w F [.slice (some ⟨g, 0, none⟩) l.length cap, .func (.func 135) #[] #[]] 246) (hb : Blk w g (nums l ++ rest) 3) (hi : i < l.length) (hj : j < l.length) :
    Ret Tryz.prog 440 #[.pointer (some ⟨F, 0, none⟩), .int .i64 ((i : Nat) : Int), .int .i64 ((j : Nat) : Int)] w fun v w' => v = .bool (decide (l.getD i 0 < l.getD j 0)) ∧ Only [] w w' := by
  refine enterL (args := [.pointer (some ⟨F, 0, none⟩), .int .i64 ((i : Nat) : Int), .int .i64 ((j : Nat) : Int)]) Tryz.func440 rfl rfl rfl ?_
  refine CW.seq fun K1 hK1 => ?_
  refine CW.region ?_
  refine WL.to (E' := [(0, .pointer (some ⟨F, 0, none⟩)), (1, .int .i64 ((i : Nat) : Int)), (2, .int .i64 ((j : Nat) : Int)), (6, .bool false)]) 1 [0, 1, 2, 6] (by kernel_rfl) ?_
  refine WL.nil ?_
  refine hK1 _ _ _ ?_
  refine CW.seq fun K2 hK2 => ?_
  refine CW.tail 18 (by kernel_rfl) (by kernel_rfl) ?_
  intro w3 e5 u4
  refine ST.to (E' := [(0, .pointer (some ⟨F, 0, none⟩)), (1, .int .i64 ((i : Nat) : Int)), (2, .int .i64 ((j : Nat) : Int)), (6, .bool false), (9, .pointer (some ⟨F, 1, none⟩))]) 3 [0, 1, 2, 6, 9] (by kernel_rfl) ?_
  have h6 := (hF.keep u4 nm0)
  refine ST.load1 rfl agg242 rfl rfl h6 rfl ?_
  refine ST.to (E' := [(0, .pointer (some ⟨F, 0, none⟩)), (1, .int .i64 ((i : Nat) : Int)), (2, .int .i64 ((j : Nat) : Int)), (6, .bool false), (10, .func (.func 135) #[] #[]), (13, .pointer (some ⟨F, 0, none⟩))]) 3 [0, 1, 2, 6, 10, 13] (by kernel_rfl) ?_
  refine ST.load1 rfl agg49 rfl rfl h6 rfl ?_
  refine ST.to (E' := [(0, .pointer (some ⟨F, 0, none⟩)), (2, .int .i64 ((j : Nat) : Int)), (6, .bool false), (10, .func (.func 135) #[] #[]), (14, .slice (some ⟨g, 0, none⟩) l.length cap), (15, .int .i64 ((i : Nat) : Int))]) 1 [0, 2, 6, 10, 14, 15] (by kernel_rfl) ?_
  refine ST.index rfl rfl Tryz.underlying49 siz3 rfl rfl (by omega) (by omega) ?_
  refine ST.chg 16 (.pointer (some ⟨g, i, none⟩)) rfl (by simp) ?_
  have h7 := (hb.keep u4 nm0)
  refine ST.load1 rfl agg3 rfl rfl h7 (nums_get rest (getD_of (by omega))) ?_
  refine ST.to (E' := [(2, .int .i64 ((j : Nat) : Int)), (6, .bool false), (10, .func (.func 135) #[] #[]), (17, .int .i64 (l.getD i 0)), (20, .pointer (some ⟨F, 0, none⟩))]) 3 [2, 6, 10, 17, 20] (by kernel_rfl) ?_
  refine ST.load1 rfl agg49 rfl rfl h6 rfl ?_
  refine ST.to (E' := [(6, .bool false), (10, .func (.func 135) #[] #[]), (17, .int .i64 (l.getD i 0)), (21, .slice (some ⟨g, 0, none⟩) l.length cap), (22, .int .i64 ((j : Nat) : Int))]) 1 [6, 10, 17, 21, 22] (by kernel_rfl) ?_
  refine ST.index rfl rfl Tryz.underlying49 siz3 rfl rfl (by omega) (by omega) ?_
  refine ST.chg 23 (.pointer (some ⟨g, j, none⟩)) rfl (by simp) ?_
  refine ST.load1 rfl agg3 rfl rfl h7 (nums_get rest (getD_of (by omega))) ?_
  refine ST.nil ?_
  change WL _ _ _ _ _ _ _ _
  refine WL.callQ (v := .bool (decide ((l.getD i 0) < (l.getD j 0)))) rfl rfl rfl rfl ent135 rfl (less135) ?_
  refine WL.to (E' := [(6, .bool (decide ((l.getD i 0) < (l.getD j 0))))]) 1 [6] (by kernel_rfl) ?_
  refine WL.nil ?_
  refine hK2 _ _ _ ?_
  refine CW.ret fun a ha => ?_
  try simp (decide := true) only [Exit.inBlock, Exit.then, ↓reduceIte]
  exact fin ha.defers (res_tmp rfl ha rfl _) ⟨rfl, (u4.sub (by simp))⟩

theorem up_of {w : World} {j : Nat} {F g cap : Nat} {l : List Int} {rest : List Value} (hF : Blk w F [.slice (some ⟨g, 0, none⟩) l.length cap, .func (.func 135) #[] #[]] 246) (hb : Blk w g (nums l ++ rest) 3) (hj : j < l.length) (hsz : l.length ≤ 1000000) :
    Ret Tryz.prog 216 #[.iface 273 (.pointer (some ⟨F, 0, none⟩)), .int .i64 ((j : Nat) : Int)] w fun v w' => ∃ l' : List Int, v = .tuple #[] ∧ l'.length = l.length ∧ (l.length = 1 → l' = l) ∧ Blk w' F [.slice (some ⟨g, 0, none⟩) l.length cap, .func (.func 135) #[] #[]] 246 ∧ Blk w' g (nums l' ++ rest) 3 ∧ Only [g] w w' := by
  refine enterL (args := [.iface 273 (.pointer (some ⟨F, 0, none⟩)), .int .i64 ((j : Nat) : Int)]) Tryz.func216 rfl rfl rfl ?_
  refine CW.block ?_
  refine CW.loop (F := fun q : Nat × List Int => [(0, .iface 273 (.pointer (some ⟨F, 0, none⟩))), (1, .int .i64 ((q.1 : Nat) : Int))]) (I := fun q w' => Blk w' F [.slice (some ⟨g, 0, none⟩) l.length cap, .func (.func 135) #[] #[]] 246 ∧ Blk w' g (nums q.2 ++ rest) 3 ∧ q.1 < l.length ∧ q.2.length = l.length ∧ (l.length = 1 → q.2 = l) ∧ Only [g] w w') (μ := fun q => q.1) (j, l) ⟨hF, hb, hj, rfl, fun _ => rfl, Only.refl _ _⟩ ?_
  rintro ⟨j, l'⟩ w ⟨hF, hb, hj, hl, h1, u0⟩
  simp only at hb hj hl h1
  rw [← hl] at hF hj
  rcases j with _ | j
  · skip
    refine CW.sub [(0, .iface 273 (.pointer (some ⟨F, 0, none⟩))), (1, .int .i64 0)] ⟨rfl, rfl, trivial⟩ ?_
    refine CW.block ?_
    refine CW.seq fun K1 hK1 => ?_
    refine CW.region ?_
    refine WL.to (E' := [(0, .iface 273 (.pointer (some ⟨F, 0, none⟩))), (1, .int .i64 0), (5, .int .i64 0), (6, .int .i64 (-1)), (7, .int .i64 0), (4, .int .i64 0)]) 4 [0, 1, 5, 6, 7, 4] (by kernel_rfl) ?_
    refine WL.nil ?_
    refine hK1 _ _ _ ?_
    refine CW.seq fun K2 hK2 => ?_
    refine CW.seq fun K3 hK3 => ?_
    refine CW.region ?_
    refine WL.to (E' := [(0, .iface 273 (.pointer (some ⟨F, 0, none⟩))), (1, .int .i64 0), (5, .int .i64 0), (6, .int .i64 (-1)), (7, .int .i64 0), (4, .int .i64 0), (8, .int .i64 0), (9, .int .i64 0), (10, .bool true), (11, .bool true), (12, undef), (13, undef), (14, undef), (15, undef), (16, undef), (17, .bool true)]) 10 [0, 1, 5, 6, 7, 4, 8, 9, 10, 11, 12, 13, 14, 15, 16, 17] (by kernel_rfl) ?_
    refine WL.nil ?_
    refine hK3 _ _ _ ?_
    refine CW.condT rfl ?_
    refine CW.exit ?_
    intro a ha
    try simp (decide := true) only [Exit.inBlock, Exit.then, ↓reduceIte]
    exact finN ha.defers (res_none rfl _) ⟨l', rfl, hl, h1, (by rw [← hl]; exact hF), hb, (u0.trans (Only.refl [] _)).sub (by simp)⟩
  · skip
    refine CW.sub [(0, .iface 273 (.pointer (some ⟨F, 0, none⟩))), (1, .int .i64 ((j + 1 : Nat) : Int))] ⟨rfl, rfl, trivial⟩ ?_
    refine CW.block ?_
    refine CW.seq fun K4 hK4 => ?_
    refine CW.region ?_
    refine WL.to (E' := [(0, .iface 273 (.pointer (some ⟨F, 0, none⟩))), (1, .int .i64 ((j + 1 : Nat) : Int)), (5, .int .i64 ((j + 1 : Nat) : Int)), (6, .int .i64 (IntKind.i64.wrap (((j + 1 : Nat) : Int) - 1)))]) 2 [0, 1, 5, 6] (by kernel_rfl) ?_
    refine WL.chg 6 (.int .i64 (((j + 1 : Nat) : Int) - 1)) rfl (congrArg (Value.int .i64) (i64_in _ (by omega))) ?_
    refine WL.to (E' := [(0, .iface 273 (.pointer (some ⟨F, 0, none⟩))), (1, .int .i64 ((j + 1 : Nat) : Int)), (5, .int .i64 ((j + 1 : Nat) : Int)), (6, .int .i64 (((j + 1 : Nat) : Int) - 1)), (7, .int .i64 (IntKind.i64.wrap (Int.tdiv (((j + 1 : Nat) : Int) - 1) 2)))]) 1 [0, 1, 5, 6, 7] (by kernel_rfl) ?_
    refine WL.chg 7 (.int .i64 ((j / 2 : Nat) : Int)) rfl (congrArg (Value.int .i64) (half j (by omega))) ?_
    refine WL.to (E' := [(0, .iface 273 (.pointer (some ⟨F, 0, none⟩))), (1, .int .i64 ((j + 1 : Nat) : Int)), (5, .int .i64 ((j + 1 : Nat) : Int)), (6, .int .i64 (((j + 1 : Nat) : Int) - 1)), (7, .int .i64 ((j / 2 : Nat) : Int)), (4, .int .i64 ((j / 2 : Nat) : Int))]) 1 [0, 1, 5, 6, 7, 4] (by kernel_rfl) ?_
    refine WL.nil ?_
    refine hK4 _ _ _ ?_
    refine CW.seq fun K5 hK5 => ?_
    refine CW.seq fun K6 hK6 => ?_
    refine CW.region ?_
    refine WL.to (E' := [(0, .iface 273 (.pointer (some ⟨F, 0, none⟩))), (1, .int .i64 ((j + 1 : Nat) : Int)), (5, .int .i64 ((j + 1 : Nat) : Int)), (6, .int .i64 (((j + 1 : Nat) : Int) - 1)), (7, .int .i64 ((j / 2 : Nat) : Int)), (4, .int .i64 ((j / 2 : Nat) : Int)), (8, .int .i64 ((j / 2 : Nat) : Int)), (9, .int .i64 ((j + 1 : Nat) : Int)), (10, .bool (((j / 2 : Nat) : Int) == ((j + 1 : Nat) : Int))), (11, .bool (((j / 2 : Nat) : Int) == ((j + 1 : Nat) : Int)))]) 4 [0, 1, 5, 6, 7, 4, 8, 9, 10, 11] (by kernel_rfl) ?_
    refine WL.chg 11 (.bool false) rfl (congrArg Value.bool (beq_eq_false_iff_ne.2 (by omega))) ?_
    refine WL.to (E' := [(0, .iface 273 (.pointer (some ⟨F, 0, none⟩))), (1, .int .i64 ((j + 1 : Nat) : Int)), (5, .int .i64 ((j + 1 : Nat) : Int)), (6, .int .i64 (((j + 1 : Nat) : Int) - 1)), (7, .int .i64 ((j / 2 : Nat) : Int)), (4, .int .i64 ((j / 2 : Nat) : Int)), (8, .int .i64 ((j / 2 : Nat) : Int)), (9, .int .i64 ((j + 1 : Nat) : Int)), (10, .bool (((j / 2 : Nat) : Int) == ((j + 1 : Nat) : Int))), (11, .bool false), (12, .iface 273 (.pointer (some ⟨F, 0, none⟩))), (13, .int .i64 ((j + 1 : Nat) : Int)), (14, .int .i64 ((j / 2 : Nat) : Int))]) 3 [0, 1, 5, 6, 7, 4, 8, 9, 10, 11, 12, 13, 14] (by kernel_rfl) ?_
    refine WL.inv (f := 440) rfl rfl rfl rfl (fun _ => by kernel_rfl) ent440 rfl (less_of (i := j + 1) (j := j / 2) hF hb (by omega) (by omega)) ?_
    rintro _ w8 ⟨rfl, u7⟩
    refine WL.to (E' := [(0, .iface 273 (.pointer (some ⟨F, 0, none⟩))), (1, .int .i64 ((j + 1 : Nat) : Int)), (5, .int .i64 ((j + 1 : Nat) : Int)), (6, .int .i64 (((j + 1 : Nat) : Int) - 1)), (7, .int .i64 ((j / 2 : Nat) : Int)), (4, .int .i64 ((j / 2 : Nat) : Int)), (8, .int .i64 ((j / 2 : Nat) : Int)), (9, .int .i64 ((j + 1 : Nat) : Int)), (10, .bool (((j / 2 : Nat) : Int) == ((j + 1 : Nat) : Int))), (11, .bool false), (12, .iface 273 (.pointer (some ⟨F, 0, none⟩))), (13, .int .i64 ((j + 1 : Nat) : Int)), (14, .int .i64 ((j / 2 : Nat) : Int)), (15, .bool (decide (l'.getD (j + 1) 0 < l'.getD (j / 2) 0))), (16, .bool (!(decide (l'.getD (j + 1) 0 < l'.getD (j / 2) 0)))), (17, .bool (!(decide (l'.getD (j + 1) 0 < l'.getD (j / 2) 0))))]) 2 [0, 1, 5, 6, 7, 4, 8, 9, 10, 11, 12, 13, 14, 15, 16, 17] (by kernel_rfl) ?_
    refine WL.nil ?_
    refine hK6 _ _ _ ?_
    refine CW.cond rfl (fun c9 => ?_) (fun c9 => ?_)
    · skip
      refine CW.exit ?_
      have h10 := (hF.keep u7 nm0)
      have h11 := (hb.keep u7 nm0)
      intro a ha
      try simp (decide := true) only [Exit.inBlock, Exit.then, ↓reduceIte]
      exact finN ha.defers (res_none rfl _) ⟨l', rfl, hl, h1, (by rw [← hl]; exact h10), h11, (u0.trans u7).sub (by simp)⟩
    · skip
      refine CW.skip ?_
      refine hK5 _ _ _ ?_
      refine CW.seq fun K12 hK12 => ?_
      refine CW.region ?_
      refine WL.to (E' := [(0, .iface 273 (.pointer (some ⟨F, 0, none⟩))), (1, .int .i64 ((j + 1 : Nat) : Int)), (5, .int .i64 ((j + 1 : Nat) : Int)), (6, .int .i64 (((j + 1 : Nat) : Int) - 1)), (7, .int .i64 ((j / 2 : Nat) : Int)), (4, .int .i64 ((j / 2 : Nat) : Int)), (8, .int .i64 ((j / 2 : Nat) : Int)), (9, .int .i64 ((j + 1 : Nat) : Int)), (10, .bool (((j / 2 : Nat) : Int) == ((j + 1 : Nat) : Int))), (11, .bool false), (12, .iface 273 (.pointer (some ⟨F, 0, none⟩))), (13, .int .i64 ((j + 1 : Nat) : Int)), (14, .int .i64 ((j / 2 : Nat) : Int)), (15, .bool (decide (l'.getD (j + 1) 0 < l'.getD (j / 2) 0))), (16, .bool (!(decide (l'.getD (j + 1) 0 < l'.getD (j / 2) 0)))), (17, .bool (!(decide (l'.getD (j + 1) 0 < l'.getD (j / 2) 0)))), (18, .iface 273 (.pointer (some ⟨F, 0, none⟩))), (19, .int .i64 ((j / 2 : Nat) : Int)), (20, .int .i64 ((j + 1 : Nat) : Int))]) 3 [0, 1, 5, 6, 7, 4, 8, 9, 10, 11, 12, 13, 14, 15, 16, 17, 18, 19, 20] (by kernel_rfl) ?_
      have h13 := (hF.keep u7 nm0)
      have h14 := (hb.keep u7 nm0)
      refine WL.inv (f := 443) rfl rfl rfl rfl (fun _ => by kernel_rfl) ent443 rfl (swap_of (i := j / 2) (j := j + 1) h13 h14 (by omega) (by omega)) ?_
      rintro _ w16 ⟨rfl, h17, u15⟩
      refine WL.sub [(0, .iface 273 (.pointer (some ⟨F, 0, none⟩))), (1, .int .i64 ((j + 1 : Nat) : Int)), (5, .int .i64 ((j + 1 : Nat) : Int)), (6, .int .i64 (((j + 1 : Nat) : Int) - 1)), (7, .int .i64 ((j / 2 : Nat) : Int)), (4, .int .i64 ((j / 2 : Nat) : Int)), (8, .int .i64 ((j / 2 : Nat) : Int)), (9, .int .i64 ((j + 1 : Nat) : Int)), (10, .bool (((j / 2 : Nat) : Int) == ((j + 1 : Nat) : Int))), (11, .bool false), (12, .iface 273 (.pointer (some ⟨F, 0, none⟩))), (13, .int .i64 ((j + 1 : Nat) : Int)), (14, .int .i64 ((j / 2 : Nat) : Int)), (15, .bool (decide (l'.getD (j + 1) 0 < l'.getD (j / 2) 0))), (16, .bool (!(decide (l'.getD (j + 1) 0 < l'.getD (j / 2) 0)))), (17, .bool (!(decide (l'.getD (j + 1) 0 < l'.getD (j / 2) 0)))), (18, .iface 273 (.pointer (some ⟨F, 0, none⟩))), (19, .int .i64 ((j / 2 : Nat) : Int)), (20, .int .i64 ((j + 1 : Nat) : Int))] ⟨rfl, rfl, rfl, rfl, rfl, rfl, rfl, rfl, rfl, rfl, rfl, rfl, rfl, rfl, rfl, rfl, rfl, rfl, rfl, trivial⟩ ?_
      refine WL.nil ?_
      refine hK12 _ _ _ ?_
      refine CW.region ?_
      refine WL.to (E' := [(0, .iface 273 (.pointer (some ⟨F, 0, none⟩))), (1, .int .i64 ((j / 2 : Nat) : Int)), (5, .int .i64 ((j + 1 : Nat) : Int)), (6, .int .i64 (((j + 1 : Nat) : Int) - 1)), (7, .int .i64 ((j / 2 : Nat) : Int)), (4, .int .i64 ((j / 2 : Nat) : Int)), (8, .int .i64 ((j / 2 : Nat) : Int)), (9, .int .i64 ((j + 1 : Nat) : Int)), (10, .bool (((j / 2 : Nat) : Int) == ((j + 1 : Nat) : Int))), (11, .bool false), (12, .iface 273 (.pointer (some ⟨F, 0, none⟩))), (13, .int .i64 ((j + 1 : Nat) : Int)), (14, .int .i64 ((j / 2 : Nat) : Int)), (15, .bool (decide (l'.getD (j + 1) 0 < l'.getD (j / 2) 0))), (16, .bool (!(decide (l'.getD (j + 1) 0 < l'.getD (j / 2) 0)))), (17, .bool (!(decide (l'.getD (j + 1) 0 < l'.getD (j / 2) 0)))), (18, .iface 273 (.pointer (some ⟨F, 0, none⟩))), (19, .int .i64 ((j / 2 : Nat) : Int)), (20, .int .i64 ((j + 1 : Nat) : Int)), (22, .int .i64 ((j / 2 : Nat) : Int))]) 2 [0, 1, 5, 6, 7, 4, 8, 9, 10, 11, 12, 13, 14, 15, 16, 17, 18, 19, 20, 22] (by kernel_rfl) ?_
      refine WL.nil ?_
      intro a ha
      have ha := ha.sub (E' := [(0, .iface 273 (.pointer (some ⟨F, 0, none⟩))), (1, .int .i64 ((j / 2 : Nat) : Int))]) ⟨rfl, rfl, trivial⟩
      have h18 := (h13.keep u15 (nmc (Blk.ne h13 h14 rfl) nm0))
      exact ⟨(j / 2, (swapL l' (j / 2) (j + 1))), (by show j / 2 < j + 1; omega), ⟨(by rw [← hl]; exact h18), h17, (by show j / 2 < l.length; omega), (by simp only [swapL_len]; exact hl), (fun e => by omega), (u0.trans (u7.trans u15)).sub (by simp)⟩, ha⟩

theorem pilepush_of {w : World} {x : Int} {F fk fc : Nat} {fa : Option Addr} {l : List Int} (hF : Blk w F [.slice fa fk fc, .func (.func 135) #[] #[]] 246) (hfo : Own w (.slice fa fk fc) 3 1 fk (nums l)) (hsz : fk ≤ 100000) :
    Ret Tryz.prog 442 #[.pointer (some ⟨F, 0, none⟩), .iface 3 (.int .i64 x)] w fun v w' => ∃ fa' fc', v = .tuple #[] ∧ Blk w' F [.slice fa' (fk + 1) fc', .func (.func 135) #[] #[]] 246 ∧ Own w' (.slice fa' (fk + 1) fc') 3 1 (fk + 1) (nums (l ++ [x])) ∧ (∀ b, (Value.slice fa' (fk + 1) fc').ownBlock = some b → (Value.slice fa fk fc).ownBlock = some b ∨ w.heap.size ≤ b) ∧ Only ([F] ++ (Value.slice fa fk fc).ownBlock.toList) w w' := by
  refine enterL (args := [.pointer (some ⟨F, 0, none⟩), .iface 3 (.int .i64 x)]) Tryz.func442 rfl rfl rfl ?_
  refine CW.mixed (by kernel_rfl) ?_
  intro w1 e3 u2
  refine MX.to (f := 6) (L' := #[true, true, true, true, false, true, true, false, false, false, false, false]) (E' := [(4, .pointer (some ⟨F, 0, none⟩)), (7, .pointer (some ⟨F, 0, none⟩)), (10, .int .i64 x)]) [0, 1, 2, 3, 5, 6] [4, 7, 10] rfl (by kernel_rfl) ?_
  have h4 := (hF.keep u2 nm0)
  refine MX.load1 (L' := #[true, true, true, true, true, true, true, false, false, false, false, false]) 4 (by kernel_rfl) rfl rfl rfl agg49 rfl rfl h4 rfl ?_
  refine MX.loud 7 (by kernel_rfl) rfl (fun K5 hK5 => ?_) rfl
  refine WL.buildSlice (vs := [(0, .int .i64 x)]) (cs := [.int .i64 x]) rfl rfl Tryz.underlying49 rfl (by kernel_rfl) ?_
  intro w6 b7 h8 u9 g10
  refine WL.fin (L' := #[true, true, true, true, true, true, true, true, false, false, false, false]) hK5 (stN (fun q => (q.keep u9 nm0)) st0) ?_
  refine MX.loud 8 (by kernel_rfl) rfl (fun K11 hK11 => ?_) rfl
  have h12 := ((hfo.keep' u2 dis0).keep' u9 dis0)
  refine WL.appT (k := fk) (xs := (nums l)) rfl Tryz.underlying49 inf3 rfl rfl rfl rfl rfl h12 h8 rfl rfl rfl ⟨by omega, by omega⟩ ?_
  intro v17 w13 h14 u15 f16
  obtain ⟨ao18, cp19, rfl⟩ := h14.form
  refine WL.fin (L' := #[true, true, true, true, true, true, true, true, true, false, false, false]) hK11 (stY (by kernel_rfl) st0) ?_
  refine MX.to (f := 1) (L' := #[true, true, true, true, true, true, true, true, true, true, true, false]) (E' := [(12, .slice ao18 (fk + 1) cp19), (14, .pointer (some ⟨F, 0, none⟩))]) [9, 10] [12, 14] rfl (by kernel_rfl) ?_
  refine MX.loud 11 (by kernel_rfl) rfl (fun K20 hK20 => ?_) rfl
  have h21 := (h4.keep u9 nm0)
  have h22 := (h21.keep u15 (Own.ne h12 h21 rfl))
  refine WL.store1 rfl siz49 rfl rfl rfl h22 rfl ?_
  intro w23 h24 u25 z26
  refine WL.fin (L' := #[true, true, true, true, true, true, true, true, true, true, true, true]) hK20 (stY (by kernel_rfl) st0) ?_
  refine MX.done (by kernel_rfl) ?_
  have h27 := (h14.keep' u25 (disc (Own.ne h14 h22 rfl) dis0))
  intro a ha
  try simp (decide := true) only [Exit.inBlock, Exit.then, ↓reduceIte]
  exact finN ha.defers (res_none rfl _) ⟨_, _, rfl, h24, (by simpa [nums] using h27), (fun b hb => (f16 b hb).imp_right (fun h => by have := u2.size; have := u9.size; omega)), ((((u2.trans u9).trans u15).trans u25).sub (by intro k hk hl; simp only [Option.mem_toList, Option.mem_def, List.mem_append, List.mem_cons, List.not_mem_nil, or_false, false_or] at hk ⊢; have := u2.size; have := u9.size; have := u15.size; have := u25.size; have := f16; grind))⟩

theorem heappush_of {w : World} {x : Int} {F fk fc : Nat} {fa : Option Addr} {l : List Int} (hF : Blk w F [.slice fa fk fc, .func (.func 135) #[] #[]] 246) (hfo : Own w (.slice fa fk fc) 3 1 fk (nums l)) (hsz : fk ≤ 100000) :
    Ret Tryz.prog 158 #[.iface 273 (.pointer (some ⟨F, 0, none⟩)), .iface 3 (.int .i64 x)] w fun v w' => ∃ fa' fc', ∃ l' : List Int, v = .tuple #[] ∧ l'.length = fk + 1 ∧ (l = [] → l' = [x]) ∧ Blk w' F [.slice fa' (fk + 1) fc', .func (.func 135) #[] #[]] 246 ∧ Own w' (.slice fa' (fk + 1) fc') 3 1 (fk + 1) (nums l') ∧ (∀ b, (Value.slice fa' (fk + 1) fc').ownBlock = some b → (Value.slice fa fk fc).ownBlock = some b ∨ w.heap.size ≤ b) ∧ Only ([F] ++ (Value.slice fa fk fc).ownBlock.toList) w w' := by
  refine enterL (args := [.iface 273 (.pointer (some ⟨F, 0, none⟩)), .iface 3 (.int .i64 x)]) Tryz.func158 rfl rfl rfl ?_
  refine CW.seq fun K1 hK1 => ?_
  refine CW.region ?_
  refine WL.to (E' := [(0, .iface 273 (.pointer (some ⟨F, 0, none⟩))), (4, .iface 273 (.pointer (some ⟨F, 0, none⟩))), (5, .iface 3 (.int .i64 x))]) 2 [0, 4, 5] (by kernel_rfl) ?_
  refine WL.inv (f := 442) rfl rfl rfl rfl (fun _ => by kernel_rfl) ent442 rfl (pilepush_of hF hfo (by omega)) ?_
  rintro _ w8 ⟨ao2, cp3, rfl, h4, h5, f6, u7⟩
  refine WL.sub [(0, .iface 273 (.pointer (some ⟨F, 0, none⟩)))] ⟨rfl, trivial⟩ ?_
  refine WL.nil ?_
  refine hK1 _ _ _ ?_
  refine CW.region ?_
  refine WL.to (E' := [(7, .iface 273 (.pointer (some ⟨F, 0, none⟩))), (8, .iface 273 (.pointer (some ⟨F, 0, none⟩)))]) 2 [7, 8] (by kernel_rfl) ?_
  refine WL.inv (f := 269) rfl rfl rfl rfl (fun _ => by kernel_rfl) ent269 rfl (pilelen_of h4) ?_
  rintro _ _ ⟨rfl, rfl⟩
  refine WL.to (E' := [(7, .iface 273 (.pointer (some ⟨F, 0, none⟩))), (10, .int .i64 (IntKind.i64.wrap (((fk + 1 : Nat) : Int) - 1)))]) 1 [7, 10] (by kernel_rfl) ?_
  refine WL.chg 10 (.int .i64 ((fk : Nat) : Int)) rfl (congrArg (Value.int .i64) (by rw [i64_in _ (by omega)]; omega)) ?_
  have hlen : (l ++ [x]).length = fk + 1 := by have := h5.len; simpa [nums] using this
  obtain ⟨g16, rest9, e10, h11, q12, q13, q14, q15⟩ := h5.open2 (by omega)
  subst e10
  refine WL.call rfl rfl rfl rfl ent216 rfl (up_of (j := fk) (l := l ++ [x]) (by rw [hlen]; exact h4) h11 (by omega) (by omega)) ?_
  rintro _ w23 ⟨l17, rfl, e18, e19, h20, h21, u22⟩
  rw [hlen] at e18 e19 h20
  have h24 := Own.close (sz := 1) (k := fk + 1) h21 q12 q13 (by have e1 := q14; rw [List.length_append, nums_len] at e1 ⊢; omega) (by rw [nums_len]; omega)
  refine WL.sub [] trivial ?_
  refine WL.nil ?_
  intro a ha
  try simp (decide := true) only [Exit.inBlock, Exit.then, ↓reduceIte]
  exact finN ha.defers (res_none rfl _) ⟨_, _, l17, rfl, e18, (fun e => by subst e; have := hlen; simp at this; exact e19 (by omega)), h20, h24, (fun b hb => (f6 b hb).imp_right (fun h => by omega)), ((u7.trans u22).sub (by intro k hk hl; simp only [Option.mem_toList, Option.mem_def, List.mem_append, List.mem_cons, List.not_mem_nil, or_false, false_or] at hk ⊢; have := u7.size; have := u22.size; have := f6 g16 rfl; grind))⟩

theorem put_of {w : World} {x : Int} {F fk fc : Nat} {fa : Option Addr} {l : List Int} (hF : Blk w F [.slice fa fk fc, .func (.func 135) #[] #[]] 246) (hfo : Own w (.slice fa fk fc) 3 1 fk (nums l)) (hsz : fk ≤ 100000) :
    Ret Tryz.prog 115 #[.pointer (some ⟨F, 0, none⟩), .int .i64 x] w fun v w' => ∃ fa' fc', ∃ l' : List Int, v = .tuple #[] ∧ l'.length = fk + 1 ∧ (l = [] → l' = [x]) ∧ Blk w' F [.slice fa' (fk + 1) fc', .func (.func 135) #[] #[]] 246 ∧ Own w' (.slice fa' (fk + 1) fc') 3 1 (fk + 1) (nums l') ∧ (∀ b, (Value.slice fa' (fk + 1) fc').ownBlock = some b → (Value.slice fa fk fc).ownBlock = some b ∨ w.heap.size ≤ b) ∧ Only ([F] ++ (Value.slice fa fk fc).ownBlock.toList) w w' := by
  refine enterL (args := [.pointer (some ⟨F, 0, none⟩), .int .i64 x]) Tryz.func115 rfl rfl rfl ?_
  refine CW.region ?_
  refine WL.to (E' := [(7, .iface 273 (.pointer (some ⟨F, 0, none⟩))), (9, .iface 3 (.int .i64 x))]) 6 [7, 9] (by kernel_rfl) ?_
  refine WL.call rfl rfl rfl rfl ent158 rfl (heappush_of hF hfo (by omega)) ?_
  rintro _ w10 ⟨ao1, cp2, l3, rfl, e4, e5, h6, h7, f8, u9⟩
  refine WL.sub [] trivial ?_
  refine WL.nil ?_
  intro a ha
  try simp (decide := true) only [Exit.inBlock, Exit.then, ↓reduceIte]
  exact finN ha.defers (res_none rfl _) ⟨_, _, l3, rfl, e4, e5, h6, h7, (fun b hb => (f8 b hb).imp_right (fun h => by omega)), (u9.sub (by intro k hk hl; simp only [Option.mem_toList, Option.mem_def, List.mem_append, List.mem_cons, List.not_mem_nil, or_false, false_or] at hk ⊢; have := u9.size; grind))⟩
end Go.K

namespace Go.K
open Go.Proofs
set_option maxRecDepth 8000
set_option maxHeartbeats 1000000
set_option linter.unusedSimpArgs false
set_option linter.unusedVariables false
theorem Blk.neIt {κ : Int → Value} {w : World} {b it m T : Nat} {cs : List Value} {todo : List (Int × Value)} (h : Blk w b cs T) (hi : Iter κ w it m todo) : b ≠ it := by
  rintro rfl
  obtain ⟨es, c, seen, _, _, _, h4, _⟩ := hi
  unfold Blk at h; rw [h4] at h; simp at h
theorem KMap.neIt {κ κ' : Int → Value} {w : World} {b it m : Nat} {l todo : List (Int × Value)} (h : KMap κ w b l) (hi : Iter κ' w it m todo) : b ≠ it := by
  rintro rfl
  obtain ⟨es, c, seen, _, _, _, h4, _⟩ := hi
  obtain ⟨es', c', h1, _⟩ := h.ex
  unfold Mp at h1; rw [h4] at h1; simp at h1

theorem setnext_of {w : World} {S : Nat} {sat F n scp : Nat} {sao : Option Addr} {smx nx wr : Int} {id : Int} (hS : Blk w S [.slice sao n scp, .map (some sat), .pointer (some ⟨F, 0, none⟩), .int .i64 smx, .int .i64 nx, .int .i64 wr] 121) {idx : List (Int × Value)} (hA : KMap ki w sat idx) (hid : 1 ≤ id ∧ id ≤ 1000000) (hall : ∀ p ∈ idx, p.1 < id) :
    Ret Tryz.prog 81 #[.pointer (some ⟨S, 0, none⟩), .int .i64 id] w fun v w' => v = .int .i64 0 ∧ Blk w' S [.slice sao n scp, .map (some sat), .pointer (some ⟨F, 0, none⟩), .int .i64 smx, .int .i64 id, .int .i64 wr] 121 ∧ KMap ki w' sat idx ∧ Only [S] w w' := by
  refine enterL (args := [.pointer (some ⟨S, 0, none⟩), .int .i64 id]) Tryz.func81 rfl rfl rfl ?_
  refine CW.seq fun K1 hK1 => ?_
  refine CW.region ?_
  refine WL.to (E' := [(0, .pointer (some ⟨S, 0, none⟩)), (1, .int .i64 id), (4, .int .i64 0)]) 1 [0, 1, 4] (by kernel_rfl) ?_
  refine WL.nil ?_
  refine hK1 _ _ _ ?_
  refine CW.seq fun K2 hK2 => ?_
  refine CW.seq fun K3 hK3 => ?_
  refine CW.region ?_
  refine WL.to (E' := [(0, .pointer (some ⟨S, 0, none⟩)), (1, .int .i64 id), (4, .int .i64 0), (8, .bool (decide (id < 1)))]) 3 [0, 1, 4, 8] (by kernel_rfl) ?_
  refine WL.chg 8 (.bool false) rfl (congrArg Value.bool (decide_eq_false (by omega))) ?_
  refine WL.to (E' := [(0, .pointer (some ⟨S, 0, none⟩)), (1, .int .i64 id), (4, .int .i64 0), (11, .bool (decide (id > 4611686018427387904)))]) 3 [0, 1, 4, 11] (by kernel_rfl) ?_
  refine WL.nil ?_
  refine hK3 _ _ _ ?_
  refine CW.no rfl (decide_eq_false (by omega)) ?_
  refine CW.skip ?_
  refine hK2 _ _ _ ?_
  refine CW.seq fun K4 hK4 => ?_
  refine CW.seq fun K5 hK5 => ?_
  refine CW.region ?_
  refine WL.to (E' := [(0, .pointer (some ⟨S, 0, none⟩)), (1, .int .i64 id), (4, .int .i64 0), (14, .pointer (some ⟨S, 1, none⟩))]) 3 [0, 1, 4, 14] (by kernel_rfl) ?_
  refine WL.load1 rfl agg118 rfl rfl hS rfl ?_
  refine WL.range (κ := ki) rfl rfl Tryz.underlying118 rfl hA ?_
  intro w6 it7 h8 u9 g10
  refine WL.sub [(0, .pointer (some ⟨S, 0, none⟩)), (1, .int .i64 id), (4, .int .i64 0), (16, .pointer (some ⟨it7, 0, none⟩))] ⟨rfl, rfl, rfl, rfl, trivial⟩ ?_
  refine WL.nil ?_
  refine hK5 _ _ _ ?_
  refine CW.block ?_
  have h11 := (hS.keep u9 nm0)
  have h12 := (hA.keep u9 nm0)
  refine CW.sub [(0, .pointer (some ⟨S, 0, none⟩)), (1, .int .i64 id), (16, .pointer (some ⟨it7, 0, none⟩))] ⟨rfl, rfl, rfl, trivial⟩ ?_
  refine CW.loop (F := fun _ : List (Int × Value) => [(0, .pointer (some ⟨S, 0, none⟩)), (1, .int .i64 id), (16, .pointer (some ⟨it7, 0, none⟩))]) (I := fun q w' => Iter ki w' it7 sat q ∧ (∀ p ∈ q, p.1 < id) ∧ KMap ki w' sat idx ∧ Blk w' S [.slice sao n scp, .map (some sat), .pointer (some ⟨F, 0, none⟩), .int .i64 smx, .int .i64 nx, .int .i64 wr] 121 ∧ Only [] w w') (μ := fun q => q.length) idx ⟨h8, hall, h12, h11, (u9).sub (by simp)⟩ ?_
  rintro todo w1 ⟨hi, hall', hA, hS, u0⟩
  refine CW.seq fun K13 hK13 => ?_
  refine CW.region ?_
  refine WL.next2 (κ := ki) rfl rfl rfl hi (fun ht => ?_) (fun j a v w2 hj hi2 hat un zn => ?_)
  · skip
    refine WL.to (E' := [(0, .pointer (some ⟨S, 0, none⟩)), (1, .int .i64 id), (16, .pointer (some ⟨it7, 0, none⟩)), (17, .tuple #[.bool false]), (18, .bool false)]) 1 [0, 1, 16, 17, 18] (by kernel_rfl) ?_
    refine WL.nil ?_
    refine hK13 _ _ _ ?_
    refine CW.seq fun K14 hK14 => ?_
    refine CW.condF rfl ?_
    refine CW.exit ?_
    refine hK4 _ _ _ ?_
    refine CW.seq fun K15 hK15 => ?_
    refine CW.region ?_
    refine WL.to (E' := [(25, .int .i64 id), (27, .pointer (some ⟨S, 4, none⟩))]) 4 [25, 27] (by kernel_rfl) ?_
    refine WL.store1 rfl siz2 rfl rfl rfl hS rfl ?_
    intro w16 h17 u18 z19
    refine WL.sub [] trivial ?_
    refine WL.nil ?_
    refine hK15 _ _ _ ?_
    refine CW.seq fun K20 hK20 => ?_
    refine CW.region ?_
    refine WL.to (E' := [(4, .int .i64 0)]) 1 [4] (by kernel_rfl) ?_
    refine WL.nil ?_
    refine hK20 _ _ _ ?_
    have h21 := (hA.keep u18 (nmc (Ne.symm (Blk.neK hS hA)) nm0))
    refine CW.ret fun a ha => ?_
    try simp (decide := true) only [Exit.inBlock, Exit.then, ↓reduceIte]
    exact fin ha.defers (res_tmp rfl ha rfl _) ⟨rfl, h17, h21, (u0.trans u18).sub (by simp)⟩
  · skip
    refine WL.to (E' := [(0, .pointer (some ⟨S, 0, none⟩)), (1, .int .i64 id), (16, .pointer (some ⟨it7, 0, none⟩)), (17, .tuple #[.bool true, .int .i64 a, v]), (18, .bool true)]) 1 [0, 1, 16, 17, 18] (by kernel_rfl) ?_
    refine WL.nil ?_
    refine hK13 _ _ _ ?_
    refine CW.seq fun K22 hK22 => ?_
    refine CW.condT rfl ?_
    refine CW.skip ?_
    refine hK22 _ _ _ ?_
    refine CW.block ?_
    refine CW.seq fun K23 hK23 => ?_
    refine CW.region ?_
    refine WL.entry (κ := ki) rfl rfl rfl hat ?_
    refine WL.to (E' := [(0, .pointer (some ⟨S, 0, none⟩)), (1, .int .i64 id), (16, .pointer (some ⟨it7, 0, none⟩)), (17, .tuple #[.bool true, .int .i64 a, v]), (18, .bool true), (19, .tuple #[.int .i64 a, v]), (20, .int .i64 a), (5, .int .i64 a)]) 2 [0, 1, 16, 17, 18, 19, 20, 5] (by kernel_rfl) ?_
    refine WL.nil ?_
    refine hK23 _ _ _ ?_
    refine CW.seq fun K24 hK24 => ?_
    refine CW.region ?_
    refine WL.to (E' := [(0, .pointer (some ⟨S, 0, none⟩)), (1, .int .i64 id), (16, .pointer (some ⟨it7, 0, none⟩)), (17, .tuple #[.bool true, .int .i64 a, v]), (18, .bool true), (19, .tuple #[.int .i64 a, v]), (20, .int .i64 a), (5, .int .i64 a), (21, .int .i64 a), (22, .int .i64 id), (23, .bool (decide (a ≥ id)))]) 3 [0, 1, 16, 17, 18, 19, 20, 5, 21, 22, 23] (by kernel_rfl) ?_
    refine WL.nil ?_
    refine hK24 _ _ _ ?_
    refine CW.no rfl (decide_eq_false (by have := hall' _ (List.mem_of_getElem? hj); simp only at this; omega)) ?_
    refine CW.skip ?_
    intro a ha
    have ha := ha.sub (E' := [(0, .pointer (some ⟨S, 0, none⟩)), (1, .int .i64 id), (16, .pointer (some ⟨it7, 0, none⟩))]) ⟨rfl, rfl, rfl, trivial⟩
    have h25 := (hA.keep un (nmc (KMap.neIt hA hi) nm0))
    have h26 := (hS.keep un (nmc (Blk.neIt hS hi) nm0))
    exact ⟨_, (by rw [List.length_eraseIdx]; have := (List.getElem?_eq_some_iff.1 hj).1; split <;> omega), ⟨hi2, (fun p hp => hall' p (List.mem_of_mem_eraseIdx hp)), h25, h26, (u0.trans un).sub (by intro k hk hl; simp only [List.nil_append, List.mem_cons, List.not_mem_nil, or_false] at hk; have := g10; omega)⟩, ha⟩

theorem erase_of {w : World} {S j : Nat} {F fk fc : Nat} {fa : Option Addr} {l : List Int} (hF : Blk w F [.slice fa fk fc, .func (.func 135) #[] #[]] 246) (hfo : Own w (.slice fa fk fc) 3 1 fk (nums l)) (hsz : fk ≤ 100000) {sat n scp : Nat} {sao : Option Addr} {smx nx wr : Int} {id : Int} (hS : Blk w S [.slice sao n scp, .map (some sat), .pointer (some ⟨F, 0, none⟩), .int .i64 smx, .int .i64 nx, .int .i64 wr] 121) {idx : List (Int × Value)} (hA : KMap ki w sat idx) {xs : List Value} (hO : Own w (.slice sao n scp) 214 3 n xs) (hlk : look idx id = some (.int .i64 ((j : Nat) : Int))) (hj : j < n) (hw : -1000000 ≤ wr ∧ wr ≤ 1000000) :
    Ret Tryz.prog 80 #[.pointer (some ⟨S, 0, none⟩), .int .i64 id] w fun v w' => ∃ fa' fc', ∃ l' : List Int, v = .int .i64 0 ∧ Blk w' S [.slice sao n scp, .map (some sat), .pointer (some ⟨F, 0, none⟩), .int .i64 smx, .int .i64 nx, .int .i64 (wr + 1)] 121 ∧ KMap ki w' sat (delv idx id) ∧ Own w' (.slice sao n scp) 214 3 n (setAll xs (j * 3) [.int .i64 0, .int .i64 0, .slice none 0 0]) ∧ l'.length = fk + 1 ∧ (l = [] → l' = [((j : Nat) : Int)]) ∧ Blk w' F [.slice fa' (fk + 1) fc', .func (.func 135) #[] #[]] 246 ∧ Own w' (.slice fa' (fk + 1) fc') 3 1 (fk + 1) (nums l') ∧ (∀ b, (Value.slice fa' (fk + 1) fc').ownBlock = some b → (Value.slice fa fk fc).ownBlock = some b ∨ w.heap.size ≤ b) ∧ Only ([S, sat, F] ++ (Value.slice sao n scp).ownBlock.toList ++ (Value.slice fa fk fc).ownBlock.toList) w w' := by
  refine enterL (args := [.pointer (some ⟨S, 0, none⟩), .int .i64 id]) Tryz.func80 rfl rfl rfl ?_
  refine CW.seq fun K1 hK1 => ?_
  refine CW.region ?_
  refine WL.to (E' := [(0, .pointer (some ⟨S, 0, none⟩)), (1, .int .i64 id), (4, .int .i64 0)]) 1 [0, 1, 4] (by kernel_rfl) ?_
  refine WL.nil ?_
  refine hK1 _ _ _ ?_
  refine CW.seq fun K2 hK2 => ?_
  refine CW.region ?_
  refine WL.to (E' := [(0, .pointer (some ⟨S, 0, none⟩)), (1, .int .i64 id), (4, .int .i64 0), (10, .pointer (some ⟨S, 1, none⟩))]) 3 [0, 1, 4, 10] (by kernel_rfl) ?_
  refine WL.load1 rfl agg118 rfl rfl hS rfl ?_
  refine WL.to (E' := [(0, .pointer (some ⟨S, 0, none⟩)), (1, .int .i64 id), (4, .int .i64 0), (11, .map (some sat)), (12, .int .i64 id)]) 1 [0, 1, 4, 11, 12] (by kernel_rfl) ?_
  refine WL.lookB (κ := ki) (a := id) true rfl rfl law_i Tryz.underlying118 Tryz.underlying2 zer3 rfl rfl hA ?_
  refine WL.chg 13 (.tuple #[.int .i64 ((j : Nat) : Int), .bool true]) rfl (by rw [(hlk : look idx id = some (.int .i64 ((j : Nat) : Int)))]; rfl) ?_
  refine WL.to (E' := [(0, .pointer (some ⟨S, 0, none⟩)), (1, .int .i64 id), (4, .int .i64 0), (5, .int .i64 ((j : Nat) : Int)), (6, .bool true)]) 5 [0, 1, 4, 5, 6] (by kernel_rfl) ?_
  refine WL.nil ?_
  refine hK2 _ _ _ ?_
  refine CW.seq fun K3 hK3 => ?_
  refine CW.seq fun K4 hK4 => ?_
  refine CW.region ?_
  refine WL.to (E' := [(0, .pointer (some ⟨S, 0, none⟩)), (1, .int .i64 id), (4, .int .i64 0), (5, .int .i64 ((j : Nat) : Int)), (17, .bool false)]) 2 [0, 1, 4, 5, 17] (by kernel_rfl) ?_
  refine WL.nil ?_
  refine hK4 _ _ _ ?_
  refine CW.condF rfl ?_
  refine CW.skip ?_
  refine hK3 _ _ _ ?_
  refine CW.seq fun K5 hK5 => ?_
  refine CW.region ?_
  refine WL.to (E' := [(0, .pointer (some ⟨S, 0, none⟩)), (1, .int .i64 id), (4, .int .i64 0), (5, .int .i64 ((j : Nat) : Int)), (18, .pointer (some ⟨S, 0, none⟩)), (19, .int .i64 ((j : Nat) : Int))]) 2 [0, 1, 4, 5, 18, 19] (by kernel_rfl) ?_
  refine WL.build (vs := []) (v := .agg #[.int .i64 0, .int .i64 0, .slice none 0 0]) rfl rfl rfl (by kernel_rfl) ?_
  refine WL.call rfl rfl rfl rfl ent114 rfl (write_nil hS hO (by omega) (by omega)) ?_
  rintro _ w6 ⟨rfl, h8, h9, u7⟩
  refine WL.sub [(0, .pointer (some ⟨S, 0, none⟩)), (1, .int .i64 id), (4, .int .i64 0), (5, .int .i64 ((j : Nat) : Int))] ⟨rfl, rfl, rfl, rfl, trivial⟩ ?_
  refine WL.nil ?_
  refine hK5 _ _ _ ?_
  refine CW.seq fun K10 hK10 => ?_
  refine CW.region ?_
  refine WL.to (E' := [(0, .pointer (some ⟨S, 0, none⟩)), (1, .int .i64 id), (4, .int .i64 0), (5, .int .i64 ((j : Nat) : Int)), (24, .pointer (some ⟨S, 1, none⟩))]) 3 [0, 1, 4, 5, 24] (by kernel_rfl) ?_
  refine WL.load1 rfl agg118 rfl rfl h8 rfl ?_
  refine WL.to (E' := [(0, .pointer (some ⟨S, 0, none⟩)), (4, .int .i64 0), (5, .int .i64 ((j : Nat) : Int)), (25, .map (some sat)), (26, .int .i64 id)]) 1 [0, 4, 5, 25, 26] (by kernel_rfl) ?_
  have h11 := (hA.keep u7 (nma (nmc (Ne.symm (Blk.neK hS hA)) nm0) (Own.neM hO hA)))
  refine WL.del (κ := ki) (a := id) rfl law_i Tryz.underlying118 Tryz.underlying2 rfl rfl h11 ?_
  intro w12 h13 u14 z15
  refine WL.sub [(0, .pointer (some ⟨S, 0, none⟩)), (4, .int .i64 0), (5, .int .i64 ((j : Nat) : Int))] ⟨rfl, rfl, rfl, trivial⟩ ?_
  refine WL.nil ?_
  refine hK10 _ _ _ ?_
  refine CW.seq fun K16 hK16 => ?_
  refine CW.region ?_
  refine WL.to (E' := [(4, .int .i64 0), (5, .int .i64 ((j : Nat) : Int)), (29, .pointer (some ⟨S, 2, none⟩))]) 3 [4, 5, 29] (by kernel_rfl) ?_
  have h17 := (h8.keep u14 (nmc (Blk.neK h8 h11) nm0))
  refine WL.load1 rfl agg119 rfl rfl h17 rfl ?_
  refine WL.to (E' := [(4, .int .i64 0), (30, .pointer (some ⟨F, 0, none⟩)), (31, .int .i64 ((j : Nat) : Int))]) 1 [4, 30, 31] (by kernel_rfl) ?_
  have h18 := (hF.keep u7 (nma (nmc (Blk.ne hF hS rfl) nm0) (Own.ne hO hF rfl)))
  have h19 := (h18.keep u14 (nmc (Blk.neK h18 h11) nm0))
  have h20 := (hfo.keep' u7 (disa (disc (Own.ne hfo hS rfl) dis0) (Own.neO hfo hO rfl)))
  have h21 := (h20.keep' u14 (disc (Own.neM h20 h11) dis0))
  refine WL.call rfl rfl rfl rfl ent115 rfl (put_of h19 h21 (by omega)) ?_
  rintro _ w31 ⟨ao22, cp23, l24, rfl, e25, e26, h27, h28, f29, u30⟩
  refine WL.sub [(4, .int .i64 0)] ⟨rfl, trivial⟩ ?_
  refine WL.nil ?_
  refine hK16 _ _ _ ?_
  refine CW.seq fun K32 hK32 => ?_
  refine CW.region ?_
  refine WL.to (E' := [(4, .int .i64 0)]) 1 [4] (by kernel_rfl) ?_
  refine WL.nil ?_
  refine hK32 _ _ _ ?_
  have h33 := (h17.keep u30 (nma (nmc (Blk.ne h17 h19 rfl) nm0) (Own.ne h21 h17 rfl)))
  have h34 := (h13.keep u30 (nma (nmc (Ne.symm (Blk.neK h19 h13)) nm0) (Own.neM h21 h13)))
  have h35 := (h9.keep' u14 (disc (Own.neM h9 h11) dis0))
  have h36 := (h35.keep' u30 (disa (disc (Own.ne h35 h19 rfl) dis0) (Own.neO h35 h21 rfl)))
  refine CW.ret fun a ha => ?_
  try simp (decide := true) only [Exit.inBlock, Exit.then, ↓reduceIte]
  exact fin ha.defers (res_tmp rfl ha rfl _) ⟨_, _, l24, rfl, h33, h34, h36, e25, e26, h27, h28, (fun b hb => (f29 b hb).imp_right (fun h => by have := u7.size; have := u14.size; omega)), (((u7.trans u14).trans u30).sub (by intro k hk hl; simp only [Option.mem_toList, Option.mem_def, List.mem_append, List.mem_cons, List.not_mem_nil, or_false, false_or] at hk ⊢; have := u7.size; have := u14.size; have := u30.size; grind))⟩

theorem back79_of {w : World} {S j br bi : Nat} {F fk fc : Nat} {fa : Option Addr} {l : List Int} (hF : Blk w F [.slice fa fk fc, .func (.func 135) #[] #[]] 246) (hfo : Own w (.slice fa fk fc) 3 1 fk (nums l)) (hsz : fk ≤ 100000) {sat n scp : Nat} {sao : Option Addr} {smx nx wr : Int} {id : Int} (hS : Blk w S [.slice sao n scp, .map (some sat), .pointer (some ⟨F, 0, none⟩), .int .i64 smx, .int .i64 nx, .int .i64 wr] 121) {idx : List (Int × Value)} (hA : KMap ki w sat idx) {xs : List Value} (hO : Own w (.slice sao n scp) 214 3 n xs) (hlk : look idx id = some (.int .i64 ((j : Nat) : Int))) (hj : j < n) (hw : -1000000 ≤ wr ∧ wr ≤ 1000000) (hbr : Blk w br [.pointer (some ⟨S, 0, none⟩)] 63) (hbi : Blk w bi [.int .i64 id] 2) (hid : 1 ≤ id ∧ id ≤ 1000000) (hall : ∀ p ∈ delv idx id, p.1 < id) :
    Ret Tryz.prog 79 #[.pointer (some ⟨br, 0, none⟩), .pointer (some ⟨bi, 0, none⟩)] w fun v w' => ∃ fa' fc', ∃ l' : List Int, v = .tuple #[] ∧ Blk w' S [.slice sao n scp, .map (some sat), .pointer (some ⟨F, 0, none⟩), .int .i64 smx, .int .i64 id, .int .i64 (wr + 1)] 121 ∧ KMap ki w' sat (delv idx id) ∧ Own w' (.slice sao n scp) 214 3 n (setAll xs (j * 3) [.int .i64 0, .int .i64 0, .slice none 0 0]) ∧ l'.length = fk + 1 ∧ (l = [] → l' = [((j : Nat) : Int)]) ∧ Blk w' F [.slice fa' (fk + 1) fc', .func (.func 135) #[] #[]] 246 ∧ Own w' (.slice fa' (fk + 1) fc') 3 1 (fk + 1) (nums l') ∧ (∀ b, (Value.slice fa' (fk + 1) fc').ownBlock = some b → (Value.slice fa fk fc).ownBlock = some b ∨ w.heap.size ≤ b) ∧ Only ([S, sat, F] ++ (Value.slice sao n scp).ownBlock.toList ++ (Value.slice fa fk fc).ownBlock.toList) w w' := by
  refine enterL (args := [.pointer (some ⟨br, 0, none⟩), .pointer (some ⟨bi, 0, none⟩)]) Tryz.func79 rfl rfl rfl ?_
  refine CW.seq fun K1 hK1 => ?_
  refine CW.region ?_
  refine WL.load1 rfl agg63 rfl rfl hbr rfl ?_
  refine WL.load1 rfl agg2 rfl rfl hbi rfl ?_
  refine WL.call rfl rfl rfl rfl ent80 rfl (erase_of hF hfo (by omega) hS hA hO hlk (by omega) (by omega)) ?_
  rintro _ w14 ⟨ao2, cp3, l4, rfl, h5, h6, h7, e8, e9, h10, h11, f12, u13⟩
  refine WL.sub [(0, .pointer (some ⟨br, 0, none⟩)), (1, .pointer (some ⟨bi, 0, none⟩))] ⟨rfl, rfl, trivial⟩ ?_
  refine WL.nil ?_
  refine hK1 _ _ _ ?_
  refine CW.region ?_
  have h15 := (hbr.keep u13 (nma (nma (nmc (Blk.ne hbr hS rfl) (nmc (Blk.neK hbr hA) (nmc (Blk.ne hbr hF rfl) nm0))) (Own.ne hO hbr rfl)) (Own.ne hfo hbr rfl)))
  refine WL.load1 rfl agg63 rfl rfl h15 rfl ?_
  have h16 := (hbi.keep u13 (nma (nma (nmc (Blk.ne hbi hS rfl) (nmc (Blk.neK hbi hA) (nmc (Blk.ne hbi hF rfl) nm0))) (Own.ne hO hbi rfl)) (Own.ne hfo hbi rfl)))
  refine WL.load1 rfl agg2 rfl rfl h16 rfl ?_
  refine WL.call rfl rfl rfl rfl ent81 rfl (setnext_of h5 h6 (by omega) hall) ?_
  rintro _ w20 ⟨rfl, h17, h18, u19⟩
  refine WL.sub [] trivial ?_
  refine WL.nil ?_
  have h21 := (h7.keep' u19 (disc (Own.ne h7 h5 rfl) dis0))
  have h22 := (h10.keep u19 (nmc (Blk.ne h10 h5 rfl) nm0))
  have h23 := (h11.keep' u19 (disc (Own.ne h11 h5 rfl) dis0))
  intro a ha
  try simp (decide := true) only [Exit.inBlock, Exit.then, ↓reduceIte]
  exact finN ha.defers (res_none rfl _) ⟨_, _, l4, rfl, h17, h18, h21, e8, e9, h22, h23, (fun b hb => (f12 b hb).imp_right (fun h => by omega)), ((u13.trans u19).sub (by intro k hk hl; simp only [Option.mem_toList, Option.mem_def, List.mem_append, List.mem_cons, List.not_mem_nil, or_false, false_or] at hk ⊢; have := u13.size; have := u19.size; grind))⟩

theorem going_of {w : World} {hub : Nat} {id : Int} (hh : Blk w hub [.slice none 0 0] 137) :
    Ret Tryz.prog 44 #[.pointer (some ⟨hub, 0, none⟩), .int .i64 id] w fun v w' => v = .tuple #[] ∧ w' = w := by
  refine enterL (args := [.pointer (some ⟨hub, 0, none⟩), .int .i64 id]) Tryz.func44 rfl rfl rfl ?_
  refine CW.seq fun K1 hK1 => ?_
  refine CW.region ?_
  refine WL.to (E' := [(1, .int .i64 id), (10, .pointer (some ⟨hub, 0, none⟩))]) 3 [1, 10] (by kernel_rfl) ?_
  refine WL.load1 rfl agg135 rfl rfl hh rfl ?_
  refine WL.to (E' := [(1, .int .i64 id), (11, .slice none 0 0), (12, .int .i64 0), (13, .int .i64 0)]) 2 [1, 11, 12, 13] (by kernel_rfl) ?_
  refine WL.nil ?_
  refine hK1 _ _ _ ?_
  refine CW.block ?_
  refine CW.round1 fun K2 hK2 => ?_
  refine CW.seq fun K3 hK3 => ?_
  refine CW.region ?_
  refine WL.to (E' := [(1, .int .i64 id), (11, .slice none 0 0), (12, .int .i64 0), (13, .int .i64 0), (14, .bool false)]) 1 [1, 11, 12, 13, 14] (by kernel_rfl) ?_
  refine WL.nil ?_
  refine hK3 _ _ _ ?_
  refine CW.seq fun K4 hK4 => ?_
  refine CW.condF rfl ?_
  refine CW.exit ?_
  intro a ha
  try simp (decide := true) only [Exit.inBlock, Exit.then, ↓reduceIte]
  exact finN ha.defers (res_none rfl _) ⟨rfl, rfl⟩

theorem back43_of {w : World} {p t hub base bp brw : Nat} {id : Int} (hp : Blk w p [.pointer (some ⟨t, 0, none⟩), .pointer (some ⟨hub, 0, none⟩), .map (some base)] 87) (hh : Blk w hub [.slice none 0 0] 137) (hbp : Blk w bp [.pointer (some ⟨p, 0, none⟩)] 77) (hbrw : Blk w brw [.int .i64 id] 2) :
    Ret Tryz.prog 43 #[.pointer (some ⟨bp, 0, none⟩), .pointer (some ⟨brw, 0, none⟩)] w fun v w' => v = .tuple #[] ∧ Only [] w w' := by
  refine enterL (args := [.pointer (some ⟨bp, 0, none⟩), .pointer (some ⟨brw, 0, none⟩)]) Tryz.func43 rfl rfl rfl ?_
  refine CW.tail 5 (by kernel_rfl) (by kernel_rfl) ?_
  intro w1 e3 u2
  have h4 := (hbp.keep u2 nm0)
  refine ST.load1 rfl agg77 rfl rfl h4 rfl ?_
  refine ST.to (E' := [(1, .pointer (some ⟨brw, 0, none⟩)), (4, .pointer (some ⟨p, 1, none⟩))]) 2 [1, 4] (by kernel_rfl) ?_
  have h5 := (hp.keep u2 nm0)
  refine ST.load1 rfl agg83 rfl rfl h5 rfl ?_
  have h6 := (hbrw.keep u2 nm0)
  refine ST.load1 rfl agg2 rfl rfl h6 rfl ?_
  refine ST.nil ?_
  change WL _ _ _ _ _ _ _ _
  have h7 := (hh.keep u2 nm0)
  refine WL.call rfl rfl rfl rfl ent44 rfl (going_of h7) ?_
  rintro _ _ ⟨rfl, rfl⟩
  refine WL.sub [] trivial ?_
  refine WL.nil ?_
  intro a ha
  try simp (decide := true) only [Exit.inBlock, Exit.then, ↓reduceIte]
  exact finN ha.defers (res_none rfl _) ⟨rfl, (u2.sub (by simp))⟩
end Go.K

namespace Go.K
open Go.Proofs
set_option maxRecDepth 8000
set_option maxHeartbeats 1000000
set_option linter.unusedSimpArgs false
set_option linter.unusedVariables false
theorem take_get {fns : List Value} {j : Nat} {f : Value} (rest : List Value) (h : fns[j]? = some f) : (fns.take (j + 1) ++ rest)[j]? = some f := by
  have hj : j < fns.length := (List.getElem?_eq_some_iff.1 h).1
  rw [List.getElem?_append_left (by rw [List.length_take]; omega), List.getElem?_take_of_lt (by omega)]
  exact h
theorem Own.take {w : World} {ao : Option Addr} {cp e sz k i : Nat} {xs : List Value} (h : Own w (.slice ao k cp) e sz k xs) (hk : 0 < k) (hi : i ≤ k) : Own w (.slice ao i cp) e sz i (xs.take (i * sz)) := by
  obtain ⟨g, rest, rfl, hb, h1, h2, h3, h4⟩ := h.open2 hk
  exact Own.shrink hb h1 h2 h3 h4 hi
theorem take_set (fns : List Value) (j : Nat) (x : Value) : ((fns.take (j + 1)).set j x).take (j * 1) = fns.take j := by
  rw [Nat.mul_one, List.take_set_of_le (Nat.le_refl _), List.take_take]
  congr 1
  omega

theorem back_of {w : World} {lg k : Nat} {Inv : Nat → World → Prop} {S0 : List Nat} {lao : Option Addr} {m lcp : Nat} {fns : List Value} (hl : Blk w lg [.slice lao m lcp] 126) (hlo : Own w (.slice lao m lcp) 1 1 m fns) (hk : k ≤ m) (hm : m ≤ 100000) (hI : Inv m w)
    (hkeep : ∀ j w1 w2, Inv j w1 → Only ([lg] ++ (Value.slice lao m lcp).ownBlock.toList) w1 w2 → Inv j w2)
    (hform : ∀ (j : Nat) (f : Value), fns[j]? = some f → ∃ (g : FuncId) (caps : List Value), f = .func (.func g) #[] caps.toArray ∧ enters Tryz.prog g = true)
    (hstep : ∀ (j : Nat) (g : FuncId) (caps : List Value) (w1 : World), k ≤ j → j < m → fns[j]? = some (.func (.func g) #[] caps.toArray) → Inv (j + 1) w1 → Ret Tryz.prog g caps.toArray w1 fun v w2 => Inv j w2 ∧ ∃ S, Only S w1 w2 ∧ (∀ b ∈ S, b ∈ S0 ∨ w.heap.size ≤ b) ∧ lg ∉ S ∧ ∀ b ∈ (Value.slice lao m lcp).ownBlock.toList, b ∉ S) :
    Ret Tryz.prog 53 #[.pointer (some ⟨lg, 0, none⟩), .int .i64 ((k : Nat) : Int)] w fun v w' => v = .bool true ∧ Inv k w' ∧ Blk w' lg [.slice lao k lcp] 126 ∧ Own w' (.slice lao k lcp) 1 1 k (fns.take k) ∧ Only ([lg] ++ (Value.slice lao m lcp).ownBlock.toList ++ S0) w w' := by
  refine enterL (args := [.pointer (some ⟨lg, 0, none⟩), .int .i64 ((k : Nat) : Int)]) Tryz.func53 rfl rfl rfl ?_
  refine CW.seq fun K1 hK1 => ?_
  refine CW.region ?_
  refine WL.to (E' := [(0, .pointer (some ⟨lg, 0, none⟩)), (1, .int .i64 ((k : Nat) : Int)), (4, .bool false)]) 1 [0, 1, 4] (by kernel_rfl) ?_
  refine WL.nil ?_
  refine hK1 _ _ _ ?_
  refine CW.seq fun K2 hK2 => ?_
  refine CW.seq fun K3 hK3 => ?_
  refine CW.region ?_
  refine WL.to (E' := [(0, .pointer (some ⟨lg, 0, none⟩)), (1, .int .i64 ((k : Nat) : Int)), (4, .bool false), (7, .pointer (some ⟨lg, 0, none⟩)), (8, .int .i64 ((k : Nat) : Int))]) 2 [0, 1, 4, 7, 8] (by kernel_rfl) ?_
  refine WL.callQ (v := .bool (decide (0 ≤ ((k : Nat) : Int) ∧ ((k : Nat) : Int) ≤ ((m : Nat) : Int)))) rfl rfl rfl rfl ent95 rfl (login_of hl) ?_
  refine WL.to (E' := [(0, .pointer (some ⟨lg, 0, none⟩)), (1, .int .i64 ((k : Nat) : Int)), (4, .bool false), (10, .bool (!(decide (0 ≤ ((k : Nat) : Int) ∧ ((k : Nat) : Int) ≤ ((m : Nat) : Int)))))]) 1 [0, 1, 4, 10] (by kernel_rfl) ?_
  refine WL.nil ?_
  refine hK3 _ _ _ ?_
  refine CW.no rfl ((by simp; omega)) ?_
  refine CW.skip ?_
  refine hK2 _ _ _ ?_
  refine CW.seq fun K4 hK4 => ?_
  refine CW.block ?_
  refine CW.sub [(0, .pointer (some ⟨lg, 0, none⟩)), (1, .int .i64 ((k : Nat) : Int))] ⟨rfl, rfl, trivial⟩ ?_
  refine CW.loop (F := fun _ : Nat => [(0, .pointer (some ⟨lg, 0, none⟩)), (1, .int .i64 ((k : Nat) : Int))]) (I := fun j w' => Blk w' lg [.slice lao j lcp] 126 ∧ Own w' (.slice lao j lcp) 1 1 j (fns.take j) ∧ Inv j w' ∧ k ≤ j ∧ j ≤ m ∧ Only ([lg] ++ (Value.slice lao m lcp).ownBlock.toList ++ S0) w w') (μ := fun j => j) m ⟨hl, (by rw [List.take_of_length_le (by have := hlo.len; omega)]; exact hlo), hI, hk, Nat.le_refl _, Only.refl _ _⟩ ?_
  have hfl := hlo.len
  rw [Nat.mul_one] at hfl
  rintro j w1 ⟨hl, hlo, hI, hkj, hjm, u0⟩
  rcases Nat.lt_or_ge k j with hlt | hge
  · skip
    obtain ⟨j, rfl⟩ : ∃ i, j = i + 1 := ⟨j - 1, by omega⟩
    obtain ⟨f, hf⟩ : ∃ f, fns[j]? = some f := ⟨_, List.getElem?_eq_getElem (by omega)⟩
    obtain ⟨g, caps, rfl, hent⟩ := hform j f hf
    refine CW.seq fun K5 hK5 => ?_
    refine CW.seq fun K6 hK6 => ?_
    refine CW.region ?_
    refine WL.to (E' := [(0, .pointer (some ⟨lg, 0, none⟩)), (1, .int .i64 ((k : Nat) : Int)), (11, .pointer (some ⟨lg, 0, none⟩)), (12, .pointer (some ⟨lg, 0, none⟩)), (13, .pointer (some ⟨lg, 0, none⟩))]) 3 [0, 1, 11, 12, 13] (by kernel_rfl) ?_
    refine WL.load1 rfl agg124 rfl rfl hl rfl ?_
    refine WL.to (E' := [(0, .pointer (some ⟨lg, 0, none⟩)), (1, .int .i64 ((k : Nat) : Int)), (11, .pointer (some ⟨lg, 0, none⟩)), (12, .pointer (some ⟨lg, 0, none⟩)), (13, .pointer (some ⟨lg, 0, none⟩)), (14, .slice lao (j + 1) lcp), (15, .int .i64 ((j + 1 : Nat) : Int)), (16, .int .i64 ((k : Nat) : Int)), (17, .bool (decide (((j + 1 : Nat) : Int) > ((k : Nat) : Int))))]) 3 [0, 1, 11, 12, 13, 14, 15, 16, 17] (by kernel_rfl) ?_
    refine WL.nil ?_
    refine hK6 _ _ _ ?_
    refine CW.yes rfl (decide_eq_true (by omega)) ?_
    refine CW.skip ?_
    refine hK5 _ _ _ ?_
    refine CW.block ?_
    refine CW.seq fun K7 hK7 => ?_
    refine CW.region ?_
    refine WL.to (E' := [(0, .pointer (some ⟨lg, 0, none⟩)), (1, .int .i64 ((k : Nat) : Int)), (11, .pointer (some ⟨lg, 0, none⟩)), (12, .pointer (some ⟨lg, 0, none⟩)), (13, .pointer (some ⟨lg, 0, none⟩)), (14, .slice lao (j + 1) lcp), (15, .int .i64 ((j + 1 : Nat) : Int)), (16, .int .i64 ((k : Nat) : Int)), (17, .bool (decide (((j + 1 : Nat) : Int) > ((k : Nat) : Int)))), (18, .pointer (some ⟨lg, 0, none⟩)), (19, .pointer (some ⟨lg, 0, none⟩)), (20, .pointer (some ⟨lg, 0, none⟩))]) 3 [0, 1, 11, 12, 13, 14, 15, 16, 17, 18, 19, 20] (by kernel_rfl) ?_
    refine WL.load1 rfl agg124 rfl rfl hl rfl ?_
    refine WL.to (E' := [(0, .pointer (some ⟨lg, 0, none⟩)), (1, .int .i64 ((k : Nat) : Int)), (11, .pointer (some ⟨lg, 0, none⟩)), (12, .pointer (some ⟨lg, 0, none⟩)), (13, .pointer (some ⟨lg, 0, none⟩)), (14, .slice lao (j + 1) lcp), (15, .int .i64 ((j + 1 : Nat) : Int)), (16, .int .i64 ((k : Nat) : Int)), (17, .bool (decide (((j + 1 : Nat) : Int) > ((k : Nat) : Int)))), (18, .pointer (some ⟨lg, 0, none⟩)), (19, .pointer (some ⟨lg, 0, none⟩)), (20, .pointer (some ⟨lg, 0, none⟩)), (21, .slice lao (j + 1) lcp), (22, .int .i64 ((j + 1 : Nat) : Int)), (23, .int .i64 (IntKind.i64.wrap (((j + 1 : Nat) : Int) - 1)))]) 2 [0, 1, 11, 12, 13, 14, 15, 16, 17, 18, 19, 20, 21, 22, 23] (by kernel_rfl) ?_
    refine WL.chg 23 (.int .i64 ((j : Nat) : Int)) rfl (congrArg (Value.int .i64) (by rw [i64_in _ (by omega)]; omega)) ?_
    refine WL.to (E' := [(0, .pointer (some ⟨lg, 0, none⟩)), (1, .int .i64 ((k : Nat) : Int)), (11, .pointer (some ⟨lg, 0, none⟩)), (12, .pointer (some ⟨lg, 0, none⟩)), (13, .pointer (some ⟨lg, 0, none⟩)), (14, .slice lao (j + 1) lcp), (15, .int .i64 ((j + 1 : Nat) : Int)), (16, .int .i64 ((k : Nat) : Int)), (17, .bool (decide (((j + 1 : Nat) : Int) > ((k : Nat) : Int)))), (18, .pointer (some ⟨lg, 0, none⟩)), (19, .pointer (some ⟨lg, 0, none⟩)), (20, .pointer (some ⟨lg, 0, none⟩)), (21, .slice lao (j + 1) lcp), (22, .int .i64 ((j + 1 : Nat) : Int)), (23, .int .i64 ((j : Nat) : Int)), (5, .int .i64 ((j : Nat) : Int))]) 1 [0, 1, 11, 12, 13, 14, 15, 16, 17, 18, 19, 20, 21, 22, 23, 5] (by kernel_rfl) ?_
    refine WL.nil ?_
    refine hK7 _ _ _ ?_
    refine CW.seq fun K8 hK8 => ?_
    refine CW.region ?_
    refine WL.to (E' := [(0, .pointer (some ⟨lg, 0, none⟩)), (1, .int .i64 ((k : Nat) : Int)), (11, .pointer (some ⟨lg, 0, none⟩)), (12, .pointer (some ⟨lg, 0, none⟩)), (13, .pointer (some ⟨lg, 0, none⟩)), (14, .slice lao (j + 1) lcp), (15, .int .i64 ((j + 1 : Nat) : Int)), (16, .int .i64 ((k : Nat) : Int)), (17, .bool (decide (((j + 1 : Nat) : Int) > ((k : Nat) : Int)))), (18, .pointer (some ⟨lg, 0, none⟩)), (19, .pointer (some ⟨lg, 0, none⟩)), (20, .pointer (some ⟨lg, 0, none⟩)), (21, .slice lao (j + 1) lcp), (22, .int .i64 ((j + 1 : Nat) : Int)), (23, .int .i64 ((j : Nat) : Int)), (5, .int .i64 ((j : Nat) : Int)), (24, .pointer (some ⟨lg, 0, none⟩)), (25, .pointer (some ⟨lg, 0, none⟩)), (26, .pointer (some ⟨lg, 0, none⟩))]) 3 [0, 1, 11, 12, 13, 14, 15, 16, 17, 18, 19, 20, 21, 22, 23, 5, 24, 25, 26] (by kernel_rfl) ?_
    refine WL.load1 rfl agg124 rfl rfl hl rfl ?_
    refine WL.to (E' := [(0, .pointer (some ⟨lg, 0, none⟩)), (1, .int .i64 ((k : Nat) : Int)), (11, .pointer (some ⟨lg, 0, none⟩)), (12, .pointer (some ⟨lg, 0, none⟩)), (13, .pointer (some ⟨lg, 0, none⟩)), (14, .slice lao (j + 1) lcp), (15, .int .i64 ((j + 1 : Nat) : Int)), (16, .int .i64 ((k : Nat) : Int)), (17, .bool (decide (((j + 1 : Nat) : Int) > ((k : Nat) : Int)))), (18, .pointer (some ⟨lg, 0, none⟩)), (19, .pointer (some ⟨lg, 0, none⟩)), (20, .pointer (some ⟨lg, 0, none⟩)), (21, .slice lao (j + 1) lcp), (22, .int .i64 ((j + 1 : Nat) : Int)), (23, .int .i64 ((j : Nat) : Int)), (5, .int .i64 ((j : Nat) : Int)), (24, .pointer (some ⟨lg, 0, none⟩)), (25, .pointer (some ⟨lg, 0, none⟩)), (26, .pointer (some ⟨lg, 0, none⟩)), (27, .slice lao (j + 1) lcp), (28, .int .i64 ((j : Nat) : Int))]) 1 [0, 1, 11, 12, 13, 14, 15, 16, 17, 18, 19, 20, 21, 22, 23, 5, 24, 25, 26, 27, 28] (by kernel_rfl) ?_
    obtain ⟨g16, rest9, e10, h11, q12, q13, q14, q15⟩ := hlo.open2 (by omega)
    subst e10
    refine WL.index rfl rfl Tryz.underlying124 siz1 rfl rfl (by omega) (by omega) ?_
    refine WL.chg 29 (.pointer (some ⟨g16, j, none⟩)) rfl (by simp) ?_
    refine WL.load1 rfl agg1 rfl rfl h11 (take_get _ hf) ?_
    refine WL.to (E' := [(0, .pointer (some ⟨lg, 0, none⟩)), (1, .int .i64 ((k : Nat) : Int)), (11, .pointer (some ⟨lg, 0, none⟩)), (12, .pointer (some ⟨lg, 0, none⟩)), (13, .pointer (some ⟨lg, 0, none⟩)), (14, .slice (some ⟨g16, 0, none⟩) (j + 1) lcp), (15, .int .i64 ((j + 1 : Nat) : Int)), (16, .int .i64 ((k : Nat) : Int)), (17, .bool (decide (((j + 1 : Nat) : Int) > ((k : Nat) : Int)))), (18, .pointer (some ⟨lg, 0, none⟩)), (19, .pointer (some ⟨lg, 0, none⟩)), (20, .pointer (some ⟨lg, 0, none⟩)), (21, .slice (some ⟨g16, 0, none⟩) (j + 1) lcp), (22, .int .i64 ((j + 1 : Nat) : Int)), (23, .int .i64 ((j : Nat) : Int)), (5, .int .i64 ((j : Nat) : Int)), (24, .pointer (some ⟨lg, 0, none⟩)), (25, .pointer (some ⟨lg, 0, none⟩)), (26, .pointer (some ⟨lg, 0, none⟩)), (27, .slice (some ⟨g16, 0, none⟩) (j + 1) lcp), (28, .int .i64 ((j : Nat) : Int)), (29, .pointer (some ⟨g16, j, none⟩)), (30, .func (.func g) #[] caps.toArray), (6, .func (.func g) #[] caps.toArray)]) 1 [0, 1, 11, 12, 13, 14, 15, 16, 17, 18, 19, 20, 21, 22, 23, 5, 24, 25, 26, 27, 28, 29, 30, 6] (by kernel_rfl) ?_
    refine WL.nil ?_
    refine hK8 _ _ _ ?_
    refine CW.seq fun K17 hK17 => ?_
    refine CW.region ?_
    refine WL.to (E' := [(0, .pointer (some ⟨lg, 0, none⟩)), (1, .int .i64 ((k : Nat) : Int)), (11, .pointer (some ⟨lg, 0, none⟩)), (12, .pointer (some ⟨lg, 0, none⟩)), (13, .pointer (some ⟨lg, 0, none⟩)), (14, .slice (some ⟨g16, 0, none⟩) (j + 1) lcp), (15, .int .i64 ((j + 1 : Nat) : Int)), (16, .int .i64 ((k : Nat) : Int)), (17, .bool (decide (((j + 1 : Nat) : Int) > ((k : Nat) : Int)))), (18, .pointer (some ⟨lg, 0, none⟩)), (19, .pointer (some ⟨lg, 0, none⟩)), (20, .pointer (some ⟨lg, 0, none⟩)), (21, .slice (some ⟨g16, 0, none⟩) (j + 1) lcp), (22, .int .i64 ((j + 1 : Nat) : Int)), (23, .int .i64 ((j : Nat) : Int)), (5, .int .i64 ((j : Nat) : Int)), (24, .pointer (some ⟨lg, 0, none⟩)), (25, .pointer (some ⟨lg, 0, none⟩)), (26, .pointer (some ⟨lg, 0, none⟩)), (27, .slice (some ⟨g16, 0, none⟩) (j + 1) lcp), (28, .int .i64 ((j : Nat) : Int)), (29, .pointer (some ⟨g16, j, none⟩)), (30, .func (.func g) #[] caps.toArray), (6, .func (.func g) #[] caps.toArray), (31, .pointer (some ⟨lg, 0, none⟩)), (32, .pointer (some ⟨lg, 0, none⟩)), (33, .pointer (some ⟨lg, 0, none⟩))]) 3 [0, 1, 11, 12, 13, 14, 15, 16, 17, 18, 19, 20, 21, 22, 23, 5, 24, 25, 26, 27, 28, 29, 30, 6, 31, 32, 33] (by kernel_rfl) ?_
    refine WL.load1 rfl agg124 rfl rfl hl rfl ?_
    refine WL.to (E' := [(0, .pointer (some ⟨lg, 0, none⟩)), (1, .int .i64 ((k : Nat) : Int)), (11, .pointer (some ⟨lg, 0, none⟩)), (12, .pointer (some ⟨lg, 0, none⟩)), (13, .pointer (some ⟨lg, 0, none⟩)), (14, .slice (some ⟨g16, 0, none⟩) (j + 1) lcp), (15, .int .i64 ((j + 1 : Nat) : Int)), (16, .int .i64 ((k : Nat) : Int)), (17, .bool (decide (((j + 1 : Nat) : Int) > ((k : Nat) : Int)))), (18, .pointer (some ⟨lg, 0, none⟩)), (19, .pointer (some ⟨lg, 0, none⟩)), (20, .pointer (some ⟨lg, 0, none⟩)), (21, .slice (some ⟨g16, 0, none⟩) (j + 1) lcp), (22, .int .i64 ((j + 1 : Nat) : Int)), (23, .int .i64 ((j : Nat) : Int)), (5, .int .i64 ((j : Nat) : Int)), (24, .pointer (some ⟨lg, 0, none⟩)), (25, .pointer (some ⟨lg, 0, none⟩)), (26, .pointer (some ⟨lg, 0, none⟩)), (27, .slice (some ⟨g16, 0, none⟩) (j + 1) lcp), (28, .int .i64 ((j : Nat) : Int)), (29, .pointer (some ⟨g16, j, none⟩)), (30, .func (.func g) #[] caps.toArray), (6, .func (.func g) #[] caps.toArray), (31, .pointer (some ⟨lg, 0, none⟩)), (32, .pointer (some ⟨lg, 0, none⟩)), (33, .pointer (some ⟨lg, 0, none⟩)), (34, .slice (some ⟨g16, 0, none⟩) (j + 1) lcp), (35, .int .i64 ((j : Nat) : Int))]) 1 [0, 1, 11, 12, 13, 14, 15, 16, 17, 18, 19, 20, 21, 22, 23, 5, 24, 25, 26, 27, 28, 29, 30, 6, 31, 32, 33, 34, 35] (by kernel_rfl) ?_
    refine WL.index rfl rfl Tryz.underlying124 siz1 rfl rfl (by omega) (by omega) ?_
    refine WL.chg 36 (.pointer (some ⟨g16, j, none⟩)) rfl (by simp) ?_
    refine WL.store1 rfl siz1 rfl rfl rfl h11 (by rw [Nat.blt_eq, List.length_append, q15]; omega) ?_
    intro w18 h19 u20 z21
    replace h19 := Own.write1 h19 q12 q13 q14 q15 (by rw [q15]; omega)
    refine WL.nil ?_
    refine hK17 _ _ _ ?_
    refine CW.seq fun K22 hK22 => ?_
    refine CW.region ?_
    refine WL.to (E' := [(0, .pointer (some ⟨lg, 0, none⟩)), (1, .int .i64 ((k : Nat) : Int)), (11, .pointer (some ⟨lg, 0, none⟩)), (12, .pointer (some ⟨lg, 0, none⟩)), (13, .pointer (some ⟨lg, 0, none⟩)), (14, .slice (some ⟨g16, 0, none⟩) (j + 1) lcp), (15, .int .i64 ((j + 1 : Nat) : Int)), (16, .int .i64 ((k : Nat) : Int)), (17, .bool (decide (((j + 1 : Nat) : Int) > ((k : Nat) : Int)))), (18, .pointer (some ⟨lg, 0, none⟩)), (19, .pointer (some ⟨lg, 0, none⟩)), (20, .pointer (some ⟨lg, 0, none⟩)), (21, .slice (some ⟨g16, 0, none⟩) (j + 1) lcp), (22, .int .i64 ((j + 1 : Nat) : Int)), (23, .int .i64 ((j : Nat) : Int)), (5, .int .i64 ((j : Nat) : Int)), (24, .pointer (some ⟨lg, 0, none⟩)), (25, .pointer (some ⟨lg, 0, none⟩)), (26, .pointer (some ⟨lg, 0, none⟩)), (27, .slice (some ⟨g16, 0, none⟩) (j + 1) lcp), (28, .int .i64 ((j : Nat) : Int)), (29, .pointer (some ⟨g16, j, none⟩)), (30, .func (.func g) #[] caps.toArray), (6, .func (.func g) #[] caps.toArray), (31, .pointer (some ⟨lg, 0, none⟩)), (32, .pointer (some ⟨lg, 0, none⟩)), (33, .pointer (some ⟨lg, 0, none⟩)), (34, .slice (some ⟨g16, 0, none⟩) (j + 1) lcp), (35, .int .i64 ((j : Nat) : Int)), (36, .pointer (some ⟨g16, j, none⟩)), (37, .pointer (some ⟨lg, 0, none⟩)), (38, .pointer (some ⟨lg, 0, none⟩)), (39, .pointer (some ⟨lg, 0, none⟩)), (40, .pointer (some ⟨lg, 0, none⟩))]) 4 [0, 1, 11, 12, 13, 14, 15, 16, 17, 18, 19, 20, 21, 22, 23, 5, 24, 25, 26, 27, 28, 29, 30, 6, 31, 32, 33, 34, 35, 36, 37, 38, 39, 40] (by kernel_rfl) ?_
    have h23 := (hl.keep u20 (nmc (Blk.ne hl h11 rfl) nm0))
    refine WL.load1 rfl agg124 rfl rfl h23 rfl ?_
    refine WL.to (E' := [(0, .pointer (some ⟨lg, 0, none⟩)), (1, .int .i64 ((k : Nat) : Int)), (11, .pointer (some ⟨lg, 0, none⟩)), (12, .pointer (some ⟨lg, 0, none⟩)), (13, .pointer (some ⟨lg, 0, none⟩)), (14, .slice (some ⟨g16, 0, none⟩) (j + 1) lcp), (15, .int .i64 ((j + 1 : Nat) : Int)), (16, .int .i64 ((k : Nat) : Int)), (17, .bool (decide (((j + 1 : Nat) : Int) > ((k : Nat) : Int)))), (18, .pointer (some ⟨lg, 0, none⟩)), (19, .pointer (some ⟨lg, 0, none⟩)), (20, .pointer (some ⟨lg, 0, none⟩)), (21, .slice (some ⟨g16, 0, none⟩) (j + 1) lcp), (22, .int .i64 ((j + 1 : Nat) : Int)), (23, .int .i64 ((j : Nat) : Int)), (5, .int .i64 ((j : Nat) : Int)), (24, .pointer (some ⟨lg, 0, none⟩)), (25, .pointer (some ⟨lg, 0, none⟩)), (26, .pointer (some ⟨lg, 0, none⟩)), (27, .slice (some ⟨g16, 0, none⟩) (j + 1) lcp), (28, .int .i64 ((j : Nat) : Int)), (29, .pointer (some ⟨g16, j, none⟩)), (30, .func (.func g) #[] caps.toArray), (6, .func (.func g) #[] caps.toArray), (31, .pointer (some ⟨lg, 0, none⟩)), (32, .pointer (some ⟨lg, 0, none⟩)), (33, .pointer (some ⟨lg, 0, none⟩)), (34, .slice (some ⟨g16, 0, none⟩) (j + 1) lcp), (35, .int .i64 ((j : Nat) : Int)), (36, .pointer (some ⟨g16, j, none⟩)), (37, .pointer (some ⟨lg, 0, none⟩)), (38, .pointer (some ⟨lg, 0, none⟩)), (39, .pointer (some ⟨lg, 0, none⟩)), (40, .pointer (some ⟨lg, 0, none⟩)), (41, .slice (some ⟨g16, 0, none⟩) (j + 1) lcp), (42, .int .i64 ((j : Nat) : Int))]) 1 [0, 1, 11, 12, 13, 14, 15, 16, 17, 18, 19, 20, 21, 22, 23, 5, 24, 25, 26, 27, 28, 29, 30, 6, 31, 32, 33, 34, 35, 36, 37, 38, 39, 40, 41, 42] (by kernel_rfl) ?_
    refine WL.sliceHi rfl rfl Tryz.underlying124 siz1 rfl rfl (by omega) (by omega) ?_
    refine WL.to (E' := [(0, .pointer (some ⟨lg, 0, none⟩)), (1, .int .i64 ((k : Nat) : Int)), (11, .pointer (some ⟨lg, 0, none⟩)), (12, .pointer (some ⟨lg, 0, none⟩)), (13, .pointer (some ⟨lg, 0, none⟩)), (14, .slice (some ⟨g16, 0, none⟩) (j + 1) lcp), (15, .int .i64 ((j + 1 : Nat) : Int)), (16, .int .i64 ((k : Nat) : Int)), (17, .bool (decide (((j + 1 : Nat) : Int) > ((k : Nat) : Int)))), (18, .pointer (some ⟨lg, 0, none⟩)), (19, .pointer (some ⟨lg, 0, none⟩)), (20, .pointer (some ⟨lg, 0, none⟩)), (21, .slice (some ⟨g16, 0, none⟩) (j + 1) lcp), (22, .int .i64 ((j + 1 : Nat) : Int)), (23, .int .i64 ((j : Nat) : Int)), (5, .int .i64 ((j : Nat) : Int)), (24, .pointer (some ⟨lg, 0, none⟩)), (25, .pointer (some ⟨lg, 0, none⟩)), (26, .pointer (some ⟨lg, 0, none⟩)), (27, .slice (some ⟨g16, 0, none⟩) (j + 1) lcp), (28, .int .i64 ((j : Nat) : Int)), (29, .pointer (some ⟨g16, j, none⟩)), (30, .func (.func g) #[] caps.toArray), (6, .func (.func g) #[] caps.toArray), (31, .pointer (some ⟨lg, 0, none⟩)), (32, .pointer (some ⟨lg, 0, none⟩)), (33, .pointer (some ⟨lg, 0, none⟩)), (34, .slice (some ⟨g16, 0, none⟩) (j + 1) lcp), (35, .int .i64 ((j : Nat) : Int)), (36, .pointer (some ⟨g16, j, none⟩)), (37, .pointer (some ⟨lg, 0, none⟩)), (38, .pointer (some ⟨lg, 0, none⟩)), (39, .pointer (some ⟨lg, 0, none⟩)), (40, .pointer (some ⟨lg, 0, none⟩)), (41, .slice (some ⟨g16, 0, none⟩) (j + 1) lcp), (42, .int .i64 ((j : Nat) : Int)), (43, .slice (some ⟨g16, 0, none⟩) j lcp), (44, .pointer (some ⟨lg, 0, none⟩)), (45, .pointer (some ⟨lg, 0, none⟩))]) 2 [0, 1, 11, 12, 13, 14, 15, 16, 17, 18, 19, 20, 21, 22, 23, 5, 24, 25, 26, 27, 28, 29, 30, 6, 31, 32, 33, 34, 35, 36, 37, 38, 39, 40, 41, 42, 43, 44, 45] (by kernel_rfl) ?_
    refine WL.store1 rfl siz124 rfl rfl rfl h23 rfl ?_
    intro w24 h25 u26 z27
    refine WL.nil ?_
    refine hK22 _ _ _ ?_
    refine CW.region ?_
    refine WL.to (E' := [(0, .pointer (some ⟨lg, 0, none⟩)), (1, .int .i64 ((k : Nat) : Int)), (11, .pointer (some ⟨lg, 0, none⟩)), (12, .pointer (some ⟨lg, 0, none⟩)), (13, .pointer (some ⟨lg, 0, none⟩)), (14, .slice (some ⟨g16, 0, none⟩) (j + 1) lcp), (15, .int .i64 ((j + 1 : Nat) : Int)), (16, .int .i64 ((k : Nat) : Int)), (17, .bool (decide (((j + 1 : Nat) : Int) > ((k : Nat) : Int)))), (18, .pointer (some ⟨lg, 0, none⟩)), (19, .pointer (some ⟨lg, 0, none⟩)), (20, .pointer (some ⟨lg, 0, none⟩)), (21, .slice (some ⟨g16, 0, none⟩) (j + 1) lcp), (22, .int .i64 ((j + 1 : Nat) : Int)), (23, .int .i64 ((j : Nat) : Int)), (5, .int .i64 ((j : Nat) : Int)), (24, .pointer (some ⟨lg, 0, none⟩)), (25, .pointer (some ⟨lg, 0, none⟩)), (26, .pointer (some ⟨lg, 0, none⟩)), (27, .slice (some ⟨g16, 0, none⟩) (j + 1) lcp), (28, .int .i64 ((j : Nat) : Int)), (29, .pointer (some ⟨g16, j, none⟩)), (30, .func (.func g) #[] caps.toArray), (6, .func (.func g) #[] caps.toArray), (31, .pointer (some ⟨lg, 0, none⟩)), (32, .pointer (some ⟨lg, 0, none⟩)), (33, .pointer (some ⟨lg, 0, none⟩)), (34, .slice (some ⟨g16, 0, none⟩) (j + 1) lcp), (35, .int .i64 ((j : Nat) : Int)), (36, .pointer (some ⟨g16, j, none⟩)), (37, .pointer (some ⟨lg, 0, none⟩)), (38, .pointer (some ⟨lg, 0, none⟩)), (39, .pointer (some ⟨lg, 0, none⟩)), (40, .pointer (some ⟨lg, 0, none⟩)), (41, .slice (some ⟨g16, 0, none⟩) (j + 1) lcp), (42, .int .i64 ((j : Nat) : Int)), (43, .slice (some ⟨g16, 0, none⟩) j lcp), (44, .pointer (some ⟨lg, 0, none⟩)), (45, .pointer (some ⟨lg, 0, none⟩)), (46, .func (.func g) #[] caps.toArray)]) 1 [0, 1, 11, 12, 13, 14, 15, 16, 17, 18, 19, 20, 21, 22, 23, 5, 24, 25, 26, 27, 28, 29, 30, 6, 31, 32, 33, 34, 35, 36, 37, 38, 39, 40, 41, 42, 43, 44, 45, 46] (by kernel_rfl) ?_
    have h28 := (h19.keep' u26 (disc (Own.ne h19 h23 rfl) dis0))
    have h29 : Own w24 (.slice (some ⟨g16, 0, none⟩) j lcp) 1 1 j (fns.take j) := by have := Own.take h28 (by omega) (Nat.le_succ j); rw [take_set] at this; exact this
    refine WL.call (f := g) (caps := caps) (all := caps) rfl rfl rfl rfl hent rfl (hstep j g caps _ (by omega) (by omega) hf (hkeep _ _ _ hI (((u20.trans u26)).sub (by simp [Value.ownBlock])))) ?_
    rintro v w9 ⟨hI2, S, u9, hs, hn1, hn2⟩
    refine WL.sub [(0, .pointer (some ⟨lg, 0, none⟩)), (1, .int .i64 ((k : Nat) : Int)), (11, .pointer (some ⟨lg, 0, none⟩)), (12, .pointer (some ⟨lg, 0, none⟩)), (13, .pointer (some ⟨lg, 0, none⟩)), (14, .slice (some ⟨g16, 0, none⟩) (j + 1) lcp), (15, .int .i64 ((j + 1 : Nat) : Int)), (16, .int .i64 ((k : Nat) : Int)), (17, .bool (decide (((j + 1 : Nat) : Int) > ((k : Nat) : Int)))), (18, .pointer (some ⟨lg, 0, none⟩)), (19, .pointer (some ⟨lg, 0, none⟩)), (20, .pointer (some ⟨lg, 0, none⟩)), (21, .slice (some ⟨g16, 0, none⟩) (j + 1) lcp), (22, .int .i64 ((j + 1 : Nat) : Int)), (23, .int .i64 ((j : Nat) : Int)), (5, .int .i64 ((j : Nat) : Int)), (24, .pointer (some ⟨lg, 0, none⟩)), (25, .pointer (some ⟨lg, 0, none⟩)), (26, .pointer (some ⟨lg, 0, none⟩)), (27, .slice (some ⟨g16, 0, none⟩) (j + 1) lcp), (28, .int .i64 ((j : Nat) : Int)), (29, .pointer (some ⟨g16, j, none⟩)), (30, .func (.func g) #[] caps.toArray), (6, .func (.func g) #[] caps.toArray), (31, .pointer (some ⟨lg, 0, none⟩)), (32, .pointer (some ⟨lg, 0, none⟩)), (33, .pointer (some ⟨lg, 0, none⟩)), (34, .slice (some ⟨g16, 0, none⟩) (j + 1) lcp), (35, .int .i64 ((j : Nat) : Int)), (36, .pointer (some ⟨g16, j, none⟩)), (37, .pointer (some ⟨lg, 0, none⟩)), (38, .pointer (some ⟨lg, 0, none⟩)), (39, .pointer (some ⟨lg, 0, none⟩)), (40, .pointer (some ⟨lg, 0, none⟩)), (41, .slice (some ⟨g16, 0, none⟩) (j + 1) lcp), (42, .int .i64 ((j : Nat) : Int)), (43, .slice (some ⟨g16, 0, none⟩) j lcp), (44, .pointer (some ⟨lg, 0, none⟩)), (45, .pointer (some ⟨lg, 0, none⟩)), (46, .func (.func g) #[] caps.toArray)] ⟨rfl, rfl, rfl, rfl, rfl, rfl, rfl, rfl, rfl, rfl, rfl, rfl, rfl, rfl, rfl, rfl, rfl, rfl, rfl, rfl, rfl, rfl, rfl, rfl, rfl, rfl, rfl, rfl, rfl, rfl, rfl, rfl, rfl, rfl, rfl, rfl, rfl, rfl, rfl, rfl, trivial⟩ ?_
    refine WL.nil ?_
    intro a ha
    have ha := ha.sub (E' := [(0, .pointer (some ⟨lg, 0, none⟩)), (1, .int .i64 ((k : Nat) : Int))]) ⟨rfl, rfl, trivial⟩
    have h30 := (h25.keep u9 hn1)
    have h31 := (h29.keep' u9 (fun b hb => hn2 b hb))
    exact ⟨j, Nat.lt_succ_self j, ⟨h30, h31, hI2, (by omega), (by omega), (u0.trans ((u20.trans u26).trans u9)).sub (by intro b hb hlt; simp only [Value.ownBlock, Option.toList, List.mem_append, List.mem_cons, List.not_mem_nil, or_false, false_or] at hb ⊢; grind)⟩, ha⟩
  · skip
    obtain rfl : j = k := by omega
    refine CW.seq fun K32 hK32 => ?_
    refine CW.seq fun K33 hK33 => ?_
    refine CW.region ?_
    refine WL.to (E' := [(0, .pointer (some ⟨lg, 0, none⟩)), (1, .int .i64 ((j : Nat) : Int)), (11, .pointer (some ⟨lg, 0, none⟩)), (12, .pointer (some ⟨lg, 0, none⟩)), (13, .pointer (some ⟨lg, 0, none⟩))]) 3 [0, 1, 11, 12, 13] (by kernel_rfl) ?_
    refine WL.load1 rfl agg124 rfl rfl hl rfl ?_
    refine WL.to (E' := [(0, .pointer (some ⟨lg, 0, none⟩)), (1, .int .i64 ((j : Nat) : Int)), (11, .pointer (some ⟨lg, 0, none⟩)), (12, .pointer (some ⟨lg, 0, none⟩)), (13, .pointer (some ⟨lg, 0, none⟩)), (14, .slice lao j lcp), (15, .int .i64 ((j : Nat) : Int)), (16, .int .i64 ((j : Nat) : Int)), (17, .bool (decide (((j : Nat) : Int) > ((j : Nat) : Int))))]) 3 [0, 1, 11, 12, 13, 14, 15, 16, 17] (by kernel_rfl) ?_
    refine WL.nil ?_
    refine hK33 _ _ _ ?_
    refine CW.no rfl (decide_eq_false (by omega)) ?_
    refine CW.exit ?_
    refine hK4 _ _ _ ?_
    refine CW.seq fun K34 hK34 => ?_
    refine CW.region ?_
    refine WL.to (E' := [(4, .bool true)]) 1 [4] (by kernel_rfl) ?_
    refine WL.nil ?_
    refine hK34 _ _ _ ?_
    refine CW.ret fun a ha => ?_
    try simp (decide := true) only [Exit.inBlock, Exit.then, ↓reduceIte]
    exact fin ha.defers (res_tmp rfl ha rfl _) ⟨rfl, hI, hl, hlo, u0⟩
end Go.K

namespace Go.K
open Go.Proofs
set_option maxRecDepth 8000
set_option maxHeartbeats 1000000
set_option linter.unusedSimpArgs false
set_option linter.unusedVariables false
theorem roll1_of {w : World} {m_ lg pl wt bm k : Nat} {msv : Value} {Inv : Nat → World → Prop} {S0 : List Nat} (hm_ : Blk w m_ [.map (some pl), .pointer (some ⟨lg, 0, none⟩), msv, .pointer (some ⟨wt, 0, none⟩), .bool true] 75) (hbm : Blk w bm [.pointer (some ⟨m_, 0, none⟩)] 24) {lao : Option Addr} {m lcp : Nat} {fns : List Value} (hl : Blk w lg [.slice lao m lcp] 126) (hlo : Own w (.slice lao m lcp) 1 1 m fns) (hk : k ≤ m) (hm : m ≤ 100000) (hI : Inv m w)
    (hkeep : ∀ j w1 w2, Inv j w1 → Only ([lg] ++ (Value.slice lao m lcp).ownBlock.toList) w1 w2 → Inv j w2)
    (hform : ∀ (j : Nat) (f : Value), fns[j]? = some f → ∃ (g : FuncId) (caps : List Value), f = .func (.func g) #[] caps.toArray ∧ enters Tryz.prog g = true)
    (hstep : ∀ (j : Nat) (g : FuncId) (caps : List Value) (w1 : World), k ≤ j → j < m → fns[j]? = some (.func (.func g) #[] caps.toArray) → Inv (j + 1) w1 → Ret Tryz.prog g caps.toArray w1 fun v w2 => Inv j w2 ∧ ∃ S, Only S w1 w2 ∧ (∀ b ∈ S, b ∈ S0 ∨ w.heap.size ≤ b) ∧ lg ∉ S ∧ ∀ b ∈ (Value.slice lao m lcp).ownBlock.toList, b ∉ S) :
    Ret Tryz.prog 52 #[.int .i64 ((k : Nat) : Int), .pointer (some ⟨bm, 0, none⟩)] w fun v w' => v = .nilIface ∧ Inv k w' ∧ Blk w' lg [.slice lao k lcp] 126 ∧ Own w' (.slice lao k lcp) 1 1 k (fns.take k) ∧ Only ([lg] ++ (Value.slice lao m lcp).ownBlock.toList ++ S0) w w' := by
  refine enterL (args := [.int .i64 ((k : Nat) : Int), .pointer (some ⟨bm, 0, none⟩)]) Tryz.func52 rfl rfl rfl ?_
  refine CW.seq fun K1 hK1 => ?_
  refine CW.region ?_
  refine WL.to (E' := [(0, .int .i64 ((k : Nat) : Int)), (1, .pointer (some ⟨bm, 0, none⟩)), (3, .nilIface)]) 1 [0, 1, 3] (by kernel_rfl) ?_
  refine WL.nil ?_
  refine hK1 _ _ _ ?_
  refine CW.seq fun K2 hK2 => ?_
  refine CW.region ?_
  refine WL.load1 rfl agg24 rfl rfl hbm rfl ?_
  refine WL.to (E' := [(0, .int .i64 ((k : Nat) : Int)), (3, .nilIface), (6, .pointer (some ⟨m_, 1, none⟩))]) 2 [0, 3, 6] (by kernel_rfl) ?_
  refine WL.load1 rfl agg70 rfl rfl hm_ rfl ?_
  refine WL.to (E' := [(3, .nilIface), (7, .pointer (some ⟨lg, 0, none⟩)), (8, .int .i64 ((k : Nat) : Int))]) 1 [3, 7, 8] (by kernel_rfl) ?_
  refine WL.call rfl rfl rfl rfl ent53 rfl (back_of hl hlo hk hm hI hkeep hform hstep) ?_
  rintro _ w4 ⟨rfl, hI7, h5, h6, u3⟩
  refine WL.sub [(3, .nilIface)] ⟨rfl, trivial⟩ ?_
  refine WL.nil ?_
  refine hK2 _ _ _ ?_
  refine CW.seq fun K8 hK8 => ?_
  refine CW.region ?_
  refine WL.to (E' := [(3, .nilIface)]) 1 [3] (by kernel_rfl) ?_
  refine WL.nil ?_
  refine hK8 _ _ _ ?_
  refine CW.ret fun a ha => ?_
  try simp (decide := true) only [Exit.inBlock, Exit.then, ↓reduceIte]
  exact fin ha.defers (res_tmp rfl ha rfl _) ⟨rfl, hI7, h5, h6, u3⟩

theorem closes1_of {w : World} {m_ lg pl wt k d msk mscp : Nat} {msao : Option Addr} {svs : List Int} {Inv : World → Nat → World → Prop} {S0 : List Nat} {bdep bm bm2 bf : Nat} (hm_ : Blk w m_ [.map (some pl), .pointer (some ⟨lg, 0, none⟩), .slice msao msk mscp, .pointer (some ⟨wt, 0, none⟩), .bool true] 75) (hms : Own w (.slice msao msk mscp) 3 1 msk (nums svs)) (hmk : svs[d]? = some ((k : Nat) : Int)) (hd : d < msk) (hmsk : msk ≤ 1000) {lao : Option Addr} {m lcp : Nat} {fns : List Value} (hl : Blk w lg [.slice lao m lcp] 126) (hlo : Own w (.slice lao m lcp) 1 1 m fns) (hk : k ≤ m) (hm : m ≤ 100000) (hI : ∀ wb, Only [m_] w wb → Blk wb m_ [.map (some pl), .pointer (some ⟨lg, 0, none⟩), .slice msao d mscp, .pointer (some ⟨wt, 0, none⟩), .bool true] 75 → Inv wb m wb) (hIM : ∀ wb w1, Inv wb k w1 → Blk w1 m_ [.map (some pl), .pointer (some ⟨lg, 0, none⟩), .slice msao d mscp, .pointer (some ⟨wt, 0, none⟩), .bool true] 75)
    (hkeep : ∀ wb j w1 w2, Inv wb j w1 → Only ([lg] ++ (Value.slice lao m lcp).ownBlock.toList) w1 w2 → Inv wb j w2)
    (hform : ∀ (j : Nat) (f : Value), fns[j]? = some f → ∃ (g : FuncId) (caps : List Value), f = .func (.func g) #[] caps.toArray ∧ enters Tryz.prog g = true)
    (hstep : ∀ wb (j : Nat) (g : FuncId) (caps : List Value) (w1 : World), k ≤ j → j < m → fns[j]? = some (.func (.func g) #[] caps.toArray) → Inv wb (j + 1) w1 → Ret Tryz.prog g caps.toArray w1 fun v w2 => Inv wb j w2 ∧ ∃ S, Only S w1 w2 ∧ (∀ b ∈ S, b ∈ S0 ∨ wb.heap.size ≤ b) ∧ lg ∉ S ∧ ∀ b ∈ (Value.slice lao m lcp).ownBlock.toList, b ∉ S) (hbd : Blk w bdep [.int .i64 ((d + 1 : Nat) : Int)] 3) (hbm : Blk w bm [.pointer (some ⟨m_, 0, none⟩)] 24) (hbm2 : Blk w bm2 [.pointer (some ⟨m_, 0, none⟩)] 24) (hbf : Blk w bf [.func (.func 52) #[] #[.pointer (some ⟨bm2, 0, none⟩)]] 47) :
    Ret Tryz.prog 84 #[.pointer (some ⟨bdep, 0, none⟩), .pointer (some ⟨bm, 0, none⟩), .pointer (some ⟨bf, 0, none⟩)] w fun v w' => v = .nilIface ∧ ∃ wb, Inv wb k w' ∧ Only [m_] w wb ∧ Blk w' lg [.slice lao k lcp] 126 ∧ Own w' (.slice lao k lcp) 1 1 k (fns.take k) ∧ Only ([m_] ++ ([lg] ++ (Value.slice lao m lcp).ownBlock.toList ++ S0)) w w' := by
  refine enterL (args := [.pointer (some ⟨bdep, 0, none⟩), .pointer (some ⟨bm, 0, none⟩), .pointer (some ⟨bf, 0, none⟩)]) Tryz.func84 rfl rfl rfl ?_
  refine CW.seq fun K1 hK1 => ?_
  refine CW.region ?_
  refine WL.to (E' := [(0, .pointer (some ⟨bdep, 0, none⟩)), (1, .pointer (some ⟨bm, 0, none⟩)), (2, .pointer (some ⟨bf, 0, none⟩)), (3, .nilIface)]) 1 [0, 1, 2, 3] (by kernel_rfl) ?_
  refine WL.nil ?_
  refine hK1 _ _ _ ?_
  refine CW.seq fun K2 hK2 => ?_
  refine CW.seq fun K3 hK3 => ?_
  refine CW.still (by kernel_rfl) (by kernel_rfl) ?_
  intro w4 e6 u5
  have h7 := (hbd.keep u5 nm0)
  refine ST.load1 rfl agg3 rfl rfl h7 rfl ?_
  refine ST.to (E' := [(0, .pointer (some ⟨bdep, 0, none⟩)), (1, .pointer (some ⟨bm, 0, none⟩)), (2, .pointer (some ⟨bf, 0, none⟩)), (3, .nilIface), (7, .bool (decide (((d + 1 : Nat) : Int) < 1)))]) 2 [0, 1, 2, 3, 7] (by kernel_rfl) ?_
  refine ST.chg 7 (.bool false) rfl (congrArg Value.bool (decide_eq_false (by omega))) ?_
  refine ST.load1 rfl agg3 rfl rfl h7 rfl ?_
  have h8 := (hbm.keep u5 nm0)
  refine ST.load1 rfl agg24 rfl rfl h8 rfl ?_
  have h9 := (hm_.keep u5 nm0)
  refine ST.call (v := .int .i64 ((msk : Nat) : Int)) rfl rfl rfl rfl ent26 rfl (depth_of h9) ?_
  refine ST.to (E' := [(0, .pointer (some ⟨bdep, 0, none⟩)), (1, .pointer (some ⟨bm, 0, none⟩)), (2, .pointer (some ⟨bf, 0, none⟩)), (3, .nilIface), (12, .bool (decide (((d + 1 : Nat) : Int) > ((msk : Nat) : Int))))]) 2 [0, 1, 2, 3, 12] (by kernel_rfl) ?_
  refine ST.nil ?_
  refine hK3 _ _ _ ?_
  refine CW.no rfl (decide_eq_false (by omega)) ?_
  refine CW.skip ?_
  refine hK2 _ _ _ ?_
  refine CW.seq fun K10 hK10 => ?_
  refine CW.still (by kernel_rfl) (by kernel_rfl) ?_
  intro w11 e13 u12
  have h14 := (h8.keep u12 nm0)
  refine ST.load1 rfl agg24 rfl rfl h14 rfl ?_
  refine ST.to (E' := [(0, .pointer (some ⟨bdep, 0, none⟩)), (1, .pointer (some ⟨bm, 0, none⟩)), (2, .pointer (some ⟨bf, 0, none⟩)), (3, .nilIface), (16, .pointer (some ⟨m_, 2, none⟩))]) 2 [0, 1, 2, 3, 16] (by kernel_rfl) ?_
  have h15 := (h9.keep u12 nm0)
  refine ST.load1 rfl agg49 rfl rfl h15 rfl ?_
  have h16 := (h7.keep u12 nm0)
  refine ST.load1 rfl agg3 rfl rfl h16 rfl ?_
  refine ST.to (E' := [(0, .pointer (some ⟨bdep, 0, none⟩)), (1, .pointer (some ⟨bm, 0, none⟩)), (2, .pointer (some ⟨bf, 0, none⟩)), (3, .nilIface), (17, .slice msao msk mscp), (19, .int .i64 (IntKind.i64.wrap (((d + 1 : Nat) : Int) - 1)))]) 1 [0, 1, 2, 3, 17, 19] (by kernel_rfl) ?_
  refine ST.chg 19 (.int .i64 ((d : Nat) : Int)) rfl (congrArg (Value.int .i64) (by rw [i64_in _ (by omega)]; omega)) ?_
  have h17 := ((hms.keep' u5 dis0).keep' u12 dis0)
  obtain ⟨g25, rest18, e19, h20, q21, q22, q23, q24⟩ := h17.open2 (by omega)
  subst e19
  refine ST.index rfl rfl Tryz.underlying49 siz3 rfl rfl (by omega) (by omega) ?_
  refine ST.chg 20 (.pointer (some ⟨g25, d, none⟩)) rfl (by simp) ?_
  refine ST.load1 rfl agg3 rfl rfl h20 (nums_get _ hmk) ?_
  refine ST.to (E' := [(0, .pointer (some ⟨bdep, 0, none⟩)), (1, .pointer (some ⟨bm, 0, none⟩)), (2, .pointer (some ⟨bf, 0, none⟩)), (3, .nilIface), (4, .int .i64 ((k : Nat) : Int))]) 1 [0, 1, 2, 3, 4] (by kernel_rfl) ?_
  refine ST.nil ?_
  refine hK10 _ _ _ ?_
  refine CW.seq fun K26 hK26 => ?_
  refine CW.tail 10 (by kernel_rfl) (by kernel_rfl) ?_
  intro w27 e29 u28
  have h30 := (h14.keep u28 nm0)
  refine ST.load1 rfl agg24 rfl rfl h30 rfl ?_
  refine ST.load1 rfl agg24 rfl rfl h30 rfl ?_
  refine ST.to (E' := [(0, .pointer (some ⟨bdep, 0, none⟩)), (2, .pointer (some ⟨bf, 0, none⟩)), (3, .nilIface), (4, .int .i64 ((k : Nat) : Int)), (22, .pointer (some ⟨m_, 0, none⟩)), (25, .pointer (some ⟨m_, 2, none⟩))]) 2 [0, 2, 3, 4, 22, 25] (by kernel_rfl) ?_
  have h31 := (h15.keep u28 nm0)
  refine ST.load1 rfl agg49 rfl rfl h31 rfl ?_
  have h32 := (h16.keep u28 nm0)
  refine ST.load1 rfl agg3 rfl rfl h32 rfl ?_
  refine ST.to (E' := [(2, .pointer (some ⟨bf, 0, none⟩)), (3, .nilIface), (4, .int .i64 ((k : Nat) : Int)), (22, .pointer (some ⟨m_, 0, none⟩)), (26, .slice (some ⟨g25, 0, none⟩) msk mscp), (28, .int .i64 (IntKind.i64.wrap (((d + 1 : Nat) : Int) - 1)))]) 1 [2, 3, 4, 22, 26, 28] (by kernel_rfl) ?_
  refine ST.chg 28 (.int .i64 ((d : Nat) : Int)) rfl (congrArg (Value.int .i64) (by rw [i64_in _ (by omega)]; omega)) ?_
  refine ST.sliceHi rfl rfl Tryz.underlying49 siz3 rfl rfl (by omega) (by omega) ?_
  refine ST.to (E' := [(2, .pointer (some ⟨bf, 0, none⟩)), (3, .nilIface), (4, .int .i64 ((k : Nat) : Int)), (29, .slice (some ⟨g25, 0, none⟩) d mscp), (31, .pointer (some ⟨m_, 2, none⟩))]) 2 [2, 3, 4, 29, 31] (by kernel_rfl) ?_
  refine ST.nil ?_
  change WL _ _ _ _ _ _ _ _
  refine WL.store1 rfl siz49 rfl rfl rfl h31 rfl ?_
  intro w33 h34 u35 z36
  refine WL.sub [(2, .pointer (some ⟨bf, 0, none⟩)), (3, .nilIface), (4, .int .i64 ((k : Nat) : Int))] ⟨rfl, rfl, rfl, trivial⟩ ?_
  refine WL.nil ?_
  refine hK26 _ _ _ ?_
  refine CW.seq fun K37 hK37 => ?_
  refine CW.region ?_
  have h38 := (((hbf.keep u5 nm0).keep u12 nm0).keep u28 nm0)
  have h39 := (h38.keep u35 (nmc (Blk.ne h38 h31 rfl) nm0))
  refine WL.load1 rfl agg47 rfl rfl h39 rfl ?_
  refine WL.to (E' := [(3, .nilIface), (32, .func (.func 52) #[] #[.pointer (some ⟨bm2, 0, none⟩)]), (33, .int .i64 ((k : Nat) : Int))]) 1 [3, 32, 33] (by kernel_rfl) ?_
  have h40 := (((hbm2.keep u5 nm0).keep u12 nm0).keep u28 nm0)
  have h41 := (h40.keep u35 (nmc (Blk.ne h40 h31 rfl) nm0))
  have h42 := (((hl.keep u5 nm0).keep u12 nm0).keep u28 nm0)
  have h43 := (h42.keep u35 (nmc (Blk.ne h42 h31 rfl) nm0))
  have h44 := (((hlo.keep' u5 dis0).keep' u12 dis0).keep' u28 dis0)
  have h45 := (h44.keep' u35 (disc (Own.ne h44 h31 rfl) dis0))
  refine WL.call rfl rfl rfl rfl ent52 rfl (roll1_of (Inv := Inv w33) (S0 := S0) h34 h41 h43 h45 hk hm (hI _ ((((u5.trans u12).trans u28).trans u35).sub (by intro k hk hl; simp only [Value.ownBlock, Option.toList, List.mem_append, List.mem_cons, List.not_mem_nil, or_false, false_or] at hk ⊢; have := u5.size; have := u12.size; have := u28.size; have := u35.size; omega)) h34) (hkeep _) hform (hstep _)) ?_
  rintro _ w47 ⟨rfl, hI50, h48, h49, u46⟩
  refine WL.to (E' := [(3, .nilIface)]) 1 [3] (by kernel_rfl) ?_
  refine WL.nil ?_
  refine hK37 _ _ _ ?_
  refine CW.ret fun a ha => ?_
  try simp (decide := true) only [Exit.inBlock, Exit.then, ↓reduceIte]
  exact fin ha.defers (res_tmp rfl ha rfl _) ⟨rfl, w33, hI50, ((((u5.trans u12).trans u28).trans u35).sub (by intro k hk hl; simp only [Value.ownBlock, Option.toList, List.mem_append, List.mem_cons, List.not_mem_nil, or_false, false_or] at hk ⊢; have := u5.size; have := u12.size; have := u28.size; have := u35.size; omega)), h48, h49, ((((((u5.trans u12).trans u28).trans u35).sub (by intro k hk hl; simp only [Value.ownBlock, Option.toList, List.mem_append, List.mem_cons, List.not_mem_nil, or_false, false_or] at hk ⊢; have := u5.size; have := u12.size; have := u28.size; have := u35.size; omega))).trans u46)⟩

theorem closes_of {w : World} {m_ lg pl wt k d msk mscp : Nat} {msao : Option Addr} {svs : List Int} {Inv : World → Nat → World → Prop} {S0 : List Nat} {bm2 : Nat} (hm_ : Blk w m_ [.map (some pl), .pointer (some ⟨lg, 0, none⟩), .slice msao msk mscp, .pointer (some ⟨wt, 0, none⟩), .bool false] 75) (hms : Own w (.slice msao msk mscp) 3 1 msk (nums svs)) (hmk : svs[d]? = some ((k : Nat) : Int)) (hd : d < msk) (hmsk : msk ≤ 1000) {lao : Option Addr} {m lcp : Nat} {fns : List Value} (hl : Blk w lg [.slice lao m lcp] 126) (hlo : Own w (.slice lao m lcp) 1 1 m fns) (hk : k ≤ m) (hm : m ≤ 100000) (hS0 : ∀ b ∈ S0, b < w.heap.size) (hI : ∀ wb, Only [m_] w wb → Blk wb m_ [.map (some pl), .pointer (some ⟨lg, 0, none⟩), .slice msao d mscp, .pointer (some ⟨wt, 0, none⟩), .bool true] 75 → Inv wb m wb) (hIM : ∀ wb w1, Inv wb k w1 → Blk w1 m_ [.map (some pl), .pointer (some ⟨lg, 0, none⟩), .slice msao d mscp, .pointer (some ⟨wt, 0, none⟩), .bool true] 75)
    (hkeep : ∀ wb j w1 w2, Inv wb j w1 → Only ([lg] ++ (Value.slice lao m lcp).ownBlock.toList) w1 w2 → Inv wb j w2)
    (hform : ∀ (j : Nat) (f : Value), fns[j]? = some f → ∃ (g : FuncId) (caps : List Value), f = .func (.func g) #[] caps.toArray ∧ enters Tryz.prog g = true)
    (hstep : ∀ wb (j : Nat) (g : FuncId) (caps : List Value) (w1 : World), k ≤ j → j < m → fns[j]? = some (.func (.func g) #[] caps.toArray) → Inv wb (j + 1) w1 → Ret Tryz.prog g caps.toArray w1 fun v w2 => Inv wb j w2 ∧ ∃ S, Only S w1 w2 ∧ (∀ b ∈ S, b ∈ S0 ∨ wb.heap.size ≤ b) ∧ lg ∉ S ∧ ∀ b ∈ (Value.slice lao m lcp).ownBlock.toList, b ∉ S) (hbm2 : Blk w bm2 [.pointer (some ⟨m_, 0, none⟩)] 24) :
    Ret Tryz.prog 45 #[.pointer (some ⟨m_, 0, none⟩), .int .i64 ((d + 1 : Nat) : Int), .func (.func 52) #[] #[.pointer (some ⟨bm2, 0, none⟩)]] w fun v w' => v = .nilIface ∧ ∃ wb w2, Inv wb k w2 ∧ Only [m_] w wb ∧ Blk w2 lg [.slice lao k lcp] 126 ∧ Own w2 (.slice lao k lcp) 1 1 k (fns.take k) ∧ Only ([m_] ++ ([lg] ++ (Value.slice lao m lcp).ownBlock.toList ++ S0)) w w' ∧ Only [m_] w2 w' ∧ Blk w' m_ [.map (some pl), .pointer (some ⟨lg, 0, none⟩), .slice msao d mscp, .pointer (some ⟨wt, 0, none⟩), .bool false] 75 := by
  refine enterL (args := [.pointer (some ⟨m_, 0, none⟩), .int .i64 ((d + 1 : Nat) : Int), .func (.func 52) #[] #[.pointer (some ⟨bm2, 0, none⟩)]]) Tryz.func45 rfl rfl rfl ?_
  refine CW.seq fun K1 hK1 => ?_
  refine CW.region ?_
  refine WL.box (cs := [.pointer (some ⟨m_, 0, none⟩)]) rfl rfl rfl rfl ?_
  intro w2 b3 h4 u5 g6
  refine WL.box (cs := [.int .i64 ((d + 1 : Nat) : Int)]) rfl rfl rfl rfl ?_
  intro w7 b8 h9 u10 g11
  refine WL.box (cs := [.func (.func 52) #[] #[.pointer (some ⟨bm2, 0, none⟩)]]) rfl rfl rfl rfl ?_
  intro w12 b13 h14 u15 g16
  refine WL.to (E' := [(3, .pointer (some ⟨b3, 0, none⟩)), (4, .pointer (some ⟨b8, 0, none⟩)), (5, .pointer (some ⟨b13, 0, none⟩)), (6, .nilIface)]) 1 [3, 4, 5, 6] (by kernel_rfl) ?_
  refine WL.nil ?_
  refine hK1 _ _ _ ?_
  refine CW.seq fun K17 hK17 => ?_
  refine CW.region ?_
  have h18 := ((h4.keep u10 nm0).keep u15 nm0)
  refine WL.load1 rfl agg24 rfl rfl h18 rfl ?_
  refine WL.to (E' := [(6, .nilIface), (7, .pointer (some ⟨m_, 0, none⟩)), (8, .func (.func 84) #[] #[.pointer (some ⟨b8, 0, none⟩), .pointer (some ⟨b3, 0, none⟩), .pointer (some ⟨b13, 0, none⟩)])]) 1 [6, 7, 8] (by kernel_rfl) ?_
  have h19 := (((hm_.keep u5 nm0).keep u10 nm0).keep u15 nm0)
  have h20 := (((hms.keep' u5 dis0).keep' u10 dis0).keep' u15 dis0)
  have h21 := (((hl.keep u5 nm0).keep u10 nm0).keep u15 nm0)
  have h22 := (((hlo.keep' u5 dis0).keep' u10 dis0).keep' u15 dis0)
  have h23 := (h9.keep u15 nm0)
  have h24 := (((hbm2.keep u5 nm0).keep u10 nm0).keep u15 nm0)
  refine WL.call rfl rfl rfl rfl ent30 rfl (alone_of (S := [m_] ++ ([lg] ++ (Value.slice lao m lcp).ownBlock.toList ++ S0)) ent84 h19 (by intro b hb; simp only [List.mem_append, List.mem_cons, List.not_mem_nil, or_false, false_or] at hb; have := h19.lt; have := h21.lt; have := @Own.lt' _ _ _ _ _ b _ h22; have := hS0 b; have := u5.size; have := u10.size; have := u15.size; grind) (fun w1 u1 hm1 => closes1_of hm1 (h20.keep' u1 (disc (Own.ne h20 h19 rfl) dis0)) hmk hd hmsk (h21.keep u1 (nmc (Blk.ne h21 h19 rfl) nm0)) (h22.keep' u1 (disc (Own.ne h22 h19 rfl) dis0)) hk hm (fun wb ub hb => hI wb (((((u5.trans u10).trans u15)).trans (u1.trans ub)).sub (by intro b hb hlt; simp only [List.mem_append, List.mem_cons, List.not_mem_nil, or_false, false_or, or_self] at hb ⊢; have := u5.size; have := u10.size; have := u15.size; omega)) hb) hIM hkeep hform hstep (h23.keep u1 (nmc (Blk.ne h23 h19 rfl) nm0)) (h18.keep u1 (nmc (Blk.ne h18 h19 rfl) nm0)) (h24.keep u1 (nmc (Blk.ne h24 h19 rfl) nm0)) (h14.keep u1 (nmc (Blk.ne h14 h19 rfl) nm0))) (by rintro w1 v w2 ⟨rfl, wb, hI2, ub, h1, h2, u8⟩; exact ⟨_, _, _, _, hIM _ _ hI2, u8⟩)) ?_
  rintro _ w31 ⟨w25, w26, x40, x41, x42, x43, u27, h33, ⟨rfl, w34, hI35, u36, h37, h38, u39⟩, h28, h29, u30⟩
  have e32 := Blk.inj h28 (hIM _ _ hI35)
  cases e32
  refine WL.to (E' := [(6, .nilIface)]) 1 [6] (by kernel_rfl) ?_
  refine WL.nil ?_
  refine hK17 _ _ _ ?_
  refine CW.ret fun a ha => ?_
  try simp (decide := true) only [Exit.inBlock, Exit.then, ↓reduceIte]
  exact fin ha.defers (res_tmp rfl ha rfl _) ⟨rfl, w34, w26, hI35, ((((u5.trans u10).trans u15)).trans (u27.trans u36)).sub (by intro b hb hlt; simp only [List.mem_append, List.mem_cons, List.not_mem_nil, or_false, false_or, or_self] at hb ⊢; have := u5.size; have := u10.size; have := u15.size; omega), h37, h38, ((((((u5.trans u10).trans u15).trans u27).trans u39).trans u30)).sub (by intro b hb hlt; simp only [List.mem_append, List.mem_cons, List.not_mem_nil, or_false, false_or] at hb ⊢; have := u5.size; have := u10.size; have := u15.size; have := u27.size; have := u39.size; have := u30.size; grind), u30, h29⟩

theorem rollback_of {w : World} {m_ lg pl wt k d msk mscp : Nat} {msao : Option Addr} {svs : List Int} {Inv : World → Nat → World → Prop} {S0 : List Nat} (hm_ : Blk w m_ [.map (some pl), .pointer (some ⟨lg, 0, none⟩), .slice msao msk mscp, .pointer (some ⟨wt, 0, none⟩), .bool false] 75) (hms : Own w (.slice msao msk mscp) 3 1 msk (nums svs)) (hmk : svs[d]? = some ((k : Nat) : Int)) (hd : d < msk) (hmsk : msk ≤ 1000) {lao : Option Addr} {m lcp : Nat} {fns : List Value} (hl : Blk w lg [.slice lao m lcp] 126) (hlo : Own w (.slice lao m lcp) 1 1 m fns) (hk : k ≤ m) (hm : m ≤ 100000) (hS0 : ∀ b ∈ S0, b < w.heap.size) (hI : ∀ wb, Only [m_] w wb → Blk wb m_ [.map (some pl), .pointer (some ⟨lg, 0, none⟩), .slice msao d mscp, .pointer (some ⟨wt, 0, none⟩), .bool true] 75 → Inv wb m wb) (hIM : ∀ wb w1, Inv wb k w1 → Blk w1 m_ [.map (some pl), .pointer (some ⟨lg, 0, none⟩), .slice msao d mscp, .pointer (some ⟨wt, 0, none⟩), .bool true] 75)
    (hkeep : ∀ wb j w1 w2, Inv wb j w1 → Only ([lg] ++ (Value.slice lao m lcp).ownBlock.toList) w1 w2 → Inv wb j w2)
    (hform : ∀ (j : Nat) (f : Value), fns[j]? = some f → ∃ (g : FuncId) (caps : List Value), f = .func (.func g) #[] caps.toArray ∧ enters Tryz.prog g = true)
    (hstep : ∀ wb (j : Nat) (g : FuncId) (caps : List Value) (w1 : World), k ≤ j → j < m → fns[j]? = some (.func (.func g) #[] caps.toArray) → Inv wb (j + 1) w1 → Ret Tryz.prog g caps.toArray w1 fun v w2 => Inv wb j w2 ∧ ∃ S, Only S w1 w2 ∧ (∀ b ∈ S, b ∈ S0 ∨ wb.heap.size ≤ b) ∧ lg ∉ S ∧ ∀ b ∈ (Value.slice lao m lcp).ownBlock.toList, b ∉ S) :
    Ret Tryz.prog 27 #[.pointer (some ⟨m_, 0, none⟩), .int .i64 ((d + 1 : Nat) : Int)] w fun v w' => v = .nilIface ∧ ∃ wb w2, Inv wb k w2 ∧ Only [m_] w wb ∧ Blk w2 lg [.slice lao k lcp] 126 ∧ Own w2 (.slice lao k lcp) 1 1 k (fns.take k) ∧ Only ([m_] ++ ([lg] ++ (Value.slice lao m lcp).ownBlock.toList ++ S0)) w w' ∧ Only [m_] w2 w' ∧ Blk w' m_ [.map (some pl), .pointer (some ⟨lg, 0, none⟩), .slice msao d mscp, .pointer (some ⟨wt, 0, none⟩), .bool false] 75 := by
  refine enterL (args := [.pointer (some ⟨m_, 0, none⟩), .int .i64 ((d + 1 : Nat) : Int)]) Tryz.func27 rfl rfl rfl ?_
  refine CW.seq fun K1 hK1 => ?_
  refine CW.region ?_
  refine WL.box (cs := [.pointer (some ⟨m_, 0, none⟩)]) rfl rfl rfl rfl ?_
  intro w2 b3 h4 u5 g6
  refine WL.to (E' := [(1, .int .i64 ((d + 1 : Nat) : Int)), (2, .pointer (some ⟨b3, 0, none⟩)), (4, .nilIface)]) 1 [1, 2, 4] (by kernel_rfl) ?_
  refine WL.nil ?_
  refine hK1 _ _ _ ?_
  refine CW.seq fun K7 hK7 => ?_
  refine CW.region ?_
  refine WL.load1 rfl agg24 rfl rfl h4 rfl ?_
  refine WL.to (E' := [(4, .nilIface), (5, .pointer (some ⟨m_, 0, none⟩)), (6, .int .i64 ((d + 1 : Nat) : Int)), (7, .func (.func 52) #[] #[.pointer (some ⟨b3, 0, none⟩)])]) 2 [4, 5, 6, 7] (by kernel_rfl) ?_
  have h8 := (hm_.keep u5 nm0)
  have h9 := (hms.keep' u5 dis0)
  have h10 := (hl.keep u5 nm0)
  have h11 := (hlo.keep' u5 dis0)
  refine WL.call rfl rfl rfl rfl ent45 rfl (closes_of h8 h9 hmk hd hmsk h10 h11 hk hm (by intro b hb; have := hS0 b hb; have := u5.size; omega) (fun wb ub hb => hI wb (((u5).trans ub).sub (by intro b hb hlt; simp only [List.mem_append, List.mem_cons, List.not_mem_nil, or_false, false_or, or_self] at hb ⊢; have := u5.size; omega)) hb) hIM hkeep hform hstep h4) ?_
  rintro _ w21 ⟨rfl, w12, w13, hI14, u15, h16, h17, u18, u19, h20⟩
  refine WL.to (E' := [(4, .nilIface)]) 1 [4] (by kernel_rfl) ?_
  refine WL.nil ?_
  refine hK7 _ _ _ ?_
  refine CW.ret fun a ha => ?_
  try simp (decide := true) only [Exit.inBlock, Exit.then, ↓reduceIte]
  exact fin ha.defers (res_tmp rfl ha rfl _) ⟨rfl, w12, w13, hI14, ((u5).trans u15).sub (by intro b hb hlt; simp only [List.mem_append, List.mem_cons, List.not_mem_nil, or_false, false_or, or_self] at hb ⊢; have := u5.size; omega), h16, h17, ((u5.trans u18)).sub (by intro b hb hlt; simp only [List.mem_append, List.mem_cons, List.not_mem_nil, or_false, false_or] at hb ⊢; have := u5.size; have := u18.size; grind), u19, h20⟩
end Go.K

namespace Go.K
open Go.Proofs
set_option maxRecDepth 8000
set_option maxHeartbeats 1000000
set_option linter.unusedSimpArgs false
set_option linter.unusedVariables false
theorem closes1_err_7 {w : World} {m_ lg pl wt mscp : Nat} {msao : Option Addr} {bdep bm : Nat} {bf : Value} (hm_ : Blk w m_ [.map (some pl), .pointer (some ⟨lg, 0, none⟩), .slice msao 6 mscp, .pointer (some ⟨wt, 0, none⟩), .bool true] 75) (hbd : Blk w bdep [.int .i64 (7)] 3) (hbm : Blk w bm [.pointer (some ⟨m_, 0, none⟩)] 24) :
    Ret Tryz.prog 84 #[.pointer (some ⟨bdep, 0, none⟩), .pointer (some ⟨bm, 0, none⟩), bf] w fun v w' => v = .iface 79 (.int .i64 102) ∧ Only [] w w' := by
  refine enterL (args := [.pointer (some ⟨bdep, 0, none⟩), .pointer (some ⟨bm, 0, none⟩), bf]) Tryz.func84 rfl rfl rfl ?_
  refine CW.seq fun K1 hK1 => ?_
  refine CW.region ?_
  refine WL.to (E' := [(0, .pointer (some ⟨bdep, 0, none⟩)), (1, .pointer (some ⟨bm, 0, none⟩)), (2, bf), (3, .nilIface)]) 1 [0, 1, 2, 3] (by kernel_rfl) ?_
  refine WL.nil ?_
  refine hK1 _ _ _ ?_
  refine CW.seq fun K2 hK2 => ?_
  refine CW.seq fun K3 hK3 => ?_
  refine CW.still (by kernel_rfl) (by kernel_rfl) ?_
  intro w4 e6 u5
  have h7 := (hbd.keep u5 nm0)
  refine ST.load1 rfl agg3 rfl rfl h7 rfl ?_
  refine ST.to (E' := [(0, .pointer (some ⟨bdep, 0, none⟩)), (1, .pointer (some ⟨bm, 0, none⟩)), (2, bf), (3, .nilIface), (7, .bool false)]) 2 [0, 1, 2, 3, 7] (by kernel_rfl) ?_
  refine ST.load1 rfl agg3 rfl rfl h7 rfl ?_
  have h8 := (hbm.keep u5 nm0)
  refine ST.load1 rfl agg24 rfl rfl h8 rfl ?_
  have h9 := (hm_.keep u5 nm0)
  refine ST.call (v := .int .i64 6) rfl rfl rfl rfl ent26 rfl (depth_of h9) ?_
  refine ST.to (E' := [(0, .pointer (some ⟨bdep, 0, none⟩)), (1, .pointer (some ⟨bm, 0, none⟩)), (2, bf), (3, .nilIface), (12, .bool true)]) 2 [0, 1, 2, 3, 12] (by kernel_rfl) ?_
  refine ST.nil ?_
  refine hK3 _ _ _ ?_
  refine CW.condT rfl ?_
  refine CW.seq fun K10 hK10 => ?_
  refine CW.region ?_
  refine WL.to (E' := [(0, .pointer (some ⟨bdep, 0, none⟩)), (1, .pointer (some ⟨bm, 0, none⟩)), (2, bf), (3, .iface 79 (.int .i64 102))]) 2 [0, 1, 2, 3] (by kernel_rfl) ?_
  refine WL.nil ?_
  refine hK10 _ _ _ ?_
  refine CW.ret fun a ha => ?_
  try simp (decide := true) only [Exit.inBlock, Exit.then, ↓reduceIte]
  exact fin ha.defers (res_tmp rfl ha rfl _) ⟨rfl, (u5.sub (by simp))⟩

theorem closes1_err_0 {w : World} {m_ lg pl wt mscp : Nat} {msao : Option Addr} {bdep bm : Nat} {bf : Value} (hm_ : Blk w m_ [.map (some pl), .pointer (some ⟨lg, 0, none⟩), .slice msao 6 mscp, .pointer (some ⟨wt, 0, none⟩), .bool true] 75) (hbd : Blk w bdep [.int .i64 (0)] 3) (hbm : Blk w bm [.pointer (some ⟨m_, 0, none⟩)] 24) :
    Ret Tryz.prog 84 #[.pointer (some ⟨bdep, 0, none⟩), .pointer (some ⟨bm, 0, none⟩), bf] w fun v w' => v = .iface 79 (.int .i64 102) ∧ Only [] w w' := by
  refine enterL (args := [.pointer (some ⟨bdep, 0, none⟩), .pointer (some ⟨bm, 0, none⟩), bf]) Tryz.func84 rfl rfl rfl ?_
  refine CW.seq fun K1 hK1 => ?_
  refine CW.region ?_
  refine WL.to (E' := [(0, .pointer (some ⟨bdep, 0, none⟩)), (1, .pointer (some ⟨bm, 0, none⟩)), (2, bf), (3, .nilIface)]) 1 [0, 1, 2, 3] (by kernel_rfl) ?_
  refine WL.nil ?_
  refine hK1 _ _ _ ?_
  refine CW.seq fun K2 hK2 => ?_
  refine CW.seq fun K3 hK3 => ?_
  refine CW.still (by kernel_rfl) (by kernel_rfl) ?_
  intro w4 e6 u5
  have h7 := (hbd.keep u5 nm0)
  refine ST.load1 rfl agg3 rfl rfl h7 rfl ?_
  refine ST.to (E' := [(0, .pointer (some ⟨bdep, 0, none⟩)), (1, .pointer (some ⟨bm, 0, none⟩)), (2, bf), (3, .nilIface), (12, .bool true)]) 7 [0, 1, 2, 3, 12] (by kernel_rfl) ?_
  refine ST.nil ?_
  refine hK3 _ _ _ ?_
  refine CW.condT rfl ?_
  refine CW.seq fun K8 hK8 => ?_
  refine CW.region ?_
  refine WL.to (E' := [(0, .pointer (some ⟨bdep, 0, none⟩)), (1, .pointer (some ⟨bm, 0, none⟩)), (2, bf), (3, .iface 79 (.int .i64 102))]) 2 [0, 1, 2, 3] (by kernel_rfl) ?_
  refine WL.nil ?_
  refine hK8 _ _ _ ?_
  refine CW.ret fun a ha => ?_
  try simp (decide := true) only [Exit.inBlock, Exit.then, ↓reduceIte]
  exact fin ha.defers (res_tmp rfl ha rfl _) ⟨rfl, (u5.sub (by simp))⟩

theorem closes1_err_m1 {w : World} {m_ lg pl wt mscp : Nat} {msao : Option Addr} {bdep bm : Nat} {bf : Value} (hm_ : Blk w m_ [.map (some pl), .pointer (some ⟨lg, 0, none⟩), .slice msao 6 mscp, .pointer (some ⟨wt, 0, none⟩), .bool true] 75) (hbd : Blk w bdep [.int .i64 (-1)] 3) (hbm : Blk w bm [.pointer (some ⟨m_, 0, none⟩)] 24) :
    Ret Tryz.prog 84 #[.pointer (some ⟨bdep, 0, none⟩), .pointer (some ⟨bm, 0, none⟩), bf] w fun v w' => v = .iface 79 (.int .i64 102) ∧ Only [] w w' := by
  refine enterL (args := [.pointer (some ⟨bdep, 0, none⟩), .pointer (some ⟨bm, 0, none⟩), bf]) Tryz.func84 rfl rfl rfl ?_
  refine CW.seq fun K1 hK1 => ?_
  refine CW.region ?_
  refine WL.to (E' := [(0, .pointer (some ⟨bdep, 0, none⟩)), (1, .pointer (some ⟨bm, 0, none⟩)), (2, bf), (3, .nilIface)]) 1 [0, 1, 2, 3] (by kernel_rfl) ?_
  refine WL.nil ?_
  refine hK1 _ _ _ ?_
  refine CW.seq fun K2 hK2 => ?_
  refine CW.seq fun K3 hK3 => ?_
  refine CW.still (by kernel_rfl) (by kernel_rfl) ?_
  intro w4 e6 u5
  have h7 := (hbd.keep u5 nm0)
  refine ST.load1 rfl agg3 rfl rfl h7 rfl ?_
  refine ST.to (E' := [(0, .pointer (some ⟨bdep, 0, none⟩)), (1, .pointer (some ⟨bm, 0, none⟩)), (2, bf), (3, .nilIface), (12, .bool true)]) 7 [0, 1, 2, 3, 12] (by kernel_rfl) ?_
  refine ST.nil ?_
  refine hK3 _ _ _ ?_
  refine CW.condT rfl ?_
  refine CW.seq fun K8 hK8 => ?_
  refine CW.region ?_
  refine WL.to (E' := [(0, .pointer (some ⟨bdep, 0, none⟩)), (1, .pointer (some ⟨bm, 0, none⟩)), (2, bf), (3, .iface 79 (.int .i64 102))]) 2 [0, 1, 2, 3] (by kernel_rfl) ?_
  refine WL.nil ?_
  refine hK8 _ _ _ ?_
  refine CW.ret fun a ha => ?_
  try simp (decide := true) only [Exit.inBlock, Exit.then, ↓reduceIte]
  exact fin ha.defers (res_tmp rfl ha rfl _) ⟨rfl, (u5.sub (by simp))⟩

theorem closes_err_7 {w : World} {m_ lg pl wt mscp : Nat} {msao : Option Addr} {bm2 : Nat} (hm_ : Blk w m_ [.map (some pl), .pointer (some ⟨lg, 0, none⟩), .slice msao 6 mscp, .pointer (some ⟨wt, 0, none⟩), .bool false] 75) :
    Ret Tryz.prog 45 #[.pointer (some ⟨m_, 0, none⟩), .int .i64 7, .func (.func 52) #[] #[.pointer (some ⟨bm2, 0, none⟩)]] w fun v w' => v = .iface 79 (.int .i64 102) ∧ Blk w' m_ [.map (some pl), .pointer (some ⟨lg, 0, none⟩), .slice msao 6 mscp, .pointer (some ⟨wt, 0, none⟩), .bool false] 75 ∧ Only [m_] w w' := by
  refine enterL (args := [.pointer (some ⟨m_, 0, none⟩), .int .i64 7, .func (.func 52) #[] #[.pointer (some ⟨bm2, 0, none⟩)]]) Tryz.func45 rfl rfl rfl ?_
  refine CW.seq fun K1 hK1 => ?_
  refine CW.region ?_
  refine WL.box (cs := [.pointer (some ⟨m_, 0, none⟩)]) rfl rfl rfl rfl ?_
  intro w2 b3 h4 u5 g6
  refine WL.box (cs := [.int .i64 7]) rfl rfl rfl rfl ?_
  intro w7 b8 h9 u10 g11
  refine WL.box (cs := [.func (.func 52) #[] #[.pointer (some ⟨bm2, 0, none⟩)]]) rfl rfl rfl rfl ?_
  intro w12 b13 h14 u15 g16
  refine WL.to (E' := [(3, .pointer (some ⟨b3, 0, none⟩)), (4, .pointer (some ⟨b8, 0, none⟩)), (5, .pointer (some ⟨b13, 0, none⟩)), (6, .nilIface)]) 1 [3, 4, 5, 6] (by kernel_rfl) ?_
  refine WL.nil ?_
  refine hK1 _ _ _ ?_
  refine CW.seq fun K17 hK17 => ?_
  refine CW.region ?_
  have h18 := ((h4.keep u10 nm0).keep u15 nm0)
  refine WL.load1 rfl agg24 rfl rfl h18 rfl ?_
  refine WL.to (E' := [(6, .nilIface), (7, .pointer (some ⟨m_, 0, none⟩)), (8, .func (.func 84) #[] #[.pointer (some ⟨b8, 0, none⟩), .pointer (some ⟨b3, 0, none⟩), .pointer (some ⟨b13, 0, none⟩)])]) 1 [6, 7, 8] (by kernel_rfl) ?_
  have h19 := (((hm_.keep u5 nm0).keep u10 nm0).keep u15 nm0)
  have h20 := (h9.keep u15 nm0)
  refine WL.call rfl rfl rfl rfl ent30 rfl (alone_of (S := []) ent84 h19 (by simp) (fun w1 u1 hm1 => Ret.mono (R' := fun v w2 => v = .iface 79 (.int .i64 102) ∧ Blk w2 m_ [.map (some pl), .pointer (some ⟨lg, 0, none⟩), .slice msao 6 mscp, .pointer (some ⟨wt, 0, none⟩), .bool true] 75 ∧ Only [] w1 w2) (closes1_err_7 hm1 (h20.keep u1 (nmc (Blk.ne h20 h19 rfl) nm0)) (h18.keep u1 (nmc (Blk.ne h18 h19 rfl) nm0))) (by rintro v w' ⟨rfl, uu⟩; exact ⟨rfl, hm1.keep uu nm0, uu⟩)) (by rintro w1 v w2 ⟨rfl, hm2, u⟩; exact ⟨_, _, _, _, hm2, u⟩)) ?_
  rintro _ w29 ⟨w23, w24, x32, x33, x34, x35, u25, h31, ⟨rfl, h22, u21⟩, h26, h27, u28⟩
  have e30 := Blk.inj h26 h22
  cases e30
  refine WL.to (E' := [(6, .iface 79 (.int .i64 102))]) 1 [6] (by kernel_rfl) ?_
  refine WL.nil ?_
  refine hK17 _ _ _ ?_
  refine CW.ret fun a ha => ?_
  try simp (decide := true) only [Exit.inBlock, Exit.then, ↓reduceIte]
  exact fin ha.defers (res_tmp rfl ha rfl _) ⟨rfl, h27, ((((((u5.trans u10).trans u15).trans u25).trans u21).trans u28).sub (by intro k hk hl; simp only [Value.ownBlock, Option.toList, List.mem_append, List.mem_cons, List.not_mem_nil, or_false, false_or] at hk ⊢; have := u5.size; have := u10.size; have := u15.size; have := u25.size; have := u21.size; have := u28.size; omega))⟩

theorem back_err_7 {w : World} {m_ lg pl wt mscp : Nat} {msao : Option Addr} (hm_ : Blk w m_ [.map (some pl), .pointer (some ⟨lg, 0, none⟩), .slice msao 6 mscp, .pointer (some ⟨wt, 0, none⟩), .bool false] 75) :
    Ret Tryz.prog 27 #[.pointer (some ⟨m_, 0, none⟩), .int .i64 7] w fun v w' => v = .iface 79 (.int .i64 102) ∧ Blk w' m_ [.map (some pl), .pointer (some ⟨lg, 0, none⟩), .slice msao 6 mscp, .pointer (some ⟨wt, 0, none⟩), .bool false] 75 ∧ Only [m_] w w' := by
  refine enterL (args := [.pointer (some ⟨m_, 0, none⟩), .int .i64 7]) Tryz.func27 rfl rfl rfl ?_
  refine CW.seq fun K1 hK1 => ?_
  refine CW.region ?_
  refine WL.box (cs := [.pointer (some ⟨m_, 0, none⟩)]) rfl rfl rfl rfl ?_
  intro w2 b3 h4 u5 g6
  refine WL.to (E' := [(1, .int .i64 7), (2, .pointer (some ⟨b3, 0, none⟩)), (4, .nilIface)]) 1 [1, 2, 4] (by kernel_rfl) ?_
  refine WL.nil ?_
  refine hK1 _ _ _ ?_
  refine CW.seq fun K7 hK7 => ?_
  refine CW.region ?_
  refine WL.load1 rfl agg24 rfl rfl h4 rfl ?_
  refine WL.to (E' := [(4, .nilIface), (5, .pointer (some ⟨m_, 0, none⟩)), (6, .int .i64 7), (7, .func (.func 52) #[] #[.pointer (some ⟨b3, 0, none⟩)])]) 2 [4, 5, 6, 7] (by kernel_rfl) ?_
  have h8 := (hm_.keep u5 nm0)
  refine WL.call rfl rfl rfl rfl ent45 rfl (closes_err_7 h8) ?_
  rintro _ w10 ⟨rfl, h11, u9⟩
  refine WL.to (E' := [(4, .iface 79 (.int .i64 102))]) 1 [4] (by kernel_rfl) ?_
  refine WL.nil ?_
  refine hK7 _ _ _ ?_
  refine CW.ret fun a ha => ?_
  try simp (decide := true) only [Exit.inBlock, Exit.then, ↓reduceIte]
  exact fin ha.defers (res_tmp rfl ha rfl _) ⟨rfl, h11, ((u5.trans u9).sub (by intro k hk hl; simp only [Value.ownBlock, Option.toList, List.mem_append, List.mem_cons, List.not_mem_nil, or_false, false_or] at hk ⊢; have := u5.size; have := u9.size; omega))⟩

theorem closes_err_0 {w : World} {m_ lg pl wt mscp : Nat} {msao : Option Addr} {bm2 : Nat} (hm_ : Blk w m_ [.map (some pl), .pointer (some ⟨lg, 0, none⟩), .slice msao 6 mscp, .pointer (some ⟨wt, 0, none⟩), .bool false] 75) :
    Ret Tryz.prog 45 #[.pointer (some ⟨m_, 0, none⟩), .int .i64 0, .func (.func 52) #[] #[.pointer (some ⟨bm2, 0, none⟩)]] w fun v w' => v = .iface 79 (.int .i64 102) ∧ Blk w' m_ [.map (some pl), .pointer (some ⟨lg, 0, none⟩), .slice msao 6 mscp, .pointer (some ⟨wt, 0, none⟩), .bool false] 75 ∧ Only [m_] w w' := by
  refine enterL (args := [.pointer (some ⟨m_, 0, none⟩), .int .i64 0, .func (.func 52) #[] #[.pointer (some ⟨bm2, 0, none⟩)]]) Tryz.func45 rfl rfl rfl ?_
  refine CW.seq fun K1 hK1 => ?_
  refine CW.region ?_
  refine WL.box (cs := [.pointer (some ⟨m_, 0, none⟩)]) rfl rfl rfl rfl ?_
  intro w2 b3 h4 u5 g6
  refine WL.box (cs := [.int .i64 0]) rfl rfl rfl rfl ?_
  intro w7 b8 h9 u10 g11
  refine WL.box (cs := [.func (.func 52) #[] #[.pointer (some ⟨bm2, 0, none⟩)]]) rfl rfl rfl rfl ?_
  intro w12 b13 h14 u15 g16
  refine WL.to (E' := [(3, .pointer (some ⟨b3, 0, none⟩)), (4, .pointer (some ⟨b8, 0, none⟩)), (5, .pointer (some ⟨b13, 0, none⟩)), (6, .nilIface)]) 1 [3, 4, 5, 6] (by kernel_rfl) ?_
  refine WL.nil ?_
  refine hK1 _ _ _ ?_
  refine CW.seq fun K17 hK17 => ?_
  refine CW.region ?_
  have h18 := ((h4.keep u10 nm0).keep u15 nm0)
  refine WL.load1 rfl agg24 rfl rfl h18 rfl ?_
  refine WL.to (E' := [(6, .nilIface), (7, .pointer (some ⟨m_, 0, none⟩)), (8, .func (.func 84) #[] #[.pointer (some ⟨b8, 0, none⟩), .pointer (some ⟨b3, 0, none⟩), .pointer (some ⟨b13, 0, none⟩)])]) 1 [6, 7, 8] (by kernel_rfl) ?_
  have h19 := (((hm_.keep u5 nm0).keep u10 nm0).keep u15 nm0)
  have h20 := (h9.keep u15 nm0)
  refine WL.call rfl rfl rfl rfl ent30 rfl (alone_of (S := []) ent84 h19 (by simp) (fun w1 u1 hm1 => Ret.mono (R' := fun v w2 => v = .iface 79 (.int .i64 102) ∧ Blk w2 m_ [.map (some pl), .pointer (some ⟨lg, 0, none⟩), .slice msao 6 mscp, .pointer (some ⟨wt, 0, none⟩), .bool true] 75 ∧ Only [] w1 w2) (closes1_err_0 hm1 (h20.keep u1 (nmc (Blk.ne h20 h19 rfl) nm0)) (h18.keep u1 (nmc (Blk.ne h18 h19 rfl) nm0))) (by rintro v w' ⟨rfl, uu⟩; exact ⟨rfl, hm1.keep uu nm0, uu⟩)) (by rintro w1 v w2 ⟨rfl, hm2, u⟩; exact ⟨_, _, _, _, hm2, u⟩)) ?_
  rintro _ w29 ⟨w23, w24, x32, x33, x34, x35, u25, h31, ⟨rfl, h22, u21⟩, h26, h27, u28⟩
  have e30 := Blk.inj h26 h22
  cases e30
  refine WL.to (E' := [(6, .iface 79 (.int .i64 102))]) 1 [6] (by kernel_rfl) ?_
  refine WL.nil ?_
  refine hK17 _ _ _ ?_
  refine CW.ret fun a ha => ?_
  try simp (decide := true) only [Exit.inBlock, Exit.then, ↓reduceIte]
  exact fin ha.defers (res_tmp rfl ha rfl _) ⟨rfl, h27, ((((((u5.trans u10).trans u15).trans u25).trans u21).trans u28).sub (by intro k hk hl; simp only [Value.ownBlock, Option.toList, List.mem_append, List.mem_cons, List.not_mem_nil, or_false, false_or] at hk ⊢; have := u5.size; have := u10.size; have := u15.size; have := u25.size; have := u21.size; have := u28.size; omega))⟩

theorem back_err_0 {w : World} {m_ lg pl wt mscp : Nat} {msao : Option Addr} (hm_ : Blk w m_ [.map (some pl), .pointer (some ⟨lg, 0, none⟩), .slice msao 6 mscp, .pointer (some ⟨wt, 0, none⟩), .bool false] 75) :
    Ret Tryz.prog 27 #[.pointer (some ⟨m_, 0, none⟩), .int .i64 0] w fun v w' => v = .iface 79 (.int .i64 102) ∧ Blk w' m_ [.map (some pl), .pointer (some ⟨lg, 0, none⟩), .slice msao 6 mscp, .pointer (some ⟨wt, 0, none⟩), .bool false] 75 ∧ Only [m_] w w' := by
  refine enterL (args := [.pointer (some ⟨m_, 0, none⟩), .int .i64 0]) Tryz.func27 rfl rfl rfl ?_
  refine CW.seq fun K1 hK1 => ?_
  refine CW.region ?_
  refine WL.box (cs := [.pointer (some ⟨m_, 0, none⟩)]) rfl rfl rfl rfl ?_
  intro w2 b3 h4 u5 g6
  refine WL.to (E' := [(1, .int .i64 0), (2, .pointer (some ⟨b3, 0, none⟩)), (4, .nilIface)]) 1 [1, 2, 4] (by kernel_rfl) ?_
  refine WL.nil ?_
  refine hK1 _ _ _ ?_
  refine CW.seq fun K7 hK7 => ?_
  refine CW.region ?_
  refine WL.load1 rfl agg24 rfl rfl h4 rfl ?_
  refine WL.to (E' := [(4, .nilIface), (5, .pointer (some ⟨m_, 0, none⟩)), (6, .int .i64 0), (7, .func (.func 52) #[] #[.pointer (some ⟨b3, 0, none⟩)])]) 2 [4, 5, 6, 7] (by kernel_rfl) ?_
  have h8 := (hm_.keep u5 nm0)
  refine WL.call rfl rfl rfl rfl ent45 rfl (closes_err_0 h8) ?_
  rintro _ w10 ⟨rfl, h11, u9⟩
  refine WL.to (E' := [(4, .iface 79 (.int .i64 102))]) 1 [4] (by kernel_rfl) ?_
  refine WL.nil ?_
  refine hK7 _ _ _ ?_
  refine CW.ret fun a ha => ?_
  try simp (decide := true) only [Exit.inBlock, Exit.then, ↓reduceIte]
  exact fin ha.defers (res_tmp rfl ha rfl _) ⟨rfl, h11, ((u5.trans u9).sub (by intro k hk hl; simp only [Value.ownBlock, Option.toList, List.mem_append, List.mem_cons, List.not_mem_nil, or_false, false_or] at hk ⊢; have := u5.size; have := u9.size; omega))⟩

theorem closes_err_m1 {w : World} {m_ lg pl wt mscp : Nat} {msao : Option Addr} {bm2 : Nat} (hm_ : Blk w m_ [.map (some pl), .pointer (some ⟨lg, 0, none⟩), .slice msao 6 mscp, .pointer (some ⟨wt, 0, none⟩), .bool false] 75) :
    Ret Tryz.prog 45 #[.pointer (some ⟨m_, 0, none⟩), .int .i64 (-1), .func (.func 46) #[] #[.pointer (some ⟨bm2, 0, none⟩)]] w fun v w' => v = .iface 79 (.int .i64 102) ∧ Blk w' m_ [.map (some pl), .pointer (some ⟨lg, 0, none⟩), .slice msao 6 mscp, .pointer (some ⟨wt, 0, none⟩), .bool false] 75 ∧ Only [m_] w w' := by
  refine enterL (args := [.pointer (some ⟨m_, 0, none⟩), .int .i64 (-1), .func (.func 46) #[] #[.pointer (some ⟨bm2, 0, none⟩)]]) Tryz.func45 rfl rfl rfl ?_
  refine CW.seq fun K1 hK1 => ?_
  refine CW.region ?_
  refine WL.box (cs := [.pointer (some ⟨m_, 0, none⟩)]) rfl rfl rfl rfl ?_
  intro w2 b3 h4 u5 g6
  refine WL.box (cs := [.int .i64 (-1)]) rfl rfl rfl rfl ?_
  intro w7 b8 h9 u10 g11
  refine WL.box (cs := [.func (.func 46) #[] #[.pointer (some ⟨bm2, 0, none⟩)]]) rfl rfl rfl rfl ?_
  intro w12 b13 h14 u15 g16
  refine WL.to (E' := [(3, .pointer (some ⟨b3, 0, none⟩)), (4, .pointer (some ⟨b8, 0, none⟩)), (5, .pointer (some ⟨b13, 0, none⟩)), (6, .nilIface)]) 1 [3, 4, 5, 6] (by kernel_rfl) ?_
  refine WL.nil ?_
  refine hK1 _ _ _ ?_
  refine CW.seq fun K17 hK17 => ?_
  refine CW.region ?_
  have h18 := ((h4.keep u10 nm0).keep u15 nm0)
  refine WL.load1 rfl agg24 rfl rfl h18 rfl ?_
  refine WL.to (E' := [(6, .nilIface), (7, .pointer (some ⟨m_, 0, none⟩)), (8, .func (.func 84) #[] #[.pointer (some ⟨b8, 0, none⟩), .pointer (some ⟨b3, 0, none⟩), .pointer (some ⟨b13, 0, none⟩)])]) 1 [6, 7, 8] (by kernel_rfl) ?_
  have h19 := (((hm_.keep u5 nm0).keep u10 nm0).keep u15 nm0)
  have h20 := (h9.keep u15 nm0)
  refine WL.call rfl rfl rfl rfl ent30 rfl (alone_of (S := []) ent84 h19 (by simp) (fun w1 u1 hm1 => Ret.mono (R' := fun v w2 => v = .iface 79 (.int .i64 102) ∧ Blk w2 m_ [.map (some pl), .pointer (some ⟨lg, 0, none⟩), .slice msao 6 mscp, .pointer (some ⟨wt, 0, none⟩), .bool true] 75 ∧ Only [] w1 w2) (closes1_err_m1 hm1 (h20.keep u1 (nmc (Blk.ne h20 h19 rfl) nm0)) (h18.keep u1 (nmc (Blk.ne h18 h19 rfl) nm0))) (by rintro v w' ⟨rfl, uu⟩; exact ⟨rfl, hm1.keep uu nm0, uu⟩)) (by rintro w1 v w2 ⟨rfl, hm2, u⟩; exact ⟨_, _, _, _, hm2, u⟩)) ?_
  rintro _ w29 ⟨w23, w24, x32, x33, x34, x35, u25, h31, ⟨rfl, h22, u21⟩, h26, h27, u28⟩
  have e30 := Blk.inj h26 h22
  cases e30
  refine WL.to (E' := [(6, .iface 79 (.int .i64 102))]) 1 [6] (by kernel_rfl) ?_
  refine WL.nil ?_
  refine hK17 _ _ _ ?_
  refine CW.ret fun a ha => ?_
  try simp (decide := true) only [Exit.inBlock, Exit.then, ↓reduceIte]
  exact fin ha.defers (res_tmp rfl ha rfl _) ⟨rfl, h27, ((((((u5.trans u10).trans u15).trans u25).trans u21).trans u28).sub (by intro k hk hl; simp only [Value.ownBlock, Option.toList, List.mem_append, List.mem_cons, List.not_mem_nil, or_false, false_or] at hk ⊢; have := u5.size; have := u10.size; have := u15.size; have := u25.size; have := u21.size; have := u28.size; omega))⟩

theorem back_err_m1 {w : World} {m_ lg pl wt mscp : Nat} {msao : Option Addr} (hm_ : Blk w m_ [.map (some pl), .pointer (some ⟨lg, 0, none⟩), .slice msao 6 mscp, .pointer (some ⟨wt, 0, none⟩), .bool false] 75) :
    Ret Tryz.prog 16 #[.pointer (some ⟨m_, 0, none⟩), .int .i64 (-1)] w fun v w' => v = .iface 79 (.int .i64 102) ∧ Blk w' m_ [.map (some pl), .pointer (some ⟨lg, 0, none⟩), .slice msao 6 mscp, .pointer (some ⟨wt, 0, none⟩), .bool false] 75 ∧ Only [m_] w w' := by
  refine enterL (args := [.pointer (some ⟨m_, 0, none⟩), .int .i64 (-1)]) Tryz.func16 rfl rfl rfl ?_
  refine CW.seq fun K1 hK1 => ?_
  refine CW.region ?_
  refine WL.box (cs := [.pointer (some ⟨m_, 0, none⟩)]) rfl rfl rfl rfl ?_
  intro w2 b3 h4 u5 g6
  refine WL.to (E' := [(1, .int .i64 (-1)), (2, .pointer (some ⟨b3, 0, none⟩)), (4, .nilIface)]) 1 [1, 2, 4] (by kernel_rfl) ?_
  refine WL.nil ?_
  refine hK1 _ _ _ ?_
  refine CW.seq fun K7 hK7 => ?_
  refine CW.region ?_
  refine WL.load1 rfl agg24 rfl rfl h4 rfl ?_
  refine WL.to (E' := [(4, .nilIface), (5, .pointer (some ⟨m_, 0, none⟩)), (6, .int .i64 (-1)), (7, .func (.func 46) #[] #[.pointer (some ⟨b3, 0, none⟩)])]) 2 [4, 5, 6, 7] (by kernel_rfl) ?_
  have h8 := (hm_.keep u5 nm0)
  refine WL.call rfl rfl rfl rfl ent45 rfl (closes_err_m1 h8) ?_
  rintro _ w10 ⟨rfl, h11, u9⟩
  refine WL.to (E' := [(4, .iface 79 (.int .i64 102))]) 1 [4] (by kernel_rfl) ?_
  refine WL.nil ?_
  refine hK7 _ _ _ ?_
  refine CW.ret fun a ha => ?_
  try simp (decide := true) only [Exit.inBlock, Exit.then, ↓reduceIte]
  exact fin ha.defers (res_tmp rfl ha rfl _) ⟨rfl, h11, ((u5.trans u9).sub (by intro k hk hl; simp only [Value.ownBlock, Option.toList, List.mem_append, List.mem_cons, List.not_mem_nil, or_false, false_or] at hk ⊢; have := u5.size; have := u9.size; omega))⟩

theorem newmarket {w : World} :
    Ret Tryz.prog 7 #[] w fun v w' => ∃ m_ pl lg wt, v = .pointer (some ⟨m_, 0, none⟩) ∧ Blk w' m_ [.map (some pl), .pointer (some ⟨lg, 0, none⟩), .slice none 0 0, .pointer (some ⟨wt, 0, none⟩), .bool false] 75 ∧ KMap ks w' pl [] ∧ Blk w' lg [.slice none 0 0] 126 ∧ Blk w' wt [.slice none 0 0, .int .i64 0] 129 ∧ w.heap.size ≤ m_ ∧ w.heap.size ≤ pl ∧ w.heap.size ≤ lg ∧ w.heap.size ≤ wt ∧ Only [] w w' := by
  refine enterL (args := []) Tryz.func7 rfl rfl rfl ?_
  refine CW.seq fun K1 hK1 => ?_
  refine CW.region ?_
  refine WL.to (E' := [(0, .pointer none)]) 1 [0] (by kernel_rfl) ?_
  refine WL.nil ?_
  refine hK1 _ _ _ ?_
  refine CW.seq fun K2 hK2 => ?_
  refine CW.region ?_
  refine WL.makeMap rfl rfl ?_
  intro w3 m4 h5 u6 g7
  replace h5 := KMap.new (κ := ks) h5
  refine WL.call rfl rfl rfl rfl ent28 rfl (newlog) ?_
  rintro _ w12 ⟨b8, rfl, h9, u10, g11⟩
  refine WL.call rfl rfl rfl rfl ent29 rfl (newwatch) ?_
  rintro _ w17 ⟨b13, rfl, h14, u15, g16⟩
  refine WL.build (vs := [(0, .map (some m4)), (1, .pointer (some ⟨b8, 0, none⟩)), (3, .pointer (some ⟨b13, 0, none⟩))]) (v := .agg #[.map (some m4), .pointer (some ⟨b8, 0, none⟩), .slice none 0 0, .pointer (some ⟨b13, 0, none⟩), .bool false]) rfl rfl rfl (by kernel_rfl) ?_
  refine WL.box (cs := [.map (some m4), .pointer (some ⟨b8, 0, none⟩), .slice none 0 0, .pointer (some ⟨b13, 0, none⟩), .bool false]) rfl rfl rfl rfl ?_
  intro w18 b19 h20 u21 g22
  refine WL.to (E' := [(0, .pointer (some ⟨b19, 0, none⟩))]) 1 [0] (by kernel_rfl) ?_
  refine WL.nil ?_
  refine hK2 _ _ _ ?_
  have h23 := (((h5.keep u10 nm0).keep u15 nm0).keep u21 nm0)
  have h24 := ((h9.keep u15 nm0).keep u21 nm0)
  have h25 := (h14.keep u21 nm0)
  refine CW.ret fun a ha => ?_
  try simp (decide := true) only [Exit.inBlock, Exit.then, ↓reduceIte]
  exact fin ha.defers (res_tmp rfl ha rfl _) ⟨b19, m4, b8, b13, rfl, h20, h23, h24, h25, (by have := g22; have := u6.size; have := u10.size; have := u15.size; omega), (by have := g7; omega), (by have := g11; have := u6.size; omega), (by have := g16; have := u6.size; have := u10.size; omega), ((((u6.trans u10).trans u15).trans u21).sub (by simp))⟩
end Go.K

