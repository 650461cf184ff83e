/-
  Part 11 of the texts that lead to the theorem marketNested_card_holds: contracts of the functions that the law reaches.
-/
import Derived.Test.YtbnobbcpklcbgaaGreatDoorPartA9
set_option linter.all false
set_option autoImplicit true
set_option relaxedAutoImplicit true
namespace Go.K
open Go.Proofs
set_option maxRecDepth 8000
set_option maxHeartbeats 1000000
set_option linter.unusedSimpArgs false
set_option linter.unusedVariables false
theorem jmins1 {w : World} {t sh S cps : Nat} {h1 h2 : Value} {mx : Int} {F : Nat} {sat n scp : Nat} {sao : Option Addr} {smx nx wr : Int} (ht : Blk w t [.slice (some ⟨sh, 0, none⟩) 1 cps, h1, h2, .pointer (some ⟨S, 0, none⟩), .int .i64 mx, .slice none 0 0, .slice none 0 0] 116) (hS : Blk w S [.slice sao n scp, .map (some sat), .pointer (some ⟨F, 0, none⟩), .int .i64 smx, .int .i64 nx, .int .i64 wr] 121) {idx : List (Int × Value)} (hA : KMap ki w sat idx) {xs : List Value} (hO : Own w (.slice sao n scp) 214 3 n xs) {g fc j : Nat} {grest : List Value} (hF : Blk w F [.slice (some ⟨g, 0, none⟩) 1 fc, .func (.func 135) #[] #[]] 246) (hg : Blk w g (.int .i64 ((j : Nat) : Int) :: grest) 3) (hj : j < n)  {lg : Nat} {lao : Option Addr} {m lcp : Nat} {fns : List Value} (hl : Blk w lg [.slice lao m lcp] 126) (hlo : Own w (.slice lao m lcp) 1 1 m fns) {vb : Nat} {x : Int} {rest : List Value} {c : UInt8} (hc : 97 ≤ c.toNat ∧ c.toNat ≤ 122) (hs : Blk w sh (.string (⟨#[c]⟩) :: .int .i64 1 :: rest) 51) (hv : Blk w vb [.int .i64 1, .int .i64 x, .string ByteArray.empty, .float .f64 0] 58) (hcp : 1 ≤ cps) (hfull : ((idx.length : Nat) : Int) < mx) {p hub base m_ wt pl bm bv bid : Nat} {msv : Value} {iv : Int} (hp : Blk w p [.pointer (some ⟨t, 0, none⟩), .pointer (some ⟨hub, 0, none⟩), .map (some base)] 87) (hm_ : Blk w m_ [.map (some pl), .pointer (some ⟨lg, 0, none⟩), msv, .pointer (some ⟨wt, 0, none⟩), .bool true] 75) (hbm : Blk w bm [.pointer (some ⟨m_, 0, none⟩)] 24) (hbv : Blk w bv [.slice (some ⟨vb, 0, none⟩) 1 1] 38) (hbid : Blk w bid [.int .i64 iv] 2) (hnew : look idx nx = none) (hroom : ((idx.length : Nat) : Int) < smx) (hn : n ≤ 100000) (hw : -1000000 ≤ wr ∧ wr ≤ 1000000) (hx : -1000000 ≤ nx ∧ nx ≤ 1000000) (hm : m ≤ 90000) :
    Ret Tryz.prog 40 #[.pointer (some ⟨p, 0, none⟩), .pointer (some ⟨bm, 0, none⟩), .pointer (some ⟨bv, 0, none⟩), .pointer (some ⟨bid, 0, none⟩)] w fun v w' => v = .nilIface ∧ ∃ br bi bp brw ao cp lao' lcp', Blk w' br [.pointer (some ⟨S, 0, none⟩)] 63 ∧ Blk w' bi [.int .i64 nx] 2 ∧ w.heap.size ≤ bi ∧ Blk w' bp [.pointer (some ⟨p, 0, none⟩)] 77 ∧ Blk w' brw [.int .i64 nx] 2 ∧ w.heap.size ≤ brw ∧ Blk w' bid [.int .i64 nx] 2 ∧ Blk w' S [.slice sao n scp, .map (some sat), .pointer (some ⟨F, 0, none⟩), .int .i64 smx, .int .i64 (nx + 1), .int .i64 (wr + 1)] 121 ∧ KMap ki w' sat (idx ++ [(nx, .int .i64 ((j : Nat) : Int))]) ∧ Own w' (.slice sao n scp) 214 3 n (setAll xs (j * 3) [.int .i64 nx, .int .i64 1, .slice ao 1 cp]) ∧ Own w' (.slice ao 1 cp) 58 4 1 [.int .i64 1, .int .i64 x, .string ByteArray.empty, .float .f64 0] ∧ (∀ b, (Value.slice ao 1 cp).ownBlock = some b → w.heap.size ≤ b) ∧ Blk w' F [.slice (some ⟨g, 0, none⟩) 0 fc, .func (.func 135) #[] #[]] 246 ∧ Blk w' lg [.slice lao' (m + 1 + 1) lcp'] 126 ∧ Own w' (.slice lao' (m + 1 + 1) lcp') 1 1 (m + 1 + 1) (fns ++ [.func (.func 79) #[] #[.pointer (some ⟨br, 0, none⟩), .pointer (some ⟨bi, 0, none⟩)]] ++ [.func (.func 43) #[] #[.pointer (some ⟨bp, 0, none⟩), .pointer (some ⟨brw, 0, none⟩)]]) ∧ (∀ b, (Value.slice lao' (m + 1 + 1) lcp').ownBlock = some b → (Value.slice lao m lcp).ownBlock = some b ∨ w.heap.size ≤ b) ∧ Only ([S, sat, lg, F, g, bid] ++ (Value.slice sao n scp).ownBlock.toList ++ (Value.slice lao m lcp).ownBlock.toList) w w' := by
  refine enterL (args := [.pointer (some ⟨p, 0, none⟩), .pointer (some ⟨bm, 0, none⟩), .pointer (some ⟨bv, 0, none⟩), .pointer (some ⟨bid, 0, none⟩)]) Tryz.func40 rfl rfl rfl ?_
  refine CW.seq fun K1 hK1 => ?_
  refine CW.region ?_
  refine WL.box (cs := [.pointer (some ⟨p, 0, none⟩)]) rfl rfl rfl rfl ?_
  intro w2 b3 h4 u5 g6
  refine WL.to (E' := [(1, .pointer (some ⟨bm, 0, none⟩)), (2, .pointer (some ⟨bv, 0, none⟩)), (3, .pointer (some ⟨bid, 0, none⟩)), (4, .pointer (some ⟨b3, 0, none⟩)), (5, .nilIface)]) 1 [1, 2, 3, 4, 5] (by kernel_rfl) ?_
  refine WL.nil ?_
  refine hK1 _ _ _ ?_
  refine CW.seq fun K7 hK7 => ?_
  refine CW.mixed (by kernel_rfl) ?_
  intro w8 e10 u9
  have h11 := (h4.keep u9 nm0)
  refine MX.load1 (L' := #[true, false, false, false, false, false, false, false, false, false, false, false, false, false, false]) 0 (by kernel_rfl) rfl rfl rfl agg77 rfl rfl h11 rfl ?_
  refine MX.to (f := 12) (L' := #[true, true, true, false, false, false, false, false, false, false, false, false, false, false, false]) (E' := [(1, .pointer (some ⟨bm, 0, none⟩)), (2, .pointer (some ⟨bv, 0, none⟩)), (3, .pointer (some ⟨bid, 0, none⟩)), (4, .pointer (some ⟨b3, 0, none⟩)), (5, .nilIface), (10, .pointer (some ⟨p, 0, none⟩))]) [1, 2] [1, 2, 3, 4, 5, 10] rfl (by kernel_rfl) ?_
  have h12 := ((hp.keep u5 nm0).keep u9 nm0)
  refine MX.load1 (L' := #[true, true, true, true, false, false, false, false, false, false, false, false, false, false, false]) 3 (by kernel_rfl) rfl rfl rfl agg60 rfl rfl h12 rfl ?_
  have h13 := ((hbm.keep u5 nm0).keep u9 nm0)
  refine MX.load1 (L' := #[true, true, true, true, true, false, false, false, false, false, false, false, false, false, false]) 4 (by kernel_rfl) rfl rfl rfl agg24 rfl rfl h13 rfl ?_
  refine MX.to (f := 8) (L' := #[true, true, true, true, true, true, true, false, false, false, false, false, false, false, false]) (E' := [(1, .pointer (some ⟨bm, 0, none⟩)), (2, .pointer (some ⟨bv, 0, none⟩)), (3, .pointer (some ⟨bid, 0, none⟩)), (4, .pointer (some ⟨b3, 0, none⟩)), (5, .nilIface), (11, .pointer (some ⟨t, 0, none⟩)), (14, .pointer (some ⟨m_, 1, none⟩))]) [5, 6] [1, 2, 3, 4, 5, 11, 14] rfl (by kernel_rfl) ?_
  have h14 := ((hm_.keep u5 nm0).keep u9 nm0)
  refine MX.load1 (L' := #[true, true, true, true, true, true, true, true, false, false, false, false, false, false, false]) 7 (by kernel_rfl) rfl rfl rfl agg70 rfl rfl h14 rfl ?_
  have h15 := ((hbv.keep u5 nm0).keep u9 nm0)
  refine MX.load1 (L' := #[true, true, true, true, true, true, true, true, true, false, false, false, false, false, false]) 8 (by kernel_rfl) rfl rfl rfl agg38 rfl rfl h15 rfl ?_
  refine MX.loud 9 (by kernel_rfl) rfl (fun K16 hK16 => ?_) rfl
  have h17 := ((hS.keep u5 nm0).keep u9 nm0)
  have h18 := ((hA.keep u5 nm0).keep u9 nm0)
  have h19 := ((hO.keep' u5 dis0).keep' u9 dis0)
  have h20 := ((hF.keep u5 nm0).keep u9 nm0)
  have h21 := ((hg.keep u5 nm0).keep u9 nm0)
  have h22 := ((hl.keep u5 nm0).keep u9 nm0)
  have h23 := ((hlo.keep' u5 dis0).keep' u9 dis0)
  have h24 := ((ht.keep u5 nm0).keep u9 nm0)
  have h25 := ((hs.keep u5 nm0).keep u9 nm0)
  have h26 := ((hv.keep u5 nm0).keep u9 nm0)
  refine WL.call rfl rfl rfl rfl ent41 rfl (jcins1 h24 h17 h18 h19 h20 h21 hj h22 h23 hc h25 h26 (by omega) (by omega) hnew (by omega) (by omega) (by omega) (by omega) (by omega)) ?_
  rintro _ w46 ⟨br27, bi28, ao32, cp33, ao34, cp35, rfl, h29, h30, g31, h36, h37, h38, h39, h40, h41, h42, h43, h44, u45⟩
  refine WL.fin (L' := #[true, true, true, true, true, true, true, true, true, true, false, false, false, false, false]) hK16 (stY (by kernel_rfl) (stY (by kernel_rfl) (stN (fun q => (q.keep u45 (nma (nma (nmc (Blk.ne q h17 rfl) (nmc (Blk.neK q h18) (nmc (Blk.ne q h22 rfl) (nmc (Blk.ne q h20 rfl) (nmc (Blk.ne q h21 rfl) nm0))))) (Own.ne h19 q rfl)) (Own.ne h23 q rfl)))) (stY (by kernel_rfl) (stN (fun q => (q.keep u45 (nma (nma (nmc (Blk.ne q h17 rfl) (nmc (Blk.neK q h18) (nmc (Blk.ne q h22 rfl) (nmc (Blk.ne q h20 rfl) (nmc (Blk.ne q h21 rfl) nm0))))) (Own.ne h19 q rfl)) (Own.ne h23 q rfl)))) st0))))) ?_
  refine MX.to (f := 2) (L' := #[true, true, true, true, true, true, true, true, true, true, true, true, true, false, false]) (E' := [(1, .pointer (some ⟨bm, 0, none⟩)), (3, .pointer (some ⟨bid, 0, none⟩)), (4, .pointer (some ⟨b3, 0, none⟩)), (5, .nilIface), (18, .int .i64 nx), (19, .nilIface)]) [10, 11, 12] [1, 3, 4, 5, 18, 19] rfl (by kernel_rfl) ?_
  refine MX.loud 13 (by kernel_rfl) rfl (fun K47 hK47 => ?_) rfl
  have h48 := ((hbid.keep u5 nm0).keep u9 nm0)
  have h49 := (h48.keep u45 (nma (nma (nmc (Blk.ne h48 h17 rfl) (nmc (Blk.neK h48 h18) (nmc (Blk.ne h48 h22 rfl) (nmc (Blk.ne h48 h20 rfl) (nmc (Blk.ne h48 h21 rfl) nm0))))) (Own.ne h19 h48 rfl)) (Own.ne h23 h48 rfl)))
  refine WL.store1 rfl siz2 rfl rfl rfl h49 rfl ?_
  intro w50 h51 u52 z53
  refine WL.fin (L' := #[true, true, true, true, true, true, true, true, true, true, true, true, true, true, false]) hK47 (stY (by kernel_rfl) (stY (by kernel_rfl) (stY (by kernel_rfl) (stY (by kernel_rfl) (stY (by kernel_rfl) st0))))) ?_
  refine MX.to (f := 0) (L' := #[true, true, true, true, true, true, true, true, true, true, true, true, true, true, true]) (E' := [(1, .pointer (some ⟨bm, 0, none⟩)), (3, .pointer (some ⟨bid, 0, none⟩)), (4, .pointer (some ⟨b3, 0, none⟩)), (5, .nilIface)]) [14] [1, 3, 4, 5] rfl (by kernel_rfl) ?_
  refine MX.done (by kernel_rfl) ?_
  refine hK7 _ _ _ ?_
  refine CW.seq fun K54 hK54 => ?_
  refine CW.seq fun K55 hK55 => ?_
  refine CW.region ?_
  refine WL.to (E' := [(1, .pointer (some ⟨bm, 0, none⟩)), (3, .pointer (some ⟨bid, 0, none⟩)), (4, .pointer (some ⟨b3, 0, none⟩)), (5, .nilIface), (21, .bool true)]) 2 [1, 3, 4, 5, 21] (by kernel_rfl) ?_
  refine WL.nil ?_
  refine hK55 _ _ _ ?_
  refine CW.condT rfl ?_
  refine CW.seq fun K56 hK56 => ?_
  refine CW.region ?_
  refine WL.load1 rfl agg2 rfl rfl h51 rfl ?_
  refine WL.alloc (cs := [.int .i64 0]) rfl rfl zer2 rfl ?_
  intro w57 b58 h59 u60 g61
  refine WL.store1 rfl siz2 rfl rfl rfl h59 rfl ?_
  intro w62 h63 u64 z65
  refine WL.sub [(1, .pointer (some ⟨bm, 0, none⟩)), (4, .pointer (some ⟨b3, 0, none⟩)), (5, .nilIface), (6, .pointer (some ⟨b58, 0, none⟩))] ⟨rfl, rfl, rfl, rfl, trivial⟩ ?_
  refine WL.nil ?_
  refine hK56 _ _ _ ?_
  refine CW.region ?_
  have h66 := (h13.keep u45 (nma (nma (nmc (Blk.ne h13 h17 rfl) (nmc (Blk.neK h13 h18) (nmc (Blk.ne h13 h22 rfl) (nmc (Blk.ne h13 h20 rfl) (nmc (Blk.ne h13 h21 rfl) nm0))))) (Own.ne h19 h13 rfl)) (Own.ne h23 h13 rfl)))
  have h67 := ((h66.keep u52 (nmc (Blk.ne h66 h49 rfl) nm0)).keep u60 nm0)
  have h68 := (h67.keep u64 (nmc (Blk.ne h67 h59 rfl) nm0))
  refine WL.load1 rfl agg24 rfl rfl h68 rfl ?_
  refine WL.to (E' := [(4, .pointer (some ⟨b3, 0, none⟩)), (5, .nilIface), (6, .pointer (some ⟨b58, 0, none⟩)), (25, .pointer (some ⟨m_, 1, none⟩))]) 2 [4, 5, 6, 25] (by kernel_rfl) ?_
  have h69 := (h14.keep u45 (nma (nma (nmc (Blk.ne h14 h17 rfl) (nmc (Blk.neK h14 h18) (nmc (Blk.ne h14 h22 rfl) (nmc (Blk.ne h14 h20 rfl) (nmc (Blk.ne h14 h21 rfl) nm0))))) (Own.ne h19 h14 rfl)) (Own.ne h23 h14 rfl)))
  have h70 := ((h69.keep u52 (nmc (Blk.ne h69 h49 rfl) nm0)).keep u60 nm0)
  have h71 := (h70.keep u64 (nmc (Blk.ne h70 h59 rfl) nm0))
  refine WL.load1 rfl agg70 rfl rfl h71 rfl ?_
  refine WL.to (E' := [(5, .nilIface), (26, .pointer (some ⟨lg, 0, none⟩)), (27, .func (.func 43) #[] #[.pointer (some ⟨b3, 0, none⟩), .pointer (some ⟨b58, 0, none⟩)])]) 1 [5, 26, 27] (by kernel_rfl) ?_
  have h72 := ((h42.keep u52 (nmc (Blk.ne h42 h49 rfl) nm0)).keep u60 nm0)
  have h73 := (h72.keep u64 (nmc (Blk.ne h72 h59 rfl) nm0))
  have h74 := ((h43.keep' u52 (disc (Own.ne h43 h49 rfl) dis0)).keep' u60 dis0)
  have h75 := (h74.keep' u64 (disc (Own.ne h74 h59 rfl) dis0))
  refine WL.call rfl rfl rfl rfl ent42 rfl (logadd_of (f := .func (.func 43) #[] #[.pointer (some ⟨b3, 0, none⟩), .pointer (some ⟨b58, 0, none⟩)]) h73 h75 rfl (by omega)) ?_
  rintro _ w82 ⟨ao76, cp77, rfl, h78, h79, f80, u81⟩
  refine WL.sub [(5, .nilIface)] ⟨rfl, trivial⟩ ?_
  refine WL.nil ?_
  refine hK54 _ _ _ ?_
  refine CW.seq fun K83 hK83 => ?_
  refine CW.region ?_
  refine WL.to (E' := [(5, .nilIface)]) 2 [5] (by kernel_rfl) ?_
  refine WL.nil ?_
  refine hK83 _ _ _ ?_
  have h84 := (h51.keep u60 nm0)
  have h85 := (h84.keep u64 (nmc (by have := hbid.lt; have := g61; have := u5.size; have := u9.size; have := u45.size; have := u52.size; omega) nm0))
  have h86 := (h85.keep u81 (nma (nmc (Blk.ne h85 h73 rfl) nm0) (Own.ne h75 h85 rfl)))
  have h87 := ((h29.keep u52 (nmc (Blk.ne h29 h49 rfl) nm0)).keep u60 nm0)
  have h88 := (h87.keep u64 (nmc (Blk.ne h87 h59 rfl) nm0))
  have h89 := (h88.keep u81 (nma (nmc (Blk.ne h88 h73 rfl) nm0) (Own.ne h75 h88 rfl)))
  have h90 := ((h30.keep u52 (nmc (Ne.symm (by have := hbid.lt; have := g31; have := u5.size; have := u9.size; omega)) nm0)).keep u60 nm0)
  have h91 := (h90.keep u64 (nmc (by have := h30.lt; have := g61; have := u52.size; omega) nm0))
  have h92 := (h91.keep u81 (nma (nmc (Blk.ne h91 h73 rfl) nm0) (Own.ne h75 h91 rfl)))
  have h93 := (h11.keep u45 (nma (nma (nmc (Blk.ne h11 h17 rfl) (nmc (Blk.neK h11 h18) (nmc (Blk.ne h11 h22 rfl) (nmc (Blk.ne h11 h20 rfl) (nmc (Blk.ne h11 h21 rfl) nm0))))) (Own.ne h19 h11 rfl)) (Own.ne h23 h11 rfl)))
  have h94 := ((h93.keep u52 (nmc (Blk.ne h93 h49 rfl) nm0)).keep u60 nm0)
  have h95 := (h94.keep u64 (nmc (Blk.ne h94 h59 rfl) nm0))
  have h96 := (h95.keep u81 (nma (nmc (Blk.ne h95 h73 rfl) nm0) (Own.ne h75 h95 rfl)))
  have h97 := (h63.keep u81 (nma (nmc (Blk.ne h63 h73 rfl) nm0) (Own.ne h75 h63 rfl)))
  have h98 := ((h36.keep u52 (nmc (Blk.ne h36 h49 rfl) nm0)).keep u60 nm0)
  have h99 := (h98.keep u64 (nmc (Blk.ne h98 h59 rfl) nm0))
  have h100 := (h99.keep u81 (nma (nmc (Blk.ne h99 h73 rfl) nm0) (Own.ne h75 h99 rfl)))
  have h101 := ((h37.keep u52 (nmc (Ne.symm (Blk.neK h49 h37)) nm0)).keep u60 nm0)
  have h102 := (h101.keep u64 (nmc (Ne.symm (Blk.neK h59 h101)) nm0))
  have h103 := (h102.keep u81 (nma (nmc (Ne.symm (Blk.neK h73 h102)) nm0) (Own.neM h75 h102)))
  have h104 := ((h38.keep' u52 (disc (Own.ne h38 h49 rfl) dis0)).keep' u60 dis0)
  have h105 := (h104.keep' u64 (disc (Own.ne h104 h59 rfl) dis0))
  have h106 := (h105.keep' u81 (disa (disc (Own.ne h105 h73 rfl) dis0) (Own.neO h105 h75 rfl)))
  have h107 := ((h39.keep' u52 (disc (Own.ne h39 h49 rfl) dis0)).keep' u60 dis0)
  have h108 := (h107.keep' u64 (disc (Own.ne h107 h59 rfl) dis0))
  have h109 := (h108.keep' u81 (disa (disc (Own.ne h108 h73 rfl) dis0) (Own.neO h108 h75 rfl)))
  have h110 := ((h41.keep u52 (nmc (Blk.ne h41 h49 rfl) nm0)).keep u60 nm0)
  have h111 := (h110.keep u64 (nmc (Blk.ne h110 h59 rfl) nm0))
  have h112 := (h111.keep u81 (nma (nmc (Blk.ne h111 h73 rfl) nm0) (Own.ne h75 h111 rfl)))
  refine CW.ret fun a ha => ?_
  try simp (decide := true) only [Exit.inBlock, Exit.then, ↓reduceIte]
  exact fin ha.defers (res_tmp rfl ha rfl _) ⟨rfl, br27, bi28, b3, b58, _, _, _, _, h89, h92, (by have := g31; have := u5.size; have := u9.size; omega), h96, h97, (by have := g61; have := u5.size; have := u9.size; have := u45.size; have := u52.size; omega), h86, h100, h103, h106, h109, (fun b hb => by have := h40 b hb; have := u5.size; have := u9.size; omega), h112, h78, h79, (fun b hb => (f80 b hb).elim (fun h => (h44 b h).imp_right (fun h => by have := u5.size; have := u9.size; omega)) (fun h => .inr (by have := u5.size; have := u9.size; have := u45.size; have := u52.size; have := u60.size; have := u64.size; omega))), (((((((u5.trans u9).trans u45).trans u52).trans u60).trans u64).trans u81).sub (by intro k hk hl; simp only [Option.mem_toList, Option.mem_def, List.mem_append, List.mem_cons, List.not_mem_nil, or_false, false_or] at hk ⊢; have := u5.size; have := u9.size; have := u45.size; have := u52.size; have := u60.size; have := u64.size; have := u81.size; have := g61; have := h44; have := f80; grind))⟩

theorem jmins68_1 {w : World} {t sh S cps : Nat} {h1 h2 : Value} {mx : Int} {F : Nat} {sat n scp : Nat} {sao : Option Addr} {smx nx wr : Int} (ht : Blk w t [.slice (some ⟨sh, 0, none⟩) 1 cps, h1, h2, .pointer (some ⟨S, 0, none⟩), .int .i64 mx, .slice none 0 0, .slice none 0 0] 116) (hS : Blk w S [.slice sao n scp, .map (some sat), .pointer (some ⟨F, 0, none⟩), .int .i64 smx, .int .i64 nx, .int .i64 wr] 121) {idx : List (Int × Value)} (hA : KMap ki w sat idx) {xs : List Value} (hO : Own w (.slice sao n scp) 214 3 n xs) {g fc j : Nat} {grest : List Value} (hF : Blk w F [.slice (some ⟨g, 0, none⟩) 1 fc, .func (.func 135) #[] #[]] 246) (hg : Blk w g (.int .i64 ((j : Nat) : Int) :: grest) 3) (hj : j < n)  {lg : Nat} {lao : Option Addr} {m lcp : Nat} {fns : List Value} (hl : Blk w lg [.slice lao m lcp] 126) (hlo : Own w (.slice lao m lcp) 1 1 m fns) {vb : Nat} {x : Int} {rest : List Value} {c : UInt8} (hc : 97 ≤ c.toNat ∧ c.toNat ≤ 122) (hs : Blk w sh (.string (⟨#[c]⟩) :: .int .i64 1 :: rest) 51) (hv : Blk w vb [.int .i64 1, .int .i64 x, .string ByteArray.empty, .float .f64 0] 58) (hcp : 1 ≤ cps) (hfull : ((idx.length : Nat) : Int) < mx) {p hub base m_ wt pl bm bv bid : Nat} {msv : Value} {iv : Int} (hp : Blk w p [.pointer (some ⟨t, 0, none⟩), .pointer (some ⟨hub, 0, none⟩), .map (some base)] 87) (hm_ : Blk w m_ [.map (some pl), .pointer (some ⟨lg, 0, none⟩), msv, .pointer (some ⟨wt, 0, none⟩), .bool true] 75) (hbm : Blk w bm [.pointer (some ⟨m_, 0, none⟩)] 24) (hbv : Blk w bv [.slice (some ⟨vb, 0, none⟩) 1 1] 38) (hbid : Blk w bid [.int .i64 iv] 2) {bf bp2 : Nat} (hbf : Blk w bf [.func (.func 40) #[] #[.pointer (some ⟨bm, 0, none⟩), .pointer (some ⟨bv, 0, none⟩), .pointer (some ⟨bid, 0, none⟩)]] 100) (hbp2 : Blk w bp2 [.pointer (some ⟨p, 0, none⟩)] 77) (hnew : look idx nx = none) (hroom : ((idx.length : Nat) : Int) < smx) (hn : n ≤ 100000) (hw : -1000000 ≤ wr ∧ wr ≤ 1000000) (hx : -1000000 ≤ nx ∧ nx ≤ 1000000) (hm : m ≤ 90000) :
    Ret Tryz.prog 68 #[.pointer (some ⟨bf, 0, none⟩), .pointer (some ⟨bp2, 0, none⟩)] w fun v w' => v = .nilIface ∧ ∃ br bi bp brw ao cp lao' lcp', Blk w' br [.pointer (some ⟨S, 0, none⟩)] 63 ∧ Blk w' bi [.int .i64 nx] 2 ∧ w.heap.size ≤ bi ∧ Blk w' bp [.pointer (some ⟨p, 0, none⟩)] 77 ∧ Blk w' brw [.int .i64 nx] 2 ∧ w.heap.size ≤ brw ∧ Blk w' bid [.int .i64 nx] 2 ∧ Blk w' S [.slice sao n scp, .map (some sat), .pointer (some ⟨F, 0, none⟩), .int .i64 smx, .int .i64 (nx + 1), .int .i64 (wr + 1)] 121 ∧ KMap ki w' sat (idx ++ [(nx, .int .i64 ((j : Nat) : Int))]) ∧ Own w' (.slice sao n scp) 214 3 n (setAll xs (j * 3) [.int .i64 nx, .int .i64 1, .slice ao 1 cp]) ∧ Own w' (.slice ao 1 cp) 58 4 1 [.int .i64 1, .int .i64 x, .string ByteArray.empty, .float .f64 0] ∧ (∀ b, (Value.slice ao 1 cp).ownBlock = some b → w.heap.size ≤ b) ∧ Blk w' F [.slice (some ⟨g, 0, none⟩) 0 fc, .func (.func 135) #[] #[]] 246 ∧ Blk w' lg [.slice lao' (m + 1 + 1) lcp'] 126 ∧ Own w' (.slice lao' (m + 1 + 1) lcp') 1 1 (m + 1 + 1) (fns ++ [.func (.func 79) #[] #[.pointer (some ⟨br, 0, none⟩), .pointer (some ⟨bi, 0, none⟩)]] ++ [.func (.func 43) #[] #[.pointer (some ⟨bp, 0, none⟩), .pointer (some ⟨brw, 0, none⟩)]]) ∧ (∀ b, (Value.slice lao' (m + 1 + 1) lcp').ownBlock = some b → (Value.slice lao m lcp).ownBlock = some b ∨ w.heap.size ≤ b) ∧ Only ([S, sat, lg, F, g, bid] ++ (Value.slice sao n scp).ownBlock.toList ++ (Value.slice lao m lcp).ownBlock.toList) w w' := by
  refine enterL (args := [.pointer (some ⟨bf, 0, none⟩), .pointer (some ⟨bp2, 0, none⟩)]) Tryz.func68 rfl rfl rfl ?_
  refine CW.seq fun K1 hK1 => ?_
  refine CW.region ?_
  refine WL.to (E' := [(0, .pointer (some ⟨bf, 0, none⟩)), (1, .pointer (some ⟨bp2, 0, none⟩)), (2, .nilIface)]) 1 [0, 1, 2] (by kernel_rfl) ?_
  refine WL.nil ?_
  refine hK1 _ _ _ ?_
  refine CW.seq fun K2 hK2 => ?_
  refine CW.region ?_
  refine WL.load1 rfl agg100 rfl rfl hbf rfl ?_
  refine WL.load1 rfl agg77 rfl rfl hbp2 rfl ?_
  refine WL.call rfl rfl rfl rfl ent40 rfl (jmins1 ht hS hA hO hF hg hj hl hlo hc hs hv (by omega) (by omega) hp hm_ hbm hbv hbid hnew (by omega) (by omega) (by omega) (by omega) (by omega)) ?_
  rintro _ w3 ⟨rfl, br4, bi5, bp6, brw7, ao15, cp16, ao17, cp18, h8, h9, g10, h11, h12, g13, h14, h19, h20, h21, h22, h23, h24, h25, h26, h27, u28⟩
  refine WL.to (E' := [(2, .nilIface)]) 1 [2] (by kernel_rfl) ?_
  refine WL.nil ?_
  refine hK2 _ _ _ ?_
  refine CW.ret fun a ha => ?_
  try simp (decide := true) only [Exit.inBlock, Exit.then, ↓reduceIte]
  exact fin ha.defers (res_tmp rfl ha rfl _) ⟨rfl, br4, bi5, bp6, brw7, _, _, _, _, h8, h9, (by have := g10; omega), h11, h12, (by have := g13; omega), h14, h19, h20, h21, h22, (fun b hb => by have := h23 b hb; omega), h24, h25, h26, (fun b hb => (h27 b hb).imp_right (fun h => by omega)), (u28.sub (by intro k hk hl; simp only [Option.mem_toList, Option.mem_def, List.mem_append, List.mem_cons, List.not_mem_nil, or_false, false_or] at hk ⊢; have := u28.size; grind))⟩
end Go.K

namespace Go.K
open Go.Proofs
set_option maxRecDepth 8000
set_option maxHeartbeats 1000000
set_option linter.unusedSimpArgs false
set_option linter.unusedVariables false
theorem keep_of {w : World} {lg : Nat} {lao : Option Addr} {m lcp : Nat} {fns : List Value} (hl : Blk w lg [.slice lao m lcp] 126) (hlo : Own w (.slice lao m lcp) 1 1 m fns) :
    Ret Tryz.prog 85 #[.pointer (some ⟨lg, 0, none⟩), .int .i64 0] w fun v w' => v = .bool true ∧ Blk w' lg [.slice lao 0 lcp] 126 ∧ Own w' (.slice lao 0 lcp) 1 1 0 [] ∧ Only ([lg] ++ (Value.slice lao m lcp).ownBlock.toList) w w' := by
  refine enterL (args := [.pointer (some ⟨lg, 0, none⟩), .int .i64 0]) Tryz.func85 rfl rfl rfl ?_
  refine CW.seq fun K1 hK1 => ?_
  refine CW.region ?_
  refine WL.to (E' := [(0, .pointer (some ⟨lg, 0, none⟩)), (1, .int .i64 0), (4, .bool false)]) 1 [0, 1, 4] (by kernel_rfl) ?_
  refine WL.nil ?_
  refine hK1 _ _ _ ?_
  refine CW.seq fun K2 hK2 => ?_
  refine CW.seq fun K3 hK3 => ?_
  refine CW.region ?_
  refine WL.to (E' := [(0, .pointer (some ⟨lg, 0, none⟩)), (1, .int .i64 0), (4, .bool false), (5, .pointer (some ⟨lg, 0, none⟩)), (6, .int .i64 0)]) 2 [0, 1, 4, 5, 6] (by kernel_rfl) ?_
  refine WL.callQ (v := .bool (decide (0 ≤ 0 ∧ 0 ≤ ((m : Nat) : Int)))) rfl rfl rfl rfl ent95 rfl (login_of hl) ?_
  refine WL.to (E' := [(0, .pointer (some ⟨lg, 0, none⟩)), (1, .int .i64 0), (4, .bool false), (8, .bool (!(decide (0 ≤ 0 ∧ 0 ≤ ((m : Nat) : Int)))))]) 1 [0, 1, 4, 8] (by kernel_rfl) ?_
  refine WL.nil ?_
  refine hK3 _ _ _ ?_
  refine CW.no rfl ((by simp)) ?_
  refine CW.skip ?_
  refine hK2 _ _ _ ?_
  refine CW.seq fun K4 hK4 => ?_
  refine CW.region ?_
  refine WL.to (E' := [(0, .pointer (some ⟨lg, 0, none⟩)), (1, .int .i64 0), (4, .bool false), (11, .pointer (some ⟨lg, 0, none⟩))]) 3 [0, 1, 4, 11] (by kernel_rfl) ?_
  refine WL.load1 rfl agg124 rfl rfl hl rfl ?_
  refine WL.to (E' := [(0, .pointer (some ⟨lg, 0, none⟩)), (1, .int .i64 0), (4, .bool false), (12, .slice lao m lcp), (13, .int .i64 0)]) 1 [0, 1, 4, 12, 13] (by kernel_rfl) ?_
  refine WL.sliceLo0 rfl rfl Tryz.underlying124 siz1 rfl rfl hlo.cap ?_
  refine WL.clearO rfl Tryz.underlying124 zer1 rfl rfl hlo ?_
  intro w5 ys6 h7 u8 z9
  refine WL.sub [(0, .pointer (some ⟨lg, 0, none⟩)), (1, .int .i64 0), (4, .bool false)] ⟨rfl, rfl, rfl, trivial⟩ ?_
  refine WL.nil ?_
  refine hK4 _ _ _ ?_
  refine CW.seq fun K10 hK10 => ?_
  refine CW.region ?_
  refine WL.to (E' := [(1, .int .i64 0), (4, .bool false), (15, .pointer (some ⟨lg, 0, none⟩)), (18, .pointer (some ⟨lg, 0, none⟩))]) 4 [1, 4, 15, 18] (by kernel_rfl) ?_
  have h11 := (hl.keep u8 (Own.ne hlo hl rfl))
  refine WL.load1 rfl agg124 rfl rfl h11 rfl ?_
  refine WL.to (E' := [(4, .bool false), (15, .pointer (some ⟨lg, 0, none⟩)), (19, .slice lao m lcp), (20, .int .i64 0)]) 1 [4, 15, 19, 20] (by kernel_rfl) ?_
  refine WL.sliceHi rfl rfl Tryz.underlying124 siz1 rfl rfl (by decide) (by omega) ?_
  refine WL.to (E' := [(4, .bool false), (21, .slice lao 0 lcp), (23, .pointer (some ⟨lg, 0, none⟩))]) 2 [4, 21, 23] (by kernel_rfl) ?_
  refine WL.store1 rfl siz124 rfl rfl rfl h11 rfl ?_
  intro w12 h13 u14 z15
  refine WL.sub [(4, .bool false)] ⟨rfl, trivial⟩ ?_
  refine WL.nil ?_
  refine hK10 _ _ _ ?_
  refine CW.seq fun K16 hK16 => ?_
  refine CW.region ?_
  refine WL.to (E' := [(4, .bool true)]) 1 [4] (by kernel_rfl) ?_
  refine WL.nil ?_
  refine hK16 _ _ _ ?_
  have h17 := (h7.keep' u14 (disc (Own.ne h7 h11 rfl) dis0))
  refine CW.ret fun a ha => ?_
  try simp (decide := true) only [Exit.inBlock, Exit.then, ↓reduceIte]
  exact fin ha.defers (res_tmp rfl ha rfl _) ⟨rfl, h13, h17.zero, ((u8.trans u14).sub (by intro k hk hl; simp only [Option.mem_toList, Option.mem_def, List.mem_append, List.mem_cons, List.not_mem_nil, or_false, false_or] at hk ⊢; have := u8.size; have := u14.size; grind))⟩
end Go.K

namespace Go.K
open Go.Proofs
set_option maxRecDepth 8000
set_option maxHeartbeats 1000000
set_option linter.unusedSimpArgs false
set_option linter.unusedVariables false
theorem in_none {w : World} {m_ pl lg wt : Nat} {sv : Value} {plm : List (ByteArray × Value)} {nm : ByteArray} {b1 b2 : Nat} {fv : Value} {b3 : Nat} (hm_ : Blk w m_ [.map (some pl), .pointer (some ⟨lg, 0, none⟩), sv, .pointer (some ⟨wt, 0, none⟩), .bool true] 75) (hpl : KMap ks w pl plm) (hlk : look plm nm = none) (hb1 : Blk w b1 [.pointer (some ⟨m_, 0, none⟩)] 24) (hb2 : Blk w b2 [.string nm] 9) :
    Ret Tryz.prog 103 #[.pointer (some ⟨b1, 0, none⟩), .pointer (some ⟨b2, 0, none⟩), .pointer (some ⟨b3, 0, none⟩)] w fun v w' => v = .iface 79 (.int .i64 100) ∧ Only [] w w' := by
  refine enterL (args := [.pointer (some ⟨b1, 0, none⟩), .pointer (some ⟨b2, 0, none⟩), .pointer (some ⟨b3, 0, none⟩)]) Tryz.func103 rfl rfl rfl ?_
  refine CW.seq fun K1 hK1 => ?_
  refine CW.region ?_
  refine WL.to (E' := [(0, .pointer (some ⟨b1, 0, none⟩)), (1, .pointer (some ⟨b2, 0, none⟩)), (2, .pointer (some ⟨b3, 0, none⟩)), (3, .nilIface)]) 1 [0, 1, 2, 3] (by kernel_rfl) ?_
  refine WL.nil ?_
  refine hK1 _ _ _ ?_
  refine CW.seq fun K2 hK2 => ?_
  refine CW.still (by kernel_rfl) (by kernel_rfl) ?_
  intro w3 e5 u4
  have h6 := (hb1.keep u4 nm0)
  refine ST.load1 rfl agg24 rfl rfl h6 rfl ?_
  refine ST.to (E' := [(1, .pointer (some ⟨b2, 0, none⟩)), (2, .pointer (some ⟨b3, 0, none⟩)), (3, .nilIface), (9, .pointer (some ⟨m_, 0, none⟩))]) 2 [1, 2, 3, 9] (by kernel_rfl) ?_
  have h7 := (hm_.keep u4 nm0)
  refine ST.load1 rfl agg69 rfl rfl h7 rfl ?_
  have h8 := (hb2.keep u4 nm0)
  refine ST.load1 rfl agg9 rfl rfl h8 rfl ?_
  have h9 := (hpl.keep u4 nm0)
  refine ST.lookB (κ := ks) (a := nm) true rfl rfl law_s Tryz.underlying69 Tryz.underlying9 zer77 rfl rfl h9 ?_
  refine ST.chg 12 (.tuple #[.pointer none, .bool false]) rfl (by rw [(hlk : look plm nm = none)]; rfl) ?_
  refine ST.to (E' := [(2, .pointer (some ⟨b3, 0, none⟩)), (3, .nilIface), (4, .pointer none), (5, .bool false)]) 5 [2, 3, 4, 5] (by kernel_rfl) ?_
  refine ST.nil ?_
  refine hK2 _ _ _ ?_
  refine CW.seq fun K10 hK10 => ?_
  refine CW.seq fun K11 hK11 => ?_
  refine CW.region ?_
  refine WL.to (E' := [(2, .pointer (some ⟨b3, 0, none⟩)), (3, .nilIface), (4, .pointer none), (16, .bool true)]) 2 [2, 3, 4, 16] (by kernel_rfl) ?_
  refine WL.nil ?_
  refine hK11 _ _ _ ?_
  refine CW.condT rfl ?_
  refine CW.seq fun K12 hK12 => ?_
  refine CW.region ?_
  refine WL.to (E' := [(2, .pointer (some ⟨b3, 0, none⟩)), (3, .iface 79 (.int .i64 100)), (4, .pointer none)]) 2 [2, 3, 4] (by kernel_rfl) ?_
  refine WL.nil ?_
  refine hK12 _ _ _ ?_
  refine CW.ret fun a ha => ?_
  try simp (decide := true) only [Exit.inBlock, Exit.then, ↓reduceIte]
  exact fin ha.defers (res_tmp rfl ha rfl _) ⟨rfl, (u4.sub (by simp))⟩

theorem in_none65 {w : World} {m_ pl lg wt : Nat} {sv : Value} {plm : List (ByteArray × Value)} {nm : ByteArray} {c0 c1 : Nat} (hm_ : Blk w m_ [.map (some pl), .pointer (some ⟨lg, 0, none⟩), sv, .pointer (some ⟨wt, 0, none⟩), .bool false] 75) (hpl : KMap ks w pl plm) (hlk : look plm nm = none) :
    Ret Tryz.prog 65 #[.pointer (some ⟨m_, 0, none⟩), .string nm, .func (.func 66) #[] #[.pointer (some ⟨c0, 0, none⟩), .pointer (some ⟨c1, 0, none⟩)]] w fun v w' => v = .iface 79 (.int .i64 100) ∧ Blk w' m_ [.map (some pl), .pointer (some ⟨lg, 0, none⟩), sv, .pointer (some ⟨wt, 0, none⟩), .bool false] 75 ∧ Only [m_] w w' := by
  refine enterL (args := [.pointer (some ⟨m_, 0, none⟩), .string nm, .func (.func 66) #[] #[.pointer (some ⟨c0, 0, none⟩), .pointer (some ⟨c1, 0, none⟩)]]) Tryz.func65 rfl rfl rfl ?_
  refine CW.seq fun K1 hK1 => ?_
  refine CW.region ?_
  refine WL.box (cs := [.pointer (some ⟨m_, 0, none⟩)]) rfl rfl rfl rfl ?_
  intro w2 b3 h4 u5 g6
  refine WL.box (cs := [.string nm]) rfl rfl rfl rfl ?_
  intro w7 b8 h9 u10 g11
  refine WL.box (cs := [.func (.func 66) #[] #[.pointer (some ⟨c0, 0, none⟩), .pointer (some ⟨c1, 0, none⟩)]]) rfl rfl rfl rfl ?_
  intro w12 b13 h14 u15 g16
  refine WL.to (E' := [(3, .pointer (some ⟨b3, 0, none⟩)), (4, .pointer (some ⟨b8, 0, none⟩)), (5, .pointer (some ⟨b13, 0, none⟩)), (6, .nilIface)]) 1 [3, 4, 5, 6] (by kernel_rfl) ?_
  refine WL.nil ?_
  refine hK1 _ _ _ ?_
  refine CW.seq fun K17 hK17 => ?_
  refine CW.region ?_
  have h18 := ((h4.keep u10 nm0).keep u15 nm0)
  refine WL.load1 rfl agg24 rfl rfl h18 rfl ?_
  refine WL.to (E' := [(6, .nilIface), (7, .pointer (some ⟨m_, 0, none⟩)), (8, .func (.func 103) #[] #[.pointer (some ⟨b3, 0, none⟩), .pointer (some ⟨b8, 0, none⟩), .pointer (some ⟨b13, 0, none⟩)])]) 1 [6, 7, 8] (by kernel_rfl) ?_
  have h19 := (((hm_.keep u5 nm0).keep u10 nm0).keep u15 nm0)
  have h20 := (h9.keep u15 nm0)
  have h21 := (((hpl.keep u5 nm0).keep u10 nm0).keep u15 nm0)
  refine WL.call rfl rfl rfl rfl ent30 rfl (alone_of (S := []) ent103 h19 (by simp) (fun w1 u1 hm1 => Ret.mono (R' := fun v w2 => v = .iface 79 (.int .i64 100) ∧ Blk w2 m_ [.map (some pl), .pointer (some ⟨lg, 0, none⟩), sv, .pointer (some ⟨wt, 0, none⟩), .bool true] 75 ∧ Only [] w1 w2) (in_none (fv := .nilIface) hm1 (h21.keep u1 (nmc (Ne.symm (Blk.neK h19 h21)) nm0)) hlk (h18.keep u1 (nmc (Blk.ne h18 h19 rfl) nm0)) (h20.keep u1 (nmc (Blk.ne h20 h19 rfl) nm0))) (by rintro v w' ⟨rfl, uu⟩; exact ⟨rfl, hm1.keep uu nm0, uu⟩)) (by rintro w1 v w2 ⟨rfl, hm2, u⟩; exact ⟨_, _, _, _, hm2, u⟩)) ?_
  rintro _ w30 ⟨w24, w25, x33, x34, x35, x36, u26, h32, ⟨rfl, h23, u22⟩, h27, h28, u29⟩
  have e31 := Blk.inj h27 h23
  cases e31
  refine WL.to (E' := [(6, .iface 79 (.int .i64 100))]) 1 [6] (by kernel_rfl) ?_
  refine WL.nil ?_
  refine hK17 _ _ _ ?_
  refine CW.ret fun a ha => ?_
  try simp (decide := true) only [Exit.inBlock, Exit.then, ↓reduceIte]
  exact fin ha.defers (res_tmp rfl ha rfl _) ⟨rfl, h28, ((((((u5.trans u10).trans u15).trans u26).trans u22).trans u29).sub (by intro k hk hl; simp only [Value.ownBlock, Option.toList, List.mem_append, List.mem_cons, List.not_mem_nil, or_false, false_or] at hk ⊢; have := u5.size; have := u10.size; have := u15.size; have := u26.size; have := u22.size; have := u29.size; omega))⟩

theorem changes_none {w : World} {m_ pl lg wt : Nat} {sv : Value} {plm : List (ByteArray × Value)} {nm : ByteArray} {c0 c1 c2 : Nat} (hm_ : Blk w m_ [.map (some pl), .pointer (some ⟨lg, 0, none⟩), sv, .pointer (some ⟨wt, 0, none⟩), .bool false] 75) (hpl : KMap ks w pl plm) (hlk : look plm nm = none) :
    Ret Tryz.prog 39 #[.pointer (some ⟨m_, 0, none⟩), .string nm, .func (.func 40) #[] #[.pointer (some ⟨c0, 0, none⟩), .pointer (some ⟨c1, 0, none⟩), .pointer (some ⟨c2, 0, none⟩)]] w fun v w' => v = .iface 79 (.int .i64 100) ∧ Blk w' m_ [.map (some pl), .pointer (some ⟨lg, 0, none⟩), sv, .pointer (some ⟨wt, 0, none⟩), .bool false] 75 ∧ Only [m_] w w' := by
  refine enterL (args := [.pointer (some ⟨m_, 0, none⟩), .string nm, .func (.func 40) #[] #[.pointer (some ⟨c0, 0, none⟩), .pointer (some ⟨c1, 0, none⟩), .pointer (some ⟨c2, 0, none⟩)]]) Tryz.func39 rfl rfl rfl ?_
  refine CW.seq fun K1 hK1 => ?_
  refine CW.region ?_
  refine WL.box (cs := [.pointer (some ⟨m_, 0, none⟩)]) rfl rfl rfl rfl ?_
  intro w2 b3 h4 u5 g6
  refine WL.box (cs := [.func (.func 40) #[] #[.pointer (some ⟨c0, 0, none⟩), .pointer (some ⟨c1, 0, none⟩), .pointer (some ⟨c2, 0, none⟩)]]) rfl rfl rfl rfl ?_
  intro w7 b8 h9 u10 g11
  refine WL.to (E' := [(1, .string nm), (3, .pointer (some ⟨b3, 0, none⟩)), (5, .pointer (some ⟨b8, 0, none⟩)), (6, .nilIface)]) 1 [1, 3, 5, 6] (by kernel_rfl) ?_
  refine WL.nil ?_
  refine hK1 _ _ _ ?_
  refine CW.seq fun K12 hK12 => ?_
  refine CW.region ?_
  have h13 := (h4.keep u10 nm0)
  refine WL.load1 rfl agg24 rfl rfl h13 rfl ?_
  refine WL.to (E' := [(6, .nilIface), (7, .pointer (some ⟨m_, 0, none⟩)), (8, .string nm), (9, .func (.func 66) #[] #[.pointer (some ⟨b3, 0, none⟩), .pointer (some ⟨b8, 0, none⟩)])]) 2 [6, 7, 8, 9] (by kernel_rfl) ?_
  have h14 := ((hm_.keep u5 nm0).keep u10 nm0)
  have h15 := ((hpl.keep u5 nm0).keep u10 nm0)
  refine WL.call rfl rfl rfl rfl ent65 rfl (in_none65 h14 h15 hlk) ?_
  rintro _ w17 ⟨rfl, h18, u16⟩
  refine WL.to (E' := [(6, .iface 79 (.int .i64 100))]) 1 [6] (by kernel_rfl) ?_
  refine WL.nil ?_
  refine hK12 _ _ _ ?_
  refine CW.ret fun a ha => ?_
  try simp (decide := true) only [Exit.inBlock, Exit.then, ↓reduceIte]
  exact fin ha.defers (res_tmp rfl ha rfl _) ⟨rfl, h18, (((u5.trans u10).trans u16).sub (by intro k hk hl; simp only [Value.ownBlock, Option.toList, List.mem_append, List.mem_cons, List.not_mem_nil, or_false, false_or] at hk ⊢; have := u5.size; have := u10.size; have := u16.size; omega))⟩

theorem insert_none {w : World} {m_ pl lg wt : Nat} {sv : Value} {plm : List (ByteArray × Value)} {nm : ByteArray} (hm_ : Blk w m_ [.map (some pl), .pointer (some ⟨lg, 0, none⟩), sv, .pointer (some ⟨wt, 0, none⟩), .bool false] 75) (hpl : KMap ks w pl plm) (hlk : look plm nm = none) :
    Ret Tryz.prog 14 #[.pointer (some ⟨m_, 0, none⟩), .string nm, .slice none 0 0] w fun v w' => v = .tuple #[.int .i64 0, .iface 79 (.int .i64 100)] ∧ Blk w' m_ [.map (some pl), .pointer (some ⟨lg, 0, none⟩), sv, .pointer (some ⟨wt, 0, none⟩), .bool false] 75 ∧ Only [m_] w w' := by
  refine enterL (args := [.pointer (some ⟨m_, 0, none⟩), .string nm, .slice none 0 0]) Tryz.func14 rfl rfl rfl ?_
  refine CW.seq fun K1 hK1 => ?_
  refine CW.region ?_
  refine WL.box (cs := [.pointer (some ⟨m_, 0, none⟩)]) rfl rfl rfl rfl ?_
  intro w2 b3 h4 u5 g6
  refine WL.box (cs := [.slice none 0 0]) rfl rfl rfl rfl ?_
  intro w7 b8 h9 u10 g11
  refine WL.to (E' := [(1, .string nm), (3, .pointer (some ⟨b3, 0, none⟩)), (5, .pointer (some ⟨b8, 0, none⟩)), (6, .int .i64 0), (7, .nilIface)]) 2 [1, 3, 5, 6, 7] (by kernel_rfl) ?_
  refine WL.nil ?_
  refine hK1 _ _ _ ?_
  refine CW.seq fun K12 hK12 => ?_
  refine CW.region ?_
  refine WL.alloc (cs := [.int .i64 0]) rfl rfl zer2 rfl ?_
  intro w13 b14 h15 u16 g17
  refine WL.store1 rfl siz2 rfl rfl rfl h15 rfl ?_
  intro w18 h19 u20 z21
  refine WL.nil ?_
  refine hK12 _ _ _ ?_
  refine CW.seq fun K22 hK22 => ?_
  refine CW.region ?_
  have h23 := ((h4.keep u10 nm0).keep u16 nm0)
  have h24 := (h23.keep u20 (nmc (Blk.ne h23 h15 rfl) nm0))
  refine WL.load1 rfl agg24 rfl rfl h24 rfl ?_
  refine WL.to (E' := [(6, .int .i64 0), (7, .nilIface), (8, .pointer (some ⟨b14, 0, none⟩)), (10, .pointer (some ⟨m_, 0, none⟩)), (11, .string nm), (12, .func (.func 40) #[] #[.pointer (some ⟨b3, 0, none⟩), .pointer (some ⟨b8, 0, none⟩), .pointer (some ⟨b14, 0, none⟩)])]) 2 [6, 7, 8, 10, 11, 12] (by kernel_rfl) ?_
  have h25 := (((hm_.keep u5 nm0).keep u10 nm0).keep u16 nm0)
  have h26 := (h25.keep u20 (nmc (Blk.ne h25 h15 rfl) nm0))
  have h27 := (((hpl.keep u5 nm0).keep u10 nm0).keep u16 nm0)
  have h28 := (h27.keep u20 (nmc (Ne.symm (Blk.neK h15 h27)) nm0))
  refine WL.call rfl rfl rfl rfl ent39 rfl (changes_none h26 h28 hlk) ?_
  rintro _ w30 ⟨rfl, h31, u29⟩
  refine WL.to (E' := [(6, .int .i64 0), (7, .nilIface), (8, .pointer (some ⟨b14, 0, none⟩)), (9, .iface 79 (.int .i64 100))]) 1 [6, 7, 8, 9] (by kernel_rfl) ?_
  refine WL.nil ?_
  refine hK22 _ _ _ ?_
  refine CW.seq fun K32 hK32 => ?_
  refine CW.region ?_
  have h33 := (h19.keep u29 (nmc (Blk.ne h19 h26 rfl) nm0))
  refine WL.load1 rfl agg2 rfl rfl h33 rfl ?_
  refine WL.to (E' := [(6, .int .i64 0), (7, .iface 79 (.int .i64 100))]) 3 [6, 7] (by kernel_rfl) ?_
  refine WL.nil ?_
  refine hK32 _ _ _ ?_
  refine CW.ret fun a ha => ?_
  try simp (decide := true) only [Exit.inBlock, Exit.then, ↓reduceIte]
  exact fin ha.defers (res_tmp2 rfl ha rfl rfl _) ⟨rfl, h31, (((((u5.trans u10).trans u16).trans u20).trans u29).sub (by intro k hk hl; simp only [Value.ownBlock, Option.toList, List.mem_append, List.mem_cons, List.not_mem_nil, or_false, false_or] at hk ⊢; have := u5.size; have := u10.size; have := u16.size; have := u20.size; have := u29.size; have := g17; omega))⟩
end Go.K

namespace Go.K
open Go.Proofs
set_option maxRecDepth 8000
set_option maxHeartbeats 1000000
set_option linter.unusedSimpArgs false
set_option linter.unusedVariables false
theorem keys87 {w : World} {m : Nat} :
    Ret Tryz.prog 87 #[.map (some m)] w fun v w' => ∃ b, v = .func (.func 120) #[] #[.pointer (some ⟨b, 0, none⟩)] ∧ Blk w' b [.map (some m)] 69 ∧ w.heap.size ≤ b ∧ Only [] w w' := by
  refine enterL (args := [.map (some m)]) Tryz.func87 rfl rfl rfl ?_
  refine CW.seq fun K1 hK1 => ?_
  refine CW.region ?_
  refine WL.box (cs := [.map (some m)]) rfl rfl rfl rfl ?_
  intro w2 b3 h4 u5 g6
  refine WL.to (E' := [(1, .pointer (some ⟨b3, 0, none⟩)), (2, .nilFunc)]) 1 [1, 2] (by kernel_rfl) ?_
  refine WL.nil ?_
  refine hK1 _ _ _ ?_
  refine CW.seq fun K7 hK7 => ?_
  refine CW.region ?_
  refine WL.to (E' := [(2, .func (.func 120) #[] #[.pointer (some ⟨b3, 0, none⟩)])]) 2 [2] (by kernel_rfl) ?_
  refine WL.nil ?_
  refine hK7 _ _ _ ?_
  refine CW.ret fun a ha => ?_
  try simp (decide := true) only [Exit.inBlock, Exit.then, ↓reduceIte]
  exact fin ha.defers (res_tmp rfl ha rfl _) ⟨b3, rfl, h4, (by have := g6; omega), (u5.sub (by simp))⟩

theorem keys123 {w : World} {m : Nat} :
    Ret Tryz.prog 123 #[.map (some m)] w fun v w' => ∃ b, v = .func (.func 167) #[] #[.pointer (some ⟨b, 0, none⟩)] ∧ Blk w' b [.map (some m)] 222 ∧ w.heap.size ≤ b ∧ Only [] w w' := by
  refine enterL (args := [.map (some m)]) Tryz.func123 rfl rfl rfl ?_
  refine CW.seq fun K1 hK1 => ?_
  refine CW.region ?_
  refine WL.box (cs := [.map (some m)]) rfl rfl rfl rfl ?_
  intro w2 b3 h4 u5 g6
  refine WL.to (E' := [(1, .pointer (some ⟨b3, 0, none⟩)), (2, .nilFunc)]) 1 [1, 2] (by kernel_rfl) ?_
  refine WL.nil ?_
  refine hK1 _ _ _ ?_
  refine CW.seq fun K7 hK7 => ?_
  refine CW.region ?_
  refine WL.to (E' := [(2, .func (.func 167) #[] #[.pointer (some ⟨b3, 0, none⟩)])]) 2 [2] (by kernel_rfl) ?_
  refine WL.nil ?_
  refine hK7 _ _ _ ?_
  refine CW.ret fun a ha => ?_
  try simp (decide := true) only [Exit.inBlock, Exit.then, ↓reduceIte]
  exact fin ha.defers (res_tmp rfl ha rfl _) ⟨b3, rfl, h4, (by have := g6; omega), (u5.sub (by simp))⟩

theorem keys164 {w : World} {m : Nat} :
    Ret Tryz.prog 164 #[.map (some m)] w fun v w' => ∃ b, v = .func (.func 230) #[] #[.pointer (some ⟨b, 0, none⟩)] ∧ Blk w' b [.map (some m)] 118 ∧ w.heap.size ≤ b ∧ Only [] w w' := by
  refine enterL (args := [.map (some m)]) Tryz.func164 rfl rfl rfl ?_
  refine CW.seq fun K1 hK1 => ?_
  refine CW.region ?_
  refine WL.box (cs := [.map (some m)]) rfl rfl rfl rfl ?_
  intro w2 b3 h4 u5 g6
  refine WL.to (E' := [(1, .pointer (some ⟨b3, 0, none⟩)), (2, .nilFunc)]) 1 [1, 2] (by kernel_rfl) ?_
  refine WL.nil ?_
  refine hK1 _ _ _ ?_
  refine CW.seq fun K7 hK7 => ?_
  refine CW.region ?_
  refine WL.to (E' := [(2, .func (.func 230) #[] #[.pointer (some ⟨b3, 0, none⟩)])]) 2 [2] (by kernel_rfl) ?_
  refine WL.nil ?_
  refine hK7 _ _ _ ?_
  refine CW.ret fun a ha => ?_
  try simp (decide := true) only [Exit.inBlock, Exit.then, ↓reduceIte]
  exact fin ha.defers (res_tmp rfl ha rfl _) ⟨b3, rfl, h4, (by have := g6; omega), (u5.sub (by simp))⟩
end Go.K

namespace Go.K
open Go.Proofs
set_option maxRecDepth 8000
set_option maxHeartbeats 1000000
set_option linter.unusedSimpArgs false
set_option linter.unusedVariables false
theorem len64_1 {w : World} :
    Ret Tryz.prog 229 #[.int .u64 1] w fun v w' => v = .int .i64 1 ∧ w' = w := by
  refine enterL (args := [.int .u64 1]) Tryz.func229 rfl rfl rfl ?_
  refine CW.seq fun K1 hK1 => ?_
  refine CW.region ?_
  refine WL.to (E' := [(0, .int .u64 1), (2, .int .i64 0)]) 1 [0, 2] (by kernel_rfl) ?_
  refine WL.nil ?_
  refine hK1 _ _ _ ?_
  refine CW.seq fun K2 hK2 => ?_
  refine CW.seq fun K3 hK3 => ?_
  refine CW.region ?_
  refine WL.to (E' := [(0, .int .u64 1), (2, .int .i64 0), (4, .bool false)]) 2 [0, 2, 4] (by kernel_rfl) ?_
  refine WL.nil ?_
  refine hK3 _ _ _ ?_
  refine CW.condF rfl ?_
  refine CW.skip ?_
  refine hK2 _ _ _ ?_
  refine CW.seq fun K4 hK4 => ?_
  refine CW.seq fun K5 hK5 => ?_
  refine CW.region ?_
  refine WL.to (E' := [(0, .int .u64 1), (2, .int .i64 0), (8, .bool false)]) 2 [0, 2, 8] (by kernel_rfl) ?_
  refine WL.nil ?_
  refine hK5 _ _ _ ?_
  refine CW.condF rfl ?_
  refine CW.skip ?_
  refine hK4 _ _ _ ?_
  refine CW.seq fun K6 hK6 => ?_
  refine CW.seq fun K7 hK7 => ?_
  refine CW.region ?_
  refine WL.to (E' := [(0, .int .u64 1), (2, .int .i64 0), (14, .bool false)]) 2 [0, 2, 14] (by kernel_rfl) ?_
  refine WL.nil ?_
  refine hK7 _ _ _ ?_
  refine CW.condF rfl ?_
  refine CW.skip ?_
  refine hK6 _ _ _ ?_
  refine CW.seq fun K8 hK8 => ?_
  refine CW.region ?_
  refine WL.to (E' := [(2, .int .i64 0), (19, .int .i64 0), (20, .int .u64 1)]) 2 [2, 19, 20] (by kernel_rfl) ?_
  refine WL.cvt (v := .int .u8 1) rfl rfl rfl (fun _ => by kernel_rfl) ?_
  refine WL.idxC (v := .int .u8 1) rfl rfl rfl rfl (fun _ => by kernel_rfl) ?_
  refine WL.cvt (v := .int .i64 1) rfl rfl rfl (fun _ => by kernel_rfl) ?_
  refine WL.to (E' := [(2, .int .i64 1)]) 2 [2] (by kernel_rfl) ?_
  refine WL.nil ?_
  refine hK8 _ _ _ ?_
  refine CW.ret fun a ha => ?_
  try simp (decide := true) only [Exit.inBlock, Exit.then, ↓reduceIte]
  exact fin ha.defers (res_tmp rfl ha rfl _) ⟨rfl, rfl⟩

theorem len_1 {w : World} :
    Ret Tryz.prog 162 #[.int .u64 1] w fun v w' => v = .int .i64 1 ∧ w' = w := by
  refine enterL (args := [.int .u64 1]) Tryz.func162 rfl rfl rfl ?_
  refine CW.seq fun K1 hK1 => ?_
  refine CW.region ?_
  refine WL.to (E' := [(0, .int .u64 1), (2, .int .i64 0)]) 1 [0, 2] (by kernel_rfl) ?_
  refine WL.nil ?_
  refine hK1 _ _ _ ?_
  refine CW.seq fun K2 hK2 => ?_
  refine CW.condF rfl ?_
  refine CW.skip ?_
  refine hK2 _ _ _ ?_
  refine CW.seq fun K3 hK3 => ?_
  refine CW.region ?_
  refine WL.to (E' := [(2, .int .i64 0), (6, .int .u64 1)]) 1 [2, 6] (by kernel_rfl) ?_
  refine WL.callQ (v := .int .i64 1) rfl rfl rfl rfl ent229 rfl (len64_1) ?_
  refine WL.to (E' := [(2, .int .i64 1)]) 1 [2] (by kernel_rfl) ?_
  refine WL.nil ?_
  refine hK3 _ _ _ ?_
  refine CW.ret fun a ha => ?_
  try simp (decide := true) only [Exit.inBlock, Exit.then, ↓reduceIte]
  exact fin ha.defers (res_tmp rfl ha rfl _) ⟨rfl, rfl⟩

theorem insort1s {w : World} {ao : Option Addr} {k cp : Nat} :
    Ret Tryz.prog 219 #[.slice ao k cp, .int .i64 0, .int .i64 1] w fun v w' => v = .tuple #[] ∧ w' = w := by
  refine enterL (args := [.slice ao k cp, .int .i64 0, .int .i64 1]) Tryz.func219 rfl rfl rfl ?_
  refine CW.seq fun K1 hK1 => ?_
  refine CW.region ?_
  refine WL.to (E' := [(0, .slice ao k cp), (1, .int .i64 0), (2, .int .i64 1), (6, .int .i64 1)]) 3 [0, 1, 2, 6] (by kernel_rfl) ?_
  refine WL.nil ?_
  refine hK1 _ _ _ ?_
  refine CW.block ?_
  refine CW.round1 fun K2 hK2 => ?_
  refine CW.seq fun K3 hK3 => ?_
  refine CW.seq fun K4 hK4 => ?_
  refine CW.region ?_
  refine WL.to (E' := [(0, .slice ao k cp), (1, .int .i64 0), (2, .int .i64 1), (6, .int .i64 1), (10, .int .i64 1), (11, .int .i64 1), (12, .bool false)]) 3 [0, 1, 2, 6, 10, 11, 12] (by kernel_rfl) ?_
  refine WL.nil ?_
  refine hK4 _ _ _ ?_
  refine CW.condF rfl ?_
  refine CW.exit ?_
  intro a ha
  try simp (decide := true) only [Exit.inBlock, Exit.then, ↓reduceIte]
  exact finN ha.defers (res_none rfl _) ⟨rfl, rfl⟩

theorem pdq1s {w : World} {ao : Option Addr} {k cp : Nat} {lim : Int} :
    Ret Tryz.prog 161 #[.slice ao k cp, .int .i64 0, .int .i64 1, .int .i64 lim] w fun v w' => v = .tuple #[] ∧ w' = w := by
  refine enterL (args := [.slice ao k cp, .int .i64 0, .int .i64 1, .int .i64 lim]) Tryz.func161 rfl rfl rfl ?_
  refine CW.seq fun K1 hK1 => ?_
  refine CW.region ?_
  refine WL.to (E' := [(0, .slice ao k cp), (1, .int .i64 0), (2, .int .i64 1), (3, .int .i64 lim), (8, .bool true)]) 1 [0, 1, 2, 3, 8] (by kernel_rfl) ?_
  refine WL.nil ?_
  refine hK1 _ _ _ ?_
  refine CW.seq fun K2 hK2 => ?_
  refine CW.region ?_
  refine WL.to (E' := [(0, .slice ao k cp), (1, .int .i64 0), (2, .int .i64 1), (3, .int .i64 lim), (8, .bool true), (9, .bool true)]) 1 [0, 1, 2, 3, 8, 9] (by kernel_rfl) ?_
  refine WL.nil ?_
  refine hK2 _ _ _ ?_
  refine CW.block ?_
  refine CW.round1 fun K3 hK3 => ?_
  refine CW.block ?_
  refine CW.seq fun K4 hK4 => ?_
  refine CW.region ?_
  refine WL.to (E' := [(0, .slice ao k cp), (1, .int .i64 0), (2, .int .i64 1), (3, .int .i64 lim), (8, .bool true), (9, .bool true), (19, .int .i64 1), (20, .int .i64 0), (21, .int .i64 1), (10, .int .i64 1)]) 4 [0, 1, 2, 3, 8, 9, 19, 20, 21, 10] (by kernel_rfl) ?_
  refine WL.nil ?_
  refine hK4 _ _ _ ?_
  refine CW.seq fun K5 hK5 => ?_
  refine CW.seq fun K6 hK6 => ?_
  refine CW.region ?_
  refine WL.to (E' := [(0, .slice ao k cp), (1, .int .i64 0), (2, .int .i64 1), (3, .int .i64 lim), (8, .bool true), (9, .bool true), (19, .int .i64 1), (20, .int .i64 0), (21, .int .i64 1), (10, .int .i64 1), (22, .int .i64 1), (23, .bool true)]) 2 [0, 1, 2, 3, 8, 9, 19, 20, 21, 10, 22, 23] (by kernel_rfl) ?_
  refine WL.nil ?_
  refine hK6 _ _ _ ?_
  refine CW.condT rfl ?_
  refine CW.seq fun K7 hK7 => ?_
  refine CW.region ?_
  refine WL.to (E' := [(0, .slice ao k cp), (1, .int .i64 0), (2, .int .i64 1), (3, .int .i64 lim), (8, .bool true), (9, .bool true), (19, .int .i64 1), (20, .int .i64 0), (21, .int .i64 1), (10, .int .i64 1), (22, .int .i64 1), (23, .bool true), (24, .slice ao k cp), (25, .int .i64 0), (26, .int .i64 1)]) 3 [0, 1, 2, 3, 8, 9, 19, 20, 21, 10, 22, 23, 24, 25, 26] (by kernel_rfl) ?_
  refine WL.call rfl rfl rfl rfl ent219 rfl (insort1s) ?_
  rintro _ _ ⟨rfl, rfl⟩
  refine WL.sub [(0, .slice ao k cp), (1, .int .i64 0), (2, .int .i64 1), (3, .int .i64 lim), (8, .bool true), (9, .bool true), (19, .int .i64 1), (20, .int .i64 0), (21, .int .i64 1), (10, .int .i64 1), (22, .int .i64 1), (23, .bool true), (24, .slice ao k cp), (25, .int .i64 0), (26, .int .i64 1)] ⟨rfl, rfl, rfl, rfl, rfl, rfl, rfl, rfl, rfl, rfl, rfl, rfl, rfl, rfl, rfl, trivial⟩ ?_
  refine WL.nil ?_
  refine hK7 _ _ _ ?_
  refine CW.ret fun a ha => ?_
  try simp (decide := true) only [Exit.inBlock, Exit.then, ↓reduceIte]
  exact fin ha.defers (res_none rfl _) ⟨rfl, rfl⟩

theorem sort1s {w : World} {ao : Option Addr} {cp : Nat} :
    Ret Tryz.prog 119 #[.slice ao 1 cp] w fun v w' => v = .tuple #[] ∧ w' = w := by
  refine enterL (args := [.slice ao 1 cp]) Tryz.func119 rfl rfl rfl ?_
  refine CW.seq fun K1 hK1 => ?_
  refine CW.region ?_
  refine WL.to (E' := [(0, .slice ao 1 cp), (2, .int .i64 1)]) 3 [0, 2] (by kernel_rfl) ?_
  refine WL.nil ?_
  refine hK1 _ _ _ ?_
  refine CW.region ?_
  refine WL.to (E' := [(5, .slice ao 1 cp), (6, .int .i64 1), (7, .int .i64 1)]) 3 [5, 6, 7] (by kernel_rfl) ?_
  refine WL.cvt (v := .int .u64 1) rfl rfl rfl (fun _ => by kernel_rfl) ?_
  refine WL.callQ (v := .int .i64 1) rfl rfl rfl rfl ent162 rfl (len_1) ?_
  refine WL.call rfl rfl rfl rfl ent161 rfl (pdq1s) ?_
  rintro _ _ ⟨rfl, rfl⟩
  refine WL.sub [] trivial ?_
  refine WL.nil ?_
  intro a ha
  try simp (decide := true) only [Exit.inBlock, Exit.then, ↓reduceIte]
  exact finN ha.defers (res_none rfl _) ⟨rfl, rfl⟩

theorem insort1i {w : World} {ao : Option Addr} {k cp : Nat} :
    Ret Tryz.prog 278 #[.slice ao k cp, .int .i64 0, .int .i64 1] w fun v w' => v = .tuple #[] ∧ w' = w := by
  refine enterL (args := [.slice ao k cp, .int .i64 0, .int .i64 1]) Tryz.func278 rfl rfl rfl ?_
  refine CW.seq fun K1 hK1 => ?_
  refine CW.region ?_
  refine WL.to (E' := [(0, .slice ao k cp), (1, .int .i64 0), (2, .int .i64 1), (6, .int .i64 1)]) 3 [0, 1, 2, 6] (by kernel_rfl) ?_
  refine WL.nil ?_
  refine hK1 _ _ _ ?_
  refine CW.block ?_
  refine CW.round1 fun K2 hK2 => ?_
  refine CW.seq fun K3 hK3 => ?_
  refine CW.seq fun K4 hK4 => ?_
  refine CW.region ?_
  refine WL.to (E' := [(0, .slice ao k cp), (1, .int .i64 0), (2, .int .i64 1), (6, .int .i64 1), (10, .int .i64 1), (11, .int .i64 1), (12, .bool false)]) 3 [0, 1, 2, 6, 10, 11, 12] (by kernel_rfl) ?_
  refine WL.nil ?_
  refine hK4 _ _ _ ?_
  refine CW.condF rfl ?_
  refine CW.exit ?_
  intro a ha
  try simp (decide := true) only [Exit.inBlock, Exit.then, ↓reduceIte]
  exact finN ha.defers (res_none rfl _) ⟨rfl, rfl⟩

theorem pdq1i {w : World} {ao : Option Addr} {k cp : Nat} {lim : Int} :
    Ret Tryz.prog 232 #[.slice ao k cp, .int .i64 0, .int .i64 1, .int .i64 lim] w fun v w' => v = .tuple #[] ∧ w' = w := by
  refine enterL (args := [.slice ao k cp, .int .i64 0, .int .i64 1, .int .i64 lim]) Tryz.func232 rfl rfl rfl ?_
  refine CW.seq fun K1 hK1 => ?_
  refine CW.region ?_
  refine WL.to (E' := [(0, .slice ao k cp), (1, .int .i64 0), (2, .int .i64 1), (3, .int .i64 lim), (8, .bool true)]) 1 [0, 1, 2, 3, 8] (by kernel_rfl) ?_
  refine WL.nil ?_
  refine hK1 _ _ _ ?_
  refine CW.seq fun K2 hK2 => ?_
  refine CW.region ?_
  refine WL.to (E' := [(0, .slice ao k cp), (1, .int .i64 0), (2, .int .i64 1), (3, .int .i64 lim), (8, .bool true), (9, .bool true)]) 1 [0, 1, 2, 3, 8, 9] (by kernel_rfl) ?_
  refine WL.nil ?_
  refine hK2 _ _ _ ?_
  refine CW.block ?_
  refine CW.round1 fun K3 hK3 => ?_
  refine CW.block ?_
  refine CW.seq fun K4 hK4 => ?_
  refine CW.region ?_
  refine WL.to (E' := [(0, .slice ao k cp), (1, .int .i64 0), (2, .int .i64 1), (3, .int .i64 lim), (8, .bool true), (9, .bool true), (19, .int .i64 1), (20, .int .i64 0), (21, .int .i64 1), (10, .int .i64 1)]) 4 [0, 1, 2, 3, 8, 9, 19, 20, 21, 10] (by kernel_rfl) ?_
  refine WL.nil ?_
  refine hK4 _ _ _ ?_
  refine CW.seq fun K5 hK5 => ?_
  refine CW.seq fun K6 hK6 => ?_
  refine CW.region ?_
  refine WL.to (E' := [(0, .slice ao k cp), (1, .int .i64 0), (2, .int .i64 1), (3, .int .i64 lim), (8, .bool true), (9, .bool true), (19, .int .i64 1), (20, .int .i64 0), (21, .int .i64 1), (10, .int .i64 1), (22, .int .i64 1), (23, .bool true)]) 2 [0, 1, 2, 3, 8, 9, 19, 20, 21, 10, 22, 23] (by kernel_rfl) ?_
  refine WL.nil ?_
  refine hK6 _ _ _ ?_
  refine CW.condT rfl ?_
  refine CW.seq fun K7 hK7 => ?_
  refine CW.region ?_
  refine WL.to (E' := [(0, .slice ao k cp), (1, .int .i64 0), (2, .int .i64 1), (3, .int .i64 lim), (8, .bool true), (9, .bool true), (19, .int .i64 1), (20, .int .i64 0), (21, .int .i64 1), (10, .int .i64 1), (22, .int .i64 1), (23, .bool true), (24, .slice ao k cp), (25, .int .i64 0), (26, .int .i64 1)]) 3 [0, 1, 2, 3, 8, 9, 19, 20, 21, 10, 22, 23, 24, 25, 26] (by kernel_rfl) ?_
  refine WL.call rfl rfl rfl rfl ent278 rfl (insort1i) ?_
  rintro _ _ ⟨rfl, rfl⟩
  refine WL.sub [(0, .slice ao k cp), (1, .int .i64 0), (2, .int .i64 1), (3, .int .i64 lim), (8, .bool true), (9, .bool true), (19, .int .i64 1), (20, .int .i64 0), (21, .int .i64 1), (10, .int .i64 1), (22, .int .i64 1), (23, .bool true), (24, .slice ao k cp), (25, .int .i64 0), (26, .int .i64 1)] ⟨rfl, rfl, rfl, rfl, rfl, rfl, rfl, rfl, rfl, rfl, rfl, rfl, rfl, rfl, rfl, trivial⟩ ?_
  refine WL.nil ?_
  refine hK7 _ _ _ ?_
  refine CW.ret fun a ha => ?_
  try simp (decide := true) only [Exit.inBlock, Exit.then, ↓reduceIte]
  exact fin ha.defers (res_none rfl _) ⟨rfl, rfl⟩

theorem sort1i {w : World} {ao : Option Addr} {cp : Nat} :
    Ret Tryz.prog 166 #[.slice ao 1 cp] w fun v w' => v = .tuple #[] ∧ w' = w := by
  refine enterL (args := [.slice ao 1 cp]) Tryz.func166 rfl rfl rfl ?_
  refine CW.seq fun K1 hK1 => ?_
  refine CW.region ?_
  refine WL.to (E' := [(0, .slice ao 1 cp), (2, .int .i64 1)]) 3 [0, 2] (by kernel_rfl) ?_
  refine WL.nil ?_
  refine hK1 _ _ _ ?_
  refine CW.region ?_
  refine WL.to (E' := [(5, .slice ao 1 cp), (6, .int .i64 1), (7, .int .i64 1)]) 3 [5, 6, 7] (by kernel_rfl) ?_
  refine WL.cvt (v := .int .u64 1) rfl rfl rfl (fun _ => by kernel_rfl) ?_
  refine WL.callQ (v := .int .i64 1) rfl rfl rfl rfl ent162 rfl (len_1) ?_
  refine WL.call rfl rfl rfl rfl ent232 rfl (pdq1i) ?_
  rintro _ _ ⟨rfl, rfl⟩
  refine WL.sub [] trivial ?_
  refine WL.nil ?_
  intro a ha
  try simp (decide := true) only [Exit.inBlock, Exit.then, ↓reduceIte]
  exact finN ha.defers (res_none rfl _) ⟨rfl, rfl⟩
end Go.K

