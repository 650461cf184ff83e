/-
  Part 13 of the texts that lead to the theorem marketNested_card_holds: contracts of the functions that the law reaches.
-/
import Derived.Test.YtbnobbcpklcbgaaGreatDoorPartB1
set_option linter.all false
set_option autoImplicit true
set_option relaxedAutoImplicit true
namespace Go.K
open Go.Proofs
set_option maxRecDepth 8000
set_option maxHeartbeats 1000000
set_option linter.unusedSimpArgs false
set_option linter.unusedVariables false
theorem cvt53 {x : Int} (h : 0 ≤ x ∧ x ≤ 255) (w : World) : (convert 5 3 (.int .u8 x)).run Tryz.prog w = .ok (.int .i64 x) w := by
  simp [convert, run_underlyingK Tryz.underlying5, run_underlyingK Tryz.underlying3, Conv.intToInt, i64_in x (by omega)]
theorem rem_u8 {z : Int} (h : 0 ≤ z ∧ z ≤ 255) : 0 ≤ Int.tmod z 5 ∧ Int.tmod z 5 ≤ 4 := by
  rw [Int.tmod_eq_emod_of_nonneg h.1]; omega

theorem tmod_nat {x : Int} {L : Nat} (h : 0 ≤ x ∧ x ≤ 255) (hL : 0 < L) : ∃ dn : Nat, Int.tmod x ((L : Nat) : Int) = ((dn : Nat) : Int) ∧ dn < L := by
  refine ⟨(x % ((L : Nat) : Int)).toNat, ?_, ?_⟩
  · rw [Int.tmod_eq_emod_of_nonneg h.1]
    have := Int.emod_nonneg x (b := ((L : Nat) : Int)) (by omega)
    omega
  · have h1 := Int.emod_nonneg x (b := ((L : Nat) : Int)) (by omega)
    have h2 := Int.emod_lt_of_pos x (b := ((L : Nat) : Int)) (by omega)
    omega

theorem nested_of {w : World} {a0 : Option Addr} {len0 cap0 : Nat} {to : Int} (hE : ErrT w) (hto : 0 ≤ to ∧ to ≤ 255) (hadds : ∀ i, i < len0 → ∃ x z, a0 = some x ∧ (0 ≤ z ∧ z ≤ 255) ∧ w.cell? (x.add i) = some (.int .u8 z)) :
    Ret Tryz.prog 5 #[.slice a0 len0 cap0, .int .u8 to] w fun v w' => v = .bool true ∧ Only ([]) w w' := by
  refine enterL (args := [.slice a0 len0 cap0, .int .u8 to]) Tryz.func5 rfl rfl rfl ?_
  refine CW.seq fun K1 hK1 => ?_
  refine CW.region ?_
  refine WL.to (E' := [(0, .slice a0 len0 cap0), (1, .int .u8 to), (4, .bool false)]) 1 [0, 1, 4] (by kernel_rfl) ?_
  refine WL.nil ?_
  refine hK1 _ _ _ ?_
  refine CW.seq fun K2 hK2 => ?_
  refine CW.seq fun K3 hK3 => ?_
  refine CW.region ?_
  refine WL.call rfl rfl rfl rfl ent6 rfl (known_of (hE.keep (S := []) ((Only.refl [] _).sub (by simp)) nm0)) ?_
  rintro _ w5 ⟨rfl, u4⟩
  refine WL.to (E' := [(0, .slice a0 len0 cap0), (1, .int .u8 to), (4, .bool false), (19, .bool false)]) 1 [0, 1, 4, 19] (by kernel_rfl) ?_
  refine WL.nil ?_
  refine hK3 _ _ _ ?_
  refine CW.condF rfl ?_
  refine CW.skip ?_
  refine hK2 _ _ _ ?_
  refine CW.seq fun K6 hK6 => ?_
  refine CW.seq fun K7 hK7 => ?_
  refine CW.region ?_
  refine WL.to (E' := [(0, .slice a0 len0 cap0), (1, .int .u8 to), (4, .bool false), (22, .bool (decide (((len0 : Nat) : Int) > 6)))]) 3 [0, 1, 4, 22] (by kernel_rfl) ?_
  refine WL.nil ?_
  refine hK7 _ _ _ ?_
  refine CW.cond rfl (fun h6 => ?_) (fun h6 => ?_)
  · skip
    refine CW.seq fun K8 hK8 => ?_
    refine CW.region ?_
    refine WL.to (E' := [(0, .slice a0 len0 cap0), (1, .int .u8 to), (4, .bool true)]) 1 [0, 1, 4] (by kernel_rfl) ?_
    refine WL.nil ?_
    refine hK8 _ _ _ ?_
    refine CW.ret fun a ha => ?_
    try simp (decide := true) only [Exit.inBlock, Exit.then, ↓reduceIte]
    exact fin ha.defers (res_tmp rfl ha rfl _) ⟨rfl, (u4.sub (by simp))⟩
  · have h6n : len0 ≤ 6 := by have := of_decide_eq_false h6; omega
    refine CW.skip ?_
    refine hK6 _ _ _ ?_
    refine CW.seq fun K9 hK9 => ?_
    refine CW.region ?_
    refine WL.call rfl rfl rfl rfl ent25 rfl (made_of) ?_
    rintro _ w55 ⟨m10, pl11, lg12, wt13, p14, hub15, base16, t17, S18, sat19, F20, sh21, cps22, h23, h24, rest25, rfl, h26, h27, h28, h29, h30, h31, h32, h33, h34, p35, h36, h37, h38, ⟨g39, g40, g41, g42, g43, g44, g45, g46, g47, g48, g49, g50⟩, n51, n52, n53, u54⟩
    refine WL.to (E' := [(0, .slice a0 len0 cap0), (1, .int .u8 to), (4, .bool false), (5, .pointer (some ⟨m10, 0, none⟩))]) 1 [0, 1, 4, 5] (by kernel_rfl) ?_
    refine WL.nil ?_
    refine hK9 _ _ _ ?_
    refine CW.seq fun K56 hK56 => ?_
    refine CW.seq fun K57 hK57 => ?_
    refine CW.region ?_
    refine WL.to (E' := [(0, .slice a0 len0 cap0), (1, .int .u8 to), (4, .bool false), (5, .pointer (some ⟨m10, 0, none⟩)), (25, .bool false)]) 2 [0, 1, 4, 5, 25] (by kernel_rfl) ?_
    refine WL.nil ?_
    refine hK57 _ _ _ ?_
    refine CW.condF rfl ?_
    refine CW.skip ?_
    refine hK56 _ _ _ ?_
    refine CW.seq fun K58 hK58 => ?_
    refine CW.region ?_
    refine WL.to (E' := [(0, .slice a0 len0 cap0), (1, .int .u8 to), (4, .bool false), (5, .pointer (some ⟨m10, 0, none⟩)), (27, .pointer (some ⟨m10, 0, none⟩))]) 1 [0, 1, 4, 5, 27] (by kernel_rfl) ?_
    refine WL.call rfl rfl rfl rfl ent21 rfl (get_of h26 h27 (by first | assumption | rfl | simp [look]) h30) ?_
    rintro _ w60 ⟨rfl, u59⟩
    refine WL.to (E' := [(0, .slice a0 len0 cap0), (1, .int .u8 to), (4, .bool false), (5, .pointer (some ⟨m10, 0, none⟩)), (6, .pointer (some ⟨t17, 0, none⟩))]) 5 [0, 1, 4, 5, 6] (by kernel_rfl) ?_
    refine WL.nil ?_
    refine hK58 _ _ _ ?_
    refine CW.seq fun K61 hK61 => ?_
    refine CW.region ?_
    refine WL.to (E' := [(0, .slice a0 len0 cap0), (1, .int .u8 to), (4, .bool false), (5, .pointer (some ⟨m10, 0, none⟩)), (6, .pointer (some ⟨t17, 0, none⟩)), (8, .slice none 0 0)]) 1 [0, 1, 4, 5, 6, 8] (by kernel_rfl) ?_
    refine WL.nil ?_
    refine hK61 _ _ _ ?_
    refine CW.seq fun K62 hK62 => ?_
    refine CW.seq fun K63 hK63 => ?_
    refine CW.region ?_
    refine WL.to (E' := [(0, .slice a0 len0 cap0), (1, .int .u8 to), (4, .bool false), (5, .pointer (some ⟨m10, 0, none⟩)), (6, .pointer (some ⟨t17, 0, none⟩)), (8, .slice none 0 0), (9, .int .i64 0)]) 1 [0, 1, 4, 5, 6, 8, 9] (by kernel_rfl) ?_
    refine WL.nil ?_
    refine hK63 _ _ _ ?_
    refine CW.block ?_
    have h64 := (h36.keep u59 nm0)
    have h65 := (h37.keep u59 nm0)
    have h66 := (h28.keep u59 nm0)
    have h67 := (h26.keep u59 nm0)
    refine CW.sub [(0, .slice a0 len0 cap0), (1, .int .u8 to), (5, .pointer (some ⟨m10, 0, none⟩)), (6, .pointer (some ⟨t17, 0, none⟩)), (8, .slice none 0 0), (9, .int .i64 0)] ⟨rfl, rfl, rfl, rfl, rfl, rfl, trivial⟩ ?_
    refine CW.loop (F := fun g : Nat × (Option Addr) × Nat => [(0, .slice a0 len0 cap0), (1, .int .u8 to), (5, .pointer (some ⟨m10, 0, none⟩)), (6, .pointer (some ⟨t17, 0, none⟩)), (8, .slice g.2.1 g.1 g.2.2), (9, .int .i64 ((g.1 : Nat) : Int))]) (I := fun g w' => ∃ n sao scp xs wr lao lcp fns msao mscp svs wl, Blk w' S18 [.slice sao n scp, .map (some sat19), .pointer (some ⟨F20, 0, none⟩), .int .i64 100, .int .i64 (((n : Nat) : Int) + 1), .int .i64 wr] 121 ∧ KMap ki w' sat19 (idxOf n) ∧ Own w' (.slice sao n scp) 214 3 n xs ∧ Blk w' lg12 [.slice lao (2 * n) lcp] 126 ∧ Own w' (.slice lao (2 * n) lcp) 1 1 (2 * n) fns ∧ LogOk w' S18 p14 n fns ∧ Blk w' m10 [.map (some pl11), .pointer (some ⟨lg12, 0, none⟩), .slice msao g.1 mscp, .pointer (some ⟨wt13, 0, none⟩), .bool false] 75 ∧ Own w' (.slice msao g.1 mscp) 3 1 g.1 (nums svs) ∧ Own w' (.slice g.2.1 g.1 g.2.2) 3 1 g.1 (nums wl) ∧ g.1 ≤ len0 ∧ n ≤ 4 * g.1 ∧ (0 ≤ wr ∧ wr ≤ ((n : Nat) : Int)) ∧ Marks svs wl g.1 g.1 n ∧ Dis (.slice g.2.1 g.1 g.2.2) (.slice msao g.1 mscp : Value).ownBlock.toList ∧ (∀ b, (.slice sao n scp : Value).ownBlock = some b → w60.heap.size ≤ b) ∧ (∀ b, (.slice lao (2 * n) lcp : Value).ownBlock = some b → w60.heap.size ≤ b) ∧ (∀ b, (.slice msao g.1 mscp : Value).ownBlock = some b → w60.heap.size ≤ b) ∧ (∀ b, (.slice g.2.1 g.1 g.2.2 : Value).ownBlock = some b → w60.heap.size ≤ b) ∧ Only ([S18, sat19, lg12, m10]) w60 w') (μ := fun g => len0 - g.1) (0, none, 0) ⟨0, none, 0, ([]), 0, none, 0, ([]), none, 0, ([]), ([]), h64, h65, Own.nil, h66, Own.nil, (LogOk.nil : LogOk w60 S18 p14 0 []), h67, Own.nil, Own.nil, (by omega), (by omega), (by omega), Marks.nil, disNil, (fun b hb => by simp [Value.ownBlock] at hb), (fun b hb => by simp [Value.ownBlock] at hb), (fun b hb => by simp [Value.ownBlock] at hb), (fun b hb => by simp [Value.ownBlock] at hb), ((Only.refl [] _).sub (by simp))⟩ ?_
    rintro ⟨ii69, wao70, wcp71⟩ w68 ⟨n72, sao73, scp74, xs75, wr76, lao77, lcp78, fns79, msao80, mscp81, svs82, wl83, h84, h85, h86, h87, h88, h89, h90, h91, h92, p93, p94, p95, p96, p97, f98, f99, f100, f101, u102⟩
    try dsimp only at n72
    try dsimp only at h84
    try dsimp only at h85
    try dsimp only at h86
    try dsimp only at h87
    try dsimp only at h88
    try dsimp only at h89
    try dsimp only at h90
    try dsimp only at h91
    try dsimp only at h92
    try dsimp only at p93
    try dsimp only at p94
    try dsimp only at p95
    try dsimp only at p96
    try dsimp only at p97
    try dsimp only at f98
    try dsimp only at f99
    try dsimp only at f100
    try dsimp only at f101
    try dsimp only at u102
    show CW _ _ _ _ _ [(0, .slice a0 len0 cap0), (1, .int .u8 to), (5, .pointer (some ⟨m10, 0, none⟩)), (6, .pointer (some ⟨t17, 0, none⟩)), (8, .slice wao70 ii69 wcp71), (9, .int .i64 ((ii69 : Nat) : Int))] _
    rcases Nat.lt_or_ge ii69 len0 with hlt | hge
    · skip
      obtain ⟨xa, za, hx0, hza, hxc⟩ := hadds ii69 hlt
      refine CW.seq fun K103 hK103 => ?_
      refine CW.seq fun K104 hK104 => ?_
      refine CW.region ?_
      refine WL.to (E' := [(0, .slice a0 len0 cap0), (1, .int .u8 to), (5, .pointer (some ⟨m10, 0, none⟩)), (6, .pointer (some ⟨t17, 0, none⟩)), (8, .slice wao70 ii69 wcp71), (9, .int .i64 ((ii69 : Nat) : Int)), (31, .int .i64 ((ii69 : Nat) : Int)), (32, .slice a0 len0 cap0), (33, .int .i64 ((len0 : Nat) : Int)), (34, .bool (decide (((ii69 : Nat) : Int) < ((len0 : Nat) : Int))))]) 4 [0, 1, 5, 6, 8, 9, 31, 32, 33, 34] (by kernel_rfl) ?_
      refine WL.nil ?_
      refine hK104 _ _ _ ?_
      refine CW.yes rfl (decide_eq_true (by omega)) ?_
      refine CW.skip ?_
      refine hK103 _ _ _ ?_
      refine CW.seq fun K105 hK105 => ?_
      refine CW.block ?_
      refine CW.seq fun K106 hK106 => ?_
      refine CW.region ?_
      refine WL.to (E' := [(0, .slice a0 len0 cap0), (1, .int .u8 to), (5, .pointer (some ⟨m10, 0, none⟩)), (6, .pointer (some ⟨t17, 0, none⟩)), (8, .slice wao70 ii69 wcp71), (9, .int .i64 ((ii69 : Nat) : Int)), (31, .int .i64 ((ii69 : Nat) : Int)), (32, .slice a0 len0 cap0), (33, .int .i64 ((len0 : Nat) : Int)), (34, .bool (decide (((ii69 : Nat) : Int) < ((len0 : Nat) : Int)))), (37, .slice wao70 ii69 wcp71), (38, .pointer (some ⟨t17, 0, none⟩))]) 2 [0, 1, 5, 6, 8, 9, 31, 32, 33, 34, 37, 38] (by kernel_rfl) ?_
      have h107 := (h33.keep u59 nm0)
      have h108 := (h107.keep u102 (nmc (Blk.ne h107 h64 rfl) (nmc (Blk.neK h107 h65) (nmc (Blk.ne h107 h66 rfl) (nmc (Blk.ne h107 h67 rfl) nm0)))))
      refine WL.callQ (v := .pointer (some ⟨S18, 0, none⟩)) rfl rfl rfl rfl ent22 rfl (rows_of h108) ?_
      refine WL.callQ (v := .int .i64 (((idxOf n72).length : Nat) : Int)) rfl rfl rfl rfl ent23 rfl (len_of h84 h85) ?_
      refine WL.chg 40 (.int .i64 ((n72 : Nat) : Int)) rfl (by rw [idxOf_len]) ?_
      refine WL.buildSlice (vs := [(0, .int .i64 ((n72 : Nat) : Int))]) (cs := [.int .i64 ((n72 : Nat) : Int)]) rfl rfl Tryz.underlying49 rfl (by kernel_rfl) ?_
      intro w109 b110 h111 u112 g113
      have h114 := (h91.keep' u112 dis0)
      have h115 := (h92.keep' u112 dis0)
      refine WL.appT (k := ii69) (xs := (nums wl83)) rfl Tryz.underlying49 inf3 rfl rfl rfl rfl rfl h115 h111 rfl rfl rfl ⟨by omega, by omega⟩ ?_
      intro v120 w116 h117 u118 f119
      obtain ⟨ao121, cp122, rfl⟩ := h117.form
      have h123 : Own w116 (.slice ao121 (ii69 + 1) cp122) 3 1 (ii69 + 1) (nums (wl83 ++ [((n72 : Nat) : Int)])) := by rw [nums_append]; exact h117
      have dis124 : Dis (.slice ao121 (ii69 + 1) cp122) (.slice msao80 ii69 mscp81 : Value).ownBlock.toList := dis_grow2 p97 h114 (by omega) f119
      refine WL.to (E' := [(0, .slice a0 len0 cap0), (1, .int .u8 to), (5, .pointer (some ⟨m10, 0, none⟩)), (6, .pointer (some ⟨t17, 0, none⟩)), (8, .slice ao121 (ii69 + 1) cp122), (9, .int .i64 ((ii69 : Nat) : Int)), (31, .int .i64 ((ii69 : Nat) : Int)), (32, .slice a0 len0 cap0), (33, .int .i64 ((len0 : Nat) : Int)), (34, .bool (decide (((ii69 : Nat) : Int) < ((len0 : Nat) : Int)))), (37, .slice wao70 ii69 wcp71), (38, .pointer (some ⟨t17, 0, none⟩)), (39, .pointer (some ⟨S18, 0, none⟩)), (40, .int .i64 ((n72 : Nat) : Int)), (41, .slice (some ⟨b110, 0, none⟩) 1 1), (42, .slice ao121 (ii69 + 1) cp122)]) 1 [0, 1, 5, 6, 8, 9, 31, 32, 33, 34, 37, 38, 39, 40, 41, 42] (by kernel_rfl) ?_
      refine WL.nil ?_
      refine hK106 _ _ _ ?_
      refine CW.seq fun K125 hK125 => ?_
      refine CW.region ?_
      refine WL.to (E' := [(0, .slice a0 len0 cap0), (1, .int .u8 to), (5, .pointer (some ⟨m10, 0, none⟩)), (6, .pointer (some ⟨t17, 0, none⟩)), (8, .slice ao121 (ii69 + 1) cp122), (9, .int .i64 ((ii69 : Nat) : Int)), (31, .int .i64 ((ii69 : Nat) : Int)), (32, .slice a0 len0 cap0), (33, .int .i64 ((len0 : Nat) : Int)), (34, .bool (decide (((ii69 : Nat) : Int) < ((len0 : Nat) : Int)))), (37, .slice wao70 ii69 wcp71), (38, .pointer (some ⟨t17, 0, none⟩)), (39, .pointer (some ⟨S18, 0, none⟩)), (40, .int .i64 ((n72 : Nat) : Int)), (41, .slice (some ⟨b110, 0, none⟩) 1 1), (42, .slice ao121 (ii69 + 1) cp122), (44, .pointer (some ⟨m10, 0, none⟩))]) 1 [0, 1, 5, 6, 8, 9, 31, 32, 33, 34, 37, 38, 39, 40, 41, 42, 44] (by kernel_rfl) ?_
      have h126 := (h114.keep' u118 (dis_symm p97))
      have h127 := (h90.keep u112 nm0)
      have h128 := (h127.keep u118 (Own.ne h115 h127 rfl))
      have h129 := (h87.keep u112 nm0)
      have h130 := (h129.keep u118 (Own.ne h115 h129 rfl))
      refine WL.call rfl rfl rfl rfl ent13 rfl (save_ok h128 h130 h126 (by first | omega | decide | (simp; omega) | assumption) (by first | omega | decide | (simp; omega) | assumption)) ?_
      rintro _ w137 ⟨rfl, msao131, mscp132, h133, h134, f135, u136⟩
      have h138 : Own w137 (.slice msao131 (ii69 + 1) mscp132) 3 1 (ii69 + 1) (nums (svs82 ++ [((2 * n72 : Nat) : Int)])) := by rw [nums_append]; exact h134
      have dis139 : Dis (.slice ao121 (ii69 + 1) cp122) (.slice msao131 (ii69 + 1) mscp132 : Value).ownBlock.toList := dis_grow1 dis124 h123 (Nat.le_refl _) f135
      refine WL.to (E' := [(0, .slice a0 len0 cap0), (1, .int .u8 to), (5, .pointer (some ⟨m10, 0, none⟩)), (6, .pointer (some ⟨t17, 0, none⟩)), (8, .slice ao121 (ii69 + 1) cp122), (9, .int .i64 ((ii69 : Nat) : Int)), (31, .int .i64 ((ii69 : Nat) : Int)), (32, .slice a0 len0 cap0), (33, .int .i64 ((len0 : Nat) : Int)), (34, .bool (decide (((ii69 : Nat) : Int) < ((len0 : Nat) : Int)))), (37, .slice wao70 ii69 wcp71), (38, .pointer (some ⟨t17, 0, none⟩)), (39, .pointer (some ⟨S18, 0, none⟩)), (40, .int .i64 ((n72 : Nat) : Int)), (41, .slice (some ⟨b110, 0, none⟩) 1 1), (42, .slice ao121 (ii69 + 1) cp122), (44, .pointer (some ⟨m10, 0, none⟩)), (45, .tuple #[.int .i64 ((ii69 + 1 : Nat) : Int), .nilIface]), (43, .tuple #[.int .i64 ((ii69 + 1 : Nat) : Int), .nilIface]), (46, .int .i64 ((ii69 + 1 : Nat) : Int)), (47, .nilIface), (10, .int .i64 ((ii69 + 1 : Nat) : Int)), (11, .nilIface)]) 5 [0, 1, 5, 6, 8, 9, 31, 32, 33, 34, 37, 38, 39, 40, 41, 42, 44, 45, 43, 46, 47, 10, 11] (by kernel_rfl) ?_
      refine WL.nil ?_
      refine hK125 _ _ _ ?_
      refine CW.seq fun K140 hK140 => ?_
      refine CW.seq fun K141 hK141 => ?_
      refine CW.region ?_
      refine WL.to (E' := [(0, .slice a0 len0 cap0), (1, .int .u8 to), (5, .pointer (some ⟨m10, 0, none⟩)), (6, .pointer (some ⟨t17, 0, none⟩)), (8, .slice ao121 (ii69 + 1) cp122), (9, .int .i64 ((ii69 : Nat) : Int)), (31, .int .i64 ((ii69 : Nat) : Int)), (32, .slice a0 len0 cap0), (33, .int .i64 ((len0 : Nat) : Int)), (34, .bool (decide (((ii69 : Nat) : Int) < ((len0 : Nat) : Int)))), (37, .slice wao70 ii69 wcp71), (38, .pointer (some ⟨t17, 0, none⟩)), (39, .pointer (some ⟨S18, 0, none⟩)), (40, .int .i64 ((n72 : Nat) : Int)), (41, .slice (some ⟨b110, 0, none⟩) 1 1), (42, .slice ao121 (ii69 + 1) cp122), (44, .pointer (some ⟨m10, 0, none⟩)), (45, .tuple #[.int .i64 ((ii69 + 1 : Nat) : Int), .nilIface]), (43, .tuple #[.int .i64 ((ii69 + 1 : Nat) : Int), .nilIface]), (46, .int .i64 ((ii69 + 1 : Nat) : Int)), (47, .nilIface), (10, .int .i64 ((ii69 + 1 : Nat) : Int)), (11, .nilIface), (48, .nilIface), (49, .bool false), (50, .bool false), (51, .int .i64 ((ii69 + 1 : Nat) : Int)), (52, .int .i64 ((ii69 : Nat) : Int)), (53, .int .i64 (IntKind.i64.wrap (((ii69 : Nat) : Int) + 1)))]) 6 [0, 1, 5, 6, 8, 9, 31, 32, 33, 34, 37, 38, 39, 40, 41, 42, 44, 45, 43, 46, 47, 10, 11, 48, 49, 50, 51, 52, 53] (by kernel_rfl) ?_
      refine WL.chg 53 (.int .i64 (((ii69 : Nat) : Int) + 1)) rfl (congrArg (Value.int .i64) (i64_in _ (by omega))) ?_
      refine WL.to (E' := [(0, .slice a0 len0 cap0), (1, .int .u8 to), (5, .pointer (some ⟨m10, 0, none⟩)), (6, .pointer (some ⟨t17, 0, none⟩)), (8, .slice ao121 (ii69 + 1) cp122), (9, .int .i64 ((ii69 : Nat) : Int)), (31, .int .i64 ((ii69 : Nat) : Int)), (32, .slice a0 len0 cap0), (33, .int .i64 ((len0 : Nat) : Int)), (34, .bool (decide (((ii69 : Nat) : Int) < ((len0 : Nat) : Int)))), (37, .slice wao70 ii69 wcp71), (38, .pointer (some ⟨t17, 0, none⟩)), (39, .pointer (some ⟨S18, 0, none⟩)), (40, .int .i64 ((n72 : Nat) : Int)), (41, .slice (some ⟨b110, 0, none⟩) 1 1), (42, .slice ao121 (ii69 + 1) cp122), (44, .pointer (some ⟨m10, 0, none⟩)), (45, .tuple #[.int .i64 ((ii69 + 1 : Nat) : Int), .nilIface]), (43, .tuple #[.int .i64 ((ii69 + 1 : Nat) : Int), .nilIface]), (46, .int .i64 ((ii69 + 1 : Nat) : Int)), (47, .nilIface), (10, .int .i64 ((ii69 + 1 : Nat) : Int)), (11, .nilIface), (48, .nilIface), (49, .bool false), (50, .bool false), (51, .int .i64 ((ii69 + 1 : Nat) : Int)), (52, .int .i64 ((ii69 : Nat) : Int)), (53, .int .i64 (((ii69 : Nat) : Int) + 1)), (54, .bool (((ii69 + 1 : Nat) : Int) != (((ii69 : Nat) : Int) + 1))), (55, .bool (((ii69 + 1 : Nat) : Int) != (((ii69 : Nat) : Int) + 1)))]) 2 [0, 1, 5, 6, 8, 9, 31, 32, 33, 34, 37, 38, 39, 40, 41, 42, 44, 45, 43, 46, 47, 10, 11, 48, 49, 50, 51, 52, 53, 54, 55] (by kernel_rfl) ?_
      refine WL.nil ?_
      refine hK141 _ _ _ ?_
      refine CW.no rfl ((by simp only [bne_eq_false_iff_eq]; omega)) ?_
      refine CW.skip ?_
      refine hK140 _ _ _ ?_
      refine CW.seq fun K142 hK142 => ?_
      refine CW.region ?_
      refine WL.to (E' := [(0, .slice a0 len0 cap0), (1, .int .u8 to), (5, .pointer (some ⟨m10, 0, none⟩)), (6, .pointer (some ⟨t17, 0, none⟩)), (8, .slice ao121 (ii69 + 1) cp122), (9, .int .i64 ((ii69 : Nat) : Int)), (31, .int .i64 ((ii69 : Nat) : Int)), (32, .slice a0 len0 cap0), (33, .int .i64 ((len0 : Nat) : Int)), (34, .bool (decide (((ii69 : Nat) : Int) < ((len0 : Nat) : Int)))), (37, .slice wao70 ii69 wcp71), (38, .pointer (some ⟨t17, 0, none⟩)), (39, .pointer (some ⟨S18, 0, none⟩)), (40, .int .i64 ((n72 : Nat) : Int)), (41, .slice (some ⟨b110, 0, none⟩) 1 1), (42, .slice ao121 (ii69 + 1) cp122), (44, .pointer (some ⟨m10, 0, none⟩)), (45, .tuple #[.int .i64 ((ii69 + 1 : Nat) : Int), .nilIface]), (43, .tuple #[.int .i64 ((ii69 + 1 : Nat) : Int), .nilIface]), (46, .int .i64 ((ii69 + 1 : Nat) : Int)), (47, .nilIface), (10, .int .i64 ((ii69 + 1 : Nat) : Int)), (11, .nilIface), (48, .nilIface), (49, .bool false), (50, .bool false), (51, .int .i64 ((ii69 + 1 : Nat) : Int)), (52, .int .i64 ((ii69 : Nat) : Int)), (53, .int .i64 (((ii69 : Nat) : Int) + 1)), (54, .bool (((ii69 + 1 : Nat) : Int) != (((ii69 : Nat) : Int) + 1))), (55, .bool (((ii69 + 1 : Nat) : Int) != (((ii69 : Nat) : Int) + 1))), (12, .int .i64 0)]) 1 [0, 1, 5, 6, 8, 9, 31, 32, 33, 34, 37, 38, 39, 40, 41, 42, 44, 45, 43, 46, 47, 10, 11, 48, 49, 50, 51, 52, 53, 54, 55, 12] (by kernel_rfl) ?_
      refine WL.nil ?_
      refine hK142 _ _ _ ?_
      refine CW.block ?_
      have hrem := rem_u8 hza
      have h143 := (h84.keep u112 nm0)
      have h144 := (h143.keep u118 (Own.ne h115 h143 rfl))
      have h145 := (h144.keep u136 (nma (nmc (Blk.ne h144 h128 rfl) nm0) (Own.ne h126 h144 rfl)))
      have h146 := (h85.keep u112 nm0)
      have h147 := (h146.keep u118 (Own.neM h115 h146))
      have h148 := (h147.keep u136 (nma (nmc (Ne.symm (Blk.neK h128 h147)) nm0) (Own.neM h126 h147)))
      have h149 := (h86.keep' u112 dis0)
      have h150 := (h149.keep' u118 (Own.neO h149 h115 rfl))
      have h151 := (h150.keep' u136 (disa (disc (Own.ne h150 h128 rfl) dis0) (Own.neO h150 h126 rfl)))
      have h152 := (h130.keep u136 (nma (nmc (Blk.ne h130 h128 rfl) nm0) (Own.ne h126 h130 rfl)))
      have h153 := (h88.keep' u112 dis0)
      have h154 := (h153.keep' u118 (Own.neO h153 h115 rfl))
      have h155 := (h154.keep' u136 (disa (disc (Own.ne h154 h128 rfl) dis0) (Own.neO h154 h126 rfl)))
      have h156 := (h89.keep u112 no0)
      have h157 := (h156.keep u118 (noO h115 (by decide)))
      have h158 := (h157.keep u136 (noa (noc (noB h128 (by decide)) no0) (noO h126 (by decide))))
      refine CW.sub [(0, .slice a0 len0 cap0), (1, .int .u8 to), (5, .pointer (some ⟨m10, 0, none⟩)), (6, .pointer (some ⟨t17, 0, none⟩)), (8, .slice ao121 (ii69 + 1) cp122), (9, .int .i64 ((ii69 : Nat) : Int)), (12, .int .i64 0)] ⟨rfl, rfl, rfl, rfl, rfl, rfl, rfl, trivial⟩ ?_
      refine CW.loop (F := fun g : Nat => [(0, .slice a0 len0 cap0), (1, .int .u8 to), (5, .pointer (some ⟨m10, 0, none⟩)), (6, .pointer (some ⟨t17, 0, none⟩)), (8, .slice ao121 (ii69 + 1) cp122), (9, .int .i64 ((ii69 : Nat) : Int)), (12, .int .i64 ((g : Nat) : Int))]) (I := fun g w' => ∃ n sao scp xs wr lao lcp fns, Blk w' S18 [.slice sao n scp, .map (some sat19), .pointer (some ⟨F20, 0, none⟩), .int .i64 100, .int .i64 (((n : Nat) : Int) + 1), .int .i64 wr] 121 ∧ KMap ki w' sat19 (idxOf n) ∧ Own w' (.slice sao n scp) 214 3 n xs ∧ Blk w' lg12 [.slice lao (2 * n) lcp] 126 ∧ Own w' (.slice lao (2 * n) lcp) 1 1 (2 * n) fns ∧ LogOk w' S18 p14 n fns ∧ Blk w' m10 [.map (some pl11), .pointer (some ⟨lg12, 0, none⟩), .slice msao131 (ii69 + 1) mscp132, .pointer (some ⟨wt13, 0, none⟩), .bool false] 75 ∧ g ≤ 4 ∧ (n72 ≤ n ∧ n ≤ n72 + g) ∧ (0 ≤ wr ∧ wr ≤ ((n : Nat) : Int)) ∧ (∀ b, (.slice sao n scp : Value).ownBlock = some b → (.slice sao73 n72 scp74 : Value).ownBlock = some b ∨ w137.heap.size ≤ b) ∧ (∀ b, (.slice lao (2 * n) lcp : Value).ownBlock = some b → (.slice lao77 (2 * n72) lcp78 : Value).ownBlock = some b ∨ w137.heap.size ≤ b) ∧ Only ([S18, sat19, lg12, m10] ++ (.slice sao73 n72 scp74 : Value).ownBlock.toList ++ (.slice lao77 (2 * n72) lcp78 : Value).ownBlock.toList) w137 w') (μ := fun g => 4 - g) (0) ⟨n72, sao73, scp74, xs75, wr76, lao77, lcp78, fns79, h145, h148, h151, h152, h155, h158, h133, (by omega), (by omega), (by omega), (fun b hb => (.inl hb)), (fun b hb => (.inl hb)), ((Only.refl [] _).sub (by simp))⟩ ?_
      rintro kk160 w159 ⟨n161, sao162, scp163, xs164, wr165, lao166, lcp167, fns168, h169, h170, h171, h172, h173, h174, h175, p176, p177, p178, f179, f180, u181⟩
      show CW _ _ _ _ _ [(0, .slice a0 len0 cap0), (1, .int .u8 to), (5, .pointer (some ⟨m10, 0, none⟩)), (6, .pointer (some ⟨t17, 0, none⟩)), (8, .slice ao121 (ii69 + 1) cp122), (9, .int .i64 ((ii69 : Nat) : Int)), (12, .int .i64 ((kk160 : Nat) : Int))] _
      rcases (show ((kk160 : Nat) : Int) < Int.tmod za 5 ∨ Int.tmod za 5 ≤ ((kk160 : Nat) : Int) from by omega) with hkl | hkg
      · skip
        refine CW.seq fun K182 hK182 => ?_
        refine CW.seq fun K183 hK183 => ?_
        refine CW.region ?_
        refine WL.to (E' := [(0, .slice a0 len0 cap0), (1, .int .u8 to), (5, .pointer (some ⟨m10, 0, none⟩)), (6, .pointer (some ⟨t17, 0, none⟩)), (8, .slice ao121 (ii69 + 1) cp122), (9, .int .i64 ((ii69 : Nat) : Int)), (12, .int .i64 ((kk160 : Nat) : Int)), (56, .int .i64 ((kk160 : Nat) : Int)), (57, .slice a0 len0 cap0), (58, .int .i64 ((ii69 : Nat) : Int))]) 3 [0, 1, 5, 6, 8, 9, 12, 56, 57, 58] (by kernel_rfl) ?_
        refine WL.indexX rfl rfl Tryz.underlying22 siz5 rfl hx0 rfl (by omega) (by omega) ?_
        refine WL.chg 59 (.pointer (some (xa.add ii69))) rfl (by simp) ?_
        refine WL.loadAt rfl agg5 rfl rfl (cell_keep (S := []) hxc ((((((((u4.trans u54).trans u59).trans u102).trans u112).trans u118).trans u136).trans u181).sub (by intro k hk hl; have := u4.size; have := u54.size; have := u59.size; have := u102.size; have := u112.size; have := u118.size; have := u136.size; have := u181.size; have := g48; have := g49; have := g41; have := g39; have p0_ : ∀ b, (wao70 : Option Addr).map (·.block) = some b → w60.heap.size ≤ b := (by simpa only [ob_ao, Option.map_some] using f101); have q0_ : ∀ b, (wao70 : Option Addr).map (·.block) = some b → w.heap.size ≤ b := (fun b hb => (by have := p0_ b hb; have := u4.size; have := u54.size; have := u59.size; omega)); have p1_ : ∀ b, (msao80 : Option Addr).map (·.block) = some b → w60.heap.size ≤ b := (by simpa only [ob_ao, Option.map_some] using f100); have q1_ : ∀ b, (msao80 : Option Addr).map (·.block) = some b → w.heap.size ≤ b := (fun b hb => (by have := p1_ b hb; have := u4.size; have := u54.size; have := u59.size; omega)); have p2_ : ∀ b, (sao73 : Option Addr).map (·.block) = some b → w60.heap.size ≤ b := (by simpa only [ob_ao, Option.map_some] using f98); have q2_ : ∀ b, (sao73 : Option Addr).map (·.block) = some b → w.heap.size ≤ b := (fun b hb => (by have := p2_ b hb; have := u4.size; have := u54.size; have := u59.size; omega)); have p3_ : ∀ b, (lao77 : Option Addr).map (·.block) = some b → w60.heap.size ≤ b := (by simpa only [ob_ao, Option.map_some] using f99); have q3_ : ∀ b, (lao77 : Option Addr).map (·.block) = some b → w.heap.size ≤ b := (fun b hb => (by have := p3_ b hb; have := u4.size; have := u54.size; have := u59.size; omega)); simp only [ob_ao, Option.mem_toList, Option.mem_def, Option.map_none, Option.map_some, Option.some.injEq, reduceCtorEq, List.mem_append, List.mem_cons, List.not_mem_nil, or_false, false_or, or_assoc] at hk ⊢; rcases hk with hk | hk | hk | hk | hk | hk | hk | hk | hk | hk | hk | hk | hk <;> first | omega | (simp [hk]; done) | (have := q0_ _ hk; omega) | (have := q1_ _ hk; omega) | (have := q2_ _ hk; omega) | (have := q3_ _ hk; omega))) (by simp)) ?_
        refine WL.to (E' := [(0, .slice a0 len0 cap0), (1, .int .u8 to), (5, .pointer (some ⟨m10, 0, none⟩)), (6, .pointer (some ⟨t17, 0, none⟩)), (8, .slice ao121 (ii69 + 1) cp122), (9, .int .i64 ((ii69 : Nat) : Int)), (12, .int .i64 ((kk160 : Nat) : Int)), (56, .int .i64 ((kk160 : Nat) : Int)), (57, .slice a0 len0 cap0), (58, .int .i64 ((ii69 : Nat) : Int)), (59, .pointer (some (xa.add ii69))), (60, .int .u8 za), (61, .int .u8 (Int.tmod za 5))]) 1 [0, 1, 5, 6, 8, 9, 12, 56, 57, 58, 59, 60, 61] (by kernel_rfl) ?_
        refine WL.cvt (v := .int .i64 (Int.tmod za 5)) rfl rfl rfl (cvt53 (by omega)) ?_
        refine WL.to (E' := [(0, .slice a0 len0 cap0), (1, .int .u8 to), (5, .pointer (some ⟨m10, 0, none⟩)), (6, .pointer (some ⟨t17, 0, none⟩)), (8, .slice ao121 (ii69 + 1) cp122), (9, .int .i64 ((ii69 : Nat) : Int)), (12, .int .i64 ((kk160 : Nat) : Int)), (56, .int .i64 ((kk160 : Nat) : Int)), (57, .slice a0 len0 cap0), (58, .int .i64 ((ii69 : Nat) : Int)), (59, .pointer (some (xa.add ii69))), (60, .int .u8 za), (61, .int .u8 (Int.tmod za 5)), (62, .int .i64 (Int.tmod za 5)), (63, .bool (decide (((kk160 : Nat) : Int) < (Int.tmod za 5))))]) 1 [0, 1, 5, 6, 8, 9, 12, 56, 57, 58, 59, 60, 61, 62, 63] (by kernel_rfl) ?_
        refine WL.nil ?_
        refine hK183 _ _ _ ?_
        refine CW.yes rfl (decide_eq_true (by omega)) ?_
        refine CW.skip ?_
        refine hK182 _ _ _ ?_
        refine CW.seq fun K184 hK184 => ?_
        refine CW.block ?_
        refine CW.seq fun K185 hK185 => ?_
        refine CW.region ?_
        refine WL.to (E' := [(0, .slice a0 len0 cap0), (1, .int .u8 to), (5, .pointer (some ⟨m10, 0, none⟩)), (6, .pointer (some ⟨t17, 0, none⟩)), (8, .slice ao121 (ii69 + 1) cp122), (9, .int .i64 ((ii69 : Nat) : Int)), (12, .int .i64 ((kk160 : Nat) : Int)), (56, .int .i64 ((kk160 : Nat) : Int)), (57, .slice a0 len0 cap0), (58, .int .i64 ((ii69 : Nat) : Int)), (59, .pointer (some (xa.add ii69))), (60, .int .u8 za), (61, .int .u8 (Int.tmod za 5)), (62, .int .i64 (Int.tmod za 5)), (63, .bool (decide (((kk160 : Nat) : Int) < (Int.tmod za 5)))), (67, .pointer (some ⟨m10, 0, none⟩)), (68, .int .i64 ((ii69 : Nat) : Int)), (69, .int .i64 ((kk160 : Nat) : Int))]) 3 [0, 1, 5, 6, 8, 9, 12, 56, 57, 58, 59, 60, 61, 62, 63, 67, 68, 69] (by kernel_rfl) ?_
        refine WL.call rfl rfl rfl rfl ent15 rfl (two_of) ?_
        rintro _ w190 ⟨b186, rfl, h187, g188, u189⟩
        have h191 := (h108.keep u112 nm0)
        have h192 := (h191.keep u118 (Own.ne h115 h191 rfl))
        have h193 := (h192.keep u136 (nma (nmc (Blk.ne h192 h128 rfl) nm0) (Own.ne h126 h192 rfl)))
        have h194 := ((h193.keep u181 (nma (nma (nmc (Blk.ne h193 h145 rfl) (nmc (Blk.neK h193 h148) (nmc (Blk.ne h193 h152 rfl) (nmc (Blk.ne h193 h133 rfl) nm0)))) (Own.ne h151 h193 rfl)) (Own.ne h155 h193 rfl))).keep u189 nm0)
        have h195 := (h169.keep u189 nm0)
        have h196 := (h170.keep u189 nm0)
        have h197 := (h171.keep' u189 dis0)
        have h198 := (h38.keep u59 nm0)
        have h199 := ((h198.keep u102 (nmc (Blk.ne h198 h64 rfl) (nmc (Blk.neK h198 h65) (nmc (Blk.ne h198 h66 rfl) (nmc (Blk.ne h198 h67 rfl) nm0))))).keep u112 nm0)
        have h200 := (h199.keep u118 (Own.ne h115 h199 rfl))
        have h201 := (h200.keep u136 (nma (nmc (Blk.ne h200 h128 rfl) nm0) (Own.ne h126 h200 rfl)))
        have h202 := ((h201.keep u181 (nma (nma (nmc (Blk.ne h201 h145 rfl) (nmc (Blk.neK h201 h148) (nmc (Blk.ne h201 h152 rfl) (nmc (Blk.ne h201 h133 rfl) nm0)))) (Own.ne h151 h201 rfl)) (Own.ne h155 h201 rfl))).keep u189 nm0)
        have h203 := (h172.keep u189 nm0)
        have h204 := (h173.keep' u189 dis0)
        have h205 := (h34.keep u59 nm0)
        have h206 := ((h205.keep u102 (nmc (Blk.ne h205 h64 rfl) (nmc (Blk.neK h205 h65) (nmc (Blk.ne h205 h66 rfl) (nmc (Blk.ne h205 h67 rfl) nm0))))).keep u112 nm0)
        have h207 := (h206.keep u118 (Own.ne h115 h206 rfl))
        have h208 := (h207.keep u136 (nma (nmc (Blk.ne h207 h128 rfl) nm0) (Own.ne h126 h207 rfl)))
        have h209 := ((h208.keep u181 (nma (nma (nmc (Blk.ne h208 h145 rfl) (nmc (Blk.neK h208 h148) (nmc (Blk.ne h208 h152 rfl) (nmc (Blk.ne h208 h133 rfl) nm0)))) (Own.ne h151 h208 rfl)) (Own.ne h155 h208 rfl))).keep u189 nm0)
        have h210 := (h30.keep u59 nm0)
        have h211 := ((h210.keep u102 (nmc (Blk.ne h210 h64 rfl) (nmc (Blk.neK h210 h65) (nmc (Blk.ne h210 h66 rfl) (nmc (Blk.ne h210 h67 rfl) nm0))))).keep u112 nm0)
        have h212 := (h211.keep u118 (Own.ne h115 h211 rfl))
        have h213 := (h212.keep u136 (nma (nmc (Blk.ne h212 h128 rfl) nm0) (Own.ne h126 h212 rfl)))
        have h214 := ((h213.keep u181 (nma (nma (nmc (Blk.ne h213 h145 rfl) (nmc (Blk.neK h213 h148) (nmc (Blk.ne h213 h152 rfl) (nmc (Blk.ne h213 h133 rfl) nm0)))) (Own.ne h151 h213 rfl)) (Own.ne h155 h213 rfl))).keep u189 nm0)
        have h215 := (h175.keep u189 nm0)
        have h216 := (h27.keep u59 nm0)
        have h217 := ((h216.keep u102 (nmc (Ne.symm (Blk.neK h64 h216)) (nmc n52 (nmc (Ne.symm (Blk.neK h66 h216)) (nmc (Ne.symm (Blk.neK h67 h216)) nm0))))).keep u112 nm0)
        have h218 := (h217.keep u118 (Own.neM h115 h217))
        have h219 := (h218.keep u136 (nma (nmc (Ne.symm (Blk.neK h128 h218)) nm0) (Own.neM h126 h218)))
        have h220 := ((h219.keep u181 (nma (nma (nmc (Ne.symm (Blk.neK h145 h219)) (nmc n52 (nmc (Ne.symm (Blk.neK h152 h219)) (nmc (Ne.symm (Blk.neK h133 h219)) nm0)))) (Own.neM h151 h219)) (Own.neM h155 h219))).keep u189 nm0)
        refine WL.call rfl rfl rfl rfl ent14 rfl (mins14_2 h194 h195 h196 h197 h202 h203 h204 h209 h187 (by first | omega | decide | (simp; omega) | assumption) (by rw [idxOf_len]; omega) h214 h215 (by first | omega | decide | (simp; omega) | assumption) h220 (by first | assumption | rfl | simp [look]) (look_idxOf_none _ _ (by omega)) (by rw [idxOf_len]; omega) (by first | omega | decide | (simp; omega) | assumption) (by first | omega | decide | (simp; omega) | assumption) (by first | omega | decide | (simp; omega) | assumption) (by first | omega | decide | (simp; omega) | assumption)) ?_
        rintro _ w248 ⟨rfl, br221, bi222, bp223, brw224, sao225, scp226, ao227, cp228, lao229, lcp230, h231, h232, g233, h234, h235, g236, h237, h238, h239, h240, h241, f242, f243, h244, h245, f246, u247⟩
        have h249 : Blk w248 S18 [.slice sao225 (n161 + 1) scp226, .map (some sat19), .pointer (some ⟨F20, 0, none⟩), .int .i64 100, .int .i64 (((n161 + 1 : Nat) : Int) + 1), .int .i64 (wr165 + 1)] 121 := by rw [show (((n161 + 1 : Nat) : Int) + 1) = (((n161 : Nat) : Int) + 1) + 1 from by omega]; exact h238
        have h250 : KMap ki w248 sat19 (idxOf (n161 + 1)) := by rw [idxOf_succ]; exact h239
        have h251 : Blk w248 lg12 [.slice lao229 (2 * (n161 + 1)) lcp230] 126 := by rw [(show 2 * (n161 + 1) = 2 * n161 + 1 + 1 from by omega)]; exact h244
        have h252 : Own w248 (.slice lao229 (2 * (n161 + 1)) lcp230) 1 1 (2 * (n161 + 1)) (fns168 ++ ([.func (.func 79) #[] #[.pointer (some ⟨br221, 0, none⟩), .pointer (some ⟨bi222, 0, none⟩)]] ++ [.func (.func 43) #[] #[.pointer (some ⟨bp223, 0, none⟩), .pointer (some ⟨brw224, 0, none⟩)]])) := by rw [(show 2 * (n161 + 1) = 2 * n161 + 1 + 1 from by omega), ← List.append_assoc]; exact h245
        have h253 := (h174.keep u189 no0)
        have h254 := (h253.keep u247 (noa (noa (noc (noB h195 (by decide)) (noc (noK h196) (noc (noB h203 (by decide)) (noc (noB h215 (by decide)) no0)))) (noO h197 (by decide))) (noO h204 (by decide))))
        have h255 : LogOk w248 S18 p14 (n161 + 1) (fns168 ++ ([.func (.func 79) #[] #[.pointer (some ⟨br221, 0, none⟩), .pointer (some ⟨bi222, 0, none⟩)]] ++ [.func (.func 43) #[] #[.pointer (some ⟨bp223, 0, none⟩), .pointer (some ⟨brw224, 0, none⟩)]])) := LogOk.snoc h254 rfl h231 h232 h234 h235
        refine WL.to (E' := [(0, .slice a0 len0 cap0), (1, .int .u8 to), (5, .pointer (some ⟨m10, 0, none⟩)), (6, .pointer (some ⟨t17, 0, none⟩)), (8, .slice ao121 (ii69 + 1) cp122), (9, .int .i64 ((ii69 : Nat) : Int)), (12, .int .i64 ((kk160 : Nat) : Int)), (56, .int .i64 ((kk160 : Nat) : Int)), (57, .slice a0 len0 cap0), (58, .int .i64 ((ii69 : Nat) : Int)), (59, .pointer (some (xa.add ii69))), (60, .int .u8 za), (61, .int .u8 (Int.tmod za 5)), (62, .int .i64 (Int.tmod za 5)), (63, .bool (decide (((kk160 : Nat) : Int) < (Int.tmod za 5)))), (67, .pointer (some ⟨m10, 0, none⟩)), (68, .int .i64 ((ii69 : Nat) : Int)), (69, .int .i64 ((kk160 : Nat) : Int)), (70, .slice (some ⟨b186, 0, none⟩) 2 2), (71, .tuple #[.int .i64 (((n161 : Nat) : Int) + 1), .nilIface]), (66, .tuple #[.int .i64 (((n161 : Nat) : Int) + 1), .nilIface]), (73, .nilIface), (11, .nilIface)]) 4 [0, 1, 5, 6, 8, 9, 12, 56, 57, 58, 59, 60, 61, 62, 63, 67, 68, 69, 70, 71, 66, 73, 11] (by kernel_rfl) ?_
        refine WL.nil ?_
        refine hK185 _ _ _ ?_
        refine CW.seq fun K256 hK256 => ?_
        refine CW.region ?_
        refine WL.to (E' := [(0, .slice a0 len0 cap0), (1, .int .u8 to), (5, .pointer (some ⟨m10, 0, none⟩)), (6, .pointer (some ⟨t17, 0, none⟩)), (8, .slice ao121 (ii69 + 1) cp122), (9, .int .i64 ((ii69 : Nat) : Int)), (12, .int .i64 ((kk160 : Nat) : Int)), (56, .int .i64 ((kk160 : Nat) : Int)), (57, .slice a0 len0 cap0), (58, .int .i64 ((ii69 : Nat) : Int)), (59, .pointer (some (xa.add ii69))), (60, .int .u8 za), (61, .int .u8 (Int.tmod za 5)), (62, .int .i64 (Int.tmod za 5)), (63, .bool (decide (((kk160 : Nat) : Int) < (Int.tmod za 5)))), (67, .pointer (some ⟨m10, 0, none⟩)), (68, .int .i64 ((ii69 : Nat) : Int)), (69, .int .i64 ((kk160 : Nat) : Int)), (70, .slice (some ⟨b186, 0, none⟩) 2 2), (71, .tuple #[.int .i64 (((n161 : Nat) : Int) + 1), .nilIface]), (66, .tuple #[.int .i64 (((n161 : Nat) : Int) + 1), .nilIface]), (73, .nilIface), (11, .nilIface), (74, .nilIface), (75, .bool false)]) 2 [0, 1, 5, 6, 8, 9, 12, 56, 57, 58, 59, 60, 61, 62, 63, 67, 68, 69, 70, 71, 66, 73, 11, 74, 75] (by kernel_rfl) ?_
        refine WL.nil ?_
        refine hK256 _ _ _ ?_
        refine CW.condF rfl ?_
        refine CW.skip ?_
        refine hK184 _ _ _ ?_
        refine CW.region ?_
        refine WL.to (E' := [(0, .slice a0 len0 cap0), (1, .int .u8 to), (5, .pointer (some ⟨m10, 0, none⟩)), (6, .pointer (some ⟨t17, 0, none⟩)), (8, .slice ao121 (ii69 + 1) cp122), (9, .int .i64 ((ii69 : Nat) : Int)), (12, .int .i64 ((kk160 : Nat) : Int)), (56, .int .i64 ((kk160 : Nat) : Int)), (57, .slice a0 len0 cap0), (58, .int .i64 ((ii69 : Nat) : Int)), (59, .pointer (some (xa.add ii69))), (60, .int .u8 za), (61, .int .u8 (Int.tmod za 5)), (62, .int .i64 (Int.tmod za 5)), (63, .bool (decide (((kk160 : Nat) : Int) < (Int.tmod za 5)))), (67, .pointer (some ⟨m10, 0, none⟩)), (68, .int .i64 ((ii69 : Nat) : Int)), (69, .int .i64 ((kk160 : Nat) : Int)), (70, .slice (some ⟨b186, 0, none⟩) 2 2), (71, .tuple #[.int .i64 (((n161 : Nat) : Int) + 1), .nilIface]), (66, .tuple #[.int .i64 (((n161 : Nat) : Int) + 1), .nilIface]), (73, .nilIface), (11, .nilIface), (74, .nilIface), (75, .bool false), (64, .int .i64 ((kk160 : Nat) : Int)), (65, .int .i64 (IntKind.i64.wrap (((kk160 : Nat) : Int) + 1)))]) 2 [0, 1, 5, 6, 8, 9, 12, 56, 57, 58, 59, 60, 61, 62, 63, 67, 68, 69, 70, 71, 66, 73, 11, 74, 75, 64, 65] (by kernel_rfl) ?_
        refine WL.chg 65 (.int .i64 ((kk160 + 1 : Nat) : Int)) rfl (congrArg (Value.int .i64) (by rw [i64_in _ (by omega)]; omega)) ?_
        refine WL.to (E' := [(0, .slice a0 len0 cap0), (1, .int .u8 to), (5, .pointer (some ⟨m10, 0, none⟩)), (6, .pointer (some ⟨t17, 0, none⟩)), (8, .slice ao121 (ii69 + 1) cp122), (9, .int .i64 ((ii69 : Nat) : Int)), (12, .int .i64 ((kk160 + 1 : Nat) : Int)), (56, .int .i64 ((kk160 : Nat) : Int)), (57, .slice a0 len0 cap0), (58, .int .i64 ((ii69 : Nat) : Int)), (59, .pointer (some (xa.add ii69))), (60, .int .u8 za), (61, .int .u8 (Int.tmod za 5)), (62, .int .i64 (Int.tmod za 5)), (63, .bool (decide (((kk160 : Nat) : Int) < (Int.tmod za 5)))), (67, .pointer (some ⟨m10, 0, none⟩)), (68, .int .i64 ((ii69 : Nat) : Int)), (69, .int .i64 ((kk160 : Nat) : Int)), (70, .slice (some ⟨b186, 0, none⟩) 2 2), (71, .tuple #[.int .i64 (((n161 : Nat) : Int) + 1), .nilIface]), (66, .tuple #[.int .i64 (((n161 : Nat) : Int) + 1), .nilIface]), (73, .nilIface), (11, .nilIface), (74, .nilIface), (75, .bool false), (64, .int .i64 ((kk160 : Nat) : Int)), (65, .int .i64 ((kk160 + 1 : Nat) : Int))]) 1 [0, 1, 5, 6, 8, 9, 12, 56, 57, 58, 59, 60, 61, 62, 63, 67, 68, 69, 70, 71, 66, 73, 11, 74, 75, 64, 65] (by kernel_rfl) ?_
        refine WL.nil ?_
        intro a ha
        have ha := ha.sub (E' := [(0, .slice a0 len0 cap0), (1, .int .u8 to), (5, .pointer (some ⟨m10, 0, none⟩)), (6, .pointer (some ⟨t17, 0, none⟩)), (8, .slice ao121 (ii69 + 1) cp122), (9, .int .i64 ((ii69 : Nat) : Int)), (12, .int .i64 (((kk160 + 1) : Nat) : Int))]) ⟨rfl, rfl, rfl, rfl, rfl, rfl, rfl, trivial⟩
        exact ⟨(kk160 + 1), (by first | omega | (dsimp only; omega)), ⟨(n161 + 1), sao225, scp226, (setAll (xs164 ++ [.int .i64 0, .int .i64 0, .slice none 0 0]) (n161 * 3) [.int .i64 (((n161 : Nat) : Int) + 1), .int .i64 1, .slice ao227 2 cp228]), (wr165 + 1), lao229, lcp230, (fns168 ++ ([.func (.func 79) #[] #[.pointer (some ⟨br221, 0, none⟩), .pointer (some ⟨bi222, 0, none⟩)]] ++ [.func (.func 43) #[] #[.pointer (some ⟨bp223, 0, none⟩), .pointer (some ⟨brw224, 0, none⟩)]])), h249, h250, h240, h251, h252, h255, h237, (by omega), (by omega), (by omega), (fun b hb => ((f243 b hb).elim (fun h'3 => ((f179 b h'3).elim (fun h'5 => (.inl h'5)) (fun h'6 => .inr (by omega)))) (fun h'4 => .inr (by have := u181.size; have := u189.size; omega)))), (fun b hb => ((f246 b hb).elim (fun h'7 => ((f180 b h'7).elim (fun h'9 => (.inl h'9)) (fun h'10 => .inr (by omega)))) (fun h'8 => .inr (by have := u181.size; have := u189.size; omega)))), (((u181.trans u189).trans u247).sub (by intro k hk hl; have := u181.size; have := u189.size; have := u247.size; have p0_ : ∀ b, (sao162 : Option Addr).map (·.block) = some b → (sao73 : Option Addr).map (·.block) = some b ∨ w137.heap.size ≤ b := (by simpa only [ob_ao, Option.map_some] using f179); have q6_ : ∀ b, (sao162 : Option Addr).map (·.block) = some b → (sao73 : Option Addr).map (·.block) = some b ∨ w137.heap.size ≤ b := (fun b hb => ((p0_ b hb).imp_right (fun h'11 => by omega))); have p1_ : ∀ b, (lao166 : Option Addr).map (·.block) = some b → (lao77 : Option Addr).map (·.block) = some b ∨ w137.heap.size ≤ b := (by simpa only [ob_ao, Option.map_some] using f180); have q7_ : ∀ b, (lao166 : Option Addr).map (·.block) = some b → (lao77 : Option Addr).map (·.block) = some b ∨ w137.heap.size ≤ b := (fun b hb => ((p1_ b hb).imp_right (fun h'13 => by omega))); simp only [ob_ao, Option.mem_toList, Option.mem_def, Option.map_none, Option.map_some, Option.some.injEq, reduceCtorEq, List.mem_append, List.mem_cons, List.not_mem_nil, or_false, false_or, or_assoc] at hk ⊢; rcases hk with hk | hk | hk | hk | hk | hk | hk | hk | hk | hk | hk | hk <;> first | omega | (simp [hk]; done) | (rcases q6_ _ hk with h | h <;> first | omega | (simp [h]; done)) | (rcases q7_ _ hk with h | h <;> first | omega | (simp [h]; done))))⟩, ha⟩
      · skip
        refine CW.seq fun K257 hK257 => ?_
        refine CW.seq fun K258 hK258 => ?_
        refine CW.region ?_
        refine WL.to (E' := [(0, .slice a0 len0 cap0), (1, .int .u8 to), (5, .pointer (some ⟨m10, 0, none⟩)), (6, .pointer (some ⟨t17, 0, none⟩)), (8, .slice ao121 (ii69 + 1) cp122), (9, .int .i64 ((ii69 : Nat) : Int)), (12, .int .i64 ((kk160 : Nat) : Int)), (56, .int .i64 ((kk160 : Nat) : Int)), (57, .slice a0 len0 cap0), (58, .int .i64 ((ii69 : Nat) : Int))]) 3 [0, 1, 5, 6, 8, 9, 12, 56, 57, 58] (by kernel_rfl) ?_
        refine WL.indexX rfl rfl Tryz.underlying22 siz5 rfl hx0 rfl (by omega) (by omega) ?_
        refine WL.chg 59 (.pointer (some (xa.add ii69))) rfl (by simp) ?_
        refine WL.loadAt rfl agg5 rfl rfl (cell_keep (S := []) hxc ((((((((u4.trans u54).trans u59).trans u102).trans u112).trans u118).trans u136).trans u181).sub (by intro k hk hl; have := u4.size; have := u54.size; have := u59.size; have := u102.size; have := u112.size; have := u118.size; have := u136.size; have := u181.size; have := g48; have := g49; have := g41; have := g39; have p0_ : ∀ b, (wao70 : Option Addr).map (·.block) = some b → w60.heap.size ≤ b := (by simpa only [ob_ao, Option.map_some] using f101); have q0_ : ∀ b, (wao70 : Option Addr).map (·.block) = some b → w.heap.size ≤ b := (fun b hb => (by have := p0_ b hb; have := u4.size; have := u54.size; have := u59.size; omega)); have p1_ : ∀ b, (msao80 : Option Addr).map (·.block) = some b → w60.heap.size ≤ b := (by simpa only [ob_ao, Option.map_some] using f100); have q1_ : ∀ b, (msao80 : Option Addr).map (·.block) = some b → w.heap.size ≤ b := (fun b hb => (by have := p1_ b hb; have := u4.size; have := u54.size; have := u59.size; omega)); have p2_ : ∀ b, (sao73 : Option Addr).map (·.block) = some b → w60.heap.size ≤ b := (by simpa only [ob_ao, Option.map_some] using f98); have q2_ : ∀ b, (sao73 : Option Addr).map (·.block) = some b → w.heap.size ≤ b := (fun b hb => (by have := p2_ b hb; have := u4.size; have := u54.size; have := u59.size; omega)); have p3_ : ∀ b, (lao77 : Option Addr).map (·.block) = some b → w60.heap.size ≤ b := (by simpa only [ob_ao, Option.map_some] using f99); have q3_ : ∀ b, (lao77 : Option Addr).map (·.block) = some b → w.heap.size ≤ b := (fun b hb => (by have := p3_ b hb; have := u4.size; have := u54.size; have := u59.size; omega)); simp only [ob_ao, Option.mem_toList, Option.mem_def, Option.map_none, Option.map_some, Option.some.injEq, reduceCtorEq, List.mem_append, List.mem_cons, List.not_mem_nil, or_false, false_or, or_assoc] at hk ⊢; rcases hk with hk | hk | hk | hk | hk | hk | hk | hk | hk | hk | hk | hk | hk <;> first | omega | (simp [hk]; done) | (have := q0_ _ hk; omega) | (have := q1_ _ hk; omega) | (have := q2_ _ hk; omega) | (have := q3_ _ hk; omega))) (by simp)) ?_
        refine WL.to (E' := [(0, .slice a0 len0 cap0), (1, .int .u8 to), (5, .pointer (some ⟨m10, 0, none⟩)), (6, .pointer (some ⟨t17, 0, none⟩)), (8, .slice ao121 (ii69 + 1) cp122), (9, .int .i64 ((ii69 : Nat) : Int)), (12, .int .i64 ((kk160 : Nat) : Int)), (56, .int .i64 ((kk160 : Nat) : Int)), (57, .slice a0 len0 cap0), (58, .int .i64 ((ii69 : Nat) : Int)), (59, .pointer (some (xa.add ii69))), (60, .int .u8 za), (61, .int .u8 (Int.tmod za 5))]) 1 [0, 1, 5, 6, 8, 9, 12, 56, 57, 58, 59, 60, 61] (by kernel_rfl) ?_
        refine WL.cvt (v := .int .i64 (Int.tmod za 5)) rfl rfl rfl (cvt53 (by omega)) ?_
        refine WL.to (E' := [(0, .slice a0 len0 cap0), (1, .int .u8 to), (5, .pointer (some ⟨m10, 0, none⟩)), (6, .pointer (some ⟨t17, 0, none⟩)), (8, .slice ao121 (ii69 + 1) cp122), (9, .int .i64 ((ii69 : Nat) : Int)), (12, .int .i64 ((kk160 : Nat) : Int)), (56, .int .i64 ((kk160 : Nat) : Int)), (57, .slice a0 len0 cap0), (58, .int .i64 ((ii69 : Nat) : Int)), (59, .pointer (some (xa.add ii69))), (60, .int .u8 za), (61, .int .u8 (Int.tmod za 5)), (62, .int .i64 (Int.tmod za 5)), (63, .bool (decide (((kk160 : Nat) : Int) < (Int.tmod za 5))))]) 1 [0, 1, 5, 6, 8, 9, 12, 56, 57, 58, 59, 60, 61, 62, 63] (by kernel_rfl) ?_
        refine WL.nil ?_
        refine hK258 _ _ _ ?_
        refine CW.no rfl (decide_eq_false (by omega)) ?_
        refine CW.exit ?_
        refine hK105 _ _ _ ?_
        refine CW.region ?_
        refine WL.to (E' := [(0, .slice a0 len0 cap0), (1, .int .u8 to), (5, .pointer (some ⟨m10, 0, none⟩)), (6, .pointer (some ⟨t17, 0, none⟩)), (8, .slice ao121 (ii69 + 1) cp122), (9, .int .i64 ((ii69 : Nat) : Int)), (12, .int .i64 ((kk160 : Nat) : Int)), (56, .int .i64 ((kk160 : Nat) : Int)), (57, .slice a0 len0 cap0), (58, .int .i64 ((ii69 : Nat) : Int)), (59, .pointer (some (xa.add ii69))), (60, .int .u8 za), (61, .int .u8 (Int.tmod za 5)), (62, .int .i64 (Int.tmod za 5)), (63, .bool (decide (((kk160 : Nat) : Int) < (Int.tmod za 5)))), (35, .int .i64 ((ii69 : Nat) : Int)), (36, .int .i64 (IntKind.i64.wrap (((ii69 : Nat) : Int) + 1)))]) 2 [0, 1, 5, 6, 8, 9, 12, 56, 57, 58, 59, 60, 61, 62, 63, 35, 36] (by kernel_rfl) ?_
        refine WL.chg 36 (.int .i64 ((ii69 + 1 : Nat) : Int)) rfl (congrArg (Value.int .i64) (by rw [i64_in _ (by omega)]; omega)) ?_
        refine WL.to (E' := [(0, .slice a0 len0 cap0), (1, .int .u8 to), (5, .pointer (some ⟨m10, 0, none⟩)), (6, .pointer (some ⟨t17, 0, none⟩)), (8, .slice ao121 (ii69 + 1) cp122), (9, .int .i64 ((ii69 + 1 : Nat) : Int)), (12, .int .i64 ((kk160 : Nat) : Int)), (56, .int .i64 ((kk160 : Nat) : Int)), (57, .slice a0 len0 cap0), (58, .int .i64 ((ii69 : Nat) : Int)), (59, .pointer (some (xa.add ii69))), (60, .int .u8 za), (61, .int .u8 (Int.tmod za 5)), (62, .int .i64 (Int.tmod za 5)), (63, .bool (decide (((kk160 : Nat) : Int) < (Int.tmod za 5)))), (35, .int .i64 ((ii69 : Nat) : Int)), (36, .int .i64 ((ii69 + 1 : Nat) : Int))]) 1 [0, 1, 5, 6, 8, 9, 12, 56, 57, 58, 59, 60, 61, 62, 63, 35, 36] (by kernel_rfl) ?_
        refine WL.nil ?_
        intro a ha
        have ha := ha.sub (E' := [(0, .slice a0 len0 cap0), (1, .int .u8 to), (5, .pointer (some ⟨m10, 0, none⟩)), (6, .pointer (some ⟨t17, 0, none⟩)), (8, .slice ao121 (ii69 + 1) cp122), (9, .int .i64 (((ii69 + 1) : Nat) : Int))]) ⟨rfl, rfl, rfl, rfl, rfl, rfl, trivial⟩
        have h259 := (h138.keep' u181 (disa (disa (disc (Own.ne h138 h145 rfl) (disc (Own.neM h138 h148) (disc (Own.ne h138 h152 rfl) (disc (Own.ne h138 h133 rfl) dis0)))) (Own.neO h138 h151 rfl)) (Own.neO h138 h155 rfl)))
        have h260 := (h123.keep' u136 (disa (disc (Own.ne h123 h128 rfl) dis0) dis124))
        have h261 := (h260.keep' u181 (disa (disa (disc (Own.ne h260 h145 rfl) (disc (Own.neM h260 h148) (disc (Own.ne h260 h152 rfl) (disc (Own.ne h260 h133 rfl) dis0)))) (Own.neO h260 h151 rfl)) (Own.neO h260 h155 rfl)))
        exact ⟨(ii69 + 1, ao121, cp122), (by first | omega | (dsimp only; omega)), ⟨n161, sao162, scp163, xs164, wr165, lao166, lcp167, fns168, msao131, mscp132, (svs82 ++ [((2 * n72 : Nat) : Int)]), (wl83 ++ [((n72 : Nat) : Int)]), h169, h170, h171, h172, h173, h174, h175, h259, h261, (by omega), (by omega), (by omega), (Marks.mono (Marks.two p96 (fun e => by omega)) (by omega)), dis139, (fun b hb => ((f179 b hb).elim (fun h'15 => (by have := f98 b h'15; omega)) (fun h'16 => by have := u102.size; have := u112.size; have := u118.size; have := u136.size; omega))), (fun b hb => ((f180 b hb).elim (fun h'17 => (by have := f99 b h'17; omega)) (fun h'18 => by have := u102.size; have := u112.size; have := u118.size; have := u136.size; omega))), (fun b hb => ((f135 b hb).elim (fun h'19 => (by have := f100 b h'19; omega)) (fun h'20 => by have := u102.size; have := u112.size; have := u118.size; omega))), (fun b hb => ((f119 b hb).elim (fun h'21 => (by have := f101 b h'21; omega)) (fun h'22 => by have := u102.size; have := u112.size; omega))), (((((u102.trans u112).trans u118).trans u136).trans u181).sub (by intro k hk hl; have := u102.size; have := u112.size; have := u118.size; have := u136.size; have := u181.size; have p0_ : ∀ b, (wao70 : Option Addr).map (·.block) = some b → w60.heap.size ≤ b := (by simpa only [ob_ao, Option.map_some] using f101); have q4_ : ∀ b, (wao70 : Option Addr).map (·.block) = some b → w60.heap.size ≤ b := (fun b hb => (by have := p0_ b hb; omega)); have p1_ : ∀ b, (msao80 : Option Addr).map (·.block) = some b → w60.heap.size ≤ b := (by simpa only [ob_ao, Option.map_some] using f100); have q5_ : ∀ b, (msao80 : Option Addr).map (·.block) = some b → w60.heap.size ≤ b := (fun b hb => (by have := p1_ b hb; omega)); have p2_ : ∀ b, (sao73 : Option Addr).map (·.block) = some b → w60.heap.size ≤ b := (by simpa only [ob_ao, Option.map_some] using f98); have q6_ : ∀ b, (sao73 : Option Addr).map (·.block) = some b → w60.heap.size ≤ b := (fun b hb => (by have := p2_ b hb; omega)); have p3_ : ∀ b, (lao77 : Option Addr).map (·.block) = some b → w60.heap.size ≤ b := (by simpa only [ob_ao, Option.map_some] using f99); have q7_ : ∀ b, (lao77 : Option Addr).map (·.block) = some b → w60.heap.size ≤ b := (fun b hb => (by have := p3_ b hb; omega)); simp only [ob_ao, Option.mem_toList, Option.mem_def, Option.map_none, Option.map_some, Option.some.injEq, reduceCtorEq, List.mem_append, List.mem_cons, List.not_mem_nil, or_false, false_or, or_assoc] at hk ⊢; rcases hk with hk | hk | hk | hk | hk | hk | hk | hk | hk | hk | hk | hk | hk <;> first | omega | (simp [hk]; done) | (have := q4_ _ hk; omega) | (have := q5_ _ hk; omega) | (have := q6_ _ hk; omega) | (have := q7_ _ hk; omega)))⟩, ha⟩
    · skip
      obtain rfl : ii69 = len0 := by omega
      refine CW.seq fun K262 hK262 => ?_
      refine CW.seq fun K263 hK263 => ?_
      refine CW.region ?_
      refine WL.to (E' := [(0, .slice a0 ii69 cap0), (1, .int .u8 to), (5, .pointer (some ⟨m10, 0, none⟩)), (6, .pointer (some ⟨t17, 0, none⟩)), (8, .slice wao70 ii69 wcp71), (9, .int .i64 ((ii69 : Nat) : Int)), (31, .int .i64 ((ii69 : Nat) : Int)), (32, .slice a0 ii69 cap0), (33, .int .i64 ((ii69 : Nat) : Int)), (34, .bool (decide (((ii69 : Nat) : Int) < ((ii69 : Nat) : Int))))]) 4 [0, 1, 5, 6, 8, 9, 31, 32, 33, 34] (by kernel_rfl) ?_
      refine WL.nil ?_
      refine hK263 _ _ _ ?_
      refine CW.no rfl (decide_eq_false (by omega)) ?_
      refine CW.exit ?_
      refine hK62 _ _ _ ?_
      refine CW.seq fun K264 hK264 => ?_
      refine CW.block ?_
      refine CW.sub [(0, .slice a0 ii69 cap0), (1, .int .u8 to), (5, .pointer (some ⟨m10, 0, none⟩)), (6, .pointer (some ⟨t17, 0, none⟩)), (8, .slice wao70 ii69 wcp71)] ⟨rfl, rfl, rfl, rfl, rfl, trivial⟩ ?_
      refine CW.loop (F := fun g : Nat => [(0, .slice a0 ii69 cap0), (1, .int .u8 to), (5, .pointer (some ⟨m10, 0, none⟩)), (6, .pointer (some ⟨t17, 0, none⟩)), (8, .slice wao70 ii69 wcp71)]) (I := fun g w' => ∃ msao mscp svs, Blk w' m10 [.map (some pl11), .pointer (some ⟨lg12, 0, none⟩), .slice msao g mscp, .pointer (some ⟨wt13, 0, none⟩), .bool false] 75 ∧ Own w' (.slice msao g mscp) 3 1 g (nums svs) ∧ g ≤ 6 ∧ Marks svs wl83 g ii69 n72 ∧ Dis (.slice wao70 ii69 wcp71) (.slice msao g mscp : Value).ownBlock.toList ∧ (∀ b, (.slice msao g mscp : Value).ownBlock = some b → (.slice msao80 ii69 mscp81 : Value).ownBlock = some b ∨ w68.heap.size ≤ b) ∧ Only ([m10] ++ (.slice msao80 ii69 mscp81 : Value).ownBlock.toList) w68 w') (μ := fun g => 6 - g) (ii69) ⟨msao80, mscp81, svs82, h90, h91, (by omega), p96, p97, (fun b hb => (.inl hb)), ((Only.refl [] _).sub (by simp))⟩ ?_
      rintro dd266 w265 ⟨msao267, mscp268, svs269, h270, h271, p272, p273, p274, f275, u276⟩
      show CW _ _ _ _ _ [(0, .slice a0 ii69 cap0), (1, .int .u8 to), (5, .pointer (some ⟨m10, 0, none⟩)), (6, .pointer (some ⟨t17, 0, none⟩)), (8, .slice wao70 ii69 wcp71)] _
      rcases Nat.lt_or_ge dd266 6 with hlt6 | hge6
      · skip
        refine CW.seq fun K277 hK277 => ?_
        refine CW.seq fun K278 hK278 => ?_
        refine CW.region ?_
        refine WL.to (E' := [(0, .slice a0 ii69 cap0), (1, .int .u8 to), (5, .pointer (some ⟨m10, 0, none⟩)), (6, .pointer (some ⟨t17, 0, none⟩)), (8, .slice wao70 ii69 wcp71), (76, .pointer (some ⟨m10, 0, none⟩))]) 1 [0, 1, 5, 6, 8, 76] (by kernel_rfl) ?_
        refine WL.callQ (v := .int .i64 ((dd266 : Nat) : Int)) rfl rfl rfl rfl ent26 rfl (depth_of h270) ?_
        refine WL.to (E' := [(0, .slice a0 ii69 cap0), (1, .int .u8 to), (5, .pointer (some ⟨m10, 0, none⟩)), (6, .pointer (some ⟨t17, 0, none⟩)), (8, .slice wao70 ii69 wcp71), (76, .pointer (some ⟨m10, 0, none⟩)), (77, .int .i64 ((dd266 : Nat) : Int)), (78, .bool (decide (((dd266 : Nat) : Int) < 6)))]) 1 [0, 1, 5, 6, 8, 76, 77, 78] (by kernel_rfl) ?_
        refine WL.nil ?_
        refine hK278 _ _ _ ?_
        refine CW.yes rfl (decide_eq_true (by omega)) ?_
        refine CW.skip ?_
        refine hK277 _ _ _ ?_
        refine CW.block ?_
        refine CW.seq fun K279 hK279 => ?_
        refine CW.region ?_
        refine WL.to (E' := [(0, .slice a0 ii69 cap0), (1, .int .u8 to), (5, .pointer (some ⟨m10, 0, none⟩)), (6, .pointer (some ⟨t17, 0, none⟩)), (8, .slice wao70 ii69 wcp71), (76, .pointer (some ⟨m10, 0, none⟩)), (77, .int .i64 ((dd266 : Nat) : Int)), (78, .bool (decide (((dd266 : Nat) : Int) < 6))), (80, .pointer (some ⟨m10, 0, none⟩))]) 1 [0, 1, 5, 6, 8, 76, 77, 78, 80] (by kernel_rfl) ?_
        have h280 := (h92.keep' u276 (disa (disc (Own.ne h92 h90 rfl) dis0) p97))
        have h281 := (h87.keep u276 (nma (nmc (Blk.ne h87 h90 rfl) nm0) (Own.ne h91 h87 rfl)))
        refine WL.call rfl rfl rfl rfl ent13 rfl (save_ok h270 h281 h271 (by first | omega | decide | (simp; omega) | assumption) (by first | omega | decide | (simp; omega) | assumption)) ?_
        rintro _ w288 ⟨rfl, msao282, mscp283, h284, h285, f286, u287⟩
        have h289 : Own w288 (.slice msao282 (dd266 + 1) mscp283) 3 1 (dd266 + 1) (nums (svs269 ++ [((2 * n72 : Nat) : Int)])) := by rw [nums_append]; exact h285
        have dis290 : Dis (.slice wao70 ii69 wcp71) (.slice msao282 (dd266 + 1) mscp283 : Value).ownBlock.toList := dis_grow1 p274 h280 (Nat.le_refl _) f286
        refine WL.to (E' := [(0, .slice a0 ii69 cap0), (1, .int .u8 to), (5, .pointer (some ⟨m10, 0, none⟩)), (6, .pointer (some ⟨t17, 0, none⟩)), (8, .slice wao70 ii69 wcp71), (76, .pointer (some ⟨m10, 0, none⟩)), (77, .int .i64 ((dd266 : Nat) : Int)), (78, .bool (decide (((dd266 : Nat) : Int) < 6))), (80, .pointer (some ⟨m10, 0, none⟩)), (81, .tuple #[.int .i64 ((dd266 + 1 : Nat) : Int), .nilIface]), (79, .tuple #[.int .i64 ((dd266 + 1 : Nat) : Int), .nilIface]), (82, .int .i64 ((dd266 + 1 : Nat) : Int)), (83, .nilIface), (14, .nilIface)]) 5 [0, 1, 5, 6, 8, 76, 77, 78, 80, 81, 79, 82, 83, 14] (by kernel_rfl) ?_
        refine WL.nil ?_
        refine hK279 _ _ _ ?_
        refine CW.seq fun K291 hK291 => ?_
        refine CW.region ?_
        refine WL.to (E' := [(0, .slice a0 ii69 cap0), (1, .int .u8 to), (5, .pointer (some ⟨m10, 0, none⟩)), (6, .pointer (some ⟨t17, 0, none⟩)), (8, .slice wao70 ii69 wcp71), (76, .pointer (some ⟨m10, 0, none⟩)), (77, .int .i64 ((dd266 : Nat) : Int)), (78, .bool (decide (((dd266 : Nat) : Int) < 6))), (80, .pointer (some ⟨m10, 0, none⟩)), (81, .tuple #[.int .i64 ((dd266 + 1 : Nat) : Int), .nilIface]), (79, .tuple #[.int .i64 ((dd266 + 1 : Nat) : Int), .nilIface]), (82, .int .i64 ((dd266 + 1 : Nat) : Int)), (83, .nilIface), (14, .nilIface), (84, .nilIface), (85, .bool false)]) 2 [0, 1, 5, 6, 8, 76, 77, 78, 80, 81, 79, 82, 83, 14, 84, 85] (by kernel_rfl) ?_
        refine WL.nil ?_
        refine hK291 _ _ _ ?_
        refine CW.condF rfl ?_
        refine CW.skip ?_
        intro a ha
        have ha := ha.sub (E' := [(0, .slice a0 ii69 cap0), (1, .int .u8 to), (5, .pointer (some ⟨m10, 0, none⟩)), (6, .pointer (some ⟨t17, 0, none⟩)), (8, .slice wao70 ii69 wcp71)]) ⟨rfl, rfl, rfl, rfl, rfl, trivial⟩
        exact ⟨(dd266 + 1), (by first | omega | (dsimp only; omega)), ⟨msao282, mscp283, (svs269 ++ [((2 * n72 : Nat) : Int)]), h284, h289, (by omega), (Marks.one p273 (fun e => by have := p273.2.2.1; omega)), dis290, (fun b hb => ((f286 b hb).elim (fun h'23 => ((f275 b h'23).elim (fun h'25 => (.inl h'25)) (fun h'26 => .inr (by omega)))) (fun h'24 => .inr (by have := u276.size; omega)))), ((u276.trans u287).sub (by intro k hk hl; have := u276.size; have := u287.size; have p0_ : ∀ b, (msao267 : Option Addr).map (·.block) = some b → (msao80 : Option Addr).map (·.block) = some b ∨ w68.heap.size ≤ b := (by simpa only [ob_ao, Option.map_some] using f275); have q2_ : ∀ b, (msao267 : Option Addr).map (·.block) = some b → (msao80 : Option Addr).map (·.block) = some b ∨ w68.heap.size ≤ b := (fun b hb => ((p0_ b hb).imp_right (fun h'27 => by omega))); simp only [ob_ao, Option.mem_toList, Option.mem_def, Option.map_none, Option.map_some, Option.some.injEq, reduceCtorEq, List.mem_append, List.mem_cons, List.not_mem_nil, or_false, false_or, or_assoc] at hk ⊢; rcases hk with hk | hk | hk | hk <;> first | omega | (simp [hk]; done) | (rcases q2_ _ hk with h | h <;> first | omega | (simp [h]; done))))⟩, ha⟩
      · skip
        obtain rfl : dd266 = 6 := by omega
        refine CW.seq fun K292 hK292 => ?_
        refine CW.seq fun K293 hK293 => ?_
        refine CW.region ?_
        refine WL.to (E' := [(0, .slice a0 ii69 cap0), (1, .int .u8 to), (5, .pointer (some ⟨m10, 0, none⟩)), (6, .pointer (some ⟨t17, 0, none⟩)), (8, .slice wao70 ii69 wcp71), (76, .pointer (some ⟨m10, 0, none⟩))]) 1 [0, 1, 5, 6, 8, 76] (by kernel_rfl) ?_
        refine WL.callQ (v := .int .i64 ((6 : Nat) : Int)) rfl rfl rfl rfl ent26 rfl (depth_of h270) ?_
        refine WL.to (E' := [(0, .slice a0 ii69 cap0), (1, .int .u8 to), (5, .pointer (some ⟨m10, 0, none⟩)), (6, .pointer (some ⟨t17, 0, none⟩)), (8, .slice wao70 ii69 wcp71), (76, .pointer (some ⟨m10, 0, none⟩)), (77, .int .i64 6), (78, .bool false)]) 1 [0, 1, 5, 6, 8, 76, 77, 78] (by kernel_rfl) ?_
        refine WL.nil ?_
        refine hK293 _ _ _ ?_
        refine CW.condF rfl ?_
        refine CW.exit ?_
        refine hK264 _ _ _ ?_
        refine CW.seq fun K294 hK294 => ?_
        refine CW.region ?_
        refine WL.to (E' := [(0, .slice a0 ii69 cap0), (1, .int .u8 to), (5, .pointer (some ⟨m10, 0, none⟩)), (6, .pointer (some ⟨t17, 0, none⟩)), (8, .slice wao70 ii69 wcp71), (87, .pointer (some ⟨m10, 0, none⟩))]) 1 [0, 1, 5, 6, 8, 87] (by kernel_rfl) ?_
        refine WL.call rfl rfl rfl rfl ent13 rfl (save_full h270 (by first | omega | decide | (simp; omega) | assumption)) ?_
        rintro _ w297 ⟨rfl, h295, u296⟩
        refine WL.to (E' := [(0, .slice a0 ii69 cap0), (1, .int .u8 to), (5, .pointer (some ⟨m10, 0, none⟩)), (6, .pointer (some ⟨t17, 0, none⟩)), (8, .slice wao70 ii69 wcp71), (16, .iface 79 (.int .i64 101))]) 5 [0, 1, 5, 6, 8, 16] (by kernel_rfl) ?_
        refine WL.nil ?_
        refine hK294 _ _ _ ?_
        refine CW.seq fun K298 hK298 => ?_
        refine CW.seq fun K299 hK299 => ?_
        refine CW.region ?_
        refine WL.to (E' := [(0, .slice a0 ii69 cap0), (1, .int .u8 to), (5, .pointer (some ⟨m10, 0, none⟩)), (6, .pointer (some ⟨t17, 0, none⟩)), (8, .slice wao70 ii69 wcp71), (91, .iface 79 (.int .i64 101))]) 1 [0, 1, 5, 6, 8, 91] (by kernel_rfl) ?_
        refine WL.call rfl rfl rfl rfl ent10 rfl (class_of (hE.keep (S := []) ((((((u4.trans u54).trans u59).trans u102).trans u276).trans u296).sub (by intro k hk hl; have := u4.size; have := u54.size; have := u59.size; have := u102.size; have := u276.size; have := u296.size; have := g48; have := g49; have := g41; have := g39; have p0_ : ∀ b, (msao80 : Option Addr).map (·.block) = some b → w60.heap.size ≤ b := (by simpa only [ob_ao, Option.map_some] using f100); have q0_ : ∀ b, (msao80 : Option Addr).map (·.block) = some b → w.heap.size ≤ b := (fun b hb => (by have := p0_ b hb; have := u4.size; have := u54.size; have := u59.size; omega)); simp only [ob_ao, Option.mem_toList, Option.mem_def, Option.map_none, Option.map_some, Option.some.injEq, reduceCtorEq, List.mem_append, List.mem_cons, List.not_mem_nil, or_false, false_or, or_assoc] at hk ⊢; rcases hk with hk | hk | hk | hk | hk | hk | hk <;> first | omega | (simp [hk]; done) | (have := q0_ _ hk; omega))) nm0)) ?_
        rintro _ w301 ⟨rfl, u300⟩
        refine WL.to (E' := [(0, .slice a0 ii69 cap0), (1, .int .u8 to), (5, .pointer (some ⟨m10, 0, none⟩)), (6, .pointer (some ⟨t17, 0, none⟩)), (8, .slice wao70 ii69 wcp71), (94, .bool false), (95, .pointer (some ⟨m10, 0, none⟩))]) 3 [0, 1, 5, 6, 8, 94, 95] (by kernel_rfl) ?_
        have h302 := (h295.keep u300 nm0)
        refine WL.call rfl rfl rfl rfl ent27 rfl (back_err_7 h302) ?_
        rintro _ w305 ⟨rfl, h303, u304⟩
        refine WL.call rfl rfl rfl rfl ent10 rfl (class_of (hE.keep (S := []) ((((((((u4.trans u54).trans u59).trans u102).trans u276).trans u296).trans u300).trans u304).sub (by intro k hk hl; have := u4.size; have := u54.size; have := u59.size; have := u102.size; have := u276.size; have := u296.size; have := u300.size; have := u304.size; have := g48; have := g49; have := g41; have := g39; have p0_ : ∀ b, (msao80 : Option Addr).map (·.block) = some b → w60.heap.size ≤ b := (by simpa only [ob_ao, Option.map_some] using f100); have q0_ : ∀ b, (msao80 : Option Addr).map (·.block) = some b → w.heap.size ≤ b := (fun b hb => (by have := p0_ b hb; have := u4.size; have := u54.size; have := u59.size; omega)); simp only [ob_ao, Option.mem_toList, Option.mem_def, Option.map_none, Option.map_some, Option.some.injEq, reduceCtorEq, List.mem_append, List.mem_cons, List.not_mem_nil, or_false, false_or, or_assoc] at hk ⊢; rcases hk with hk | hk | hk | hk | hk | hk | hk | hk <;> first | omega | (simp [hk]; done) | (have := q0_ _ hk; omega))) nm0)) ?_
        rintro _ w307 ⟨rfl, u306⟩
        refine WL.to (E' := [(0, .slice a0 ii69 cap0), (1, .int .u8 to), (5, .pointer (some ⟨m10, 0, none⟩)), (6, .pointer (some ⟨t17, 0, none⟩)), (8, .slice wao70 ii69 wcp71), (100, .bool false), (101, .pointer (some ⟨m10, 0, none⟩))]) 4 [0, 1, 5, 6, 8, 100, 101] (by kernel_rfl) ?_
        have h308 := (h303.keep u306 nm0)
        refine WL.call rfl rfl rfl rfl ent27 rfl (back_err_0 h308) ?_
        rintro _ w311 ⟨rfl, h309, u310⟩
        refine WL.call rfl rfl rfl rfl ent10 rfl (class_of (hE.keep (S := []) ((((((((((u4.trans u54).trans u59).trans u102).trans u276).trans u296).trans u300).trans u304).trans u306).trans u310).sub (by intro k hk hl; have := u4.size; have := u54.size; have := u59.size; have := u102.size; have := u276.size; have := u296.size; have := u300.size; have := u304.size; have := u306.size; have := u310.size; have := g48; have := g49; have := g41; have := g39; have p0_ : ∀ b, (msao80 : Option Addr).map (·.block) = some b → w60.heap.size ≤ b := (by simpa only [ob_ao, Option.map_some] using f100); have q0_ : ∀ b, (msao80 : Option Addr).map (·.block) = some b → w.heap.size ≤ b := (fun b hb => (by have := p0_ b hb; have := u4.size; have := u54.size; have := u59.size; omega)); simp only [ob_ao, Option.mem_toList, Option.mem_def, Option.map_none, Option.map_some, Option.some.injEq, reduceCtorEq, List.mem_append, List.mem_cons, List.not_mem_nil, or_false, false_or, or_assoc] at hk ⊢; rcases hk with hk | hk | hk | hk | hk | hk | hk | hk | hk <;> first | omega | (simp [hk]; done) | (have := q0_ _ hk; omega))) nm0)) ?_
        rintro _ w313 ⟨rfl, u312⟩
        refine WL.to (E' := [(0, .slice a0 ii69 cap0), (1, .int .u8 to), (5, .pointer (some ⟨m10, 0, none⟩)), (6, .pointer (some ⟨t17, 0, none⟩)), (8, .slice wao70 ii69 wcp71), (106, .bool false), (107, .pointer (some ⟨m10, 0, none⟩))]) 4 [0, 1, 5, 6, 8, 106, 107] (by kernel_rfl) ?_
        have h314 := (h309.keep u312 nm0)
        refine WL.call rfl rfl rfl rfl ent16 rfl (back_err_m1 h314) ?_
        rintro _ w317 ⟨rfl, h315, u316⟩
        refine WL.call rfl rfl rfl rfl ent10 rfl (class_of (hE.keep (S := []) ((((((((((((u4.trans u54).trans u59).trans u102).trans u276).trans u296).trans u300).trans u304).trans u306).trans u310).trans u312).trans u316).sub (by intro k hk hl; have := u4.size; have := u54.size; have := u59.size; have := u102.size; have := u276.size; have := u296.size; have := u300.size; have := u304.size; have := u306.size; have := u310.size; have := u312.size; have := u316.size; have := g48; have := g49; have := g41; have := g39; have p0_ : ∀ b, (msao80 : Option Addr).map (·.block) = some b → w60.heap.size ≤ b := (by simpa only [ob_ao, Option.map_some] using f100); have q0_ : ∀ b, (msao80 : Option Addr).map (·.block) = some b → w.heap.size ≤ b := (fun b hb => (by have := p0_ b hb; have := u4.size; have := u54.size; have := u59.size; omega)); simp only [ob_ao, Option.mem_toList, Option.mem_def, Option.map_none, Option.map_some, Option.some.injEq, reduceCtorEq, List.mem_append, List.mem_cons, List.not_mem_nil, or_false, false_or, or_assoc] at hk ⊢; rcases hk with hk | hk | hk | hk | hk | hk | hk | hk | hk | hk <;> first | omega | (simp [hk]; done) | (have := q0_ _ hk; omega))) nm0)) ?_
        rintro _ w319 ⟨rfl, u318⟩
        refine WL.to (E' := [(0, .slice a0 ii69 cap0), (1, .int .u8 to), (5, .pointer (some ⟨m10, 0, none⟩)), (6, .pointer (some ⟨t17, 0, none⟩)), (8, .slice wao70 ii69 wcp71), (111, .bool false)]) 2 [0, 1, 5, 6, 8, 111] (by kernel_rfl) ?_
        refine WL.nil ?_
        refine hK299 _ _ _ ?_
        refine CW.condF rfl ?_
        refine CW.skip ?_
        refine hK298 _ _ _ ?_
        refine CW.seq fun K320 hK320 => ?_
        refine CW.seq fun K321 hK321 => ?_
        refine CW.region ?_
        refine WL.to (E' := [(0, .slice a0 ii69 cap0), (1, .int .u8 to), (5, .pointer (some ⟨m10, 0, none⟩)), (6, .pointer (some ⟨t17, 0, none⟩)), (8, .slice wao70 ii69 wcp71), (114, .bool (((ii69 : Nat) : Int) == 0))]) 3 [0, 1, 5, 6, 8, 114] (by kernel_rfl) ?_
        refine WL.nil ?_
        refine hK321 _ _ _ ?_
        refine CW.cond rfl (fun c0 => ?_) (fun c0 => ?_)
        · have c0n : ii69 = 0 := by simpa using c0
          obtain ⟨cc, hcc, hle, h0c, hwl⟩ := p273.2.2.2 0 (by omega)
          refine CW.seq fun K322 hK322 => ?_
          refine CW.region ?_
          refine WL.to (E' := [(0, .slice a0 ii69 cap0), (1, .int .u8 to), (5, .pointer (some ⟨m10, 0, none⟩)), (6, .pointer (some ⟨t17, 0, none⟩)), (8, .slice wao70 ii69 wcp71), (115, .pointer (some ⟨m10, 0, none⟩))]) 1 [0, 1, 5, 6, 8, 115] (by kernel_rfl) ?_
          have h323 := (h89.keep u276 (noa (noc (noB h90 (by decide)) no0) (noO h91 (by decide))))
          have h324 := ((h323.keep u296 (noc (noB h270 (by decide)) no0)).keep u300 no0)
          have h325 := ((h324.keep u304 (noc (noB h302 (by decide)) no0)).keep u306 no0)
          have h326 := ((h325.keep u310 (noc (noB h308 (by decide)) no0)).keep u312 no0)
          have h327 := ((h326.keep u316 (noc (noB h314 (by decide)) no0)).keep u318 no0)
          have h328 := (h315.keep u318 nm0)
          have h329 := ((h271.keep' u296 (disc (Own.ne h271 h270 rfl) dis0)).keep' u300 dis0)
          have h330 := ((h329.keep' u304 (disc (Own.ne h329 h302 rfl) dis0)).keep' u306 dis0)
          have h331 := ((h330.keep' u310 (disc (Own.ne h330 h308 rfl) dis0)).keep' u312 dis0)
          have h332 := ((h331.keep' u316 (disc (Own.ne h331 h314 rfl) dis0)).keep' u318 dis0)
          have h333 := (h87.keep u276 (nma (nmc (Blk.ne h87 h90 rfl) nm0) (Own.ne h91 h87 rfl)))
          have h334 := ((h333.keep u296 (nmc (Blk.ne h333 h270 rfl) nm0)).keep u300 nm0)
          have h335 := ((h334.keep u304 (nmc (Blk.ne h334 h302 rfl) nm0)).keep u306 nm0)
          have h336 := ((h335.keep u310 (nmc (Blk.ne h335 h308 rfl) nm0)).keep u312 nm0)
          have h337 := ((h336.keep u316 (nmc (Blk.ne h336 h314 rfl) nm0)).keep u318 nm0)
          have h338 := (h88.keep' u276 (disa (disc (Own.ne h88 h90 rfl) dis0) (Own.neO h88 h91 rfl)))
          have h339 := ((h338.keep' u296 (disc (Own.ne h338 h270 rfl) dis0)).keep' u300 dis0)
          have h340 := ((h339.keep' u304 (disc (Own.ne h339 h302 rfl) dis0)).keep' u306 dis0)
          have h341 := ((h340.keep' u310 (disc (Own.ne h340 h308 rfl) dis0)).keep' u312 dis0)
          have h342 := ((h341.keep' u316 (disc (Own.ne h341 h314 rfl) dis0)).keep' u318 dis0)
          have h343 := (h30.keep u59 nm0)
          have h344 := (h343.keep u102 (nmc (Blk.ne h343 h64 rfl) (nmc (Blk.neK h343 h65) (nmc (Blk.ne h343 h66 rfl) (nmc (Blk.ne h343 h67 rfl) nm0)))))
          have h345 := (h344.keep u276 (nma (nmc (Blk.ne h344 h90 rfl) nm0) (Own.ne h91 h344 rfl)))
          have h346 := ((h345.keep u296 (nmc (Blk.ne h345 h270 rfl) nm0)).keep u300 nm0)
          have h347 := ((h346.keep u304 (nmc (Blk.ne h346 h302 rfl) nm0)).keep u306 nm0)
          have h348 := ((h347.keep u310 (nmc (Blk.ne h347 h308 rfl) nm0)).keep u312 nm0)
          have h349 := ((h348.keep u316 (nmc (Blk.ne h348 h314 rfl) nm0)).keep u318 nm0)
          have h350 := (h31.keep u59 nm0)
          have h351 := (h350.keep u102 (nmc (Blk.ne h350 h64 rfl) (nmc (Blk.neK h350 h65) (nmc (Blk.ne h350 h66 rfl) (nmc (Blk.ne h350 h67 rfl) nm0)))))
          have h352 := (h351.keep u276 (nma (nmc (Blk.ne h351 h90 rfl) nm0) (Own.ne h91 h351 rfl)))
          have h353 := ((h352.keep u296 (nmc (Blk.ne h352 h270 rfl) nm0)).keep u300 nm0)
          have h354 := ((h353.keep u304 (nmc (Blk.ne h353 h302 rfl) nm0)).keep u306 nm0)
          have h355 := ((h354.keep u310 (nmc (Blk.ne h354 h308 rfl) nm0)).keep u312 nm0)
          have h356 := ((h355.keep u316 (nmc (Blk.ne h355 h314 rfl) nm0)).keep u318 nm0)
          have h357 := (h84.keep u276 (nma (nmc (Blk.ne h84 h90 rfl) nm0) (Own.ne h91 h84 rfl)))
          have h358 := ((h357.keep u296 (nmc (Blk.ne h357 h270 rfl) nm0)).keep u300 nm0)
          have h359 := ((h358.keep u304 (nmc (Blk.ne h358 h302 rfl) nm0)).keep u306 nm0)
          have h360 := ((h359.keep u310 (nmc (Blk.ne h359 h308 rfl) nm0)).keep u312 nm0)
          have h361 := ((h360.keep u316 (nmc (Blk.ne h360 h314 rfl) nm0)).keep u318 nm0)
          have h362 := (h85.keep u276 (nma (nmc (Ne.symm (Blk.neK h90 h85)) nm0) (Own.neM h91 h85)))
          have h363 := ((h362.keep u296 (nmc (Ne.symm (Blk.neK h270 h362)) nm0)).keep u300 nm0)
          have h364 := ((h363.keep u304 (nmc (Ne.symm (Blk.neK h302 h363)) nm0)).keep u306 nm0)
          have h365 := ((h364.keep u310 (nmc (Ne.symm (Blk.neK h308 h364)) nm0)).keep u312 nm0)
          have h366 := ((h365.keep u316 (nmc (Ne.symm (Blk.neK h314 h365)) nm0)).keep u318 nm0)
          have h367 := (h86.keep' u276 (disa (disc (Own.ne h86 h90 rfl) dis0) (Own.neO h86 h91 rfl)))
          have h368 := ((h367.keep' u296 (disc (Own.ne h367 h270 rfl) dis0)).keep' u300 dis0)
          have h369 := ((h368.keep' u304 (disc (Own.ne h368 h302 rfl) dis0)).keep' u306 dis0)
          have h370 := ((h369.keep' u310 (disc (Own.ne h369 h308 rfl) dis0)).keep' u312 dis0)
          have h371 := ((h370.keep' u316 (disc (Own.ne h370 h314 rfl) dis0)).keep' u318 dis0)
          have h372 := (h38.keep u59 nm0)
          have h373 := (h372.keep u102 (nmc (Blk.ne h372 h64 rfl) (nmc (Blk.neK h372 h65) (nmc (Blk.ne h372 h66 rfl) (nmc (Blk.ne h372 h67 rfl) nm0)))))
          have h374 := (h373.keep u276 (nma (nmc (Blk.ne h373 h90 rfl) nm0) (Own.ne h91 h373 rfl)))
          have h375 := ((h374.keep u296 (nmc (Blk.ne h374 h270 rfl) nm0)).keep u300 nm0)
          have h376 := ((h375.keep u304 (nmc (Blk.ne h375 h302 rfl) nm0)).keep u306 nm0)
          have h377 := ((h376.keep u310 (nmc (Blk.ne h376 h308 rfl) nm0)).keep u312 nm0)
          have h378 := ((h377.keep u316 (nmc (Blk.ne h377 h314 rfl) nm0)).keep u318 nm0)
          refine WL.call rfl rfl rfl rfl ent27 rfl (roll_n (k := cc) (d := 0) (svs := svs269) h328 h332 h337 h342 h349 h356 h361 h366 h371 h378 h327 hcc (by first | omega | decide | (simp; omega) | assumption) (by first | omega | decide | (simp; omega) | assumption) (by first | omega | decide | (simp; omega) | assumption) (by first | omega | decide | (simp; omega) | assumption) (by first | omega | decide | (simp; omega) | assumption)) ?_
          rintro _ w399 ⟨q379, wr380, xs381, fa382, fc383, l384, rfl, p385, h386, h387, h388, h389, h390, h391, h392, h393, p394, ⟨p395, p396⟩, f397, u398⟩
          refine WL.to (E' := [(0, .slice a0 ii69 cap0), (1, .int .u8 to), (5, .pointer (some ⟨m10, 0, none⟩)), (6, .pointer (some ⟨t17, 0, none⟩)), (8, .slice wao70 ii69 wcp71), (118, .bool true), (119, .pointer (some ⟨m10, 0, none⟩))]) 3 [0, 1, 5, 6, 8, 118, 119] (by kernel_rfl) ?_
          refine WL.callQ (v := .int .i64 ((0 : Nat) : Int)) rfl rfl rfl rfl ent26 rfl (depth_of h386) ?_
          refine WL.to (E' := [(0, .slice a0 ii69 cap0), (1, .int .u8 to), (5, .pointer (some ⟨m10, 0, none⟩)), (6, .pointer (some ⟨t17, 0, none⟩)), (8, .slice wao70 ii69 wcp71), (4, .bool true)]) 3 [0, 1, 5, 6, 8, 4] (by kernel_rfl) ?_
          refine WL.nil ?_
          refine hK322 _ _ _ ?_
          refine CW.ret fun a ha => ?_
          try simp (decide := true) only [Exit.inBlock, Exit.then, ↓reduceIte]
          exact fin ha.defers (res_tmp rfl ha rfl _) ⟨rfl, ((((((((((((((u4.trans u54).trans u59).trans u102).trans u276).trans u296).trans u300).trans u304).trans u306).trans u310).trans u312).trans u316).trans u318).trans u398).sub (by intro k hk hl; have := u4.size; have := u54.size; have := u59.size; have := u102.size; have := u276.size; have := u296.size; have := u300.size; have := u304.size; have := u306.size; have := u310.size; have := u312.size; have := u316.size; have := u318.size; have := u398.size; have := g48; have := g49; have := g41; have := g39; have := g50; have p0_ : ∀ b, (msao80 : Option Addr).map (·.block) = some b → w60.heap.size ≤ b := (by simpa only [ob_ao, Option.map_some] using f100); have q0_ : ∀ b, (msao80 : Option Addr).map (·.block) = some b → w.heap.size ≤ b := (fun b hb => (by have := p0_ b hb; have := u4.size; have := u54.size; have := u59.size; omega)); have p1_ : ∀ b, (lao77 : Option Addr).map (·.block) = some b → w60.heap.size ≤ b := (by simpa only [ob_ao, Option.map_some] using f99); have q1_ : ∀ b, (lao77 : Option Addr).map (·.block) = some b → w.heap.size ≤ b := (fun b hb => (by have := p1_ b hb; have := u4.size; have := u54.size; have := u59.size; omega)); have p2_ : ∀ b, (sao73 : Option Addr).map (·.block) = some b → w60.heap.size ≤ b := (by simpa only [ob_ao, Option.map_some] using f98); have q2_ : ∀ b, (sao73 : Option Addr).map (·.block) = some b → w.heap.size ≤ b := (fun b hb => (by have := p2_ b hb; have := u4.size; have := u54.size; have := u59.size; omega)); simp only [ob_ao, Option.mem_toList, Option.mem_def, Option.map_none, Option.map_some, Option.some.injEq, reduceCtorEq, List.mem_append, List.mem_cons, List.not_mem_nil, or_false, false_or, or_assoc] at hk ⊢; rcases hk with hk | hk | hk | hk | hk | hk | hk | hk | hk | hk | hk | hk | hk | hk | hk | hk | hk <;> first | omega | (simp [hk]; done) | (have := q0_ _ hk; omega) | (have := q1_ _ hk; omega) | (have := q2_ _ hk; omega)))⟩
        · have c0n : ¬ ii69 = 0 := by simpa using c0
          obtain ⟨dn, hdn, hdl⟩ := tmod_nat (L := ii69) hto (by omega)
          obtain ⟨cc, hcc, hle, h0c, hwl⟩ := p273.2.2.2 dn (by omega)
          refine CW.skip ?_
          refine hK320 _ _ _ ?_
          refine CW.seq fun K400 hK400 => ?_
          refine CW.region ?_
          refine WL.to (E' := [(0, .slice a0 ii69 cap0), (5, .pointer (some ⟨m10, 0, none⟩)), (6, .pointer (some ⟨t17, 0, none⟩)), (8, .slice wao70 ii69 wcp71), (123, .int .u8 to)]) 1 [0, 5, 6, 8, 123] (by kernel_rfl) ?_
          refine WL.cvt (v := .int .i64 to) rfl rfl rfl (cvt53 hto) ?_
          refine WL.to (E' := [(5, .pointer (some ⟨m10, 0, none⟩)), (6, .pointer (some ⟨t17, 0, none⟩)), (8, .slice wao70 ii69 wcp71), (124, .int .i64 to), (126, .int .i64 ((ii69 : Nat) : Int))]) 2 [5, 6, 8, 124, 126] (by kernel_rfl) ?_
          refine WL.binC (v := .int .i64 (Int.tmod to ((ii69 : Nat) : Int))) rfl rfl rfl rfl (rem_ok (t := 3) (by omega)) ?_
          refine WL.chg 127 (.int .i64 ((dn : Nat) : Int)) rfl (congrArg (Value.int .i64) (hdn)) ?_
          refine WL.to (E' := [(5, .pointer (some ⟨m10, 0, none⟩)), (6, .pointer (some ⟨t17, 0, none⟩)), (8, .slice wao70 ii69 wcp71), (128, .int .i64 (IntKind.i64.wrap (((dn : Nat) : Int) + 1)))]) 1 [5, 6, 8, 128] (by kernel_rfl) ?_
          refine WL.chg 128 (.int .i64 ((dn + 1 : Nat) : Int)) rfl (congrArg (Value.int .i64) (by rw [i64_in _ (by omega)]; omega)) ?_
          refine WL.to (E' := [(5, .pointer (some ⟨m10, 0, none⟩)), (6, .pointer (some ⟨t17, 0, none⟩)), (8, .slice wao70 ii69 wcp71), (17, .int .i64 ((dn + 1 : Nat) : Int))]) 1 [5, 6, 8, 17] (by kernel_rfl) ?_
          refine WL.nil ?_
          refine hK400 _ _ _ ?_
          refine CW.seq fun K401 hK401 => ?_
          rcases Nat.eq_zero_or_pos dn with hz | hz
          · skip
            refine CW.mixed (by kernel_rfl) ?_
            intro w402 e404 u403
            refine MX.to (f := 30) (L' := #[true, true, false, false, false, false, false, false, false, false, false, false, false, false, false, false, false, false, false, false, false, false, false, false, false, false, false, false, false, false, false, false]) (E' := [(5, .pointer (some ⟨m10, 0, none⟩)), (6, .pointer (some ⟨t17, 0, none⟩)), (8, .slice wao70 ii69 wcp71), (17, .int .i64 ((dn + 1 : Nat) : Int)), (129, .pointer (some ⟨m10, 0, none⟩)), (130, .int .i64 ((dn + 1 : Nat) : Int))]) [0, 1] [5, 6, 8, 17, 129, 130] rfl (by kernel_rfl) ?_
            refine MX.loud 2 (by kernel_rfl) rfl (fun K405 hK405 => ?_) rfl
            have h406 := (h89.keep u276 (noa (noc (noB h90 (by decide)) no0) (noO h91 (by decide))))
            have h407 := ((h406.keep u296 (noc (noB h270 (by decide)) no0)).keep u300 no0)
            have h408 := ((h407.keep u304 (noc (noB h302 (by decide)) no0)).keep u306 no0)
            have h409 := ((h408.keep u310 (noc (noB h308 (by decide)) no0)).keep u312 no0)
            have h410 := (((h409.keep u316 (noc (noB h314 (by decide)) no0)).keep u318 no0).keep u403 no0)
            have h411 := ((h315.keep u318 nm0).keep u403 nm0)
            have h412 := ((h271.keep' u296 (disc (Own.ne h271 h270 rfl) dis0)).keep' u300 dis0)
            have h413 := ((h412.keep' u304 (disc (Own.ne h412 h302 rfl) dis0)).keep' u306 dis0)
            have h414 := ((h413.keep' u310 (disc (Own.ne h413 h308 rfl) dis0)).keep' u312 dis0)
            have h415 := (((h414.keep' u316 (disc (Own.ne h414 h314 rfl) dis0)).keep' u318 dis0).keep' u403 dis0)
            have h416 := (h87.keep u276 (nma (nmc (Blk.ne h87 h90 rfl) nm0) (Own.ne h91 h87 rfl)))
            have h417 := ((h416.keep u296 (nmc (Blk.ne h416 h270 rfl) nm0)).keep u300 nm0)
            have h418 := ((h417.keep u304 (nmc (Blk.ne h417 h302 rfl) nm0)).keep u306 nm0)
            have h419 := ((h418.keep u310 (nmc (Blk.ne h418 h308 rfl) nm0)).keep u312 nm0)
            have h420 := (((h419.keep u316 (nmc (Blk.ne h419 h314 rfl) nm0)).keep u318 nm0).keep u403 nm0)
            have h421 := (h88.keep' u276 (disa (disc (Own.ne h88 h90 rfl) dis0) (Own.neO h88 h91 rfl)))
            have h422 := ((h421.keep' u296 (disc (Own.ne h421 h270 rfl) dis0)).keep' u300 dis0)
            have h423 := ((h422.keep' u304 (disc (Own.ne h422 h302 rfl) dis0)).keep' u306 dis0)
            have h424 := ((h423.keep' u310 (disc (Own.ne h423 h308 rfl) dis0)).keep' u312 dis0)
            have h425 := (((h424.keep' u316 (disc (Own.ne h424 h314 rfl) dis0)).keep' u318 dis0).keep' u403 dis0)
            have h426 := (h30.keep u59 nm0)
            have h427 := (h426.keep u102 (nmc (Blk.ne h426 h64 rfl) (nmc (Blk.neK h426 h65) (nmc (Blk.ne h426 h66 rfl) (nmc (Blk.ne h426 h67 rfl) nm0)))))
            have h428 := (h427.keep u276 (nma (nmc (Blk.ne h427 h90 rfl) nm0) (Own.ne h91 h427 rfl)))
            have h429 := ((h428.keep u296 (nmc (Blk.ne h428 h270 rfl) nm0)).keep u300 nm0)
            have h430 := ((h429.keep u304 (nmc (Blk.ne h429 h302 rfl) nm0)).keep u306 nm0)
            have h431 := ((h430.keep u310 (nmc (Blk.ne h430 h308 rfl) nm0)).keep u312 nm0)
            have h432 := (((h431.keep u316 (nmc (Blk.ne h431 h314 rfl) nm0)).keep u318 nm0).keep u403 nm0)
            have h433 := (h31.keep u59 nm0)
            have h434 := (h433.keep u102 (nmc (Blk.ne h433 h64 rfl) (nmc (Blk.neK h433 h65) (nmc (Blk.ne h433 h66 rfl) (nmc (Blk.ne h433 h67 rfl) nm0)))))
            have h435 := (h434.keep u276 (nma (nmc (Blk.ne h434 h90 rfl) nm0) (Own.ne h91 h434 rfl)))
            have h436 := ((h435.keep u296 (nmc (Blk.ne h435 h270 rfl) nm0)).keep u300 nm0)
            have h437 := ((h436.keep u304 (nmc (Blk.ne h436 h302 rfl) nm0)).keep u306 nm0)
            have h438 := ((h437.keep u310 (nmc (Blk.ne h437 h308 rfl) nm0)).keep u312 nm0)
            have h439 := (((h438.keep u316 (nmc (Blk.ne h438 h314 rfl) nm0)).keep u318 nm0).keep u403 nm0)
            have h440 := (h84.keep u276 (nma (nmc (Blk.ne h84 h90 rfl) nm0) (Own.ne h91 h84 rfl)))
            have h441 := ((h440.keep u296 (nmc (Blk.ne h440 h270 rfl) nm0)).keep u300 nm0)
            have h442 := ((h441.keep u304 (nmc (Blk.ne h441 h302 rfl) nm0)).keep u306 nm0)
            have h443 := ((h442.keep u310 (nmc (Blk.ne h442 h308 rfl) nm0)).keep u312 nm0)
            have h444 := (((h443.keep u316 (nmc (Blk.ne h443 h314 rfl) nm0)).keep u318 nm0).keep u403 nm0)
            have h445 := (h85.keep u276 (nma (nmc (Ne.symm (Blk.neK h90 h85)) nm0) (Own.neM h91 h85)))
            have h446 := ((h445.keep u296 (nmc (Ne.symm (Blk.neK h270 h445)) nm0)).keep u300 nm0)
            have h447 := ((h446.keep u304 (nmc (Ne.symm (Blk.neK h302 h446)) nm0)).keep u306 nm0)
            have h448 := ((h447.keep u310 (nmc (Ne.symm (Blk.neK h308 h447)) nm0)).keep u312 nm0)
            have h449 := (((h448.keep u316 (nmc (Ne.symm (Blk.neK h314 h448)) nm0)).keep u318 nm0).keep u403 nm0)
            have h450 := (h86.keep' u276 (disa (disc (Own.ne h86 h90 rfl) dis0) (Own.neO h86 h91 rfl)))
            have h451 := ((h450.keep' u296 (disc (Own.ne h450 h270 rfl) dis0)).keep' u300 dis0)
            have h452 := ((h451.keep' u304 (disc (Own.ne h451 h302 rfl) dis0)).keep' u306 dis0)
            have h453 := ((h452.keep' u310 (disc (Own.ne h452 h308 rfl) dis0)).keep' u312 dis0)
            have h454 := (((h453.keep' u316 (disc (Own.ne h453 h314 rfl) dis0)).keep' u318 dis0).keep' u403 dis0)
            have h455 := (h38.keep u59 nm0)
            have h456 := (h455.keep u102 (nmc (Blk.ne h455 h64 rfl) (nmc (Blk.neK h455 h65) (nmc (Blk.ne h455 h66 rfl) (nmc (Blk.ne h455 h67 rfl) nm0)))))
            have h457 := (h456.keep u276 (nma (nmc (Blk.ne h456 h90 rfl) nm0) (Own.ne h91 h456 rfl)))
            have h458 := ((h457.keep u296 (nmc (Blk.ne h457 h270 rfl) nm0)).keep u300 nm0)
            have h459 := ((h458.keep u304 (nmc (Blk.ne h458 h302 rfl) nm0)).keep u306 nm0)
            have h460 := ((h459.keep u310 (nmc (Blk.ne h459 h308 rfl) nm0)).keep u312 nm0)
            have h461 := (((h460.keep u316 (nmc (Blk.ne h460 h314 rfl) nm0)).keep u318 nm0).keep u403 nm0)
            refine WL.call rfl rfl rfl rfl ent27 rfl (roll_n (k := cc) (d := dn) (svs := svs269) h411 h415 h420 h425 h432 h439 h444 h449 h454 h461 h410 hcc (by first | omega | decide | (simp; omega) | assumption) (by first | omega | decide | (simp; omega) | assumption) (by first | omega | decide | (simp; omega) | assumption) (by first | omega | decide | (simp; omega) | assumption) (by first | omega | decide | (simp; omega) | assumption)) ?_
            rintro _ w482 ⟨q462, wr463, xs464, fa465, fc466, l467, rfl, p468, h469, h470, h471, h472, h473, h474, h475, h476, p477, ⟨p478, p479⟩, f480, u481⟩
            refine WL.fin (L' := #[true, true, true, false, false, false, false, false, false, false, false, false, false, false, false, false, false, false, false, false, false, false, false, false, false, false, false, false, false, false, false, false]) hK405 st0 ?_
            refine MX.to (f := 24) (L' := #[true, true, true, true, true, true, false, true, true, false, false, false, false, false, false, false, false, false, false, false, false, false, false, false, false, false, false, false, false, false, false, false]) (E' := [(5, .pointer (some ⟨m10, 0, none⟩)), (6, .pointer (some ⟨t17, 0, none⟩)), (8, .slice wao70 ii69 wcp71), (17, .int .i64 ((dn + 1 : Nat) : Int)), (133, .bool true), (134, .pointer (some ⟨m10, 0, none⟩)), (137, .int .i64 (IntKind.i64.wrap (((dn + 1 : Nat) : Int) - 1)))]) [3, 4, 5, 7, 8] [5, 6, 8, 17, 133, 134, 137] rfl (by kernel_rfl) ?_
            refine MX.chg 137 (.int .i64 ((dn : Nat) : Int)) rfl (congrArg (Value.int .i64) (by rw [i64_in _ (by omega)]; omega)) ?_
            refine MX.call (L' := #[true, true, true, true, true, true, true, true, true, false, false, false, false, false, false, false, false, false, false, false, false, false, false, false, false, false, false, false, false, false, false, false]) (v := .int .i64 ((dn : Nat) : Int)) (fun w => Blk w m10 [.map (some pl11), .pointer (some ⟨lg12, 0, none⟩), .slice msao267 dn mscp268, .pointer (some ⟨wt13, 0, none⟩), .bool false] 75) 6 (by kernel_rfl) rfl rfl rfl rfl rfl rfl ent26 rfl h469 (fun w' q0 => depth_of q0) ?_
            refine MX.to (f := 22) (L' := #[true, true, true, true, true, true, true, true, true, true, false, false, false, false, false, false, false, false, false, false, false, false, false, false, false, false, false, false, false, false, false, false]) (E' := [(5, .pointer (some ⟨m10, 0, none⟩)), (6, .pointer (some ⟨t17, 0, none⟩)), (8, .slice wao70 ii69 wcp71), (17, .int .i64 ((dn + 1 : Nat) : Int)), (133, .bool true), (138, .bool (((dn : Nat) : Int) == ((dn : Nat) : Int)))]) [9] [5, 6, 8, 17, 133, 138] rfl (by kernel_rfl) ?_
            refine MX.chg 138 (.bool true) rfl (congrArg Value.bool (by simp)) ?_
            refine MX.to (f := 16) (L' := #[true, true, true, true, true, true, true, true, true, true, true, true, true, false, false, true, true, true, false, false, false, false, false, false, false, false, false, false, false, false, false, false]) (E' := [(5, .pointer (some ⟨m10, 0, none⟩)), (17, .int .i64 ((dn + 1 : Nat) : Int)), (140, .bool true), (141, .pointer (some ⟨t17, 0, none⟩)), (144, .slice wao70 ii69 wcp71), (146, .int .i64 (IntKind.i64.wrap (((dn + 1 : Nat) : Int) - 1)))]) [10, 11, 12, 15, 16, 17] [5, 17, 140, 141, 144, 146] rfl (by kernel_rfl) ?_
            refine MX.chg 146 (.int .i64 ((dn : Nat) : Int)) rfl (congrArg (Value.int .i64) (by rw [i64_in _ (by omega)]; omega)) ?_
            have h483 := (h33.keep u59 nm0)
            have h484 := (h483.keep u102 (nmc (Blk.ne h483 h64 rfl) (nmc (Blk.neK h483 h65) (nmc (Blk.ne h483 h66 rfl) (nmc (Blk.ne h483 h67 rfl) nm0)))))
            have h485 := (h484.keep u276 (nma (nmc (Blk.ne h484 h90 rfl) nm0) (Own.ne h91 h484 rfl)))
            have h486 := ((h485.keep u296 (nmc (Blk.ne h485 h270 rfl) nm0)).keep u300 nm0)
            have h487 := ((h486.keep u304 (nmc (Blk.ne h486 h302 rfl) nm0)).keep u306 nm0)
            have h488 := ((h487.keep u310 (nmc (Blk.ne h487 h308 rfl) nm0)).keep u312 nm0)
            have h489 := (((h488.keep u316 (nmc (Blk.ne h488 h314 rfl) nm0)).keep u318 nm0).keep u403 nm0)
            have h490 := (h489.keep u481 (nma (nma (nmc (Blk.ne h489 h411 rfl) (nmc (Blk.ne h489 h420 rfl) (nmc (Blk.ne h489 h444 rfl) (nmc (Blk.neK h489 h449) (nmc (Blk.ne h489 h461 rfl) nm0))))) (Own.ne h425 h489 rfl)) (Own.ne h454 h489 rfl)))
            refine MX.call (L' := #[true, true, true, true, true, true, true, true, true, true, true, true, true, true, false, true, true, true, false, false, false, false, false, false, false, false, false, false, false, false, false, false]) (v := .pointer (some ⟨S18, 0, none⟩)) (fun w => Blk w t17 [.slice (some ⟨sh21, 0, none⟩) 2 cps22, h23, h24, .pointer (some ⟨S18, 0, none⟩), .int .i64 100, .slice none 0 0, .slice none 0 0] 116) 13 (by kernel_rfl) rfl rfl rfl rfl rfl rfl ent22 rfl h490 (fun w' q0 => rows_of q0) ?_
            refine MX.call (L' := #[true, true, true, true, true, true, true, true, true, true, true, true, true, true, true, true, true, true, false, false, false, false, false, false, false, false, false, false, false, false, false, false]) (v := .int .i64 (((idxOf cc).length : Nat) : Int)) (fun w => Blk w S18 [.slice sao73 n72 scp74, .map (some sat19), .pointer (some ⟨F20, 0, none⟩), .int .i64 100, .int .i64 (((cc : Nat) : Int) + 1), .int .i64 wr463] 121 ∧ KMap ki w sat19 (idxOf cc)) 14 (by kernel_rfl) rfl rfl rfl rfl rfl rfl ent23 rfl (⟨h472, h473⟩) (fun w' ⟨q0, q1⟩ => len_of q0 q1) ?_
            refine MX.chg 143 (.int .i64 ((cc : Nat) : Int)) rfl (by rw [idxOf_len]) ?_
            have h491 := (h92.keep' u276 (disa (disc (Own.ne h92 h90 rfl) dis0) p97))
            have h492 := ((h491.keep' u296 (disc (Own.ne h491 h270 rfl) dis0)).keep' u300 dis0)
            have h493 := ((h492.keep' u304 (disc (Own.ne h492 h302 rfl) dis0)).keep' u306 dis0)
            have h494 := ((h493.keep' u310 (disc (Own.ne h493 h308 rfl) dis0)).keep' u312 dis0)
            have h495 := (((h494.keep' u316 (disc (Own.ne h494 h314 rfl) dis0)).keep' u318 dis0).keep' u403 dis0)
            have h496 := (h495.keep' u481 (disa (disa (disc (Own.ne h495 h411 rfl) (disc (Own.ne h495 h420 rfl) (disc (Own.ne h495 h444 rfl) (disc (Own.neM h495 h449) (disc (Own.ne h495 h461 rfl) dis0))))) (Own.neO h495 h425 rfl)) (Own.neO h495 h454 rfl)))
            obtain ⟨g504, rest497, e498, h499, q500, q501, q502, q503⟩ := h496.open2 (by omega)
            subst e498
            refine MX.index (L' := #[true, true, true, true, true, true, true, true, true, true, true, true, true, true, true, true, true, true, true, false, false, false, false, false, false, false, false, false, false, false, false, false]) 18 (by kernel_rfl) rfl rfl rfl rfl Tryz.underlying49 siz3 rfl rfl (by omega) (by omega) ?_
            refine MX.chg 147 (.pointer (some ⟨g504, dn, none⟩)) rfl (by simp) ?_
            refine MX.load1 (L' := #[true, true, true, true, true, true, true, true, true, true, true, true, true, true, true, true, true, true, true, true, false, false, false, false, false, false, false, false, false, false, false, false]) 19 (by kernel_rfl) rfl rfl rfl agg3 rfl rfl h499 (nums_get _ (hwl hdl)) ?_
            refine MX.to (f := 11) (L' := #[true, true, true, true, true, true, true, true, true, true, true, true, true, true, true, true, true, true, true, true, true, false, false, false, false, false, false, false, false, false, false, false]) (E' := [(5, .pointer (some ⟨m10, 0, none⟩)), (17, .int .i64 ((dn + 1 : Nat) : Int)), (140, .bool true), (149, .bool (((cc : Nat) : Int) == ((cc : Nat) : Int)))]) [20] [5, 17, 140, 149] rfl (by kernel_rfl) ?_
            refine MX.chg 149 (.bool true) rfl (congrArg Value.bool (by simp)) ?_
            refine MX.to (f := 7) (L' := #[true, true, true, true, true, true, true, true, true, true, true, true, true, true, true, true, true, true, true, true, true, true, true, true, true, false, false, false, false, false, false, false]) (E' := [(5, .pointer (some ⟨m10, 0, none⟩)), (151, .bool true), (153, .bool (decide (((dn + 1 : Nat) : Int) > 1)))]) [21, 22, 23, 24] [5, 151, 153] rfl (by kernel_rfl) ?_
            refine MX.chg 153 (.bool false) rfl (congrArg Value.bool (decide_eq_false (by omega))) ?_
            refine MX.to (f := 5) (L' := #[true, true, true, true, true, true, true, true, true, true, true, true, true, true, true, true, true, true, true, true, true, true, true, true, true, true, true, false, false, false, false, false]) (E' := [(151, .bool true), (154, .bool false), (155, .pointer (some ⟨m10, 0, none⟩))]) [25, 26] [151, 154, 155] rfl (by kernel_rfl) ?_
            refine MX.call (L' := #[true, true, true, true, true, true, true, true, true, true, true, true, true, true, true, true, true, true, true, true, true, true, true, true, true, true, true, true, false, false, false, false]) (v := .int .i64 (((2 * cc) : Nat) : Int)) (fun w => Blk w m10 [.map (some pl11), .pointer (some ⟨lg12, 0, none⟩), .slice msao267 dn mscp268, .pointer (some ⟨wt13, 0, none⟩), .bool false] 75 ∧ Blk w lg12 [.slice lao77 (2 * cc) lcp78] 126) 27 (by kernel_rfl) rfl rfl rfl rfl rfl rfl ent24 rfl (⟨h469, h470⟩) (fun w' ⟨q0, q1⟩ => log_of q0 q1) ?_
            refine MX.to (f := 3) (L' := #[true, true, true, true, true, true, true, true, true, true, true, true, true, true, true, true, true, true, true, true, true, true, true, true, true, true, true, true, true, false, false, false]) (E' := [(151, .bool true), (154, .bool false), (157, .bool ((((2 * cc) : Nat) : Int) == 0))]) [28] [151, 154, 157] rfl (by kernel_rfl) ?_
            refine MX.chg 157 (.bool true) rfl (congrArg Value.bool (beq_iff_eq.2 (by have := h0c hz; omega))) ?_
            refine MX.to (f := 0) (L' := #[true, true, true, true, true, true, true, true, true, true, true, true, true, true, true, true, true, true, true, true, true, true, true, true, true, true, true, true, true, true, true, true]) (E' := [(4, .bool true)]) [29, 30, 31] [4] rfl (by kernel_rfl) ?_
            refine MX.done (by kernel_rfl) ?_
            refine hK401 _ _ _ ?_
            refine CW.ret fun a ha => ?_
            try simp (decide := true) only [Exit.inBlock, Exit.then, ↓reduceIte]
            exact fin ha.defers (res_tmp rfl ha rfl _) ⟨rfl, (((((((((((((((u4.trans u54).trans u59).trans u102).trans u276).trans u296).trans u300).trans u304).trans u306).trans u310).trans u312).trans u316).trans u318).trans u403).trans u481).sub (by intro k hk hl; have := u4.size; have := u54.size; have := u59.size; have := u102.size; have := u276.size; have := u296.size; have := u300.size; have := u304.size; have := u306.size; have := u310.size; have := u312.size; have := u316.size; have := u318.size; have := u403.size; have := u481.size; have := g48; have := g49; have := g41; have := g39; have := g50; have p0_ : ∀ b, (msao80 : Option Addr).map (·.block) = some b → w60.heap.size ≤ b := (by simpa only [ob_ao, Option.map_some] using f100); have q0_ : ∀ b, (msao80 : Option Addr).map (·.block) = some b → w.heap.size ≤ b := (fun b hb => (by have := p0_ b hb; have := u4.size; have := u54.size; have := u59.size; omega)); have p1_ : ∀ b, (lao77 : Option Addr).map (·.block) = some b → w60.heap.size ≤ b := (by simpa only [ob_ao, Option.map_some] using f99); have q1_ : ∀ b, (lao77 : Option Addr).map (·.block) = some b → w.heap.size ≤ b := (fun b hb => (by have := p1_ b hb; have := u4.size; have := u54.size; have := u59.size; omega)); have p2_ : ∀ b, (sao73 : Option Addr).map (·.block) = some b → w60.heap.size ≤ b := (by simpa only [ob_ao, Option.map_some] using f98); have q2_ : ∀ b, (sao73 : Option Addr).map (·.block) = some b → w.heap.size ≤ b := (fun b hb => (by have := p2_ b hb; have := u4.size; have := u54.size; have := u59.size; omega)); simp only [ob_ao, Option.mem_toList, Option.mem_def, Option.map_none, Option.map_some, Option.some.injEq, reduceCtorEq, List.mem_append, List.mem_cons, List.not_mem_nil, or_false, false_or, or_assoc] at hk ⊢; rcases hk with hk | hk | hk | hk | hk | hk | hk | hk | hk | hk | hk | hk | hk | hk | hk | hk | hk <;> first | omega | (simp [hk]; done) | (have := q0_ _ hk; omega) | (have := q1_ _ hk; omega) | (have := q2_ _ hk; omega)))⟩
          · skip
            refine CW.mixed (by kernel_rfl) ?_
            intro w505 e507 u506
            refine MX.to (f := 30) (L' := #[true, true, false, false, false, false, false, false, false, false, false, false, false, false, false, false, false, false, false, false, false, false, false, false, false, false, false, false, false, false, false, false]) (E' := [(5, .pointer (some ⟨m10, 0, none⟩)), (6, .pointer (some ⟨t17, 0, none⟩)), (8, .slice wao70 ii69 wcp71), (17, .int .i64 ((dn + 1 : Nat) : Int)), (129, .pointer (some ⟨m10, 0, none⟩)), (130, .int .i64 ((dn + 1 : Nat) : Int))]) [0, 1] [5, 6, 8, 17, 129, 130] rfl (by kernel_rfl) ?_
            refine MX.loud 2 (by kernel_rfl) rfl (fun K508 hK508 => ?_) rfl
            have h509 := (h89.keep u276 (noa (noc (noB h90 (by decide)) no0) (noO h91 (by decide))))
            have h510 := ((h509.keep u296 (noc (noB h270 (by decide)) no0)).keep u300 no0)
            have h511 := ((h510.keep u304 (noc (noB h302 (by decide)) no0)).keep u306 no0)
            have h512 := ((h511.keep u310 (noc (noB h308 (by decide)) no0)).keep u312 no0)
            have h513 := (((h512.keep u316 (noc (noB h314 (by decide)) no0)).keep u318 no0).keep u506 no0)
            have h514 := ((h315.keep u318 nm0).keep u506 nm0)
            have h515 := ((h271.keep' u296 (disc (Own.ne h271 h270 rfl) dis0)).keep' u300 dis0)
            have h516 := ((h515.keep' u304 (disc (Own.ne h515 h302 rfl) dis0)).keep' u306 dis0)
            have h517 := ((h516.keep' u310 (disc (Own.ne h516 h308 rfl) dis0)).keep' u312 dis0)
            have h518 := (((h517.keep' u316 (disc (Own.ne h517 h314 rfl) dis0)).keep' u318 dis0).keep' u506 dis0)
            have h519 := (h87.keep u276 (nma (nmc (Blk.ne h87 h90 rfl) nm0) (Own.ne h91 h87 rfl)))
            have h520 := ((h519.keep u296 (nmc (Blk.ne h519 h270 rfl) nm0)).keep u300 nm0)
            have h521 := ((h520.keep u304 (nmc (Blk.ne h520 h302 rfl) nm0)).keep u306 nm0)
            have h522 := ((h521.keep u310 (nmc (Blk.ne h521 h308 rfl) nm0)).keep u312 nm0)
            have h523 := (((h522.keep u316 (nmc (Blk.ne h522 h314 rfl) nm0)).keep u318 nm0).keep u506 nm0)
            have h524 := (h88.keep' u276 (disa (disc (Own.ne h88 h90 rfl) dis0) (Own.neO h88 h91 rfl)))
            have h525 := ((h524.keep' u296 (disc (Own.ne h524 h270 rfl) dis0)).keep' u300 dis0)
            have h526 := ((h525.keep' u304 (disc (Own.ne h525 h302 rfl) dis0)).keep' u306 dis0)
            have h527 := ((h526.keep' u310 (disc (Own.ne h526 h308 rfl) dis0)).keep' u312 dis0)
            have h528 := (((h527.keep' u316 (disc (Own.ne h527 h314 rfl) dis0)).keep' u318 dis0).keep' u506 dis0)
            have h529 := (h30.keep u59 nm0)
            have h530 := (h529.keep u102 (nmc (Blk.ne h529 h64 rfl) (nmc (Blk.neK h529 h65) (nmc (Blk.ne h529 h66 rfl) (nmc (Blk.ne h529 h67 rfl) nm0)))))
            have h531 := (h530.keep u276 (nma (nmc (Blk.ne h530 h90 rfl) nm0) (Own.ne h91 h530 rfl)))
            have h532 := ((h531.keep u296 (nmc (Blk.ne h531 h270 rfl) nm0)).keep u300 nm0)
            have h533 := ((h532.keep u304 (nmc (Blk.ne h532 h302 rfl) nm0)).keep u306 nm0)
            have h534 := ((h533.keep u310 (nmc (Blk.ne h533 h308 rfl) nm0)).keep u312 nm0)
            have h535 := (((h534.keep u316 (nmc (Blk.ne h534 h314 rfl) nm0)).keep u318 nm0).keep u506 nm0)
            have h536 := (h31.keep u59 nm0)
            have h537 := (h536.keep u102 (nmc (Blk.ne h536 h64 rfl) (nmc (Blk.neK h536 h65) (nmc (Blk.ne h536 h66 rfl) (nmc (Blk.ne h536 h67 rfl) nm0)))))
            have h538 := (h537.keep u276 (nma (nmc (Blk.ne h537 h90 rfl) nm0) (Own.ne h91 h537 rfl)))
            have h539 := ((h538.keep u296 (nmc (Blk.ne h538 h270 rfl) nm0)).keep u300 nm0)
            have h540 := ((h539.keep u304 (nmc (Blk.ne h539 h302 rfl) nm0)).keep u306 nm0)
            have h541 := ((h540.keep u310 (nmc (Blk.ne h540 h308 rfl) nm0)).keep u312 nm0)
            have h542 := (((h541.keep u316 (nmc (Blk.ne h541 h314 rfl) nm0)).keep u318 nm0).keep u506 nm0)
            have h543 := (h84.keep u276 (nma (nmc (Blk.ne h84 h90 rfl) nm0) (Own.ne h91 h84 rfl)))
            have h544 := ((h543.keep u296 (nmc (Blk.ne h543 h270 rfl) nm0)).keep u300 nm0)
            have h545 := ((h544.keep u304 (nmc (Blk.ne h544 h302 rfl) nm0)).keep u306 nm0)
            have h546 := ((h545.keep u310 (nmc (Blk.ne h545 h308 rfl) nm0)).keep u312 nm0)
            have h547 := (((h546.keep u316 (nmc (Blk.ne h546 h314 rfl) nm0)).keep u318 nm0).keep u506 nm0)
            have h548 := (h85.keep u276 (nma (nmc (Ne.symm (Blk.neK h90 h85)) nm0) (Own.neM h91 h85)))
            have h549 := ((h548.keep u296 (nmc (Ne.symm (Blk.neK h270 h548)) nm0)).keep u300 nm0)
            have h550 := ((h549.keep u304 (nmc (Ne.symm (Blk.neK h302 h549)) nm0)).keep u306 nm0)
            have h551 := ((h550.keep u310 (nmc (Ne.symm (Blk.neK h308 h550)) nm0)).keep u312 nm0)
            have h552 := (((h551.keep u316 (nmc (Ne.symm (Blk.neK h314 h551)) nm0)).keep u318 nm0).keep u506 nm0)
            have h553 := (h86.keep' u276 (disa (disc (Own.ne h86 h90 rfl) dis0) (Own.neO h86 h91 rfl)))
            have h554 := ((h553.keep' u296 (disc (Own.ne h553 h270 rfl) dis0)).keep' u300 dis0)
            have h555 := ((h554.keep' u304 (disc (Own.ne h554 h302 rfl) dis0)).keep' u306 dis0)
            have h556 := ((h555.keep' u310 (disc (Own.ne h555 h308 rfl) dis0)).keep' u312 dis0)
            have h557 := (((h556.keep' u316 (disc (Own.ne h556 h314 rfl) dis0)).keep' u318 dis0).keep' u506 dis0)
            have h558 := (h38.keep u59 nm0)
            have h559 := (h558.keep u102 (nmc (Blk.ne h558 h64 rfl) (nmc (Blk.neK h558 h65) (nmc (Blk.ne h558 h66 rfl) (nmc (Blk.ne h558 h67 rfl) nm0)))))
            have h560 := (h559.keep u276 (nma (nmc (Blk.ne h559 h90 rfl) nm0) (Own.ne h91 h559 rfl)))
            have h561 := ((h560.keep u296 (nmc (Blk.ne h560 h270 rfl) nm0)).keep u300 nm0)
            have h562 := ((h561.keep u304 (nmc (Blk.ne h561 h302 rfl) nm0)).keep u306 nm0)
            have h563 := ((h562.keep u310 (nmc (Blk.ne h562 h308 rfl) nm0)).keep u312 nm0)
            have h564 := (((h563.keep u316 (nmc (Blk.ne h563 h314 rfl) nm0)).keep u318 nm0).keep u506 nm0)
            refine WL.call rfl rfl rfl rfl ent27 rfl (roll_n (k := cc) (d := dn) (svs := svs269) h514 h518 h523 h528 h535 h542 h547 h552 h557 h564 h513 hcc (by first | omega | decide | (simp; omega) | assumption) (by first | omega | decide | (simp; omega) | assumption) (by first | omega | decide | (simp; omega) | assumption) (by first | omega | decide | (simp; omega) | assumption) (by first | omega | decide | (simp; omega) | assumption)) ?_
            rintro _ w585 ⟨q565, wr566, xs567, fa568, fc569, l570, rfl, p571, h572, h573, h574, h575, h576, h577, h578, h579, p580, ⟨p581, p582⟩, f583, u584⟩
            refine WL.fin (L' := #[true, true, true, false, false, false, false, false, false, false, false, false, false, false, false, false, false, false, false, false, false, false, false, false, false, false, false, false, false, false, false, false]) hK508 st0 ?_
            refine MX.to (f := 24) (L' := #[true, true, true, true, true, true, false, true, true, false, false, false, false, false, false, false, false, false, false, false, false, false, false, false, false, false, false, false, false, false, false, false]) (E' := [(5, .pointer (some ⟨m10, 0, none⟩)), (6, .pointer (some ⟨t17, 0, none⟩)), (8, .slice wao70 ii69 wcp71), (17, .int .i64 ((dn + 1 : Nat) : Int)), (133, .bool true), (134, .pointer (some ⟨m10, 0, none⟩)), (137, .int .i64 (IntKind.i64.wrap (((dn + 1 : Nat) : Int) - 1)))]) [3, 4, 5, 7, 8] [5, 6, 8, 17, 133, 134, 137] rfl (by kernel_rfl) ?_
            refine MX.chg 137 (.int .i64 ((dn : Nat) : Int)) rfl (congrArg (Value.int .i64) (by rw [i64_in _ (by omega)]; omega)) ?_
            refine MX.call (L' := #[true, true, true, true, true, true, true, true, true, false, false, false, false, false, false, false, false, false, false, false, false, false, false, false, false, false, false, false, false, false, false, false]) (v := .int .i64 ((dn : Nat) : Int)) (fun w => Blk w m10 [.map (some pl11), .pointer (some ⟨lg12, 0, none⟩), .slice msao267 dn mscp268, .pointer (some ⟨wt13, 0, none⟩), .bool false] 75) 6 (by kernel_rfl) rfl rfl rfl rfl rfl rfl ent26 rfl h572 (fun w' q0 => depth_of q0) ?_
            refine MX.to (f := 22) (L' := #[true, true, true, true, true, true, true, true, true, true, false, false, false, false, false, false, false, false, false, false, false, false, false, false, false, false, false, false, false, false, false, false]) (E' := [(5, .pointer (some ⟨m10, 0, none⟩)), (6, .pointer (some ⟨t17, 0, none⟩)), (8, .slice wao70 ii69 wcp71), (17, .int .i64 ((dn + 1 : Nat) : Int)), (133, .bool true), (138, .bool (((dn : Nat) : Int) == ((dn : Nat) : Int)))]) [9] [5, 6, 8, 17, 133, 138] rfl (by kernel_rfl) ?_
            refine MX.chg 138 (.bool true) rfl (congrArg Value.bool (by simp)) ?_
            refine MX.to (f := 16) (L' := #[true, true, true, true, true, true, true, true, true, true, true, true, true, false, false, true, true, true, false, false, false, false, false, false, false, false, false, false, false, false, false, false]) (E' := [(5, .pointer (some ⟨m10, 0, none⟩)), (17, .int .i64 ((dn + 1 : Nat) : Int)), (140, .bool true), (141, .pointer (some ⟨t17, 0, none⟩)), (144, .slice wao70 ii69 wcp71), (146, .int .i64 (IntKind.i64.wrap (((dn + 1 : Nat) : Int) - 1)))]) [10, 11, 12, 15, 16, 17] [5, 17, 140, 141, 144, 146] rfl (by kernel_rfl) ?_
            refine MX.chg 146 (.int .i64 ((dn : Nat) : Int)) rfl (congrArg (Value.int .i64) (by rw [i64_in _ (by omega)]; omega)) ?_
            have h586 := (h33.keep u59 nm0)
            have h587 := (h586.keep u102 (nmc (Blk.ne h586 h64 rfl) (nmc (Blk.neK h586 h65) (nmc (Blk.ne h586 h66 rfl) (nmc (Blk.ne h586 h67 rfl) nm0)))))
            have h588 := (h587.keep u276 (nma (nmc (Blk.ne h587 h90 rfl) nm0) (Own.ne h91 h587 rfl)))
            have h589 := ((h588.keep u296 (nmc (Blk.ne h588 h270 rfl) nm0)).keep u300 nm0)
            have h590 := ((h589.keep u304 (nmc (Blk.ne h589 h302 rfl) nm0)).keep u306 nm0)
            have h591 := ((h590.keep u310 (nmc (Blk.ne h590 h308 rfl) nm0)).keep u312 nm0)
            have h592 := (((h591.keep u316 (nmc (Blk.ne h591 h314 rfl) nm0)).keep u318 nm0).keep u506 nm0)
            have h593 := (h592.keep u584 (nma (nma (nmc (Blk.ne h592 h514 rfl) (nmc (Blk.ne h592 h523 rfl) (nmc (Blk.ne h592 h547 rfl) (nmc (Blk.neK h592 h552) (nmc (Blk.ne h592 h564 rfl) nm0))))) (Own.ne h528 h592 rfl)) (Own.ne h557 h592 rfl)))
            refine MX.call (L' := #[true, true, true, true, true, true, true, true, true, true, true, true, true, true, false, true, true, true, false, false, false, false, false, false, false, false, false, false, false, false, false, false]) (v := .pointer (some ⟨S18, 0, none⟩)) (fun w => Blk w t17 [.slice (some ⟨sh21, 0, none⟩) 2 cps22, h23, h24, .pointer (some ⟨S18, 0, none⟩), .int .i64 100, .slice none 0 0, .slice none 0 0] 116) 13 (by kernel_rfl) rfl rfl rfl rfl rfl rfl ent22 rfl h593 (fun w' q0 => rows_of q0) ?_
            refine MX.call (L' := #[true, true, true, true, true, true, true, true, true, true, true, true, true, true, true, true, true, true, false, false, false, false, false, false, false, false, false, false, false, false, false, false]) (v := .int .i64 (((idxOf cc).length : Nat) : Int)) (fun w => Blk w S18 [.slice sao73 n72 scp74, .map (some sat19), .pointer (some ⟨F20, 0, none⟩), .int .i64 100, .int .i64 (((cc : Nat) : Int) + 1), .int .i64 wr566] 121 ∧ KMap ki w sat19 (idxOf cc)) 14 (by kernel_rfl) rfl rfl rfl rfl rfl rfl ent23 rfl (⟨h575, h576⟩) (fun w' ⟨q0, q1⟩ => len_of q0 q1) ?_
            refine MX.chg 143 (.int .i64 ((cc : Nat) : Int)) rfl (by rw [idxOf_len]) ?_
            have h594 := (h92.keep' u276 (disa (disc (Own.ne h92 h90 rfl) dis0) p97))
            have h595 := ((h594.keep' u296 (disc (Own.ne h594 h270 rfl) dis0)).keep' u300 dis0)
            have h596 := ((h595.keep' u304 (disc (Own.ne h595 h302 rfl) dis0)).keep' u306 dis0)
            have h597 := ((h596.keep' u310 (disc (Own.ne h596 h308 rfl) dis0)).keep' u312 dis0)
            have h598 := (((h597.keep' u316 (disc (Own.ne h597 h314 rfl) dis0)).keep' u318 dis0).keep' u506 dis0)
            have h599 := (h598.keep' u584 (disa (disa (disc (Own.ne h598 h514 rfl) (disc (Own.ne h598 h523 rfl) (disc (Own.ne h598 h547 rfl) (disc (Own.neM h598 h552) (disc (Own.ne h598 h564 rfl) dis0))))) (Own.neO h598 h528 rfl)) (Own.neO h598 h557 rfl)))
            obtain ⟨g607, rest600, e601, h602, q603, q604, q605, q606⟩ := h599.open2 (by omega)
            subst e601
            refine MX.index (L' := #[true, true, true, true, true, true, true, true, true, true, true, true, true, true, true, true, true, true, true, false, false, false, false, false, false, false, false, false, false, false, false, false]) 18 (by kernel_rfl) rfl rfl rfl rfl Tryz.underlying49 siz3 rfl rfl (by omega) (by omega) ?_
            refine MX.chg 147 (.pointer (some ⟨g607, dn, none⟩)) rfl (by simp) ?_
            refine MX.load1 (L' := #[true, true, true, true, true, true, true, true, true, true, true, true, true, true, true, true, true, true, true, true, false, false, false, false, false, false, false, false, false, false, false, false]) 19 (by kernel_rfl) rfl rfl rfl agg3 rfl rfl h602 (nums_get _ (hwl hdl)) ?_
            refine MX.to (f := 11) (L' := #[true, true, true, true, true, true, true, true, true, true, true, true, true, true, true, true, true, true, true, true, true, false, false, false, false, false, false, false, false, false, false, false]) (E' := [(5, .pointer (some ⟨m10, 0, none⟩)), (17, .int .i64 ((dn + 1 : Nat) : Int)), (140, .bool true), (149, .bool (((cc : Nat) : Int) == ((cc : Nat) : Int)))]) [20] [5, 17, 140, 149] rfl (by kernel_rfl) ?_
            refine MX.chg 149 (.bool true) rfl (congrArg Value.bool (by simp)) ?_
            refine MX.to (f := 7) (L' := #[true, true, true, true, true, true, true, true, true, true, true, true, true, true, true, true, true, true, true, true, true, true, true, true, true, false, false, false, false, false, false, false]) (E' := [(5, .pointer (some ⟨m10, 0, none⟩)), (151, .bool true), (153, .bool (decide (((dn + 1 : Nat) : Int) > 1)))]) [21, 22, 23, 24] [5, 151, 153] rfl (by kernel_rfl) ?_
            refine MX.chg 153 (.bool true) rfl (congrArg Value.bool (decide_eq_true (by omega))) ?_
            refine MX.to (f := 0) (L' := #[true, true, true, true, true, true, true, true, true, true, true, true, true, true, true, true, true, true, true, true, true, true, true, true, true, true, true, true, true, true, true, true]) (E' := [(4, .bool true)]) [25, 26, 27, 28, 29, 30, 31] [4] rfl (by kernel_rfl) ?_
            refine MX.done (by kernel_rfl) ?_
            refine hK401 _ _ _ ?_
            refine CW.ret fun a ha => ?_
            try simp (decide := true) only [Exit.inBlock, Exit.then, ↓reduceIte]
            exact fin ha.defers (res_tmp rfl ha rfl _) ⟨rfl, (((((((((((((((u4.trans u54).trans u59).trans u102).trans u276).trans u296).trans u300).trans u304).trans u306).trans u310).trans u312).trans u316).trans u318).trans u506).trans u584).sub (by intro k hk hl; have := u4.size; have := u54.size; have := u59.size; have := u102.size; have := u276.size; have := u296.size; have := u300.size; have := u304.size; have := u306.size; have := u310.size; have := u312.size; have := u316.size; have := u318.size; have := u506.size; have := u584.size; have := g48; have := g49; have := g41; have := g39; have := g50; have p0_ : ∀ b, (msao80 : Option Addr).map (·.block) = some b → w60.heap.size ≤ b := (by simpa only [ob_ao, Option.map_some] using f100); have q0_ : ∀ b, (msao80 : Option Addr).map (·.block) = some b → w.heap.size ≤ b := (fun b hb => (by have := p0_ b hb; have := u4.size; have := u54.size; have := u59.size; omega)); have p1_ : ∀ b, (lao77 : Option Addr).map (·.block) = some b → w60.heap.size ≤ b := (by simpa only [ob_ao, Option.map_some] using f99); have q1_ : ∀ b, (lao77 : Option Addr).map (·.block) = some b → w.heap.size ≤ b := (fun b hb => (by have := p1_ b hb; have := u4.size; have := u54.size; have := u59.size; omega)); have p2_ : ∀ b, (sao73 : Option Addr).map (·.block) = some b → w60.heap.size ≤ b := (by simpa only [ob_ao, Option.map_some] using f98); have q2_ : ∀ b, (sao73 : Option Addr).map (·.block) = some b → w.heap.size ≤ b := (fun b hb => (by have := p2_ b hb; have := u4.size; have := u54.size; have := u59.size; omega)); simp only [ob_ao, Option.mem_toList, Option.mem_def, Option.map_none, Option.map_some, Option.some.injEq, reduceCtorEq, List.mem_append, List.mem_cons, List.not_mem_nil, or_false, false_or, or_assoc] at hk ⊢; rcases hk with hk | hk | hk | hk | hk | hk | hk | hk | hk | hk | hk | hk | hk | hk | hk | hk | hk <;> first | omega | (simp [hk]; done) | (have := q0_ _ hk; omega) | (have := q1_ _ hk; omega) | (have := q2_ _ hk; omega)))⟩
end Go.K

